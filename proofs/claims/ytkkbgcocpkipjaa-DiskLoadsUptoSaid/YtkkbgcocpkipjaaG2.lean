/- Printed by gen.py: pure functions and the proofs that the Go functions simulate them. Conditions: as each theorem says. -/
import Derived.Test.YtkkbgcocpkipjaaG1
namespace Go.Proofs.Ytkkbgcocpkipjaa
open Go.RowKit
set_option linter.unusedVariables false
set_option linter.unusedSimpArgs false
set_option maxRecDepth 20000
set_option maxHeartbeats 20000000
def synodref4_Disk_put.l0 (x0_0 : List (Ty36)) (x1_0 : List UInt8) : Nat → Int → Option (Int)
  | 0, _ => none
  | k + 1, z6v => (if z6v < (x0_0.length : Int) then (if 0 ≤ z6v ∧ z6v < (x0_0.length : Int) then (some (Op.bytesLess ((x0_0.getD z6v.toNat dz36).1) x1_0)) else none) else (some false)).bind fun s7v => (if s7v = true then (synodref4_Disk_put.l0 x0_0 x1_0 k (IntKind.i64.wrap (z6v + 1))) else (some z6v))
def synodref4_Disk_put.f (k : Nat) (x0_0 : List (Ty36)) (x0_1 : Int) (x0_2 : Bool) (x0_3 : List UInt8) (x1_0 : List UInt8) (x1_1 : List UInt8) (x1_2 : Int) : Option ((List (Ty36)) × Int × Bool × List UInt8) := (synodref4_Disk_put.l0 x0_0 x1_0 k 0).bind fun s2v => (if 0 ≤ (0 : Int) ∧ (0 : Int) ≤ s2v ∧ s2v ≤ (x0_0.length : Int) then (if (([] : List (Ty36)).length + (cut x0_0 (0 : Int) s2v).length) * 48 ≤ 140737488355328 then (if ((([] : List (Ty36)) ++ (cut x0_0 (0 : Int) s2v)).length + ([(x1_0, x1_1, x1_2)] : List (Ty36)).length) * 48 ≤ 140737488355328 then (if 0 ≤ s2v ∧ s2v ≤ (x0_0.length : Int) ∧ (x0_0.length : Int) ≤ (x0_0.length : Int) then (if (((([] : List (Ty36)) ++ (cut x0_0 (0 : Int) s2v)) ++ ([(x1_0, x1_1, x1_2)] : List (Ty36))).length + (cut x0_0 s2v (x0_0.length : Int)).length) * 48 ≤ 140737488355328 then (some (((([] : List (Ty36)) ++ (cut x0_0 (0 : Int) s2v)) ++ ([(x1_0, x1_1, x1_2)] : List (Ty36))) ++ (cut x0_0 s2v (x0_0.length : Int)), x0_1, x0_2, x0_3)) else none) else none) else none) else none) else none)
theorem synodref4_Disk_put.calls (W : World) (F : HA) (k : Nat) (b0 : Nat) (a0_0 : Option Addr) (c0_0 : Nat) (x0_0 : List (Ty36)) (z0_0 : HA) (x0_1 : Int) (x0_2 : Bool) (x0_3 : List UInt8) (x1_0 : List UInt8) (a1_1 : Option Addr) (c1_1 : Nat) (x1_1 : List UInt8) (x1_2 : Int) (h1_1 : Rd z0_0 a1_1 (encB x1_1)) (hc1_1 : x1_1.length ≤ c1_1) (hm1_1 : c1_1 ≤ maxLen) :
    Fn Try.prog W 39 [.pointer (some ⟨b0, 0, none⟩), .agg #[str x1_0, .slice a1_1 x1_1.length c1_1, .int .i64 x1_2]] [obj b0 29 [.slice a0_0 x0_0.length c0_0, .int .i64 x0_1, .bool x0_2, str x0_3], RowV 36 3 (V36 z0_0) a0_0 x0_0 c0_0, z0_0] F (synodref4_Disk_put.f k x0_0 x0_1 x0_2 x0_3 x1_0 x1_1 x1_2) (fun (r : (List (Ty36)) × Int × Bool × List UInt8) (y : Option Addr × Nat × HA) => .tuple #[]) (fun r y => [obj b0 29 [.slice y.1 r.1.length y.2.1, .int .i64 r.2.1, .bool r.2.2.1, str r.2.2.2], RowV 36 3 (V36 (y.2.2)) y.1 r.1 y.2.1, y.2.2]) := by
 unfold synodref4_Disk_put.f
 refine fn_intro 51 Try.func39 rfl Try.ntmps39 rfl ?_
 refine sr ?_
 refine simL_eff (re_box rfl rfl rfl) rfl rfl rfl ?_
 intro b1v
 refine nx ?_
 refine va rfl rfl (simL_nil (nrm_then ?_))
 refine sim_cut (S := Int) (Unit) (fun s y => [(0, .pointer (some ⟨b0, 0, none⟩)), (3, .pointer (some ⟨b1v, 0, none⟩)), (4, .int .i64 s)]) (fun s y => [obj b1v 36 [str x1_0, .slice a1_1 x1_1.length c1_1, .int .i64 x1_2], obj b0 29 [.slice a0_0 x0_0.length c0_0, .int .i64 x0_1, .bool x0_2, str x0_3], RowV 36 3 (V36 (z0_0)) a0_0 x0_0 c0_0, z0_0, F]) ?_ ?_
 refine sim_block ?_
 refine sim_loop (S := Int) (Unit) (fun k s => synodref4_Disk_put.l0 x0_0 x1_0 k s) (fun s y => [(0, .pointer (some ⟨b0, 0, none⟩)), (3, .pointer (some ⟨b1v, 0, none⟩)), (4, .int .i64 s)]) (fun s y => [obj b1v 36 [str x1_0, .slice a1_1 x1_1.length c1_1, .int .i64 x1_2], obj b0 29 [.slice a0_0 x0_0.length c0_0, .int .i64 x0_1, .bool x0_2, str x0_3], RowV 36 3 (V36 (z0_0)) a0_0 x0_0 c0_0, z0_0, F]) (fun _ => by rw [synodref4_Disk_put.l0]) ?_ k 0 () ⟨rfl, rfl, rfl, trivial⟩ (.sel 0 rfl (.sel 0 rfl (.sel 0 rfl (.sel 0 rfl (.sel 0 rfl (.nil _))))))
 intro k s4v y5v
 refine sim_eq (by rw [synodref4_Disk_put.l0]) ?_
 refine sim_seq ?_
 refine sim_cut (S := Bool) (Unit) (fun s y => [(0, .pointer (some ⟨b0, 0, none⟩)), (3, .pointer (some ⟨b1v, 0, none⟩)), (4, .int .i64 s4v), (25, .bool s)]) (fun s y => [obj b1v 36 [str x1_0, .slice a1_1 x1_1.length c1_1, .int .i64 x1_2], obj b0 29 [.slice a0_0 x0_0.length c0_0, .int .i64 x0_1, .bool x0_2, str x0_3], RowV 36 3 (V36 (z0_0)) a0_0 x0_0 c0_0, z0_0, F]) ?_ ?_
 refine sim_openV 2 rfl (fun rs9v hl10v => ?_)
 refine sim_if (fun hk11v => ?_) (fun hk11v => ?_)
 refine sim_ask (fun hi12v => ?_)
 refine sim_posV 2 rfl hl10v rfl (i := s4v.toNat) (by omega) dz36 (fun b13v b13vo r16v ha14v hV17v hlr18v hcell19v => ?_)
 obtain ⟨a20v, c21v, rfl, ⟨he22v, hc23v, hm24v⟩⟩ := hV17v
 refine sim_draw (Γ := Unit) () [[], [], [1], [1, 2], [1, 2, 3], [1, 2, 3, 4], rL 6, rL 7, rL 8, rL 9, rL 10, rL 11, rL 8, rL 13, rL 14, rL 15, rL 8, [0, 1, 2, 3, 4, 5, 6, 7, 16], rL 18, rL 19] [] [0, 1, 2, 3, 4, 5, 6, 7, 8, 9, 10, 11, 12, 13, 14, 15, 16, 17, 18, 19] (fun i => [[0], [0], [0], [0], [0], [0], [0], [0], [0], [0], [0], [0], [0], [0], [0], [0], [0], [0], [0], [0]].getD i []) (fun i => [[], [], [], [], [], [], [], [], [], [], [], [], [], [], [], [], [], [], [], []].getD i []) (fun γ i => [.int .i64 s4v, .pointer (some ⟨b0, 0, none⟩), .pointer (some ⟨b0, 0, none⟩), .pointer (some ⟨b0, 0, none⟩), .slice a0_0 x0_0.length c0_0, .int .i64 (x0_0.length : Int), .bool (decide (s4v < (x0_0.length : Int))), .bool (decide (s4v < (x0_0.length : Int))), .pointer (some ⟨b0, 0, none⟩), .pointer (some ⟨b0, 0, none⟩), .pointer (some ⟨b0, 0, none⟩), .slice a0_0 x0_0.length c0_0, .int .i64 s4v, .pointer (some ⟨b13v, b13vo + s4v.toNat * 3, none⟩), .pointer (some ⟨b13v, b13vo + s4v.toNat * 3 + 0, none⟩), str ((x0_0.getD s4v.toNat dz36).1), .pointer (some ⟨b1v, 0, none⟩), str x1_0, .bool (Op.bytesLess ((x0_0.getD s4v.toNat dz36).1) x1_0), .bool (Op.bytesLess ((x0_0.getD s4v.toNat dz36).1) x1_0)].getD i undef) (fun j γ => [[obj b1v 36 [str x1_0, .slice a1_1 x1_1.length c1_1, .int .i64 x1_2], obj b0 29 [.slice a0_0 x0_0.length c0_0, .int .i64 x0_1, .bool x0_2, str x0_3], Row 36 3 a0_0 x0_0.length c0_0 rs9v.flatten, z0_0, F]].getD j []) (fun γ => [(0, .pointer (some ⟨b0, 0, none⟩)), (3, .pointer (some ⟨b1v, 0, none⟩)), (4, .int .i64 s4v), (14, .pointer (some ⟨b0, 0, none⟩)), (15, .pointer (some ⟨b0, 0, none⟩)), (16, .pointer (some ⟨b0, 0, none⟩)), (17, .slice a0_0 x0_0.length c0_0), (18, .int .i64 s4v), (19, .pointer (some ⟨b13v, b13vo + s4v.toNat * 3, none⟩)), (20, .pointer (some ⟨b13v, b13vo + s4v.toNat * 3 + 0, none⟩)), (21, str ((x0_0.getD s4v.toNat dz36).1)), (22, .pointer (some ⟨b1v, 0, none⟩)), (23, str x1_0), (24, .bool (Op.bytesLess ((x0_0.getD s4v.toNat dz36).1) x1_0)), (25, .bool (Op.bytesLess ((x0_0.getD s4v.toNat dz36).1) x1_0))]) mixed (by decide) (by decide) (by decide) (by decide) (by decide) (by decide) (by decide) 51 rfl (by decide) (by decide) (by decide) (Ent.refl _) ?_ ?_ (fun _ => ⟨rfl, rfl, rfl, rfl, rfl, rfl, rfl, rfl, rfl, rfl, rfl, rfl, rfl, rfl, rfl, trivial⟩) ?_
 exact (aq rfl (fun γ => qm rfl (.o (s := 4) rfl (by decide) .nil) rfl) (aq rfl (fun γ => qm rfl (.o (s := 0) rfl (by decide) .nil) rfl) (aq rfl (fun γ => qp rfl rfl (.v 1 rfl rfl .nil) (q_nil rfl rfl) rfl) (aq rfl (fun γ => qp rfl rfl (.v 2 rfl rfl .nil) (q_fa rfl rfl Try.underlying29 rfl rfl Try.sizeOf27 rfl) rfl) (aq rfl (fun γ => qp rfl rfl (.v 3 rfl rfl .nil) (q_load rfl rfl Try.isAgg27 (.obj 1 rfl rfl)) rfl) (aq rfl (fun γ => qp rfl rfl (.v 4 rfl rfl .nil) (q_len rfl rfl rfl Try.underlying27) rfl) (aq rfl (fun γ => qp rfl rfl (.v 0 rfl rfl (.v 5 rfl rfl .nil)) (q_lss rfl rfl rfl) rfl) (aq rfl (fun γ => qm rfl (.v 6 rfl rfl .nil) rfl) (aq rfl (fun γ => qy rfl rfl (.o (s := 0) rfl (by decide) (.v 7 rfl rfl .nil)) rfl rfl (beq_yes (decide_eq_true hk11v)) (q_move rfl rfl) rfl) (aq rfl (fun γ => qy rfl rfl (.v 7 rfl rfl (.v 8 rfl rfl .nil)) rfl rfl (beq_yes (decide_eq_true hk11v)) (q_nil rfl rfl) rfl) (aq rfl (fun γ => qy rfl rfl (.v 7 rfl rfl (.v 9 rfl rfl .nil)) rfl rfl (beq_yes (decide_eq_true hk11v)) (q_fa rfl rfl Try.underlying29 rfl rfl Try.sizeOf27 rfl) rfl) (aq rfl (fun γ => qy rfl rfl (.v 7 rfl rfl (.v 10 rfl rfl .nil)) rfl rfl (beq_yes (decide_eq_true hk11v)) (q_load rfl rfl Try.isAgg27 (.obj 1 rfl rfl)) rfl) (aq rfl (fun γ => qy rfl rfl (.o (s := 4) rfl (by decide) (.v 7 rfl rfl .nil)) rfl rfl (beq_yes (decide_eq_true hk11v)) (q_move rfl rfl) rfl) (aq rfl (fun γ => qy rfl rfl (.v 7 rfl rfl (.v 11 rfl rfl (.v 12 rfl rfl .nil))) rfl rfl (beq_yes (decide_eq_true hk11v)) (q_idx rfl rfl rfl ha14v Try.underlying27 Try.sizeOf36 hi12v.1 hi12v.2) rfl) (aq rfl (fun γ => qy rfl rfl (.v 7 rfl rfl (.v 13 rfl rfl .nil)) rfl rfl (beq_yes (decide_eq_true hk11v)) (q_fa rfl rfl Try.underlying36 rfl rfl Try.sizeOf9 rfl) rfl) (aq rfl (fun γ => qy rfl rfl (.v 7 rfl rfl (.v 14 rfl rfl .nil)) rfl rfl (beq_yes (decide_eq_true hk11v)) (q_load rfl rfl Try.isAgg9 (hcell19v 2 rfl 0 _ rfl)) rfl) (aq rfl (fun γ => qy rfl rfl (.o (s := 3) rfl (by decide) (.v 7 rfl rfl .nil)) rfl rfl (beq_yes (decide_eq_true hk11v)) (q_fa rfl rfl Try.underlying36 rfl rfl Try.sizeOf9 rfl) rfl) (aq rfl (fun γ => qy rfl rfl (.v 7 rfl rfl (.v 16 rfl rfl .nil)) rfl rfl (beq_yes (decide_eq_true hk11v)) (q_load rfl rfl Try.isAgg9 (.obj 0 rfl rfl)) rfl) (aq rfl (fun γ => qy rfl rfl (.v 7 rfl rfl (.v 15 rfl rfl (.v 17 rfl rfl .nil))) rfl rfl (beq_yes (decide_eq_true hk11v)) (q_lts rfl rfl rfl) rfl) (aq rfl (fun γ => qp rfl rfl (.v 7 rfl rfl (.v 18 rfl rfl .nil)) (q_pick rfl rfl rfl rfl (bif_yes (decide_eq_true hk11v) _ _)) rfl) zA))))))))))))))))))))
 exact zA
 intro g25v
 exact nrm_cut (s := Op.bytesLess ((x0_0.getD s4v.toNat dz36).1) x1_0) () ⟨rfl, rfl, rfl, rfl, trivial⟩ (.sel 0 rfl (.sel 0 rfl (.sel' 0 rfl (RowV.mk hl10v) (.sel 0 rfl (.sel 0 rfl (.nil _))))))
 refine sim_draw (Γ := Unit) () [[], [], [1], [1, 2], [1, 2, 3], [1, 2, 3, 4], rL 6, rL 7, rL 8, rL 9, rL 10, rL 11, rL 8, rL 13, rL 14, rL 15, rL 8, [0, 1, 2, 3, 4, 5, 6, 7, 16], rL 18, rL 19] [] [0, 1, 2, 3, 4, 5, 6, 7, 8, 9, 10, 11, 12, 13, 14, 15, 16, 17, 18, 19] (fun i => [[0], [0], [0], [0], [0], [0], [0], [0], [0], [0], [0], [0], [0], [0], [0], [0], [0], [0], [0], [0]].getD i []) (fun i => [[], [], [], [], [], [], [], [], [], [], [], [], [], [], [], [], [], [], [], []].getD i []) (fun γ i => [.int .i64 s4v, .pointer (some ⟨b0, 0, none⟩), .pointer (some ⟨b0, 0, none⟩), .pointer (some ⟨b0, 0, none⟩), .slice a0_0 x0_0.length c0_0, .int .i64 (x0_0.length : Int), .bool (decide (s4v < (x0_0.length : Int))), .bool (decide (s4v < (x0_0.length : Int))), undef, undef, undef, undef, undef, undef, undef, undef, undef, undef, undef, .bool false].getD i undef) (fun j γ => [[obj b1v 36 [str x1_0, .slice a1_1 x1_1.length c1_1, .int .i64 x1_2], obj b0 29 [.slice a0_0 x0_0.length c0_0, .int .i64 x0_1, .bool x0_2, str x0_3], Row 36 3 a0_0 x0_0.length c0_0 rs9v.flatten, z0_0, F]].getD j []) (fun γ => [(0, .pointer (some ⟨b0, 0, none⟩)), (3, .pointer (some ⟨b1v, 0, none⟩)), (4, .int .i64 s4v), (14, undef), (15, undef), (16, undef), (17, undef), (18, undef), (19, undef), (20, undef), (21, undef), (22, undef), (23, undef), (24, undef), (25, .bool false)]) mixed (by decide) (by decide) (by decide) (by decide) (by decide) (by decide) (by decide) 51 rfl (by decide) (by decide) (by decide) (Ent.refl _) ?_ ?_ (fun _ => ⟨rfl, rfl, rfl, rfl, rfl, rfl, rfl, rfl, rfl, rfl, rfl, rfl, rfl, rfl, rfl, trivial⟩) ?_
 exact (aq rfl (fun γ => qm rfl (.o (s := 4) rfl (by decide) .nil) rfl) (aq rfl (fun γ => qm rfl (.o (s := 0) rfl (by decide) .nil) rfl) (aq rfl (fun γ => qp rfl rfl (.v 1 rfl rfl .nil) (q_nil rfl rfl) rfl) (aq rfl (fun γ => qp rfl rfl (.v 2 rfl rfl .nil) (q_fa rfl rfl Try.underlying29 rfl rfl Try.sizeOf27 rfl) rfl) (aq rfl (fun γ => qp rfl rfl (.v 3 rfl rfl .nil) (q_load rfl rfl Try.isAgg27 (.obj 1 rfl rfl)) rfl) (aq rfl (fun γ => qp rfl rfl (.v 4 rfl rfl .nil) (q_len rfl rfl rfl Try.underlying27) rfl) (aq rfl (fun γ => qp rfl rfl (.v 0 rfl rfl (.v 5 rfl rfl .nil)) (q_lss rfl rfl rfl) rfl) (aq rfl (fun γ => qm rfl (.v 6 rfl rfl .nil) rfl) (aq rfl (fun γ => qn rfl rfl (.o (s := 0) rfl (by decide) (.v 7 rfl rfl .nil)) rfl rfl (beq_no' (decide_eq_false hk11v)) rfl) (aq rfl (fun γ => qn rfl rfl (.v 7 rfl rfl (.v 8 rfl rfl .nil)) rfl rfl (beq_no' (decide_eq_false hk11v)) rfl) (aq rfl (fun γ => qn rfl rfl (.v 7 rfl rfl (.v 9 rfl rfl .nil)) rfl rfl (beq_no' (decide_eq_false hk11v)) rfl) (aq rfl (fun γ => qn rfl rfl (.v 7 rfl rfl (.v 10 rfl rfl .nil)) rfl rfl (beq_no' (decide_eq_false hk11v)) rfl) (aq rfl (fun γ => qn rfl rfl (.o (s := 4) rfl (by decide) (.v 7 rfl rfl .nil)) rfl rfl (beq_no' (decide_eq_false hk11v)) rfl) (aq rfl (fun γ => qn rfl rfl (.v 7 rfl rfl (.v 11 rfl rfl (.v 12 rfl rfl .nil))) rfl rfl (beq_no' (decide_eq_false hk11v)) rfl) (aq rfl (fun γ => qn rfl rfl (.v 7 rfl rfl (.v 13 rfl rfl .nil)) rfl rfl (beq_no' (decide_eq_false hk11v)) rfl) (aq rfl (fun γ => qn rfl rfl (.v 7 rfl rfl (.v 14 rfl rfl .nil)) rfl rfl (beq_no' (decide_eq_false hk11v)) rfl) (aq rfl (fun γ => qn rfl rfl (.o (s := 3) rfl (by decide) (.v 7 rfl rfl .nil)) rfl rfl (beq_no' (decide_eq_false hk11v)) rfl) (aq rfl (fun γ => qn rfl rfl (.v 7 rfl rfl (.v 16 rfl rfl .nil)) rfl rfl (beq_no' (decide_eq_false hk11v)) rfl) (aq rfl (fun γ => qn rfl rfl (.v 7 rfl rfl (.v 15 rfl rfl (.v 17 rfl rfl .nil))) rfl rfl (beq_no' (decide_eq_false hk11v)) rfl) (aq rfl (fun γ => qp rfl rfl (.v 7 rfl rfl (.v 18 rfl rfl .nil)) (q_pick rfl rfl rfl rfl (bif_no (decide_eq_false hk11v) _ _)) rfl) zA))))))))))))))))))))
 exact zA
 intro g26v
 exact nrm_cut (s := false) () ⟨rfl, rfl, rfl, rfl, trivial⟩ (.sel 0 rfl (.sel 0 rfl (.sel' 0 rfl (RowV.mk hl10v) (.sel 0 rfl (.sel 0 rfl (.nil _))))))
 intro s7v y8v
 refine sim_condb rfl (fun h27v => ?_) (fun h28v => ?_)
 refine sim_skip ?_
 refine nrm_then ?_
 refine sim_block ?_
 refine sim_region ?_
 refine vm rfl rfl ?_
 refine vq (q_add rfl rfl rfl) rfl ?_
 refine va rfl rfl (simL_nil (nrm_block ?_))
 exact nrm_again (s := IntKind.i64.wrap (s4v + 1)) () ⟨rfl, rfl, rfl, trivial⟩ (.sel 0 rfl (.sel 0 rfl (.sel 0 rfl (.sel 0 rfl (.sel 0 rfl (.nil _))))))
 refine sim_exi ?_
 refine exi_then ?_
 refine exi_loop ?_
 refine exi_here ?_
 exact nrm_cut (s := s4v) () ⟨rfl, rfl, rfl, trivial⟩ (.sel 0 rfl (.sel 0 rfl (.sel 0 rfl (.sel 0 rfl (.sel 0 rfl (.nil _))))))
 intro s2v y3v
 refine sr ?_
 refine simL_eff (re_lit0V (α := List UInt8 × List UInt8 × Int) (V := (V36 F)) rfl Try.underlying27 elt36) rfl rfl rfl ?_
 intro b29v
 refine vm rfl rfl ?_
 refine vn rfl rfl ?_
 refine vq (q_fa rfl rfl Try.underlying29 rfl rfl Try.sizeOf27 rfl) rfl ?_
 refine vq (q_load rfl rfl Try.isAgg27 (.obj 2 rfl rfl)) rfl ?_
 refine vm rfl rfl ?_
 refine simL_openV 3 rfl (fun rs31v hl32v => ?_)
 refine simL_lend 3 rfl (fun hq33v hq34v hq35v hq36v => ?_)
 refine simL_ent (H' := [stars [Row 36 3 a0_0 x0_0.length c0_0 rs31v.flatten, z0_0], RowV 36 3 (V36 F) (some ⟨b29v, 0, none⟩) ([] : List (Ty36)) 0, obj b1v 36 [str x1_0, .slice a1_1 x1_1.length c1_1, .int .i64 x1_2], obj b0 29 [.slice a0_0 x0_0.length c0_0, .int .i64 x0_1, .bool x0_2, str x0_3], F]) (Ent.trans (m := [Row 36 3 a0_0 x0_0.length c0_0 rs31v.flatten, z0_0, RowV 36 3 (V36 F) (some ⟨b29v, 0, none⟩) ([] : List (Ty36)) 0, obj b1v 36 [str x1_0, .slice a1_1 x1_1.length c1_1, .int .i64 x1_2], obj b0 29 [.slice a0_0 x0_0.length c0_0, .int .i64 x0_1, .bool x0_2, str x0_3], F]) (.sel 3 rfl (.sel 3 rfl (.sel 0 rfl (.sel 0 rfl (.sel 0 rfl (.sel 0 rfl (.nil _))))))) (ent_pack [Row 36 3 a0_0 x0_0.length c0_0 rs31v.flatten, z0_0] _)) ?_
 refine simL_ask (fun hb37v => ?_)
 obtain ⟨a38v, c39v, hS40v, hr41v, hc42v, hm43v⟩ := slice_preV (lo := (0 : Int)) (hi := s2v) (Rd.asV (hl32v.mono (V36.up (Up.lend (l := [Row 36 3 a0_0 x0_0.length c0_0 rs31v.flatten, z0_0]) 1 rfl))) (Rd.lend (l := [Row 36 3 a0_0 x0_0.length c0_0 rs31v.flatten, z0_0]) hq33v 0 rfl)) hq34v hb37v
 refine vq (q_sub_roV (l := x0_0) (lo' := (0 : Int)) (hi' := s2v) rfl rfl rfl rfl Try.underlying27 Try.sizeOf36 (.inr ⟨_, rfl⟩) (.inl ⟨rfl, rfl⟩) hb37v hq34v hS40v) rfl ?_
 refine simL_openV 1 rfl (fun rs48v hl49v => ?_)
 refine simL_ent (H' := [stars [Row 36 3 a0_0 x0_0.length c0_0 rs31v.flatten, z0_0], RowV 36 3 (V36 (stars [Row 36 3 a0_0 x0_0.length c0_0 rs31v.flatten, z0_0])) (some ⟨b29v, 0, none⟩) ([] : List (Ty36)) 0, obj b1v 36 [str x1_0, .slice a1_1 x1_1.length c1_1, .int .i64 x1_2], obj b0 29 [.slice a0_0 x0_0.length c0_0, .int .i64 x0_1, .bool x0_2, str x0_3], F]) (Ent.set' 1 rfl (fun _ h => RowV.empty (RowV.mk hl49v _ h))) ?_
 refine simL_openV 1 rfl (fun rs52v hl53v => ?_)
 refine simL_ask (fun hb51v => ?_)
 refine simL_eff (re_appendV 1 rfl rfl rfl Try.underlying27 elt36 rfl hl53v (hr41v.rds 0 rfl) hb51v) rfl rfl rfl ?_
 intro y50v
 refine va rfl rfl (nx ?_)
 refine vm rfl rfl ?_
 refine vq (q_loado 2 rfl rfl Try.isAgg36 Try.sizeOf36 rfl rfl) rfl ?_
 have hlb55v : ListV 3 (V36 (stars [Row 36 3 a0_0 x0_0.length c0_0 rs31v.flatten, z0_0])) ([(x1_0, x1_1, x1_2)] : List (Ty36)) [[str x1_0, .slice a1_1 x1_1.length c1_1, .int .i64 x1_2]] := ⟨⟨rfl, one_of (by rfl), ⟨a1_1, c1_1, rfl, ⟨(h1_1.up (Up.lend (l := [Row 36 3 a0_0 x0_0.length c0_0 rs31v.flatten, z0_0]) 1 rfl)), hc1_1, hm1_1⟩⟩⟩, trivial⟩
 refine simL_eff (re_litV (V := (V36 (stars [Row 36 3 a0_0 x0_0.length c0_0 rs31v.flatten, z0_0]))) (xs := ([(x1_0, x1_1, x1_2)] : List (Ty36))) [[str x1_0, .slice a1_1 x1_1.length c1_1, .int .i64 x1_2]] rfl rfl Try.underlying27 elt36 rfl (by kernel_rfl) rfl hlb55v rfl rfl) rfl rfl rfl ?_
 intro b55v
 refine simL_openV 2 rfl (fun rs60v hl61v => ?_)
 refine simL_ask (fun hb59v => ?_)
 refine simL_eff (re_appendV 2 rfl rfl rfl Try.underlying27 elt36 rfl hl61v (RdsV.row hlb55v 0 rfl) hb59v) rfl rfl rfl ?_
 intro y58v
 refine va rfl rfl (ny ?_)
 refine vm rfl rfl ?_
 refine vm rfl rfl ?_
 refine vm rfl rfl ?_
 refine vn rfl rfl ?_
 refine vq (q_fa rfl rfl Try.underlying29 rfl rfl Try.sizeOf27 rfl) rfl ?_
 refine vq (q_load rfl rfl Try.isAgg27 (.obj 4 rfl rfl)) rfl ?_
 refine vm rfl rfl ?_
 refine simL_ask (fun hb62v => ?_)
 obtain ⟨a63v, c64v, hS65v, hr66v, hc67v, hm68v⟩ := slice_preV (lo := s2v) (hi := (x0_0.length : Int)) (Rd.asV (hl32v.mono (V36.up (Up.lend (l := [Row 36 3 a0_0 x0_0.length c0_0 rs31v.flatten, z0_0]) 1 rfl))) (Rd.lend (l := [Row 36 3 a0_0 x0_0.length c0_0 rs31v.flatten, z0_0]) hq33v 0 rfl)) hq34v hb62v
 refine vq (q_sub_roV (l := x0_0) (lo' := s2v) (hi' := (x0_0.length : Int)) rfl rfl rfl rfl Try.underlying27 Try.sizeOf36 (.inl ⟨rfl, rfl⟩) (.inr ⟨_, rfl⟩) hb62v hq34v hS65v) rfl ?_
 refine simL_openV 2 rfl (fun rs73v hl74v => ?_)
 refine simL_ask (fun hb72v => ?_)
 refine simL_eff (re_appendV 2 rfl rfl rfl Try.underlying27 elt36 rfl hl74v (hr66v.rds 1 rfl) hb72v) rfl rfl rfl ?_
 intro y71v
 refine vn rfl rfl ?_
 refine vq (q_fa rfl rfl Try.underlying29 rfl rfl Try.sizeOf27 rfl) rfl ?_
 refine simL_do (re_store 4 rfl rfl rfl Try.sizeOf27 rfl rfl (one_of (by rfl)) rfl rfl) rfl rfl ?_
 intro _
 refine simL_nil ?_
 exact nrm_fn (y71v.1, y71v.2, stars [Row 36 3 a0_0 x0_0.length c0_0 rs31v.flatten, z0_0]) rfl rfl rfl (.sel 4 rfl (.sel 2 rfl (.sel 1 rfl (.sel 2 rfl (.nil _)))))

def synodref4_Disk_Size.l0 (x0_0 : List (Ty36)) : Nat → Int → Int → Option (Int)
  | 0, _, _ => none
  | k + 1, z5v, z6v => if z6v < (x0_0.length : Int) then (if 0 ≤ z6v ∧ z6v < (x0_0.length : Int) then (synodref4_Disk_Size.l0 x0_0 k (IntKind.i64.wrap (z5v + (((x0_0.getD z6v.toNat dz36).2.1).length : Int))) (IntKind.i64.wrap (z6v + 1))) else none) else (some z5v)
def synodref4_Disk_Size.f (k : Nat) (x0_0 : List (Ty36)) (x0_1 : Int) (x0_2 : Bool) (x0_3 : List UInt8) : Option (Int) := (synodref4_Disk_Size.l0 x0_0 k 0 0).bind fun s1v => (some s1v)
theorem synodref4_Disk_Size.calls (W : World) (F : HA) (k : Nat) (b0 : Nat) (a0_0 : Option Addr) (c0_0 : Nat) (x0_0 : List (Ty36)) (x0_1 : Int) (x0_2 : Bool) (x0_3 : List UInt8) (h0_0 : RdV F 3 (V36 F) a0_0 x0_0) (hc0_0 : x0_0.length ≤ c0_0) (hm0_0 : c0_0 ≤ maxLen) :
    Fn Try.prog W 17 [.pointer (some ⟨b0, 0, none⟩)] [obj b0 29 [.slice a0_0 x0_0.length c0_0, .int .i64 x0_1, .bool x0_2, str x0_3]] F (synodref4_Disk_Size.f k x0_0 x0_1 x0_2 x0_3) (fun (r : Int) (y : Unit) => .int .i64 r) (fun r y => [obj b0 29 [.slice a0_0 x0_0.length c0_0, .int .i64 x0_1, .bool x0_2, str x0_3]]) := by
 unfold synodref4_Disk_Size.f
 refine fn_intro 26 Try.func17 rfl Try.ntmps17 rfl ?_
 refine sr ?_
 refine va rfl rfl (nx ?_)
 refine va rfl rfl (simL_nil (nrm_then ?_))
 refine sim_cut (S := Int) (Unit) (fun s y => [(3, .int .i64 s)]) (fun s y => [obj b0 29 [.slice a0_0 x0_0.length c0_0, .int .i64 x0_1, .bool x0_2, str x0_3], F]) ?_ ?_
 refine sr ?_
 refine va rfl rfl (simL_nil (nrm_then ?_))
 refine sim_block ?_
 refine sim_loop (S := Int × Int) (Unit) (fun k s => synodref4_Disk_Size.l0 x0_0 k s.1 s.2) (fun s y => [(0, .pointer (some ⟨b0, 0, none⟩)), (3, .int .i64 s.1), (4, .int .i64 s.2)]) (fun s y => [obj b0 29 [.slice a0_0 x0_0.length c0_0, .int .i64 x0_1, .bool x0_2, str x0_3], F]) (fun _ => by rw [synodref4_Disk_Size.l0]) ?_ k (0, 0) () ⟨rfl, rfl, rfl, trivial⟩ (.sel 0 rfl (.sel 0 rfl (.nil _)))
 intro k s3v y4v
 refine sim_eq (by rw [synodref4_Disk_Size.l0]) ?_
 refine sim_seq (sr ?_)
 refine vm rfl rfl ?_
 refine vm rfl rfl ?_
 refine vn rfl rfl ?_
 refine vq (q_fa rfl rfl Try.underlying29 rfl rfl Try.sizeOf27 rfl) rfl ?_
 refine vq (q_load rfl rfl Try.isAgg27 (.obj 0 rfl rfl)) rfl ?_
 refine vq (q_len rfl rfl rfl Try.underlying27) rfl ?_
 refine vq (q_lss rfl rfl rfl) rfl (simL_nil (nrm_then ?_))
 refine sim_cond rfl (fun h7v => ?_) (fun h8v => ?_)
 refine sim_skip ?_
 refine nrm_then (sim_seq ?_)
 refine sim_block ?_
 refine sim_region ?_
 refine vm rfl rfl ?_
 refine vm rfl rfl ?_
 refine vn rfl rfl ?_
 refine vq (q_fa rfl rfl Try.underlying29 rfl rfl Try.sizeOf27 rfl) rfl ?_
 refine vq (q_load rfl rfl Try.isAgg27 (.obj 0 rfl rfl)) rfl ?_
 refine vm rfl rfl ?_
 refine simL_ask (fun hi9v => ?_)
 obtain ⟨b10v, b10vo, r13v, ha11v, hV14v, hlr15v, hcell16v⟩ := RdV.pos h0_0 (Up.refl _) rfl (i := s3v.2.toNat) (by omega) dz36
 obtain ⟨a17v, c18v, rfl, ⟨he19v, hc20v, hm21v⟩⟩ := hV14v
 refine vq (q_idx rfl rfl rfl ha11v Try.underlying27 Try.sizeOf36 hi9v.1 hi9v.2) rfl ?_
 refine vq (q_fa rfl rfl Try.underlying36 rfl rfl Try.sizeOf34 rfl) rfl ?_
 refine vq (q_load rfl rfl Try.isAgg34 (hcell16v 1 rfl 1 _ rfl)) rfl ?_
 refine vq (q_len rfl rfl rfl Try.underlying34) rfl ?_
 refine vq (q_add rfl rfl rfl) rfl ?_
 refine va rfl rfl (simL_nil (nrm_block (nrm_then (sim_region ?_))))
 refine vm rfl rfl ?_
 refine vq (q_add rfl rfl rfl) rfl ?_
 refine va rfl rfl (simL_nil ?_)
 exact nrm_again (s := (IntKind.i64.wrap (s3v.1 + (((x0_0.getD s3v.2.toNat dz36).2.1).length : Int)), IntKind.i64.wrap (s3v.2 + 1))) () ⟨rfl, rfl, rfl, trivial⟩ (.sel 0 rfl (.sel 0 rfl (.nil _)))
 refine sim_exi ?_
 refine exi_then ?_
 refine exi_loop ?_
 refine exi_here ?_
 exact nrm_cut (s := s3v.1) () ⟨rfl, trivial⟩ (.sel 0 rfl (.sel 0 rfl (.nil _)))
 intro s1v y2v
 refine sr ?_
 refine vm rfl rfl ?_
 refine va rfl rfl (simL_nil (nrm_then (sim_rtn ?_)))
 exact rtn_fn () rfl rfl rfl (.sel 0 rfl (.sel 0 rfl (.nil _)))

def synodref4_Load.l0 (x0 : List (Ty36)) : Nat → Int → List (Ty36) → Int → Bool → List UInt8 → Option (((List (Ty36)) × Int × Bool × List UInt8) ⊕ (Bool × (List (Ty36)) × Int × Bool × List UInt8 × Int))
  | 0, _, _, _, _, _ => none
  | k + 1, z6v, z7v, z8v, z9v, z10v => if z6v < (x0.length : Int) then (if 0 ≤ z6v ∧ z6v < (x0.length : Int) then ((synodref4_Name.f k ((x0.getD z6v.toNat dz36).1)).bind fun s26v => (if (!s26v) = true then (some (.inr (false, ([] : List (Ty36)), (0 : Int), false, ([] : List UInt8), 7))) else (if 0 ≤ z6v ∧ z6v < (x0.length : Int) then ((synodref4_Disk_at.f k z7v z8v z9v z10v ((x0.getD z6v.toNat dz36).1)).bind fun s50v => (if (0 : Int) ≤ s50v then (some (.inr (false, ([] : List (Ty36)), (0 : Int), false, ([] : List UInt8), 9))) else ((if 0 ≤ z6v ∧ z6v < (x0.length : Int) then (if (x0.getD z6v.toNat dz36).2.2 < (0 : Int) then (some true) else (if 0 ≤ z6v ∧ z6v < (x0.length : Int) then (if 0 ≤ z6v ∧ z6v < (x0.length : Int) then (some (decide ((((x0.getD z6v.toNat dz36).2.1).length : Int) < (x0.getD z6v.toNat dz36).2.2))) else none) else none)) else none).bind fun s55v => (if s55v = true then (some (.inr (false, ([] : List (Ty36)), (0 : Int), false, ([] : List UInt8), 1))) else (if 0 ≤ z6v ∧ z6v < (x0.length : Int) then (if 0 ≤ z6v ∧ z6v < (x0.length : Int) then ((synodref_Bytes.f ((x0.getD z6v.toNat dz36).2.1)).bind fun s129v => (if 0 ≤ z6v ∧ z6v < (x0.length : Int) then ((synodref4_Disk_put.f k z7v z8v z9v z10v ((x0.getD z6v.toNat dz36).1) s129v ((x0.getD z6v.toNat dz36).2.2)).bind fun s149v => (synodref4_Load.l0 x0 k (IntKind.i64.wrap (z6v + 1)) s149v.1 s149v.2.1 s149v.2.2.1 s149v.2.2.2)) else none)) else none) else none))))) else none))) else none) else (some (.inl (z7v, z8v, z9v, z10v)))
def synodref4_Load.f (k : Nat) (x0 : List (Ty36)) : Option (Bool × (List (Ty36)) × Int × Bool × List UInt8 × Int) := orR (synodref4_Load.l0 x0 k 0 ([] : List (Ty36)) 0 false ([] : List UInt8)) fun s2v => ((if (256 : Int) < (s2v.1.length : Int) then (some true) else ((synodref4_Disk_Size.f k s2v.1 s2v.2.1 s2v.2.2.1 s2v.2.2.2).bind fun s161v => (some (decide ((16777216 : Int) < s161v))))).bind fun s153v => (if s153v = true then (some (false, ([] : List (Ty36)), (0 : Int), false, ([] : List UInt8), 10)) else (some (true, s2v.1, s2v.2.1, s2v.2.2.1, s2v.2.2.2, 0))))
theorem synodref4_Load.calls (W : World) (F : HA) (k : Nat) (a0 : Option Addr) (c0 : Nat) (x0 : List (Ty36)) (h0 : RdV F 3 (V36 F) a0 x0) (hc0 : x0.length ≤ c0) (hm0 : c0 ≤ maxLen) :
    Fn Try.prog W 31 [.slice a0 x0.length c0] [] F (synodref4_Load.f k x0) (fun (r : Bool × (List (Ty36)) × Int × Bool × List UInt8 × Int) (y : Nat × Option Addr × Nat × HA) => .tuple #[.pointer (optA r.1 y.1), .int .i64 r.2.2.2.2.2]) (fun r y => [whenA r.1 [obj y.1 29 [.slice y.2.1 r.2.1.length y.2.2.1, .int .i64 r.2.2.1, .bool r.2.2.2.1, str r.2.2.2.2.1], RowV 36 3 (V36 (y.2.2.2)) y.2.1 r.2.1 y.2.2.1, y.2.2.2]]) := by
 unfold synodref4_Load.f
 refine fn_intro 82 Try.func31 rfl Try.ntmps31 rfl ?_
 refine sr ?_
 refine va rfl rfl ?_
 refine va rfl rfl (nx ?_)
 refine vq (q_build (v := .agg #[.slice none 0 0, .int .i64 0, .bool false, str ([] : List UInt8)]) rfl rfl (fun _ => by kernel_rfl)) rfl ?_
 refine simL_eff (re_box rfl rfl rfl) rfl rfl rfl ?_
 intro b1v
 refine va rfl rfl (simL_nil (nrm_then ?_))
 refine sim_cutR (S := (List (Ty36)) × Int × Bool × List UInt8) (HA × Option Addr × Nat) (fun s y => [(4, .pointer (some ⟨b1v, 0, none⟩))]) (fun s y => [obj b1v 29 [.slice y.2.1 s.1.length y.2.2, .int .i64 s.2.1, .bool s.2.2.1, str s.2.2.2], RowV 36 3 (V36 (y.1)) y.2.1 s.1 y.2.2, y.1, F]) ?_ ?_
 refine sr ?_
 refine va rfl rfl (simL_nil (nrm_then ?_))
 refine sim_block ?_
 refine sim_loop (S := Int × (List (Ty36)) × Int × Bool × List UInt8) (HA × Option Addr × Nat) (fun k s => synodref4_Load.l0 x0 k s.1 s.2.1 s.2.2.1 s.2.2.2.1 s.2.2.2.2) (fun s y => [(0, .slice a0 x0.length c0), (4, .pointer (some ⟨b1v, 0, none⟩)), (5, .int .i64 s.1)]) (fun s y => [obj b1v 29 [.slice y.2.1 s.2.1.length y.2.2, .int .i64 s.2.2.1, .bool s.2.2.2.1, str s.2.2.2.2], RowV 36 3 (V36 (y.1)) y.2.1 s.2.1 y.2.2, y.1, F]) (fun _ => by rw [synodref4_Load.l0]) ?_ k (0, ([] : List (Ty36)), 0, false, ([] : List UInt8)) (tt, none, 0) ⟨rfl, rfl, rfl, trivial⟩ (.sel 0 rfl (.rowV_nil (.tt_in (.sel 0 rfl (.nil _)))))
 intro k s4v y5v
 refine sim_eq (by rw [synodref4_Load.l0]) ?_
 refine sim_seq (sr ?_)
 refine vm rfl rfl ?_
 refine vm rfl rfl ?_
 refine vq (q_len rfl rfl rfl Try.underlying27) rfl ?_
 refine vq (q_lss rfl rfl rfl) rfl (simL_nil (nrm_then ?_))
 refine sim_cond rfl (fun h11v => ?_) (fun h12v => ?_)
 refine sim_skip ?_
 refine nrm_then (sim_seq ?_)
 refine sim_block ?_
 refine sr ?_
 refine vm rfl rfl ?_
 refine vm rfl rfl ?_
 refine simL_ask (fun hi13v => ?_)
 obtain ⟨b14v, b14vo, r17v, ha15v, hV18v, hlr19v, hcell20v⟩ := RdV.pos h0 (Up.refl _) rfl (i := s4v.1.toNat) (by omega) dz36
 obtain ⟨a21v, c22v, rfl, ⟨he23v, hc24v, hm25v⟩⟩ := hV18v
 refine vq (q_idx rfl rfl rfl ha15v Try.underlying27 Try.sizeOf36 hi13v.1 hi13v.2) rfl ?_
 refine vq (q_fa rfl rfl Try.underlying36 rfl rfl Try.sizeOf9 rfl) rfl ?_
 refine vq (q_load rfl rfl Try.isAgg9 (hcell20v 3 rfl 0 _ rfl)) rfl ?_
 refine simL_bind (fun s26v hs27v => ?_)
 refine simL_eff (re_call (vs := [str ((x0.getD s4v.1.toNat dz36).1)]) (cap := []) (A := []) (rst := [obj b1v 29 [.slice y5v.2.1 s4v.2.1.length y5v.2.2, .int .i64 s4v.2.2.1, .bool s4v.2.2.2.1, str s4v.2.2.2.2], RowV 36 3 (V36 (y5v.1)) y5v.2.1 s4v.2.1 y5v.2.2, y5v.1, F]) rfl rfl rfl rfl rfl rfl Try.call36 (.sel 0 rfl (.sel 0 rfl (.sel 0 rfl (.sel 0 rfl (.nil _))))) (synodref4_Name.calls _ _ k ((x0.getD s4v.1.toNat dz36).1) ) hs27v) rfl rfl rfl ?_
 intro y28v
 refine va rfl rfl (simL_nil (nrm_then (sim_seq (sr ?_))))
 refine vm rfl rfl ?_
 refine vq (q_not rfl rfl) rfl (simL_nil (nrm_then ?_))
 refine sim_condb rfl (fun h29v => ?_) (fun h30v => ?_)
 refine sr ?_
 refine va rfl rfl ?_
 refine va rfl rfl (simL_nil (nrm_then (sim_rtn ?_)))
 refine rtn_then ?_
 refine rtn_block ?_
 refine rtn_then ?_
 refine rtn_loop ?_
 refine rtn_block ?_
 refine rtn_cutR ?_
 exact rtn_fn (0, none, 0, tt) rfl rfl rfl (.when_no rfl (.sel 3 rfl (.nil _)))
 refine sim_skip ?_
 refine nrm_then (sim_seq (sr ?_))
 refine vm rfl rfl ?_
 refine vm rfl rfl ?_
 refine vm rfl rfl ?_
 refine simL_ask (fun hi31v => ?_)
 obtain ⟨b32v, b32vo, r35v, ha33v, hV36v, hlr37v, hcell38v⟩ := RdV.pos h0 (Up.refl _) rfl (i := s4v.1.toNat) (by omega) dz36
 obtain ⟨a39v, c40v, rfl, ⟨he41v, hc42v, hm43v⟩⟩ := hV36v
 refine vq (q_idx rfl rfl rfl ha33v Try.underlying27 Try.sizeOf36 hi31v.1 hi31v.2) rfl ?_
 refine vq (q_fa rfl rfl Try.underlying36 rfl rfl Try.sizeOf9 rfl) rfl ?_
 refine vq (q_load rfl rfl Try.isAgg9 (hcell38v 3 rfl 0 _ rfl)) rfl ?_
 refine simL_openV 1 rfl (fun rs44v hl45v => ?_)
 refine simL_bind (fun s50v hs51v => ?_)
 refine simL_lend 1 rfl (fun hq46v hq47v hq48v hq49v => ?_)
 refine simL_eff (re_call (vs := [.pointer (some ⟨b1v, 0, none⟩), str ((x0.getD s4v.1.toNat dz36).1)]) (cap := []) (A := [obj b1v 29 [.slice y5v.2.1 s4v.2.1.length y5v.2.2, .int .i64 s4v.2.2.1, .bool s4v.2.2.2.1, str s4v.2.2.2.2]]) (rst := [Row 36 3 y5v.2.1 s4v.2.1.length y5v.2.2 rs44v.flatten, y5v.1, F]) rfl rfl rfl rfl rfl rfl Try.call37 (.sel 0 rfl (.sel 0 rfl (.sel 0 rfl (.sel 0 rfl (.nil _))))) (synodref4_Disk_at.calls _ _ k b1v y5v.2.1 y5v.2.2 s4v.2.1 s4v.2.2.1 s4v.2.2.2.1 s4v.2.2.2.2 ((x0.getD s4v.1.toNat dz36).1) ((Rd.asV hl45v hq46v).up (Up.lend 0 rfl) (V36.up (Up.lend 1 rfl))) hq47v hq48v) hs51v) rfl rfl rfl ?_
 intro y52v
 refine vq (q_geq rfl rfl rfl) rfl (simL_nil (nrm_then ?_))
 refine sim_cond rfl (fun h53v => ?_) (fun h54v => ?_)
 refine sr ?_
 refine va rfl rfl ?_
 refine va rfl rfl (simL_nil (nrm_then (sim_rtn ?_)))
 refine rtn_then ?_
 refine rtn_block ?_
 refine rtn_then ?_
 refine rtn_loop ?_
 refine rtn_block ?_
 refine rtn_cutR ?_
 exact rtn_fn (0, none, 0, tt) rfl rfl rfl (.when_no rfl (.sel 3 rfl (.nil _)))
 refine sim_skip ?_
 refine nrm_then (sim_seq ?_)
 refine sim_cut (S := Bool) (Unit) (fun s y => [(0, .slice a0 x0.length c0), (4, .pointer (some ⟨b1v, 0, none⟩)), (5, .int .i64 s4v.1), (50, .bool s)]) (fun s y => [obj b1v 29 [.slice y5v.2.1 s4v.2.1.length y5v.2.2, .int .i64 s4v.2.2.1, .bool s4v.2.2.2.1, str s4v.2.2.2.2], RowV 36 3 (V36 (y5v.1)) y5v.2.1 s4v.2.1 y5v.2.2, y5v.1, F]) ?_ ?_
 refine sim_ask (fun hi57v => ?_)
 obtain ⟨b58v, b58vo, r61v, ha59v, hV62v, hlr63v, hcell64v⟩ := RdV.pos h0 (Up.refl _) rfl (i := s4v.1.toNat) (by omega) dz36
 obtain ⟨a65v, c66v, rfl, ⟨he67v, hc68v, hm69v⟩⟩ := hV62v
 refine sim_if (fun hk70v => ?_) (fun hk70v => ?_)
 refine sim_draw (Γ := Unit) () [[], [], [0, 1], [0, 1, 2], rL 4, rL 5, rL 6, rL 7, rL 7, rL 9, rL 10, rL 11, rL 7, rL 7, [0, 1, 2, 3, 4, 5, 6, 12, 13], [0, 1, 2, 3, 4, 5, 6, 12, 13, 14], [0, 1, 2, 3, 4, 5, 6, 12, 13, 14, 15], [0, 1, 2, 3, 4, 5, 6, 12, 13, 14, 15, 16], rL 18, rL 19] [] [0, 1, 2, 3, 4, 5, 6, 7, 8, 9, 10, 11, 12, 13, 14, 15, 16, 17, 18, 19] (fun i => [[0], [0], [0], [0], [0], [0], [0], [0], [0], [0], [0], [0], [0], [0], [0], [0], [0], [0], [0], [0]].getD i []) (fun i => [[], [], [], [], [], [], [], [], [], [], [], [], [], [], [], [], [], [], [], []].getD i []) (fun γ i => [.slice a0 x0.length c0, .int .i64 s4v.1, .pointer (some ⟨b58v, b58vo + s4v.1.toNat * 3, none⟩), .pointer (some ⟨b58v, b58vo + s4v.1.toNat * 3 + 2, none⟩), .int .i64 ((x0.getD s4v.1.toNat dz36).2.2), .bool (decide ((x0.getD s4v.1.toNat dz36).2.2 < (0 : Int))), .bool (decide ((x0.getD s4v.1.toNat dz36).2.2 < (0 : Int))), undef, undef, undef, undef, undef, undef, undef, undef, undef, undef, undef, undef, .bool true].getD i undef) (fun j γ => [[obj b1v 29 [.slice y5v.2.1 s4v.2.1.length y5v.2.2, .int .i64 s4v.2.2.1, .bool s4v.2.2.2.1, str s4v.2.2.2.2], Row 36 3 y5v.2.1 s4v.2.1.length y5v.2.2 rs44v.flatten, y5v.1, F]].getD j []) (fun γ => [(0, .slice a0 x0.length c0), (4, .pointer (some ⟨b1v, 0, none⟩)), (5, .int .i64 s4v.1), (38, undef), (39, undef), (40, undef), (41, undef), (42, undef), (43, undef), (44, undef), (45, undef), (46, undef), (47, undef), (48, undef), (49, undef), (50, .bool true)]) mixed (by decide) (by decide) (by decide) (by decide) (by decide) (by decide) (by decide) 82 rfl (by decide) (by decide) (by decide) (Ent.refl _) ?_ ?_ (fun _ => ⟨rfl, rfl, rfl, rfl, rfl, rfl, rfl, rfl, rfl, rfl, rfl, rfl, rfl, rfl, rfl, rfl, trivial⟩) ?_
 exact (aq rfl (fun γ => qm rfl (.o (s := 0) rfl (by decide) .nil) rfl) (aq rfl (fun γ => qm rfl (.o (s := 5) rfl (by decide) .nil) rfl) (aq rfl (fun γ => qp rfl rfl (.v 0 rfl rfl (.v 1 rfl rfl .nil)) (q_idx rfl rfl rfl ha59v Try.underlying27 Try.sizeOf36 hi57v.1 hi57v.2) rfl) (aq rfl (fun γ => qp rfl rfl (.v 2 rfl rfl .nil) (q_fa rfl rfl Try.underlying36 rfl rfl Try.sizeOf3 rfl) rfl) (aq rfl (fun γ => qp rfl rfl (.v 3 rfl rfl .nil) (q_load rfl rfl Try.isAgg3 (hcell64v 3 rfl 2 _ rfl)) rfl) (aq rfl (fun γ => qp rfl rfl (.v 4 rfl rfl .nil) (q_lss rfl rfl rfl) rfl) (aq rfl (fun γ => qm rfl (.v 5 rfl rfl .nil) rfl) (aq rfl (fun γ => qn rfl rfl (.o (s := 0) rfl (by decide) (.v 6 rfl rfl .nil)) rfl rfl (beq_yes' (decide_eq_true hk70v)) rfl) (aq rfl (fun γ => qn rfl rfl (.o (s := 5) rfl (by decide) (.v 6 rfl rfl .nil)) rfl rfl (beq_yes' (decide_eq_true hk70v)) rfl) (aq rfl (fun γ => qn rfl rfl (.v 6 rfl rfl (.v 7 rfl rfl (.v 8 rfl rfl .nil))) rfl rfl (beq_yes' (decide_eq_true hk70v)) rfl) (aq rfl (fun γ => qn rfl rfl (.v 6 rfl rfl (.v 9 rfl rfl .nil)) rfl rfl (beq_yes' (decide_eq_true hk70v)) rfl) (aq rfl (fun γ => qn rfl rfl (.v 6 rfl rfl (.v 10 rfl rfl .nil)) rfl rfl (beq_yes' (decide_eq_true hk70v)) rfl) (aq rfl (fun γ => qn rfl rfl (.o (s := 0) rfl (by decide) (.v 6 rfl rfl .nil)) rfl rfl (beq_yes' (decide_eq_true hk70v)) rfl) (aq rfl (fun γ => qn rfl rfl (.o (s := 5) rfl (by decide) (.v 6 rfl rfl .nil)) rfl rfl (beq_yes' (decide_eq_true hk70v)) rfl) (aq rfl (fun γ => qn rfl rfl (.v 6 rfl rfl (.v 12 rfl rfl (.v 13 rfl rfl .nil))) rfl rfl (beq_yes' (decide_eq_true hk70v)) rfl) (aq rfl (fun γ => qn rfl rfl (.v 6 rfl rfl (.v 14 rfl rfl .nil)) rfl rfl (beq_yes' (decide_eq_true hk70v)) rfl) (aq rfl (fun γ => qn rfl rfl (.v 6 rfl rfl (.v 15 rfl rfl .nil)) rfl rfl (beq_yes' (decide_eq_true hk70v)) rfl) (aq rfl (fun γ => qn rfl rfl (.v 6 rfl rfl (.v 16 rfl rfl .nil)) rfl rfl (beq_yes' (decide_eq_true hk70v)) rfl) (aq rfl (fun γ => qn rfl rfl (.v 6 rfl rfl (.v 11 rfl rfl (.v 17 rfl rfl .nil))) rfl rfl (beq_yes' (decide_eq_true hk70v)) rfl) (aq rfl (fun γ => qp rfl rfl (.v 6 rfl rfl (.v 18 rfl rfl .nil)) (q_pick rfl rfl rfl rfl (bif_yes (decide_eq_true hk70v) _ _)) rfl) zA))))))))))))))))))))
 exact zA
 intro g71v
 exact nrm_cut (s := true) () ⟨rfl, rfl, rfl, rfl, trivial⟩ (.sel 0 rfl (.sel' 0 rfl (RowV.mk hl45v) (.sel 0 rfl (.sel 0 rfl (.nil _)))))
 refine sim_ask (fun hi72v => ?_)
 obtain ⟨b73v, b73vo, r76v, ha74v, hV77v, hlr78v, hcell79v⟩ := RdV.pos h0 (Up.refl _) rfl (i := s4v.1.toNat) (by omega) dz36
 obtain ⟨a80v, c81v, rfl, ⟨he82v, hc83v, hm84v⟩⟩ := hV77v
 refine sim_ask (fun hi85v => ?_)
 obtain ⟨b86v, b86vo, r89v, ha87v, hV90v, hlr91v, hcell92v⟩ := RdV.pos h0 (Up.refl _) rfl (i := s4v.1.toNat) (by omega) dz36
 obtain ⟨a93v, c94v, rfl, ⟨he95v, hc96v, hm97v⟩⟩ := hV90v
 refine sim_draw (Γ := Unit) () [[], [], [0, 1], [0, 1, 2], rL 4, rL 5, rL 6, rL 7, rL 7, rL 9, rL 10, rL 11, rL 7, rL 7, [0, 1, 2, 3, 4, 5, 6, 12, 13], [0, 1, 2, 3, 4, 5, 6, 12, 13, 14], [0, 1, 2, 3, 4, 5, 6, 12, 13, 14, 15], [0, 1, 2, 3, 4, 5, 6, 12, 13, 14, 15, 16], rL 18, rL 19] [] [0, 1, 2, 3, 4, 5, 6, 7, 8, 9, 10, 11, 12, 13, 14, 15, 16, 17, 18, 19] (fun i => [[0], [0], [0], [0], [0], [0], [0], [0], [0], [0], [0], [0], [0], [0], [0], [0], [0], [0], [0], [0]].getD i []) (fun i => [[], [], [], [], [], [], [], [], [], [], [], [], [], [], [], [], [], [], [], []].getD i []) (fun γ i => [.slice a0 x0.length c0, .int .i64 s4v.1, .pointer (some ⟨b58v, b58vo + s4v.1.toNat * 3, none⟩), .pointer (some ⟨b58v, b58vo + s4v.1.toNat * 3 + 2, none⟩), .int .i64 ((x0.getD s4v.1.toNat dz36).2.2), .bool (decide ((x0.getD s4v.1.toNat dz36).2.2 < (0 : Int))), .bool (decide ((x0.getD s4v.1.toNat dz36).2.2 < (0 : Int))), .slice a0 x0.length c0, .int .i64 s4v.1, .pointer (some ⟨b73v, b73vo + s4v.1.toNat * 3, none⟩), .pointer (some ⟨b73v, b73vo + s4v.1.toNat * 3 + 2, none⟩), .int .i64 ((x0.getD s4v.1.toNat dz36).2.2), .slice a0 x0.length c0, .int .i64 s4v.1, .pointer (some ⟨b86v, b86vo + s4v.1.toNat * 3, none⟩), .pointer (some ⟨b86v, b86vo + s4v.1.toNat * 3 + 1, none⟩), .slice a93v (((x0.getD s4v.1.toNat dz36).2.1).length) c94v, .int .i64 (((x0.getD s4v.1.toNat dz36).2.1).length : Int), .bool (decide ((((x0.getD s4v.1.toNat dz36).2.1).length : Int) < (x0.getD s4v.1.toNat dz36).2.2)), .bool (decide ((((x0.getD s4v.1.toNat dz36).2.1).length : Int) < (x0.getD s4v.1.toNat dz36).2.2))].getD i undef) (fun j γ => [[obj b1v 29 [.slice y5v.2.1 s4v.2.1.length y5v.2.2, .int .i64 s4v.2.2.1, .bool s4v.2.2.2.1, str s4v.2.2.2.2], Row 36 3 y5v.2.1 s4v.2.1.length y5v.2.2 rs44v.flatten, y5v.1, F]].getD j []) (fun γ => [(0, .slice a0 x0.length c0), (4, .pointer (some ⟨b1v, 0, none⟩)), (5, .int .i64 s4v.1), (38, .slice a0 x0.length c0), (39, .int .i64 s4v.1), (40, .pointer (some ⟨b73v, b73vo + s4v.1.toNat * 3, none⟩)), (41, .pointer (some ⟨b73v, b73vo + s4v.1.toNat * 3 + 2, none⟩)), (42, .int .i64 ((x0.getD s4v.1.toNat dz36).2.2)), (43, .slice a0 x0.length c0), (44, .int .i64 s4v.1), (45, .pointer (some ⟨b86v, b86vo + s4v.1.toNat * 3, none⟩)), (46, .pointer (some ⟨b86v, b86vo + s4v.1.toNat * 3 + 1, none⟩)), (47, .slice a93v (((x0.getD s4v.1.toNat dz36).2.1).length) c94v), (48, .int .i64 (((x0.getD s4v.1.toNat dz36).2.1).length : Int)), (49, .bool (decide ((((x0.getD s4v.1.toNat dz36).2.1).length : Int) < (x0.getD s4v.1.toNat dz36).2.2))), (50, .bool (decide ((((x0.getD s4v.1.toNat dz36).2.1).length : Int) < (x0.getD s4v.1.toNat dz36).2.2)))]) mixed (by decide) (by decide) (by decide) (by decide) (by decide) (by decide) (by decide) 82 rfl (by decide) (by decide) (by decide) (Ent.refl _) ?_ ?_ (fun _ => ⟨rfl, rfl, rfl, rfl, rfl, rfl, rfl, rfl, rfl, rfl, rfl, rfl, rfl, rfl, rfl, rfl, trivial⟩) ?_
 exact (aq rfl (fun γ => qm rfl (.o (s := 0) rfl (by decide) .nil) rfl) (aq rfl (fun γ => qm rfl (.o (s := 5) rfl (by decide) .nil) rfl) (aq rfl (fun γ => qp rfl rfl (.v 0 rfl rfl (.v 1 rfl rfl .nil)) (q_idx rfl rfl rfl ha59v Try.underlying27 Try.sizeOf36 hi57v.1 hi57v.2) rfl) (aq rfl (fun γ => qp rfl rfl (.v 2 rfl rfl .nil) (q_fa rfl rfl Try.underlying36 rfl rfl Try.sizeOf3 rfl) rfl) (aq rfl (fun γ => qp rfl rfl (.v 3 rfl rfl .nil) (q_load rfl rfl Try.isAgg3 (hcell64v 3 rfl 2 _ rfl)) rfl) (aq rfl (fun γ => qp rfl rfl (.v 4 rfl rfl .nil) (q_lss rfl rfl rfl) rfl) (aq rfl (fun γ => qm rfl (.v 5 rfl rfl .nil) rfl) (aq rfl (fun γ => qy rfl rfl (.o (s := 0) rfl (by decide) (.v 6 rfl rfl .nil)) rfl rfl (beq_no (decide_eq_false hk70v)) (q_move rfl rfl) rfl) (aq rfl (fun γ => qy rfl rfl (.o (s := 5) rfl (by decide) (.v 6 rfl rfl .nil)) rfl rfl (beq_no (decide_eq_false hk70v)) (q_move rfl rfl) rfl) (aq rfl (fun γ => qy rfl rfl (.v 6 rfl rfl (.v 7 rfl rfl (.v 8 rfl rfl .nil))) rfl rfl (beq_no (decide_eq_false hk70v)) (q_idx rfl rfl rfl ha74v Try.underlying27 Try.sizeOf36 hi72v.1 hi72v.2) rfl) (aq rfl (fun γ => qy rfl rfl (.v 6 rfl rfl (.v 9 rfl rfl .nil)) rfl rfl (beq_no (decide_eq_false hk70v)) (q_fa rfl rfl Try.underlying36 rfl rfl Try.sizeOf3 rfl) rfl) (aq rfl (fun γ => qy rfl rfl (.v 6 rfl rfl (.v 10 rfl rfl .nil)) rfl rfl (beq_no (decide_eq_false hk70v)) (q_load rfl rfl Try.isAgg3 (hcell79v 3 rfl 2 _ rfl)) rfl) (aq rfl (fun γ => qy rfl rfl (.o (s := 0) rfl (by decide) (.v 6 rfl rfl .nil)) rfl rfl (beq_no (decide_eq_false hk70v)) (q_move rfl rfl) rfl) (aq rfl (fun γ => qy rfl rfl (.o (s := 5) rfl (by decide) (.v 6 rfl rfl .nil)) rfl rfl (beq_no (decide_eq_false hk70v)) (q_move rfl rfl) rfl) (aq rfl (fun γ => qy rfl rfl (.v 6 rfl rfl (.v 12 rfl rfl (.v 13 rfl rfl .nil))) rfl rfl (beq_no (decide_eq_false hk70v)) (q_idx rfl rfl rfl ha87v Try.underlying27 Try.sizeOf36 hi85v.1 hi85v.2) rfl) (aq rfl (fun γ => qy rfl rfl (.v 6 rfl rfl (.v 14 rfl rfl .nil)) rfl rfl (beq_no (decide_eq_false hk70v)) (q_fa rfl rfl Try.underlying36 rfl rfl Try.sizeOf34 rfl) rfl) (aq rfl (fun γ => qy rfl rfl (.v 6 rfl rfl (.v 15 rfl rfl .nil)) rfl rfl (beq_no (decide_eq_false hk70v)) (q_load rfl rfl Try.isAgg34 (hcell92v 3 rfl 1 _ rfl)) rfl) (aq rfl (fun γ => qy rfl rfl (.v 6 rfl rfl (.v 16 rfl rfl .nil)) rfl rfl (beq_no (decide_eq_false hk70v)) (q_len rfl rfl rfl Try.underlying34) rfl) (aq rfl (fun γ => qy rfl rfl (.v 6 rfl rfl (.v 11 rfl rfl (.v 17 rfl rfl .nil))) rfl rfl (beq_no (decide_eq_false hk70v)) (q_gtr rfl rfl rfl) rfl) (aq rfl (fun γ => qp rfl rfl (.v 6 rfl rfl (.v 18 rfl rfl .nil)) (q_pick rfl rfl rfl rfl (bif_no (decide_eq_false hk70v) _ _)) rfl) zA))))))))))))))))))))
 exact zA
 intro g98v
 exact nrm_cut (s := decide ((((x0.getD s4v.1.toNat dz36).2.1).length : Int) < (x0.getD s4v.1.toNat dz36).2.2)) () ⟨rfl, rfl, rfl, rfl, trivial⟩ (.sel 0 rfl (.sel' 0 rfl (RowV.mk hl45v) (.sel 0 rfl (.sel 0 rfl (.nil _)))))
 intro s55v y56v
 refine sim_condb rfl (fun h99v => ?_) (fun h100v => ?_)
 refine sr ?_
 refine va rfl rfl ?_
 refine va rfl rfl (simL_nil (nrm_then (sim_rtn ?_)))
 refine rtn_then ?_
 refine rtn_block ?_
 refine rtn_then ?_
 refine rtn_loop ?_
 refine rtn_block ?_
 refine rtn_cutR ?_
 exact rtn_fn (0, none, 0, tt) rfl rfl rfl (.when_no rfl (.sel 3 rfl (.nil _)))
 refine sim_skip ?_
 refine nrm_then ?_
 refine sim_openV 1 rfl (fun rs101v hl102v => ?_)
 refine sim_ask (fun hi103v => ?_)
 obtain ⟨b104v, b104vo, r107v, ha105v, hV108v, hlr109v, hcell110v⟩ := RdV.pos h0 (Up.refl _) rfl (i := s4v.1.toNat) (by omega) dz36
 obtain ⟨a111v, c112v, rfl, ⟨he113v, hc114v, hm115v⟩⟩ := hV108v
 refine sim_ask (fun hi116v => ?_)
 obtain ⟨b117v, b117vo, r120v, ha118v, hV121v, hlr122v, hcell123v⟩ := RdV.pos h0 (Up.refl _) rfl (i := s4v.1.toNat) (by omega) dz36
 obtain ⟨a124v, c125v, rfl, ⟨he126v, hc127v, hm128v⟩⟩ := hV121v
 refine sim_bind (fun s129v hs130v => ?_)
 refine sim_ask (fun hi132v => ?_)
 obtain ⟨b133v, b133vo, r136v, ha134v, hV137v, hlr138v, hcell139v⟩ := RdV.pos h0 (Up.refl _) rfl (i := s4v.1.toNat) (by omega) dz36
 obtain ⟨a140v, c141v, rfl, ⟨he142v, hc143v, hm144v⟩⟩ := hV137v
 refine sim_bind (fun s149v hs150v => ?_)
 refine sim_draw (Γ := (Option Addr × Nat) × (Option Addr × Nat × HA)) ((none, 0), (none, 0, tt)) [[], [], [], [1, 2], [1, 2, 3], [1, 2, 3, 4], [], [], [6, 7], [6, 7, 8], [6, 7, 8, 9], [6, 7, 8, 9, 10], [], [], [12, 13], [12, 13, 14], [12, 13, 14, 15], [1, 2, 3, 4, 5, 6, 7, 8, 9, 10, 11, 12, 13, 14, 15, 16], rL 18] [11, 18] [0, 1, 2, 3, 4, 5, 6, 7, 8, 9, 10, 12, 13, 14, 15, 16, 17] (fun i => [[0, 1], [0, 1], [0, 1], [0, 1], [0, 1], [0, 1], [0], [0], [0], [0], [0], [], [0, 1], [0, 1], [0, 1], [0, 1], [0, 1], [1], []].getD i []) (fun i => [[], [], [], [], [], [], [], [], [], [], [], [0, 1, 2, 3, 4, 5, 6, 7, 8, 9, 10, 12, 13, 14, 15, 16], [], [], [], [], [], [], rL 18].getD i []) (fun γ i => [.pointer (some ⟨b1v, 0, none⟩), .slice a0 x0.length c0, .int .i64 s4v.1, .pointer (some ⟨b104v, b104vo + s4v.1.toNat * 3, none⟩), .pointer (some ⟨b104v, b104vo + s4v.1.toNat * 3 + 0, none⟩), str ((x0.getD s4v.1.toNat dz36).1), .slice a0 x0.length c0, .int .i64 s4v.1, .pointer (some ⟨b117v, b117vo + s4v.1.toNat * 3, none⟩), .pointer (some ⟨b117v, b117vo + s4v.1.toNat * 3 + 1, none⟩), .slice a124v (((x0.getD s4v.1.toNat dz36).2.1).length) c125v, .slice γ.1.1 s129v.length γ.1.2, .slice a0 x0.length c0, .int .i64 s4v.1, .pointer (some ⟨b133v, b133vo + s4v.1.toNat * 3, none⟩), .pointer (some ⟨b133v, b133vo + s4v.1.toNat * 3 + 2, none⟩), .int .i64 ((x0.getD s4v.1.toNat dz36).2.2), .agg #[str ((x0.getD s4v.1.toNat dz36).1), .slice γ.1.1 s129v.length γ.1.2, .int .i64 ((x0.getD s4v.1.toNat dz36).2.2)], .tuple #[]].getD i undef) (fun j γ => [[obj b1v 29 [.slice y5v.2.1 s4v.2.1.length y5v.2.2, .int .i64 s4v.2.2.1, .bool s4v.2.2.2.1, str s4v.2.2.2.2], Row 36 3 y5v.2.1 s4v.2.1.length y5v.2.2 rs101v.flatten, y5v.1, F], [Row 5 1 γ.1.1 s129v.length γ.1.2 (encB s129v), obj b1v 29 [.slice y5v.2.1 s4v.2.1.length y5v.2.2, .int .i64 s4v.2.2.1, .bool s4v.2.2.2.1, str s4v.2.2.2.2], Row 36 3 y5v.2.1 s4v.2.1.length y5v.2.2 rs101v.flatten, y5v.1, F], [obj b1v 29 [.slice γ.2.1 s149v.1.length γ.2.2.1, .int .i64 s149v.2.1, .bool s149v.2.2.1, str s149v.2.2.2], RowV 36 3 (V36 (γ.2.2.2)) γ.2.1 s149v.1 γ.2.2.1, γ.2.2.2, F]].getD j []) (fun γ => [(0, .slice a0 x0.length c0), (4, .pointer (some ⟨b1v, 0, none⟩)), (5, .int .i64 s4v.1)]) mixed (by decide) (by decide) (by decide) (by decide) (by decide) (by decide) (by decide) 82 rfl (by decide) (by decide) (by decide) (Ent.refl _) ?_ ?_ (fun _ => ⟨rfl, rfl, rfl, trivial⟩) ?_
 exact (ac (fun γ => (ac (qm rfl (.o (s := 4) rfl (by decide) .nil) rfl) (ac (qm rfl (.o (s := 4) rfl (by decide) .nil) rfl) zA))) (ac (fun γ => (ac (qm rfl (.o (s := 0) rfl (by decide) .nil) rfl) (ac (qm rfl (.o (s := 0) rfl (by decide) .nil) rfl) zA))) (ac (fun γ => (ac (qm rfl (.o (s := 5) rfl (by decide) .nil) rfl) (ac (qm rfl (.o (s := 5) rfl (by decide) .nil) rfl) zA))) (ac (fun γ => (ac (qp rfl rfl (.v 1 rfl rfl (.v 2 rfl rfl .nil)) (q_idx rfl rfl rfl ha105v Try.underlying27 Try.sizeOf36 hi103v.1 hi103v.2) rfl) (ac (qp rfl rfl (.v 1 rfl rfl (.v 2 rfl rfl .nil)) (q_idx rfl rfl rfl ha105v Try.underlying27 Try.sizeOf36 hi103v.1 hi103v.2) rfl) zA))) (ac (fun γ => (ac (qp rfl rfl (.v 3 rfl rfl .nil) (q_fa rfl rfl Try.underlying36 rfl rfl Try.sizeOf9 rfl) rfl) (ac (qp rfl rfl (.v 3 rfl rfl .nil) (q_fa rfl rfl Try.underlying36 rfl rfl Try.sizeOf9 rfl) rfl) zA))) (ac (fun γ => (ac (qp rfl rfl (.v 4 rfl rfl .nil) (q_load rfl rfl Try.isAgg9 (hcell110v 3 rfl 0 _ rfl)) rfl) (ac (qp rfl rfl (.v 4 rfl rfl .nil) (q_load rfl rfl Try.isAgg9 (hcell110v 4 rfl 0 _ rfl)) rfl) zA))) (aq rfl (fun γ => qm rfl (.o (s := 0) rfl (by decide) .nil) rfl) (aq rfl (fun γ => qm rfl (.o (s := 5) rfl (by decide) .nil) rfl) (aq rfl (fun γ => qp rfl rfl (.v 6 rfl rfl (.v 7 rfl rfl .nil)) (q_idx rfl rfl rfl ha118v Try.underlying27 Try.sizeOf36 hi116v.1 hi116v.2) rfl) (aq rfl (fun γ => qp rfl rfl (.v 8 rfl rfl .nil) (q_fa rfl rfl Try.underlying36 rfl rfl Try.sizeOf34 rfl) rfl) (aq rfl (fun γ => qp rfl rfl (.v 9 rfl rfl .nil) (q_load rfl rfl Try.isAgg34 (hcell123v 3 rfl 1 _ rfl)) rfl) (ac (fun γ => (ac (qm rfl (.o (s := 0) rfl (by decide) .nil) rfl) (ac (qm rfl (.o (s := 0) rfl (by decide) .nil) rfl) zA))) (ac (fun γ => (ac (qm rfl (.o (s := 5) rfl (by decide) .nil) rfl) (ac (qm rfl (.o (s := 5) rfl (by decide) .nil) rfl) zA))) (ac (fun γ => (ac (qp rfl rfl (.v 12 rfl rfl (.v 13 rfl rfl .nil)) (q_idx rfl rfl rfl ha134v Try.underlying27 Try.sizeOf36 hi132v.1 hi132v.2) rfl) (ac (qp rfl rfl (.v 12 rfl rfl (.v 13 rfl rfl .nil)) (q_idx rfl rfl rfl ha134v Try.underlying27 Try.sizeOf36 hi132v.1 hi132v.2) rfl) zA))) (ac (fun γ => (ac (qp rfl rfl (.v 14 rfl rfl .nil) (q_fa rfl rfl Try.underlying36 rfl rfl Try.sizeOf3 rfl) rfl) (ac (qp rfl rfl (.v 14 rfl rfl .nil) (q_fa rfl rfl Try.underlying36 rfl rfl Try.sizeOf3 rfl) rfl) zA))) (ac (fun γ => (ac (qp rfl rfl (.v 15 rfl rfl .nil) (q_load rfl rfl Try.isAgg3 (hcell139v 3 rfl 2 _ rfl)) rfl) (ac (qp rfl rfl (.v 15 rfl rfl .nil) (q_load rfl rfl Try.isAgg3 (hcell139v 4 rfl 2 _ rfl)) rfl) zA))) (aq rfl (fun γ => qp rfl rfl (.v 5 rfl rfl (.v 11 rfl rfl (.v 16 rfl rfl .nil))) (q_build (v := .agg #[str ((x0.getD s4v.1.toNat dz36).1), .slice γ.1.1 s129v.length γ.1.2, .int .i64 ((x0.getD s4v.1.toNat dz36).2.2)]) rfl rfl (fun _ => by kernel_rfl)) rfl) zA)))))))))))))))))
 exact (ac (fun γ => eo (Z := Option Addr × Nat) (fun z => (z, γ.2)) rfl rfl (.v 10 rfl rfl .nil) (re_call (vs := [.slice a124v (((x0.getD s4v.1.toNat dz36).2.1).length) c125v]) (cap := []) (A := []) (rst := [obj b1v 29 [.slice y5v.2.1 s4v.2.1.length y5v.2.2, .int .i64 s4v.2.2.1, .bool s4v.2.2.2.1, str s4v.2.2.2.2], Row 36 3 y5v.2.1 s4v.2.1.length y5v.2.2 rs101v.flatten, y5v.1, F]) rfl rfl rfl rfl rfl rfl Try.call40 (.sel 0 rfl (.sel 0 rfl (.sel 0 rfl (.sel 0 rfl (.nil _))))) (synodref_Bytes.calls _ _ a124v c125v ((x0.getD s4v.1.toNat dz36).2.1) (he126v.lend 3 rfl) hc127v hm128v) hs130v) (fun _ => ⟨rfl, rfl, rfl, rfl, rfl, rfl, rfl, rfl, rfl, rfl, rfl, rfl, rfl, rfl, rfl, rfl, trivial⟩) (fun _ => .inr rfl) (fun z => Ent.refl _)) (ac (fun γ => eo (Z := Option Addr × Nat × HA) (fun z => (γ.1, z)) rfl rfl (.v 0 rfl rfl (.v 17 rfl rfl .nil)) (RE.lend 0 rfl (fun hq145v hq146v hq147v hq148v => RE.ent (H1 := [stars [Row 5 1 γ.1.1 s129v.length γ.1.2 (encB s129v), y5v.1], obj b1v 29 [.slice y5v.2.1 s4v.2.1.length y5v.2.2, .int .i64 s4v.2.2.1, .bool s4v.2.2.2.1, str s4v.2.2.2.2], Row 36 3 y5v.2.1 s4v.2.1.length y5v.2.2 rs101v.flatten, F]) (Ent.trans (m := [Row 5 1 γ.1.1 s129v.length γ.1.2 (encB s129v), y5v.1, obj b1v 29 [.slice y5v.2.1 s4v.2.1.length y5v.2.2, .int .i64 s4v.2.2.1, .bool s4v.2.2.2.1, str s4v.2.2.2.2], Row 36 3 y5v.2.1 s4v.2.1.length y5v.2.2 rs101v.flatten, F]) (.sel 0 rfl (.sel 2 rfl (.sel 0 rfl (.sel 0 rfl (.sel 0 rfl (.nil _)))))) (ent_pack [Row 5 1 γ.1.1 s129v.length γ.1.2 (encB s129v), y5v.1] _)) (re_call (vs := [.pointer (some ⟨b1v, 0, none⟩), .agg #[str ((x0.getD s4v.1.toNat dz36).1), .slice γ.1.1 s129v.length γ.1.2, .int .i64 ((x0.getD s4v.1.toNat dz36).2.2)]]) (cap := []) (A := [obj b1v 29 [.slice y5v.2.1 s4v.2.1.length y5v.2.2, .int .i64 s4v.2.2.1, .bool s4v.2.2.2.1, str s4v.2.2.2.2], RowV 36 3 (V36 (stars [Row 5 1 γ.1.1 s129v.length γ.1.2 (encB s129v), y5v.1])) y5v.2.1 s4v.2.1 y5v.2.2, stars [Row 5 1 γ.1.1 s129v.length γ.1.2 (encB s129v), y5v.1]]) (rst := [F]) rfl rfl rfl rfl rfl rfl Try.call39 (.sel 1 rfl (.sel' 1 rfl (RowV.mk (hl102v.mono (V36.up (Up.lend (l := [Row 5 1 γ.1.1 s129v.length γ.1.2 (encB s129v), y5v.1]) 1 rfl)))) (.sel 0 rfl (.sel 0 rfl (.nil _))))) (synodref4_Disk_put.calls _ _ k b1v y5v.2.1 y5v.2.2 s4v.2.1 (stars [Row 5 1 γ.1.1 s129v.length γ.1.2 (encB s129v), y5v.1]) s4v.2.2.1 s4v.2.2.2.1 s4v.2.2.2.2 ((x0.getD s4v.1.toNat dz36).1) γ.1.1 γ.1.2 s129v ((x0.getD s4v.1.toNat dz36).2.2) (hq145v.up (Up.lend (l := [Row 5 1 γ.1.1 s129v.length γ.1.2 (encB s129v), y5v.1]) 0 rfl)) hq146v hq147v) hs150v))) (fun _ => ⟨rfl, rfl, rfl, rfl, rfl, rfl, rfl, rfl, rfl, rfl, rfl, rfl, rfl, rfl, rfl, rfl, rfl, rfl, trivial⟩) (fun _ => .inr rfl) (fun z => Ent.refl _)) zA))
 intro g152v
 refine nrm_block (nrm_then (sim_region ?_))
 refine vm rfl rfl ?_
 refine vq (q_add rfl rfl rfl) rfl ?_
 refine va rfl rfl (simL_nil ?_)
 exact nrm_again (s := (IntKind.i64.wrap (s4v.1 + 1), s149v.1, s149v.2.1, s149v.2.2.1, s149v.2.2.2)) (g152v.2.2.2, g152v.2.1, g152v.2.2.1) ⟨rfl, rfl, rfl, trivial⟩ (.sel 0 rfl (.sel 0 rfl (.sel 0 rfl (.sel 0 rfl (.nil _)))))
 refine sim_exi ?_
 refine exi_then ?_
 refine exi_loop ?_
 refine exi_here ?_
 exact nrm_cutR (s := (s4v.2.1, s4v.2.2.1, s4v.2.2.2.1, s4v.2.2.2.2)) (y5v.1, y5v.2.1, y5v.2.2) ⟨rfl, trivial⟩ (.sel 0 rfl (.sel 0 rfl (.sel 0 rfl (.sel 0 rfl (.nil _)))))
 intro s2v y3v
 refine sim_seq (sr ?_)
 refine vm rfl rfl ?_
 refine vn rfl rfl ?_
 refine vq (q_fa rfl rfl Try.underlying29 rfl rfl Try.sizeOf27 rfl) rfl ?_
 refine vq (q_load rfl rfl Try.isAgg27 (.obj 0 rfl rfl)) rfl ?_
 refine vq (q_len rfl rfl rfl Try.underlying27) rfl ?_
 refine vq (q_gtr rfl rfl rfl) rfl ?_
 refine vm rfl rfl ?_
 refine simL_cut' 4 (S := Bool) (Unit) (fun s y => [(4, .pointer (some ⟨b1v, 0, none⟩)), (80, .bool s)]) (fun s y => [obj b1v 29 [.slice y3v.2.1 s2v.1.length y3v.2.2, .int .i64 s2v.2.1, .bool s2v.2.2.1, str s2v.2.2.2], RowV 36 3 (V36 (y3v.1)) y3v.2.1 s2v.1 y3v.2.2, y3v.1, F]) ?_ ?_
 refine simL_casep (fun hb164v => ?_) (fun hb165v => ?_)
 rw [hb164v]
 refine simL_skipd rfl rfl rfl rfl rfl rfl ?_
 refine simL_skipd rfl rfl rfl rfl rfl rfl ?_
 refine simL_skipd rfl rfl rfl rfl rfl rfl ?_
 refine vq (q_pick rfl rfl rfl rfl rfl) rfl (simL_nil ?_)
 exact nrm_cut (s := true) () ⟨rfl, rfl, trivial⟩ (.sel 0 rfl (.sel 0 rfl (.sel 0 rfl (.sel 0 rfl (.nil _)))))
 rw [hb165v]
 refine simL_valg (q_move rfl rfl) rfl rfl rfl rfl rfl rfl ?_
 refine simL_openV 1 rfl (fun rs155v hl156v => ?_)
 refine simL_bind (fun s161v hs162v => ?_)
 refine simL_lend 1 rfl (fun hq157v hq158v hq159v hq160v => ?_)
 refine simL_effg (re_call (vs := [.pointer (some ⟨b1v, 0, none⟩)]) (cap := []) (A := [obj b1v 29 [.slice y3v.2.1 s2v.1.length y3v.2.2, .int .i64 s2v.2.1, .bool s2v.2.2.1, str s2v.2.2.2]]) (rst := [Row 36 3 y3v.2.1 s2v.1.length y3v.2.2 rs155v.flatten, y3v.1, F]) rfl rfl rfl rfl rfl rfl Try.call17 (.sel 0 rfl (.sel 0 rfl (.sel 0 rfl (.sel 0 rfl (.nil _))))) (synodref4_Disk_Size.calls _ _ k b1v y3v.2.1 y3v.2.2 s2v.1 s2v.2.1 s2v.2.2.1 s2v.2.2.2 ((Rd.asV hl156v hq157v).up (Up.lend 0 rfl) (V36.up (Up.lend 1 rfl))) hq158v hq159v) hs162v) rfl rfl rfl rfl rfl rfl ?_
 intro y163v
 refine simL_valg (q_gtr rfl rfl rfl) rfl rfl rfl rfl rfl rfl ?_
 refine vq (q_pick rfl rfl rfl rfl rfl) rfl (simL_nil ?_)
 exact nrm_cut (s := decide ((16777216 : Int) < s161v)) () ⟨rfl, rfl, trivial⟩ (.sel 0 rfl (.sel' 0 rfl (RowV.mk hl156v) (.sel 0 rfl (.sel 0 rfl (.nil _)))))
 intro s153v y154v
 refine simL_nil (nrm_then ?_)
 refine sim_condb rfl (fun h166v => ?_) (fun h167v => ?_)
 refine sr ?_
 refine va rfl rfl ?_
 refine va rfl rfl (simL_nil (nrm_then (sim_rtn ?_)))
 refine rtn_then ?_
 exact rtn_fn (0, none, 0, tt) rfl rfl rfl (.when_no rfl (.sel 3 rfl (.nil _)))
 refine sim_skip ?_
 refine nrm_then (sr ?_)
 refine vm rfl rfl ?_
 refine va rfl rfl ?_
 refine va rfl rfl (simL_nil (nrm_then (sim_rtn ?_)))
 exact rtn_fn (b1v, y3v.2.1, y3v.2.2, y3v.1) rfl rfl rfl (.when_yes rfl (.sel 0 rfl (.sel 0 rfl (.sel 0 rfl (.sel 0 rfl (.nil _))))))
theorem synodref4_Load.callsT (W : World) (F : HA) (k : Nat) (a0 : Option Addr) (c0 : Nat) (x0 : List (Ty36)) (h0 : RdV F 3 (V36 F) a0 x0) (hc0 : x0.length ≤ c0) (hm0 : c0 ≤ maxLen) :
    Fn Try.prog W 31 [.slice a0 x0.length c0] [] F ((synodref4_Load.f k x0).filter fun (r : Bool × (List (Ty36)) × Int × Bool × List UInt8 × Int) => r.1 == true) (fun (r : Bool × (List (Ty36)) × Int × Bool × List UInt8 × Int) (y : Nat × Option Addr × Nat × HA) => .tuple #[.pointer (some ⟨y.1, 0, none⟩), .int .i64 r.2.2.2.2.2]) (fun r y => [obj y.1 29 [.slice y.2.1 r.2.1.length y.2.2.1, .int .i64 r.2.2.1, .bool r.2.2.2.1, str r.2.2.2.2.1], RowV 36 3 (V36 (y.2.2.2)) y.2.1 r.2.1 y.2.2.1, y.2.2.2]) :=
  Fn.when (synodref4_Load.calls W F k a0 c0 x0 h0 hc0 hm0) _ true (fun r y h => by simp only [h]; rfl) (fun r y h => (Ent.when_yo h _))
theorem synodref4_Load.callsN (W : World) (F : HA) (k : Nat) (a0 : Option Addr) (c0 : Nat) (x0 : List (Ty36)) (h0 : RdV F 3 (V36 F) a0 x0) (hc0 : x0.length ≤ c0) (hm0 : c0 ≤ maxLen) :
    Fn Try.prog W 31 [.slice a0 x0.length c0] [] F ((synodref4_Load.f k x0).filter fun (r : Bool × (List (Ty36)) × Int × Bool × List UInt8 × Int) => r.1 == false) (fun (r : Bool × (List (Ty36)) × Int × Bool × List UInt8 × Int) (y : Nat × Option Addr × Nat × HA) => .tuple #[.pointer none, .int .i64 r.2.2.2.2.2]) (fun r y => []) :=
  Fn.when (synodref4_Load.calls W F k a0 c0 x0 h0 hc0 hm0) _ false (fun r y h => by simp only [h]; rfl) (fun r y h => (Ent.when_no_ h _))

def synodref_SameFiles.l0 (x0 : List (Ty36)) (x1 : List (Ty36)) : Nat → Int → Option ((Unit) ⊕ (Bool))
  | 0, _ => none
  | k + 1, z7v => if z7v < (x0.length : Int) then (if 0 ≤ z7v ∧ z7v < (x0.length : Int) then (if 0 ≤ z7v ∧ z7v < (x1.length : Int) then ((synodref_SameBytes.f k ((x0.getD z7v.toNat dz36).2.1) ((x1.getD z7v.toNat dz36).2.1)).bind fun s36v => ((if (!s36v) = true then (some true) else (if 0 ≤ z7v ∧ z7v < (x0.length : Int) then (if 0 ≤ z7v ∧ z7v < (x1.length : Int) then (if ((x0.getD z7v.toNat dz36).1) = ((x1.getD z7v.toNat dz36).1) then (if 0 ≤ z7v ∧ z7v < (x0.length : Int) then (if 0 ≤ z7v ∧ z7v < (x1.length : Int) then (some (!decide ((x0.getD z7v.toNat dz36).2.2 = (x1.getD z7v.toNat dz36).2.2))) else none) else none) else (some true)) else none) else none)).bind fun s40v => (if s40v = true then (some (.inr false)) else (synodref_SameFiles.l0 x0 x1 k (IntKind.i64.wrap (z7v + 1)))))) else none) else none) else (some (.inl ()))
def synodref_SameFiles.f (k : Nat) (x0 : List (Ty36)) (x1 : List (Ty36)) : Option (Bool) := if (x0.length : Int) = (x1.length : Int) then (orR (synodref_SameFiles.l0 x0 x1 k 0) fun s3v => (some true)) else (some false)
theorem synodref_SameFiles.calls (W : World) (F : HA) (k : Nat) (a0 : Option Addr) (c0 : Nat) (x0 : List (Ty36)) (a1 : Option Addr) (c1 : Nat) (x1 : List (Ty36)) (h0 : RdV F 3 (V36 F) a0 x0) (hc0 : x0.length ≤ c0) (hm0 : c0 ≤ maxLen) (h1 : RdV F 3 (V36 F) a1 x1) (hc1 : x1.length ≤ c1) (hm1 : c1 ≤ maxLen) :
    Fn Try.prog W 25 [.slice a0 x0.length c0, .slice a1 x1.length c1] [] F (synodref_SameFiles.f k x0 x1) (fun (r : Bool) (y : Unit) => .bool r) (fun r y => []) := by
 unfold synodref_SameFiles.f
 refine fn_intro 57 Try.func25 rfl Try.ntmps25 rfl ?_
 refine sr ?_
 refine va rfl rfl (simL_nil (nrm_then (sim_seq (sr ?_))))
 refine vm rfl rfl ?_
 refine vq (q_len rfl rfl rfl Try.underlying27) rfl ?_
 refine vm rfl rfl ?_
 refine vq (q_len rfl rfl rfl Try.underlying27) rfl ?_
 refine vq (q_neq rfl rfl rfl) rfl (simL_nil (nrm_then ?_))
 refine sim_condn rfl (fun h1v => ?_) (fun h2v => ?_)
 refine sim_skip ?_
 refine nrm_then ?_
 refine sim_cutR (S := Unit) (Unit) (fun s y => []) (fun s y => [F]) ?_ ?_
 refine sr ?_
 refine va rfl rfl (simL_nil (nrm_then ?_))
 refine sim_block ?_
 refine sim_loop (S := Int) (Unit) (fun k s => synodref_SameFiles.l0 x0 x1 k s) (fun s y => [(0, .slice a0 x0.length c0), (1, .slice a1 x1.length c1), (5, .int .i64 s)]) (fun s y => [F]) (fun _ => by rw [synodref_SameFiles.l0]) ?_ k 0 () ⟨rfl, rfl, rfl, trivial⟩ (.sel 0 rfl (.nil _))
 intro k s5v y6v
 refine sim_eq (by rw [synodref_SameFiles.l0]) ?_
 refine sim_seq (sr ?_)
 refine vm rfl rfl ?_
 refine vm rfl rfl ?_
 refine vq (q_len rfl rfl rfl Try.underlying27) rfl ?_
 refine vq (q_lss rfl rfl rfl) rfl (simL_nil (nrm_then ?_))
 refine sim_cond rfl (fun h8v => ?_) (fun h9v => ?_)
 refine sim_skip ?_
 refine nrm_then (sim_seq ?_)
 refine sim_block ?_
 refine sim_seq ?_
 refine sim_ask (fun hi10v => ?_)
 obtain ⟨b11v, b11vo, r14v, ha12v, hV15v, hlr16v, hcell17v⟩ := RdV.pos h0 (Up.refl _) rfl (i := s5v.toNat) (by omega) dz36
 obtain ⟨a18v, c19v, rfl, ⟨he20v, hc21v, hm22v⟩⟩ := hV15v
 refine sim_ask (fun hi23v => ?_)
 obtain ⟨b24v, b24vo, r27v, ha25v, hV28v, hlr29v, hcell30v⟩ := RdV.pos h1 (Up.refl _) rfl (i := s5v.toNat) (by omega) dz36
 obtain ⟨a31v, c32v, rfl, ⟨he33v, hc34v, hm35v⟩⟩ := hV28v
 refine sim_bind (fun s36v hs37v => ?_)
 refine sim_draw (Γ := Unit) () [[], [], [0, 1], [0, 1, 2], rL 4, [], [], [5, 6], [5, 6, 7], [5, 6, 7, 8], rL 10, rL 11] [10] [0, 1, 2, 3, 4, 5, 6, 7, 8, 9, 11] (fun i => [[0], [0], [0], [0], [0], [0], [0], [0], [0], [0], [], [1]].getD i []) (fun i => [[], [], [], [], [], [], [], [], [], [], rL 10, []].getD i []) (fun γ i => [.slice a0 x0.length c0, .int .i64 s5v, .pointer (some ⟨b11v, b11vo + s5v.toNat * 3, none⟩), .pointer (some ⟨b11v, b11vo + s5v.toNat * 3 + 1, none⟩), .slice a18v (((x0.getD s5v.toNat dz36).2.1).length) c19v, .slice a1 x1.length c1, .int .i64 s5v, .pointer (some ⟨b24v, b24vo + s5v.toNat * 3, none⟩), .pointer (some ⟨b24v, b24vo + s5v.toNat * 3 + 1, none⟩), .slice a31v (((x1.getD s5v.toNat dz36).2.1).length) c32v, .bool s36v, .bool s36v].getD i undef) (fun j γ => [[F], [F]].getD j []) (fun γ => [(0, .slice a0 x0.length c0), (1, .slice a1 x1.length c1), (5, .int .i64 s5v), (6, .bool s36v)]) mixed (by decide) (by decide) (by decide) (by decide) (by decide) (by decide) (by decide) 57 rfl (by decide) (by decide) (by decide) (Ent.refl _) ?_ ?_ (fun _ => ⟨rfl, rfl, rfl, rfl, trivial⟩) ?_
 exact (aq rfl (fun γ => qm rfl (.o (s := 0) rfl (by decide) .nil) rfl) (aq rfl (fun γ => qm rfl (.o (s := 5) rfl (by decide) .nil) rfl) (aq rfl (fun γ => qp rfl rfl (.v 0 rfl rfl (.v 1 rfl rfl .nil)) (q_idx rfl rfl rfl ha12v Try.underlying27 Try.sizeOf36 hi10v.1 hi10v.2) rfl) (aq rfl (fun γ => qp rfl rfl (.v 2 rfl rfl .nil) (q_fa rfl rfl Try.underlying36 rfl rfl Try.sizeOf34 rfl) rfl) (aq rfl (fun γ => qp rfl rfl (.v 3 rfl rfl .nil) (q_load rfl rfl Try.isAgg34 (hcell17v 0 rfl 1 _ rfl)) rfl) (aq rfl (fun γ => qm rfl (.o (s := 1) rfl (by decide) .nil) rfl) (aq rfl (fun γ => qm rfl (.o (s := 5) rfl (by decide) .nil) rfl) (aq rfl (fun γ => qp rfl rfl (.v 5 rfl rfl (.v 6 rfl rfl .nil)) (q_idx rfl rfl rfl ha25v Try.underlying27 Try.sizeOf36 hi23v.1 hi23v.2) rfl) (aq rfl (fun γ => qp rfl rfl (.v 7 rfl rfl .nil) (q_fa rfl rfl Try.underlying36 rfl rfl Try.sizeOf34 rfl) rfl) (aq rfl (fun γ => qp rfl rfl (.v 8 rfl rfl .nil) (q_load rfl rfl Try.isAgg34 (hcell30v 0 rfl 1 _ rfl)) rfl) (aq rfl (fun γ => qp rfl rfl (.v 10 rfl rfl .nil) (q_asg rfl rfl) rfl) zA)))))))))))
 exact (ac (fun γ => eo (Z := Unit) (fun z => ()) rfl rfl (.v 4 rfl rfl (.v 9 rfl rfl .nil)) (re_call (vs := [.slice a18v (((x0.getD s5v.toNat dz36).2.1).length) c19v, .slice a31v (((x1.getD s5v.toNat dz36).2.1).length) c32v]) (cap := []) (A := []) (rst := [F]) rfl rfl rfl rfl rfl rfl Try.call24 (.sel 0 rfl (.nil _)) (synodref_SameBytes.calls _ _ k a18v c19v ((x0.getD s5v.toNat dz36).2.1) a31v c32v ((x1.getD s5v.toNat dz36).2.1) (he20v.lend 0 rfl) hc21v hm22v (he33v.lend 0 rfl) hc34v hm35v) hs37v) (fun _ => ⟨rfl, rfl, rfl, rfl, rfl, rfl, rfl, rfl, rfl, rfl, trivial⟩) (fun _ => .inr rfl) (fun z => Ent.refl _)) zA)
 intro g39v
 refine nrm_then ?_
 refine sim_cut (S := Bool) (Unit) (fun s y => [(0, .slice a0 x0.length c0), (1, .slice a1 x1.length c1), (5, .int .i64 s5v), (56, .bool s)]) (fun s y => [F]) ?_ ?_
 refine sim_if (fun hk42v => ?_) (fun hk42v => ?_)
 refine sim_draw (Γ := Unit) () [[], [0], [0, 1], [0, 1, 2], [0, 1, 2], rL 5, rL 6, rL 7, [0, 1, 2], [0, 1, 2], [0, 1, 2, 8, 9], [0, 1, 2, 8, 9, 10], [0, 1, 2, 8, 9, 10, 11], rL 13, rL 14, rL 15, rL 16, rL 16, rL 18, rL 19, rL 20, rL 16, rL 16, [0, 1, 2, 3, 4, 5, 6, 7, 8, 9, 10, 11, 12, 13, 14, 15, 21, 22], [0, 1, 2, 3, 4, 5, 6, 7, 8, 9, 10, 11, 12, 13, 14, 15, 21, 22, 23], [0, 1, 2, 3, 4, 5, 6, 7, 8, 9, 10, 11, 12, 13, 14, 15, 21, 22, 23, 24], rL 26, rL 27] [] [0, 1, 2, 3, 4, 5, 6, 7, 8, 9, 10, 11, 12, 13, 14, 15, 16, 17, 18, 19, 20, 21, 22, 23, 24, 25, 26, 27] (fun i => [[0], [0], [0], [0], [0], [0], [0], [0], [0], [0], [0], [0], [0], [0], [0], [0], [0], [0], [0], [0], [0], [0], [0], [0], [0], [0], [0], [0]].getD i []) (fun i => [[], [], [], [], [], [], [], [], [], [], [], [], [], [], [], [], [], [], [], [], [], [], [], [], [], [], [], []].getD i []) (fun γ i => [.bool s36v, .bool (!s36v), .bool (!s36v), undef, undef, undef, undef, undef, undef, undef, undef, undef, undef, undef, .bool true, .bool true, undef, undef, undef, undef, undef, undef, undef, undef, undef, undef, undef, .bool true].getD i undef) (fun j γ => [[F]].getD j []) (fun γ => [(0, .slice a0 x0.length c0), (1, .slice a1 x1.length c1), (5, .int .i64 s5v), (32, undef), (33, undef), (34, undef), (35, undef), (36, undef), (37, undef), (38, undef), (39, undef), (40, undef), (41, undef), (42, undef), (45, undef), (46, undef), (47, undef), (48, undef), (49, undef), (50, undef), (51, undef), (52, undef), (53, undef), (54, undef), (55, undef), (56, .bool true)]) mixed (by decide) (by decide) (by decide) (by decide) (by decide) (by decide) (by decide) 57 rfl (by decide) (by decide) (by decide) (Ent.refl _) ?_ ?_ (fun _ => ⟨rfl, rfl, rfl, rfl, rfl, rfl, rfl, rfl, rfl, rfl, rfl, rfl, rfl, rfl, rfl, rfl, rfl, rfl, rfl, rfl, rfl, rfl, rfl, rfl, rfl, rfl, trivial⟩) ?_
 exact (aq rfl (fun γ => qm rfl (.o (s := 6) rfl (by decide) .nil) rfl) (aq rfl (fun γ => qp rfl rfl (.v 0 rfl rfl .nil) (q_not rfl rfl) rfl) (aq rfl (fun γ => qm rfl (.v 1 rfl rfl .nil) rfl) (aq rfl (fun γ => qn rfl rfl (.o (s := 0) rfl (by decide) (.v 2 rfl rfl .nil)) rfl rfl (beq_yes' hk42v) rfl) (aq rfl (fun γ => qn rfl rfl (.o (s := 5) rfl (by decide) (.v 2 rfl rfl .nil)) rfl rfl (beq_yes' hk42v) rfl) (aq rfl (fun γ => qn rfl rfl (.v 2 rfl rfl (.v 3 rfl rfl (.v 4 rfl rfl .nil))) rfl rfl (beq_yes' hk42v) rfl) (aq rfl (fun γ => qn rfl rfl (.v 2 rfl rfl (.v 5 rfl rfl .nil)) rfl rfl (beq_yes' hk42v) rfl) (aq rfl (fun γ => qn rfl rfl (.v 2 rfl rfl (.v 6 rfl rfl .nil)) rfl rfl (beq_yes' hk42v) rfl) (aq rfl (fun γ => qn rfl rfl (.o (s := 1) rfl (by decide) (.v 2 rfl rfl .nil)) rfl rfl (beq_yes' hk42v) rfl) (aq rfl (fun γ => qn rfl rfl (.o (s := 5) rfl (by decide) (.v 2 rfl rfl .nil)) rfl rfl (beq_yes' hk42v) rfl) (aq rfl (fun γ => qn rfl rfl (.v 2 rfl rfl (.v 8 rfl rfl (.v 9 rfl rfl .nil))) rfl rfl (beq_yes' hk42v) rfl) (aq rfl (fun γ => qn rfl rfl (.v 2 rfl rfl (.v 10 rfl rfl .nil)) rfl rfl (beq_yes' hk42v) rfl) (aq rfl (fun γ => qn rfl rfl (.v 2 rfl rfl (.v 11 rfl rfl .nil)) rfl rfl (beq_yes' hk42v) rfl) (aq rfl (fun γ => qn rfl rfl (.v 2 rfl rfl (.v 7 rfl rfl (.v 12 rfl rfl .nil))) rfl rfl (beq_yes' hk42v) rfl) (aq rfl (fun γ => qp rfl rfl (.v 2 rfl rfl (.v 13 rfl rfl .nil)) (q_pick rfl rfl rfl rfl (bif_yes hk42v _ _)) rfl) (aq rfl (fun γ => qm rfl (.v 14 rfl rfl .nil) rfl) (aq rfl (fun γ => qn rfl rfl (.o (s := 0) rfl (by decide) (.v 15 rfl rfl .nil)) rfl rfl rfl rfl) (aq rfl (fun γ => qn rfl rfl (.o (s := 5) rfl (by decide) (.v 15 rfl rfl .nil)) rfl rfl rfl rfl) (aq rfl (fun γ => qn rfl rfl (.v 15 rfl rfl (.v 16 rfl rfl (.v 17 rfl rfl .nil))) rfl rfl rfl rfl) (aq rfl (fun γ => qn rfl rfl (.v 15 rfl rfl (.v 18 rfl rfl .nil)) rfl rfl rfl rfl) (aq rfl (fun γ => qn rfl rfl (.v 15 rfl rfl (.v 19 rfl rfl .nil)) rfl rfl rfl rfl) (aq rfl (fun γ => qn rfl rfl (.o (s := 1) rfl (by decide) (.v 15 rfl rfl .nil)) rfl rfl rfl rfl) (aq rfl (fun γ => qn rfl rfl (.o (s := 5) rfl (by decide) (.v 15 rfl rfl .nil)) rfl rfl rfl rfl) (aq rfl (fun γ => qn rfl rfl (.v 15 rfl rfl (.v 21 rfl rfl (.v 22 rfl rfl .nil))) rfl rfl rfl rfl) (aq rfl (fun γ => qn rfl rfl (.v 15 rfl rfl (.v 23 rfl rfl .nil)) rfl rfl rfl rfl) (aq rfl (fun γ => qn rfl rfl (.v 15 rfl rfl (.v 24 rfl rfl .nil)) rfl rfl rfl rfl) (aq rfl (fun γ => qn rfl rfl (.v 15 rfl rfl (.v 20 rfl rfl (.v 25 rfl rfl .nil))) rfl rfl rfl rfl) (aq rfl (fun γ => qp rfl rfl (.v 15 rfl rfl (.v 26 rfl rfl .nil)) (q_pick rfl rfl rfl rfl rfl) rfl) zA))))))))))))))))))))))))))))
 exact zA
 intro g43v
 exact nrm_cut (s := true) () ⟨rfl, rfl, rfl, rfl, trivial⟩ (.sel 0 rfl (.nil _))
 refine sim_ask (fun hi44v => ?_)
 obtain ⟨b45v, b45vo, r48v, ha46v, hV49v, hlr50v, hcell51v⟩ := RdV.pos h0 (Up.refl _) rfl (i := s5v.toNat) (by omega) dz36
 obtain ⟨a52v, c53v, rfl, ⟨he54v, hc55v, hm56v⟩⟩ := hV49v
 refine sim_ask (fun hi57v => ?_)
 obtain ⟨b58v, b58vo, r61v, ha59v, hV62v, hlr63v, hcell64v⟩ := RdV.pos h1 (Up.refl _) rfl (i := s5v.toNat) (by omega) dz36
 obtain ⟨a65v, c66v, rfl, ⟨he67v, hc68v, hm69v⟩⟩ := hV62v
 refine sim_if (fun hk70v => ?_) (fun hk70v => ?_)
 refine sim_ask (fun hi72v => ?_)
 obtain ⟨b73v, b73vo, r76v, ha74v, hV77v, hlr78v, hcell79v⟩ := RdV.pos h0 (Up.refl _) rfl (i := s5v.toNat) (by omega) dz36
 obtain ⟨a80v, c81v, rfl, ⟨he82v, hc83v, hm84v⟩⟩ := hV77v
 refine sim_ask (fun hi85v => ?_)
 obtain ⟨b86v, b86vo, r89v, ha87v, hV90v, hlr91v, hcell92v⟩ := RdV.pos h1 (Up.refl _) rfl (i := s5v.toNat) (by omega) dz36
 obtain ⟨a93v, c94v, rfl, ⟨he95v, hc96v, hm97v⟩⟩ := hV90v
 refine sim_draw (Γ := Unit) () [[], [0], [0, 1], [0, 1, 2], [0, 1, 2], rL 5, rL 6, rL 7, [0, 1, 2], [0, 1, 2], [0, 1, 2, 8, 9], [0, 1, 2, 8, 9, 10], [0, 1, 2, 8, 9, 10, 11], rL 13, rL 14, rL 15, rL 16, rL 16, rL 18, rL 19, rL 20, rL 16, rL 16, [0, 1, 2, 3, 4, 5, 6, 7, 8, 9, 10, 11, 12, 13, 14, 15, 21, 22], [0, 1, 2, 3, 4, 5, 6, 7, 8, 9, 10, 11, 12, 13, 14, 15, 21, 22, 23], [0, 1, 2, 3, 4, 5, 6, 7, 8, 9, 10, 11, 12, 13, 14, 15, 21, 22, 23, 24], rL 26, rL 27] [] [0, 1, 2, 3, 4, 5, 6, 7, 8, 9, 10, 11, 12, 13, 14, 15, 16, 17, 18, 19, 20, 21, 22, 23, 24, 25, 26, 27] (fun i => [[0], [0], [0], [0], [0], [0], [0], [0], [0], [0], [0], [0], [0], [0], [0], [0], [0], [0], [0], [0], [0], [0], [0], [0], [0], [0], [0], [0]].getD i []) (fun i => [[], [], [], [], [], [], [], [], [], [], [], [], [], [], [], [], [], [], [], [], [], [], [], [], [], [], [], []].getD i []) (fun γ i => [.bool s36v, .bool (!s36v), .bool (!s36v), .slice a0 x0.length c0, .int .i64 s5v, .pointer (some ⟨b45v, b45vo + s5v.toNat * 3, none⟩), .pointer (some ⟨b45v, b45vo + s5v.toNat * 3 + 0, none⟩), str ((x0.getD s5v.toNat dz36).1), .slice a1 x1.length c1, .int .i64 s5v, .pointer (some ⟨b58v, b58vo + s5v.toNat * 3, none⟩), .pointer (some ⟨b58v, b58vo + s5v.toNat * 3 + 0, none⟩), str ((x1.getD s5v.toNat dz36).1), .bool (!decide (((x0.getD s5v.toNat dz36).1) = ((x1.getD s5v.toNat dz36).1))), .bool (!decide (((x0.getD s5v.toNat dz36).1) = ((x1.getD s5v.toNat dz36).1))), .bool (!decide (((x0.getD s5v.toNat dz36).1) = ((x1.getD s5v.toNat dz36).1))), .slice a0 x0.length c0, .int .i64 s5v, .pointer (some ⟨b73v, b73vo + s5v.toNat * 3, none⟩), .pointer (some ⟨b73v, b73vo + s5v.toNat * 3 + 2, none⟩), .int .i64 ((x0.getD s5v.toNat dz36).2.2), .slice a1 x1.length c1, .int .i64 s5v, .pointer (some ⟨b86v, b86vo + s5v.toNat * 3, none⟩), .pointer (some ⟨b86v, b86vo + s5v.toNat * 3 + 2, none⟩), .int .i64 ((x1.getD s5v.toNat dz36).2.2), .bool (!decide ((x0.getD s5v.toNat dz36).2.2 = (x1.getD s5v.toNat dz36).2.2)), .bool (!decide ((x0.getD s5v.toNat dz36).2.2 = (x1.getD s5v.toNat dz36).2.2))].getD i undef) (fun j γ => [[F]].getD j []) (fun γ => [(0, .slice a0 x0.length c0), (1, .slice a1 x1.length c1), (5, .int .i64 s5v), (32, .slice a0 x0.length c0), (33, .int .i64 s5v), (34, .pointer (some ⟨b45v, b45vo + s5v.toNat * 3, none⟩)), (35, .pointer (some ⟨b45v, b45vo + s5v.toNat * 3 + 0, none⟩)), (36, str ((x0.getD s5v.toNat dz36).1)), (37, .slice a1 x1.length c1), (38, .int .i64 s5v), (39, .pointer (some ⟨b58v, b58vo + s5v.toNat * 3, none⟩)), (40, .pointer (some ⟨b58v, b58vo + s5v.toNat * 3 + 0, none⟩)), (41, str ((x1.getD s5v.toNat dz36).1)), (42, .bool (!decide (((x0.getD s5v.toNat dz36).1) = ((x1.getD s5v.toNat dz36).1)))), (45, .slice a0 x0.length c0), (46, .int .i64 s5v), (47, .pointer (some ⟨b73v, b73vo + s5v.toNat * 3, none⟩)), (48, .pointer (some ⟨b73v, b73vo + s5v.toNat * 3 + 2, none⟩)), (49, .int .i64 ((x0.getD s5v.toNat dz36).2.2)), (50, .slice a1 x1.length c1), (51, .int .i64 s5v), (52, .pointer (some ⟨b86v, b86vo + s5v.toNat * 3, none⟩)), (53, .pointer (some ⟨b86v, b86vo + s5v.toNat * 3 + 2, none⟩)), (54, .int .i64 ((x1.getD s5v.toNat dz36).2.2)), (55, .bool (!decide ((x0.getD s5v.toNat dz36).2.2 = (x1.getD s5v.toNat dz36).2.2))), (56, .bool (!decide ((x0.getD s5v.toNat dz36).2.2 = (x1.getD s5v.toNat dz36).2.2)))]) mixed (by decide) (by decide) (by decide) (by decide) (by decide) (by decide) (by decide) 57 rfl (by decide) (by decide) (by decide) (Ent.refl _) ?_ ?_ (fun _ => ⟨rfl, rfl, rfl, rfl, rfl, rfl, rfl, rfl, rfl, rfl, rfl, rfl, rfl, rfl, rfl, rfl, rfl, rfl, rfl, rfl, rfl, rfl, rfl, rfl, rfl, rfl, trivial⟩) ?_
 exact (aq rfl (fun γ => qm rfl (.o (s := 6) rfl (by decide) .nil) rfl) (aq rfl (fun γ => qp rfl rfl (.v 0 rfl rfl .nil) (q_not rfl rfl) rfl) (aq rfl (fun γ => qm rfl (.v 1 rfl rfl .nil) rfl) (aq rfl (fun γ => qy rfl rfl (.o (s := 0) rfl (by decide) (.v 2 rfl rfl .nil)) rfl rfl (beq_no (eq_false_of_ne_true hk42v)) (q_move rfl rfl) rfl) (aq rfl (fun γ => qy rfl rfl (.o (s := 5) rfl (by decide) (.v 2 rfl rfl .nil)) rfl rfl (beq_no (eq_false_of_ne_true hk42v)) (q_move rfl rfl) rfl) (aq rfl (fun γ => qy rfl rfl (.v 2 rfl rfl (.v 3 rfl rfl (.v 4 rfl rfl .nil))) rfl rfl (beq_no (eq_false_of_ne_true hk42v)) (q_idx rfl rfl rfl ha46v Try.underlying27 Try.sizeOf36 hi44v.1 hi44v.2) rfl) (aq rfl (fun γ => qy rfl rfl (.v 2 rfl rfl (.v 5 rfl rfl .nil)) rfl rfl (beq_no (eq_false_of_ne_true hk42v)) (q_fa rfl rfl Try.underlying36 rfl rfl Try.sizeOf9 rfl) rfl) (aq rfl (fun γ => qy rfl rfl (.v 2 rfl rfl (.v 6 rfl rfl .nil)) rfl rfl (beq_no (eq_false_of_ne_true hk42v)) (q_load rfl rfl Try.isAgg9 (hcell51v 0 rfl 0 _ rfl)) rfl) (aq rfl (fun γ => qy rfl rfl (.o (s := 1) rfl (by decide) (.v 2 rfl rfl .nil)) rfl rfl (beq_no (eq_false_of_ne_true hk42v)) (q_move rfl rfl) rfl) (aq rfl (fun γ => qy rfl rfl (.o (s := 5) rfl (by decide) (.v 2 rfl rfl .nil)) rfl rfl (beq_no (eq_false_of_ne_true hk42v)) (q_move rfl rfl) rfl) (aq rfl (fun γ => qy rfl rfl (.v 2 rfl rfl (.v 8 rfl rfl (.v 9 rfl rfl .nil))) rfl rfl (beq_no (eq_false_of_ne_true hk42v)) (q_idx rfl rfl rfl ha59v Try.underlying27 Try.sizeOf36 hi57v.1 hi57v.2) rfl) (aq rfl (fun γ => qy rfl rfl (.v 2 rfl rfl (.v 10 rfl rfl .nil)) rfl rfl (beq_no (eq_false_of_ne_true hk42v)) (q_fa rfl rfl Try.underlying36 rfl rfl Try.sizeOf9 rfl) rfl) (aq rfl (fun γ => qy rfl rfl (.v 2 rfl rfl (.v 11 rfl rfl .nil)) rfl rfl (beq_no (eq_false_of_ne_true hk42v)) (q_load rfl rfl Try.isAgg9 (hcell64v 0 rfl 0 _ rfl)) rfl) (aq rfl (fun γ => qy rfl rfl (.v 2 rfl rfl (.v 7 rfl rfl (.v 12 rfl rfl .nil))) rfl rfl (beq_no (eq_false_of_ne_true hk42v)) (q_nes rfl rfl rfl) rfl) (aq rfl (fun γ => qp rfl rfl (.v 2 rfl rfl (.v 13 rfl rfl .nil)) (q_pick rfl rfl rfl rfl (bif_no (eq_false_of_ne_true hk42v) _ _)) rfl) (aq rfl (fun γ => qm rfl (.v 14 rfl rfl .nil) rfl) (aq rfl (fun γ => qy rfl rfl (.o (s := 0) rfl (by decide) (.v 15 rfl rfl .nil)) rfl rfl (beq_no (ndec_no hk70v)) (q_move rfl rfl) rfl) (aq rfl (fun γ => qy rfl rfl (.o (s := 5) rfl (by decide) (.v 15 rfl rfl .nil)) rfl rfl (beq_no (ndec_no hk70v)) (q_move rfl rfl) rfl) (aq rfl (fun γ => qy rfl rfl (.v 15 rfl rfl (.v 16 rfl rfl (.v 17 rfl rfl .nil))) rfl rfl (beq_no (ndec_no hk70v)) (q_idx rfl rfl rfl ha74v Try.underlying27 Try.sizeOf36 hi72v.1 hi72v.2) rfl) (aq rfl (fun γ => qy rfl rfl (.v 15 rfl rfl (.v 18 rfl rfl .nil)) rfl rfl (beq_no (ndec_no hk70v)) (q_fa rfl rfl Try.underlying36 rfl rfl Try.sizeOf3 rfl) rfl) (aq rfl (fun γ => qy rfl rfl (.v 15 rfl rfl (.v 19 rfl rfl .nil)) rfl rfl (beq_no (ndec_no hk70v)) (q_load rfl rfl Try.isAgg3 (hcell79v 0 rfl 2 _ rfl)) rfl) (aq rfl (fun γ => qy rfl rfl (.o (s := 1) rfl (by decide) (.v 15 rfl rfl .nil)) rfl rfl (beq_no (ndec_no hk70v)) (q_move rfl rfl) rfl) (aq rfl (fun γ => qy rfl rfl (.o (s := 5) rfl (by decide) (.v 15 rfl rfl .nil)) rfl rfl (beq_no (ndec_no hk70v)) (q_move rfl rfl) rfl) (aq rfl (fun γ => qy rfl rfl (.v 15 rfl rfl (.v 21 rfl rfl (.v 22 rfl rfl .nil))) rfl rfl (beq_no (ndec_no hk70v)) (q_idx rfl rfl rfl ha87v Try.underlying27 Try.sizeOf36 hi85v.1 hi85v.2) rfl) (aq rfl (fun γ => qy rfl rfl (.v 15 rfl rfl (.v 23 rfl rfl .nil)) rfl rfl (beq_no (ndec_no hk70v)) (q_fa rfl rfl Try.underlying36 rfl rfl Try.sizeOf3 rfl) rfl) (aq rfl (fun γ => qy rfl rfl (.v 15 rfl rfl (.v 24 rfl rfl .nil)) rfl rfl (beq_no (ndec_no hk70v)) (q_load rfl rfl Try.isAgg3 (hcell92v 0 rfl 2 _ rfl)) rfl) (aq rfl (fun γ => qy rfl rfl (.v 15 rfl rfl (.v 20 rfl rfl (.v 25 rfl rfl .nil))) rfl rfl (beq_no (ndec_no hk70v)) (q_neq rfl rfl rfl) rfl) (aq rfl (fun γ => qp rfl rfl (.v 15 rfl rfl (.v 26 rfl rfl .nil)) (q_pick rfl rfl rfl rfl (bif_no (ndec_no hk70v) _ _)) rfl) zA))))))))))))))))))))))))))))
 exact zA
 intro g98v
 exact nrm_cut (s := !decide ((x0.getD s5v.toNat dz36).2.2 = (x1.getD s5v.toNat dz36).2.2)) () ⟨rfl, rfl, rfl, rfl, trivial⟩ (.sel 0 rfl (.nil _))
 refine sim_draw (Γ := Unit) () [[], [0], [0, 1], [0, 1, 2], [0, 1, 2], rL 5, rL 6, rL 7, [0, 1, 2], [0, 1, 2], [0, 1, 2, 8, 9], [0, 1, 2, 8, 9, 10], [0, 1, 2, 8, 9, 10, 11], rL 13, rL 14, rL 15, rL 16, rL 16, rL 18, rL 19, rL 20, rL 16, rL 16, [0, 1, 2, 3, 4, 5, 6, 7, 8, 9, 10, 11, 12, 13, 14, 15, 21, 22], [0, 1, 2, 3, 4, 5, 6, 7, 8, 9, 10, 11, 12, 13, 14, 15, 21, 22, 23], [0, 1, 2, 3, 4, 5, 6, 7, 8, 9, 10, 11, 12, 13, 14, 15, 21, 22, 23, 24], rL 26, rL 27] [] [0, 1, 2, 3, 4, 5, 6, 7, 8, 9, 10, 11, 12, 13, 14, 15, 16, 17, 18, 19, 20, 21, 22, 23, 24, 25, 26, 27] (fun i => [[0], [0], [0], [0], [0], [0], [0], [0], [0], [0], [0], [0], [0], [0], [0], [0], [0], [0], [0], [0], [0], [0], [0], [0], [0], [0], [0], [0]].getD i []) (fun i => [[], [], [], [], [], [], [], [], [], [], [], [], [], [], [], [], [], [], [], [], [], [], [], [], [], [], [], []].getD i []) (fun γ i => [.bool s36v, .bool (!s36v), .bool (!s36v), .slice a0 x0.length c0, .int .i64 s5v, .pointer (some ⟨b45v, b45vo + s5v.toNat * 3, none⟩), .pointer (some ⟨b45v, b45vo + s5v.toNat * 3 + 0, none⟩), str ((x0.getD s5v.toNat dz36).1), .slice a1 x1.length c1, .int .i64 s5v, .pointer (some ⟨b58v, b58vo + s5v.toNat * 3, none⟩), .pointer (some ⟨b58v, b58vo + s5v.toNat * 3 + 0, none⟩), str ((x1.getD s5v.toNat dz36).1), .bool (!decide (((x0.getD s5v.toNat dz36).1) = ((x1.getD s5v.toNat dz36).1))), .bool (!decide (((x0.getD s5v.toNat dz36).1) = ((x1.getD s5v.toNat dz36).1))), .bool (!decide (((x0.getD s5v.toNat dz36).1) = ((x1.getD s5v.toNat dz36).1))), undef, undef, undef, undef, undef, undef, undef, undef, undef, undef, undef, .bool true].getD i undef) (fun j γ => [[F]].getD j []) (fun γ => [(0, .slice a0 x0.length c0), (1, .slice a1 x1.length c1), (5, .int .i64 s5v), (32, .slice a0 x0.length c0), (33, .int .i64 s5v), (34, .pointer (some ⟨b45v, b45vo + s5v.toNat * 3, none⟩)), (35, .pointer (some ⟨b45v, b45vo + s5v.toNat * 3 + 0, none⟩)), (36, str ((x0.getD s5v.toNat dz36).1)), (37, .slice a1 x1.length c1), (38, .int .i64 s5v), (39, .pointer (some ⟨b58v, b58vo + s5v.toNat * 3, none⟩)), (40, .pointer (some ⟨b58v, b58vo + s5v.toNat * 3 + 0, none⟩)), (41, str ((x1.getD s5v.toNat dz36).1)), (42, .bool (!decide (((x0.getD s5v.toNat dz36).1) = ((x1.getD s5v.toNat dz36).1)))), (45, undef), (46, undef), (47, undef), (48, undef), (49, undef), (50, undef), (51, undef), (52, undef), (53, undef), (54, undef), (55, undef), (56, .bool true)]) mixed (by decide) (by decide) (by decide) (by decide) (by decide) (by decide) (by decide) 57 rfl (by decide) (by decide) (by decide) (Ent.refl _) ?_ ?_ (fun _ => ⟨rfl, rfl, rfl, rfl, rfl, rfl, rfl, rfl, rfl, rfl, rfl, rfl, rfl, rfl, rfl, rfl, rfl, rfl, rfl, rfl, rfl, rfl, rfl, rfl, rfl, rfl, trivial⟩) ?_
 exact (aq rfl (fun γ => qm rfl (.o (s := 6) rfl (by decide) .nil) rfl) (aq rfl (fun γ => qp rfl rfl (.v 0 rfl rfl .nil) (q_not rfl rfl) rfl) (aq rfl (fun γ => qm rfl (.v 1 rfl rfl .nil) rfl) (aq rfl (fun γ => qy rfl rfl (.o (s := 0) rfl (by decide) (.v 2 rfl rfl .nil)) rfl rfl (beq_no (eq_false_of_ne_true hk42v)) (q_move rfl rfl) rfl) (aq rfl (fun γ => qy rfl rfl (.o (s := 5) rfl (by decide) (.v 2 rfl rfl .nil)) rfl rfl (beq_no (eq_false_of_ne_true hk42v)) (q_move rfl rfl) rfl) (aq rfl (fun γ => qy rfl rfl (.v 2 rfl rfl (.v 3 rfl rfl (.v 4 rfl rfl .nil))) rfl rfl (beq_no (eq_false_of_ne_true hk42v)) (q_idx rfl rfl rfl ha46v Try.underlying27 Try.sizeOf36 hi44v.1 hi44v.2) rfl) (aq rfl (fun γ => qy rfl rfl (.v 2 rfl rfl (.v 5 rfl rfl .nil)) rfl rfl (beq_no (eq_false_of_ne_true hk42v)) (q_fa rfl rfl Try.underlying36 rfl rfl Try.sizeOf9 rfl) rfl) (aq rfl (fun γ => qy rfl rfl (.v 2 rfl rfl (.v 6 rfl rfl .nil)) rfl rfl (beq_no (eq_false_of_ne_true hk42v)) (q_load rfl rfl Try.isAgg9 (hcell51v 0 rfl 0 _ rfl)) rfl) (aq rfl (fun γ => qy rfl rfl (.o (s := 1) rfl (by decide) (.v 2 rfl rfl .nil)) rfl rfl (beq_no (eq_false_of_ne_true hk42v)) (q_move rfl rfl) rfl) (aq rfl (fun γ => qy rfl rfl (.o (s := 5) rfl (by decide) (.v 2 rfl rfl .nil)) rfl rfl (beq_no (eq_false_of_ne_true hk42v)) (q_move rfl rfl) rfl) (aq rfl (fun γ => qy rfl rfl (.v 2 rfl rfl (.v 8 rfl rfl (.v 9 rfl rfl .nil))) rfl rfl (beq_no (eq_false_of_ne_true hk42v)) (q_idx rfl rfl rfl ha59v Try.underlying27 Try.sizeOf36 hi57v.1 hi57v.2) rfl) (aq rfl (fun γ => qy rfl rfl (.v 2 rfl rfl (.v 10 rfl rfl .nil)) rfl rfl (beq_no (eq_false_of_ne_true hk42v)) (q_fa rfl rfl Try.underlying36 rfl rfl Try.sizeOf9 rfl) rfl) (aq rfl (fun γ => qy rfl rfl (.v 2 rfl rfl (.v 11 rfl rfl .nil)) rfl rfl (beq_no (eq_false_of_ne_true hk42v)) (q_load rfl rfl Try.isAgg9 (hcell64v 0 rfl 0 _ rfl)) rfl) (aq rfl (fun γ => qy rfl rfl (.v 2 rfl rfl (.v 7 rfl rfl (.v 12 rfl rfl .nil))) rfl rfl (beq_no (eq_false_of_ne_true hk42v)) (q_nes rfl rfl rfl) rfl) (aq rfl (fun γ => qp rfl rfl (.v 2 rfl rfl (.v 13 rfl rfl .nil)) (q_pick rfl rfl rfl rfl (bif_no (eq_false_of_ne_true hk42v) _ _)) rfl) (aq rfl (fun γ => qm rfl (.v 14 rfl rfl .nil) rfl) (aq rfl (fun γ => qn rfl rfl (.o (s := 0) rfl (by decide) (.v 15 rfl rfl .nil)) rfl rfl (beq_yes' (ndec_yes hk70v)) rfl) (aq rfl (fun γ => qn rfl rfl (.o (s := 5) rfl (by decide) (.v 15 rfl rfl .nil)) rfl rfl (beq_yes' (ndec_yes hk70v)) rfl) (aq rfl (fun γ => qn rfl rfl (.v 15 rfl rfl (.v 16 rfl rfl (.v 17 rfl rfl .nil))) rfl rfl (beq_yes' (ndec_yes hk70v)) rfl) (aq rfl (fun γ => qn rfl rfl (.v 15 rfl rfl (.v 18 rfl rfl .nil)) rfl rfl (beq_yes' (ndec_yes hk70v)) rfl) (aq rfl (fun γ => qn rfl rfl (.v 15 rfl rfl (.v 19 rfl rfl .nil)) rfl rfl (beq_yes' (ndec_yes hk70v)) rfl) (aq rfl (fun γ => qn rfl rfl (.o (s := 1) rfl (by decide) (.v 15 rfl rfl .nil)) rfl rfl (beq_yes' (ndec_yes hk70v)) rfl) (aq rfl (fun γ => qn rfl rfl (.o (s := 5) rfl (by decide) (.v 15 rfl rfl .nil)) rfl rfl (beq_yes' (ndec_yes hk70v)) rfl) (aq rfl (fun γ => qn rfl rfl (.v 15 rfl rfl (.v 21 rfl rfl (.v 22 rfl rfl .nil))) rfl rfl (beq_yes' (ndec_yes hk70v)) rfl) (aq rfl (fun γ => qn rfl rfl (.v 15 rfl rfl (.v 23 rfl rfl .nil)) rfl rfl (beq_yes' (ndec_yes hk70v)) rfl) (aq rfl (fun γ => qn rfl rfl (.v 15 rfl rfl (.v 24 rfl rfl .nil)) rfl rfl (beq_yes' (ndec_yes hk70v)) rfl) (aq rfl (fun γ => qn rfl rfl (.v 15 rfl rfl (.v 20 rfl rfl (.v 25 rfl rfl .nil))) rfl rfl (beq_yes' (ndec_yes hk70v)) rfl) (aq rfl (fun γ => qp rfl rfl (.v 15 rfl rfl (.v 26 rfl rfl .nil)) (q_pick rfl rfl rfl rfl (bif_yes (ndec_yes hk70v) _ _)) rfl) zA))))))))))))))))))))))))))))
 exact zA
 intro g71v
 exact nrm_cut (s := true) () ⟨rfl, rfl, rfl, rfl, trivial⟩ (.sel 0 rfl (.nil _))
 intro s40v y41v
 refine sim_condb rfl (fun h99v => ?_) (fun h100v => ?_)
 refine sr ?_
 refine va rfl rfl (simL_nil (nrm_then (sim_rtn ?_)))
 refine rtn_block ?_
 refine rtn_then ?_
 refine rtn_loop ?_
 refine rtn_block ?_
 refine rtn_cutR ?_
 exact rtn_fn () rfl rfl rfl (.sel 0 rfl (.nil _))
 refine sim_skip ?_
 refine nrm_block (nrm_then (sim_region ?_))
 refine vm rfl rfl ?_
 refine vq (q_add rfl rfl rfl) rfl ?_
 refine va rfl rfl (simL_nil ?_)
 exact nrm_again (s := IntKind.i64.wrap (s5v + 1)) () ⟨rfl, rfl, rfl, trivial⟩ (.sel 0 rfl (.nil _))
 refine sim_exi ?_
 refine exi_then ?_
 refine exi_loop ?_
 refine exi_here ?_
 exact nrm_cutR (s := ()) () trivial (.sel 0 rfl (.nil _))
 intro s3v y4v
 refine sr ?_
 refine va rfl rfl (simL_nil (nrm_then (sim_rtn ?_)))
 exact rtn_fn () rfl rfl rfl (.sel 0 rfl (.nil _))
 refine sr ?_
 refine va rfl rfl (simL_nil (nrm_then (sim_rtn ?_)))
 refine rtn_then ?_
 exact rtn_fn () rfl rfl rfl (.sel 0 rfl (.nil _))

def synodref4_Disk_List.l0 (x0_0 : List (Ty36)) : Nat → List (List UInt8) → Int → Option (List (List UInt8))
  | 0, _, _ => none
  | k + 1, z5v, z6v => if z6v < (x0_0.length : Int) then (if 0 ≤ z6v ∧ z6v < (x0_0.length : Int) then (if (z5v.length + ([(x0_0.getD z6v.toNat dz36).1] : List (List UInt8)).length) * 16 ≤ 140737488355328 then (synodref4_Disk_List.l0 x0_0 k (z5v ++ ([(x0_0.getD z6v.toNat dz36).1] : List (List UInt8))) (IntKind.i64.wrap (z6v + 1))) else none) else none) else (some z5v)
def synodref4_Disk_List.f (k : Nat) (x0_0 : List (Ty36)) (x0_1 : Int) (x0_2 : Bool) (x0_3 : List UInt8) : Option (List (List UInt8)) := (synodref4_Disk_List.l0 x0_0 k ([] : List (List UInt8)) 0).bind fun s1v => (some s1v)
theorem synodref4_Disk_List.calls (W : World) (F : HA) (k : Nat) (b0 : Nat) (a0_0 : Option Addr) (c0_0 : Nat) (x0_0 : List (Ty36)) (x0_1 : Int) (x0_2 : Bool) (x0_3 : List UInt8) (h0_0 : RdV F 3 (V36 F) a0_0 x0_0) (hc0_0 : x0_0.length ≤ c0_0) (hm0_0 : c0_0 ≤ maxLen) :
    Fn Try.prog W 58 [.pointer (some ⟨b0, 0, none⟩)] [obj b0 29 [.slice a0_0 x0_0.length c0_0, .int .i64 x0_1, .bool x0_2, str x0_3]] F (synodref4_Disk_List.f k x0_0 x0_1 x0_2 x0_3) (fun (r : List (List UInt8)) (y : Option Addr × Nat) => .slice y.1 r.length y.2) (fun r y => [RowV 9 1 (V9 tt) y.1 r y.2, obj b0 29 [.slice a0_0 x0_0.length c0_0, .int .i64 x0_1, .bool x0_2, str x0_3]]) := by
 unfold synodref4_Disk_List.f
 refine fn_intro 26 Try.func58 rfl Try.ntmps58 rfl ?_
 refine sr ?_
 refine va rfl rfl (nx ?_)
 refine va rfl rfl (simL_nil (nrm_then ?_))
 refine sim_cut (S := List (List UInt8)) (Option Addr × Nat) (fun s y => [(3, .slice y.1 s.length y.2)]) (fun s y => [obj b0 29 [.slice a0_0 x0_0.length c0_0, .int .i64 x0_1, .bool x0_2, str x0_3], RowV 9 1 (V9 tt) y.1 s y.2, F]) ?_ ?_
 refine sr ?_
 refine va rfl rfl (simL_nil (nrm_then ?_))
 refine sim_block ?_
 refine sim_loop (S := List (List UInt8) × Int) (Option Addr × Nat) (fun k s => synodref4_Disk_List.l0 x0_0 k s.1 s.2) (fun s y => [(0, .pointer (some ⟨b0, 0, none⟩)), (3, .slice y.1 s.1.length y.2), (4, .int .i64 s.2)]) (fun s y => [obj b0 29 [.slice a0_0 x0_0.length c0_0, .int .i64 x0_1, .bool x0_2, str x0_3], RowV 9 1 (V9 tt) y.1 s.1 y.2, F]) (fun _ => by rw [synodref4_Disk_List.l0]) ?_ k (([] : List (List UInt8)), 0) (none, 0) ⟨rfl, rfl, rfl, trivial⟩ (.sel 0 rfl (.rowV_nil (.sel 0 rfl (.nil _))))
 intro k s3v y4v
 refine sim_eq (by rw [synodref4_Disk_List.l0]) ?_
 refine sim_seq (sr ?_)
 refine vm rfl rfl ?_
 refine vm rfl rfl ?_
 refine vn rfl rfl ?_
 refine vq (q_fa rfl rfl Try.underlying29 rfl rfl Try.sizeOf27 rfl) rfl ?_
 refine vq (q_load rfl rfl Try.isAgg27 (.obj 0 rfl rfl)) rfl ?_
 refine vq (q_len rfl rfl rfl Try.underlying27) rfl ?_
 refine vq (q_lss rfl rfl rfl) rfl (simL_nil (nrm_then ?_))
 refine sim_cond rfl (fun h7v => ?_) (fun h8v => ?_)
 refine sim_skip ?_
 refine nrm_then (sim_seq ?_)
 refine sim_block ?_
 refine sim_region ?_
 refine vm rfl rfl ?_
 refine vm rfl rfl ?_
 refine vn rfl rfl ?_
 refine vq (q_fa rfl rfl Try.underlying29 rfl rfl Try.sizeOf27 rfl) rfl ?_
 refine vq (q_load rfl rfl Try.isAgg27 (.obj 0 rfl rfl)) rfl ?_
 refine vm rfl rfl ?_
 refine simL_ask (fun hi9v => ?_)
 obtain ⟨b10v, b10vo, r13v, ha11v, hV14v, hlr15v, hcell16v⟩ := RdV.pos h0_0 (Up.refl _) rfl (i := s3v.2.toNat) (by omega) dz36
 obtain ⟨a17v, c18v, rfl, ⟨he19v, hc20v, hm21v⟩⟩ := hV14v
 refine vq (q_idx rfl rfl rfl ha11v Try.underlying27 Try.sizeOf36 hi9v.1 hi9v.2) rfl ?_
 refine vq (q_fa rfl rfl Try.underlying36 rfl rfl Try.sizeOf9 rfl) rfl ?_
 refine vq (q_load rfl rfl Try.isAgg9 (hcell16v 2 rfl 0 _ rfl)) rfl ?_
 have hlb23v : ListV 1 (V9 tt) ([(x0_0.getD s3v.2.toNat dz36).1] : List (List UInt8)) [[str ((x0_0.getD s3v.2.toNat dz36).1)]] := ⟨⟨rfl, one_of (by rfl), rfl⟩, trivial⟩
 refine simL_eff (re_litV (V := (V9 tt)) (xs := ([(x0_0.getD s3v.2.toNat dz36).1] : List (List UInt8))) [[str ((x0_0.getD s3v.2.toNat dz36).1)]] rfl rfl Try.underlying22 elt9 rfl (by kernel_rfl) rfl hlb23v rfl rfl) rfl rfl rfl ?_
 intro b23v
 refine simL_openV 2 rfl (fun rs28v hl29v => ?_)
 refine simL_ask (fun hb27v => ?_)
 refine simL_eff (re_appendV 2 rfl rfl rfl Try.underlying22 elt9 rfl hl29v (RdsV.row hlb23v 0 rfl) hb27v) rfl rfl rfl ?_
 intro y26v
 refine va rfl rfl (simL_nil (nrm_block (nrm_then (sim_region ?_))))
 refine vm rfl rfl ?_
 refine vq (q_add rfl rfl rfl) rfl ?_
 refine va rfl rfl (simL_nil ?_)
 exact nrm_again (s := (s3v.1 ++ ([(x0_0.getD s3v.2.toNat dz36).1] : List (List UInt8)), IntKind.i64.wrap (s3v.2 + 1))) (y26v.1, y26v.2) ⟨rfl, rfl, rfl, trivial⟩ (.sel 1 rfl (.sel 1 rfl (.sel 1 rfl (.nil _))))
 refine sim_exi ?_
 refine exi_then ?_
 refine exi_loop ?_
 refine exi_here ?_
 exact nrm_cut (s := s3v.1) (y4v.1, y4v.2) ⟨rfl, trivial⟩ (.sel 0 rfl (.sel 0 rfl (.sel 0 rfl (.nil _))))
 intro s1v y2v
 refine sr ?_
 refine vm rfl rfl ?_
 refine va rfl rfl (simL_nil (nrm_then (sim_rtn ?_)))
 exact rtn_fn (y2v.1, y2v.2) rfl rfl rfl (.sel 1 rfl (.sel 0 rfl (.sel 0 rfl (.nil _))))

def synodref_SameTexts.l0 (x0 : List (List UInt8)) (x1 : List (List UInt8)) : Nat → Int → Option ((Unit) ⊕ (Bool))
  | 0, _ => none
  | k + 1, z7v => if z7v < (x0.length : Int) then (if 0 ≤ z7v ∧ z7v < (x0.length : Int) then (if 0 ≤ z7v ∧ z7v < (x1.length : Int) then (if (x0.getD z7v.toNat ([] : List UInt8)) = (x1.getD z7v.toNat ([] : List UInt8)) then (synodref_SameTexts.l0 x0 x1 k (IntKind.i64.wrap (z7v + 1))) else (some (.inr false))) else none) else none) else (some (.inl ()))
def synodref_SameTexts.f (k : Nat) (x0 : List (List UInt8)) (x1 : List (List UInt8)) : Option (Bool) := if (x0.length : Int) = (x1.length : Int) then (orR (synodref_SameTexts.l0 x0 x1 k 0) fun s3v => (some true)) else (some false)
theorem synodref_SameTexts.calls (W : World) (F : HA) (k : Nat) (a0 : Option Addr) (c0 : Nat) (x0 : List (List UInt8)) (a1 : Option Addr) (c1 : Nat) (x1 : List (List UInt8)) (h0 : RdV F 1 (V9 tt) a0 x0) (hc0 : x0.length ≤ c0) (hm0 : c0 ≤ maxLen) (h1 : RdV F 1 (V9 tt) a1 x1) (hc1 : x1.length ≤ c1) (hm1 : c1 ≤ maxLen) :
    Fn Try.prog W 57 [.slice a0 x0.length c0, .slice a1 x1.length c1] [] F (synodref_SameTexts.f k x0 x1) (fun (r : Bool) (y : Unit) => .bool r) (fun r y => []) := by
 unfold synodref_SameTexts.f
 refine fn_intro 26 Try.func57 rfl Try.ntmps57 rfl ?_
 refine sr ?_
 refine va rfl rfl (simL_nil (nrm_then (sim_seq (sr ?_))))
 refine vm rfl rfl ?_
 refine vq (q_len rfl rfl rfl Try.underlying22) rfl ?_
 refine vm rfl rfl ?_
 refine vq (q_len rfl rfl rfl Try.underlying22) rfl ?_
 refine vq (q_neq rfl rfl rfl) rfl (simL_nil (nrm_then ?_))
 refine sim_condn rfl (fun h1v => ?_) (fun h2v => ?_)
 refine sim_skip ?_
 refine nrm_then ?_
 refine sim_cutR (S := Unit) (Unit) (fun s y => []) (fun s y => [F]) ?_ ?_
 refine sr ?_
 refine va rfl rfl (simL_nil (nrm_then ?_))
 refine sim_block ?_
 refine sim_loop (S := Int) (Unit) (fun k s => synodref_SameTexts.l0 x0 x1 k s) (fun s y => [(0, .slice a0 x0.length c0), (1, .slice a1 x1.length c1), (5, .int .i64 s)]) (fun s y => [F]) (fun _ => by rw [synodref_SameTexts.l0]) ?_ k 0 () ⟨rfl, rfl, rfl, trivial⟩ (.sel 0 rfl (.nil _))
 intro k s5v y6v
 refine sim_eq (by rw [synodref_SameTexts.l0]) ?_
 refine sim_seq (sr ?_)
 refine vm rfl rfl ?_
 refine vm rfl rfl ?_
 refine vq (q_len rfl rfl rfl Try.underlying22) rfl ?_
 refine vq (q_lss rfl rfl rfl) rfl (simL_nil (nrm_then ?_))
 refine sim_cond rfl (fun h8v => ?_) (fun h9v => ?_)
 refine sim_skip ?_
 refine nrm_then (sim_seq ?_)
 refine sim_block ?_
 refine sim_seq ?_
 refine sim_ask (fun hi10v => ?_)
 obtain ⟨b11v, b11vo, r14v, ha12v, hV15v, hlr16v, hcell17v⟩ := RdV.pos h0 (Up.refl _) rfl (i := s5v.toNat) (by omega) ([] : List UInt8)
 obtain rfl := hV15v
 refine sim_ask (fun hi18v => ?_)
 obtain ⟨b19v, b19vo, r22v, ha20v, hV23v, hlr24v, hcell25v⟩ := RdV.pos h1 (Up.refl _) rfl (i := s5v.toNat) (by omega) ([] : List UInt8)
 obtain rfl := hV23v
 refine sim_draw (Γ := Unit) () [[], [], [0, 1], [0, 1, 2], [], [], [4, 5], [4, 5, 6], rL 8] [] [0, 1, 2, 3, 4, 5, 6, 7, 8] (fun i => [[0], [0], [0], [0], [0], [0], [0], [0], [0]].getD i []) (fun i => [[], [], [], [], [], [], [], [], []].getD i []) (fun γ i => [.slice a0 x0.length c0, .int .i64 s5v, .pointer (some ⟨b11v, b11vo + s5v.toNat * 1, none⟩), str (x0.getD s5v.toNat ([] : List UInt8)), .slice a1 x1.length c1, .int .i64 s5v, .pointer (some ⟨b19v, b19vo + s5v.toNat * 1, none⟩), str (x1.getD s5v.toNat ([] : List UInt8)), .bool (!decide ((x0.getD s5v.toNat ([] : List UInt8)) = (x1.getD s5v.toNat ([] : List UInt8))))].getD i undef) (fun j γ => [[F]].getD j []) (fun γ => [(0, .slice a0 x0.length c0), (1, .slice a1 x1.length c1), (5, .int .i64 s5v), (25, .bool (!decide ((x0.getD s5v.toNat ([] : List UInt8)) = (x1.getD s5v.toNat ([] : List UInt8)))))]) mixed (by decide) (by decide) (by decide) (by decide) (by decide) (by decide) (by decide) 26 rfl (by decide) (by decide) (by decide) (Ent.refl _) ?_ ?_ (fun _ => ⟨rfl, rfl, rfl, rfl, trivial⟩) ?_
 exact (aq rfl (fun γ => qm rfl (.o (s := 0) rfl (by decide) .nil) rfl) (aq rfl (fun γ => qm rfl (.o (s := 5) rfl (by decide) .nil) rfl) (aq rfl (fun γ => qp rfl rfl (.v 0 rfl rfl (.v 1 rfl rfl .nil)) (q_idx rfl rfl rfl ha12v Try.underlying22 Try.sizeOf9 hi10v.1 hi10v.2) rfl) (aq rfl (fun γ => qp rfl rfl (.v 2 rfl rfl .nil) (q_load rfl rfl Try.isAgg9 (hcell17v 0 rfl 0 _ rfl)) rfl) (aq rfl (fun γ => qm rfl (.o (s := 1) rfl (by decide) .nil) rfl) (aq rfl (fun γ => qm rfl (.o (s := 5) rfl (by decide) .nil) rfl) (aq rfl (fun γ => qp rfl rfl (.v 4 rfl rfl (.v 5 rfl rfl .nil)) (q_idx rfl rfl rfl ha20v Try.underlying22 Try.sizeOf9 hi18v.1 hi18v.2) rfl) (aq rfl (fun γ => qp rfl rfl (.v 6 rfl rfl .nil) (q_load rfl rfl Try.isAgg9 (hcell25v 0 rfl 0 _ rfl)) rfl) (aq rfl (fun γ => qp rfl rfl (.v 3 rfl rfl (.v 7 rfl rfl .nil)) (q_nes rfl rfl rfl) rfl) zA)))))))))
 exact zA
 intro g26v
 refine nrm_then ?_
 refine sim_condn rfl (fun h27v => ?_) (fun h28v => ?_)
 refine sim_skip ?_
 refine nrm_block (nrm_then (sim_region ?_))
 refine vm rfl rfl ?_
 refine vq (q_add rfl rfl rfl) rfl ?_
 refine va rfl rfl (simL_nil ?_)
 exact nrm_again (s := IntKind.i64.wrap (s5v + 1)) () ⟨rfl, rfl, rfl, trivial⟩ (.sel 0 rfl (.nil _))
 refine sr ?_
 refine va rfl rfl (simL_nil (nrm_then (sim_rtn ?_)))
 refine rtn_block ?_
 refine rtn_then ?_
 refine rtn_loop ?_
 refine rtn_block ?_
 refine rtn_cutR ?_
 exact rtn_fn () rfl rfl rfl (.sel 0 rfl (.nil _))
 refine sim_exi ?_
 refine exi_then ?_
 refine exi_loop ?_
 refine exi_here ?_
 exact nrm_cutR (s := ()) () trivial (.sel 0 rfl (.nil _))
 intro s3v y4v
 refine sr ?_
 refine va rfl rfl (simL_nil (nrm_then (sim_rtn ?_)))
 exact rtn_fn () rfl rfl rfl (.sel 0 rfl (.nil _))
 refine sr ?_
 refine va rfl rfl (simL_nil (nrm_then (sim_rtn ?_)))
 refine rtn_then ?_
 exact rtn_fn () rfl rfl rfl (.sel 0 rfl (.nil _))

def disk_Disk_Down.f (x0_0 : List ((List UInt8) × (List UInt8 × Int))) (x0_1 : List UInt8) (x0_2 : Int) (x0_3 : Bool) : Option (Bool) := some x0_3
theorem disk_Disk_Down.calls (W : World) (F : HA) (b0 : Nat) (m0_0 : Nat) (q0_0 : Kps) (x0_0 : List ((List UInt8) × (List UInt8 × Int))) (x0_1 : List UInt8) (x0_2 : Int) (x0_3 : Bool)  :
    Fn Try.prog W 23 [.pointer (some ⟨b0, 0, none⟩)] [obj b0 64 [.map (some m0_0), str x0_1, .int .i64 x0_2, .bool x0_3], mapF (mapO m0_0 enc9 encP q0_0) FA68 q0_0 x0_0] F (disk_Disk_Down.f x0_0 x0_1 x0_2 x0_3) (fun (r : Bool) (y : Unit) => .bool r) (fun r y => [obj b0 64 [.map (some m0_0), str x0_1, .int .i64 x0_2, .bool x0_3], mapF (mapO m0_0 enc9 encP q0_0) FA68 q0_0 x0_0]) := by
 unfold disk_Disk_Down.f
 refine fn_intro 7 Try.func23 rfl Try.ntmps23 rfl ?_
 refine sr ?_
 refine va rfl rfl (nx ?_)
 refine vm rfl rfl ?_
 refine vn rfl rfl ?_
 refine vq (q_fa rfl rfl Try.underlying64 rfl rfl Try.sizeOf4 rfl) rfl ?_
 refine vq (q_load rfl rfl Try.isAgg4 (.obj 0 rfl rfl)) rfl ?_
 refine va rfl rfl (simL_nil (nrm_then (sim_rtn ?_)))
 exact rtn_fn () rfl rfl rfl (.sel 0 rfl (.sel 0 rfl (.sel 0 rfl (.nil _))))
def disk_Disk_Down.v (x0_0 : List ((List UInt8) × (List UInt8 × Int))) (x0_1 : List UInt8) (x0_2 : Int) (x0_3 : Bool) : Bool := (disk_Disk_Down.f x0_0 x0_1 x0_2 x0_3).getD false
theorem disk_Disk_Down.tot (x0_0 : List ((List UInt8) × (List UInt8 × Int))) (x0_1 : List UInt8) (x0_2 : Int) (x0_3 : Bool) : disk_Disk_Down.f x0_0 x0_1 x0_2 x0_3 = some (disk_Disk_Down.v x0_0 x0_1 x0_2 x0_3) := by
  have h : ∃ r, disk_Disk_Down.f x0_0 x0_1 x0_2 x0_3 = some r := by
    unfold disk_Disk_Down.f
    repeat' (first | exact ⟨_, rfl⟩ | split | simp only [Option.bind_some])
  obtain ⟨r, h⟩ := h
  unfold disk_Disk_Down.v
  rw [h]; rfl

def synodlaw4_Same.l1 (s36v : (List (Ty36)) × List (List UInt8) × Int) : Nat → Int → Option (Unit)
  | 0, _ => none
  | k + 1, z49v => if 0 ≤ s36v.2.2 ∧ s36v.2.2 < (s36v.1.length : Int) then (if z49v < (((s36v.1.getD s36v.2.2.toNat dz36).2.1).length : Int) then (if 0 ≤ s36v.2.2 ∧ s36v.2.2 < (s36v.1.length : Int) then (if 0 ≤ z49v ∧ z49v < (((s36v.1.getD s36v.2.2.toNat dz36).2.1).length : Int) then (synodlaw4_Same.l1 s36v k (IntKind.i64.wrap (z49v + 1))) else none) else none) else (some ())) else none
def synodlaw4_Same.l0 : Nat → List (Ty36) → List (List UInt8) → Int → Option (Unit)
  | 0, _, _, _ => none
  | k + 1, z38v, z39v, z40v => if z40v < (z38v.length : Int) then (((synodlaw4_Same.l1 (z38v, z39v, z40v) k 0).bind fun s45v => (if 0 ≤ z40v ∧ z40v < (z38v.length : Int) then (if (((z38v.getD z40v.toNat dz36).2.1).length + ([97] : List UInt8).length) * 1 ≤ 140737488355328 then (if 0 ≤ z40v ∧ z40v < (z38v.length : Int) then (if 0 ≤ z40v ∧ z40v < (z39v.length : Int) then (some ()) else none) else none) else none) else none)).bind fun s43v => (synodlaw4_Same.l0 k (z38v.set z40v.toNat ((z38v.getD z40v.toNat dz36).1, ((z38v.getD z40v.toNat dz36).2.1) ++ ([97] : List UInt8), (z38v.getD z40v.toNat dz36).2.2)) (z39v.set z40v.toNat ([111, 118, 101, 114] : List UInt8)) (IntKind.i64.wrap (z40v + 1)))) else (some ())
def synodlaw4_Same.f (k : Nat) (x0_0 : List ((List UInt8) × (List UInt8 × Int))) (x0_1 : List UInt8) (x0_2 : Int) (x0_3 : Bool) (x1_0 : List (Ty36)) (x1_1 : Int) (x1_2 : Bool) (x1_3 : List UInt8) : Option (Bool) := (disk_Disk_Files.f k x0_0 x0_1 x0_2 x0_3).bind fun s1v => ((synodref_SameFiles.f k s1v x1_0).bind fun s10v => ((disk_Disk_List.f x0_0 x0_1 x0_2 x0_3).bind fun s13v => ((synodref4_Disk_List.f k x1_0 x1_1 x1_2 x1_3).bind fun s16v => ((synodref_SameTexts.f k s13v s16v).bind fun s31v => ((synodlaw4_Same.l0 k s1v s13v 0).bind fun s34v => ((disk_Disk_Files.f k x0_0 x0_1 x0_2 x0_3).bind fun s128v => ((synodref_SameFiles.f k s128v x1_0).bind fun s137v => ((if (((s10v && s31v) && s137v) == true) = true then (disk_Disk_Size.f x0_0 x0_1 x0_2 x0_3) else some 0).bind fun s143v => ((if (((s10v && s31v) && s137v) == true) = true then (synodref4_Disk_Size.f k x1_0 x1_1 x1_2 x1_3) else some 0).bind fun s146v => (some ((((s10v && s31v) && s137v) && (decide (s143v = s146v))) && ((disk_Disk_Down.v x0_0 x0_1 x0_2 x0_3) == x1_2))))))))))))
theorem synodlaw4_Same.calls (W : World) (F : HA) (k : Nat) (b0 : Nat) (m0_0 : Nat) (q0_0 : Kps) (x0_0 : List ((List UInt8) × (List UInt8 × Int))) (x0_1 : List UInt8) (x0_2 : Int) (x0_3 : Bool) (b1 : Nat) (a1_0 : Option Addr) (c1_0 : Nat) (x1_0 : List (Ty36)) (x1_1 : Int) (x1_2 : Bool) (x1_3 : List UInt8) (h1_0 : RdV F 3 (V36 F) a1_0 x1_0) (hc1_0 : x1_0.length ≤ c1_0) (hm1_0 : c1_0 ≤ maxLen) :
    Fn Try.prog W 28 [.pointer (some ⟨b0, 0, none⟩), .pointer (some ⟨b1, 0, none⟩)] [obj b0 64 [.map (some m0_0), str x0_1, .int .i64 x0_2, .bool x0_3], mapF (mapO m0_0 enc9 encP q0_0) FA68 q0_0 x0_0, obj b1 29 [.slice a1_0 x1_0.length c1_0, .int .i64 x1_1, .bool x1_2, str x1_3]] F (synodlaw4_Same.f k x0_0 x0_1 x0_2 x0_3 x1_0 x1_1 x1_2 x1_3) (fun (r : Bool) (y : Unit) => .bool r) (fun r y => [obj b0 64 [.map (some m0_0), str x0_1, .int .i64 x0_2, .bool x0_3], mapF (mapO m0_0 enc9 encP q0_0) FA68 q0_0 x0_0, obj b1 29 [.slice a1_0 x1_0.length c1_0, .int .i64 x1_1, .bool x1_2, str x1_3]]) := by
 unfold synodlaw4_Same.f
 refine fn_intro 93 Try.func28 rfl Try.ntmps28 rfl ?_
 refine sr ?_
 refine va rfl rfl (nx ?_)
 refine vm rfl rfl ?_
 refine simL_bind (fun s1v hs2v => ?_)
 refine simL_eff (re_call (vs := [.pointer (some ⟨b0, 0, none⟩)]) (cap := []) (A := [obj b0 64 [.map (some m0_0), str x0_1, .int .i64 x0_2, .bool x0_3], mapF (mapO m0_0 enc9 encP q0_0) FA68 q0_0 x0_0]) (rst := [obj b1 29 [.slice a1_0 x1_0.length c1_0, .int .i64 x1_1, .bool x1_2, str x1_3], F]) rfl rfl rfl rfl rfl rfl Try.call21 (.sel 0 rfl (.sel 0 rfl (.sel 0 rfl (.sel 0 rfl (.nil _))))) (disk_Disk_Files.calls _ _ k b0 m0_0 q0_0 x0_0 x0_1 x0_2 x0_3 ) hs2v) rfl rfl rfl ?_
 intro y3v
 refine va rfl rfl (nx ?_)
 refine vm rfl rfl ?_
 refine vm rfl rfl ?_
 refine vn rfl rfl ?_
 refine vq (q_fa rfl rfl Try.underlying29 rfl rfl Try.sizeOf27 rfl) rfl ?_
 refine vq (q_load rfl rfl Try.isAgg27 (.obj 4 rfl rfl)) rfl ?_
 refine simL_openV 0 rfl (fun rs4v hl5v => ?_)
 refine simL_bind (fun s10v hs11v => ?_)
 refine simL_lend 0 rfl (fun hq6v hq7v hq8v hq9v => ?_)
 refine simL_eff (re_call (vs := [.slice y3v.1 s1v.length y3v.2.1, .slice a1_0 x1_0.length c1_0]) (cap := []) (A := []) (rst := [Row 36 3 y3v.1 s1v.length y3v.2.1 rs4v.flatten, y3v.2.2, obj b0 64 [.map (some m0_0), str x0_1, .int .i64 x0_2, .bool x0_3], mapF (mapO m0_0 enc9 encP q0_0) FA68 q0_0 x0_0, obj b1 29 [.slice a1_0 x1_0.length c1_0, .int .i64 x1_1, .bool x1_2, str x1_3], F]) rfl rfl rfl rfl rfl rfl Try.call25 (.sel 0 rfl (.sel 0 rfl (.sel 0 rfl (.sel 0 rfl (.sel 0 rfl (.sel 0 rfl (.nil _))))))) (synodref_SameFiles.calls _ _ k y3v.1 y3v.2.1 s1v a1_0 c1_0 x1_0 ((Rd.asV (hl5v.mono V36w.rd) hq6v).up (Up.lend 0 rfl) (V36.up (Up.lend 1 rfl))) hq7v hq8v (h1_0.up (Up.lend 5 rfl) (V36.up (Up.lend 5 rfl))) hc1_0 hm1_0) hs11v) rfl rfl rfl ?_
 intro y12v
 refine va rfl rfl (nx ?_)
 refine vm rfl rfl ?_
 refine simL_bind (fun s13v hs14v => ?_)
 refine simL_eff (re_call (vs := [.pointer (some ⟨b0, 0, none⟩)]) (cap := []) (A := [obj b0 64 [.map (some m0_0), str x0_1, .int .i64 x0_2, .bool x0_3], mapF (mapO m0_0 enc9 encP q0_0) FA68 q0_0 x0_0]) (rst := [Row 36 3 y3v.1 s1v.length y3v.2.1 rs4v.flatten, y3v.2.2, obj b1 29 [.slice a1_0 x1_0.length c1_0, .int .i64 x1_1, .bool x1_2, str x1_3], F]) rfl rfl rfl rfl rfl rfl Try.call18 (.sel 2 rfl (.sel 2 rfl (.sel 0 rfl (.sel 0 rfl (.sel 0 rfl (.sel 0 rfl (.nil _))))))) (disk_Disk_List.calls _ _ b0 m0_0 q0_0 x0_0 x0_1 x0_2 x0_3 ) hs14v) rfl rfl rfl ?_
 intro y15v
 refine va rfl rfl (nx ?_)
 refine vm rfl rfl ?_
 refine vm rfl rfl ?_
 refine simL_bind (fun s16v hs17v => ?_)
 refine simL_eff (re_call (vs := [.pointer (some ⟨b1, 0, none⟩)]) (cap := []) (A := [obj b1 29 [.slice a1_0 x1_0.length c1_0, .int .i64 x1_1, .bool x1_2, str x1_3]]) (rst := [RowV 9 1 (V9 tt) y15v.1 s13v y15v.2, obj b0 64 [.map (some m0_0), str x0_1, .int .i64 x0_2, .bool x0_3], mapF (mapO m0_0 enc9 encP q0_0) FA68 q0_0 x0_0, Row 36 3 y3v.1 s1v.length y3v.2.1 rs4v.flatten, y3v.2.2, F]) rfl rfl rfl rfl rfl rfl Try.call58 (.sel 5 rfl (.sel 0 rfl (.sel 0 rfl (.sel 0 rfl (.sel 0 rfl (.sel 0 rfl (.sel 0 rfl (.nil _)))))))) (synodref4_Disk_List.calls _ _ k b1 a1_0 c1_0 x1_0 x1_1 x1_2 x1_3 (h1_0.up (Up.lend 5 rfl) (V36.up (Up.lend 5 rfl))) hc1_0 hm1_0) hs17v) rfl rfl rfl ?_
 intro y18v
 refine simL_openV 0 rfl (fun rs19v hl20v => ?_)
 refine simL_openV 2 rfl (fun rs21v hl22v => ?_)
 refine simL_bind (fun s31v hs32v => ?_)
 refine simL_lend 2 rfl (fun hq23v hq24v hq25v hq26v => ?_)
 refine simL_lend 0 rfl (fun hq27v hq28v hq29v hq30v => ?_)
 refine simL_eff (re_call (vs := [.slice y15v.1 s13v.length y15v.2, .slice y18v.1 s16v.length y18v.2]) (cap := []) (A := []) (rst := [Row 9 1 y18v.1 s16v.length y18v.2 rs19v.flatten, obj b1 29 [.slice a1_0 x1_0.length c1_0, .int .i64 x1_1, .bool x1_2, str x1_3], Row 9 1 y15v.1 s13v.length y15v.2 rs21v.flatten, obj b0 64 [.map (some m0_0), str x0_1, .int .i64 x0_2, .bool x0_3], mapF (mapO m0_0 enc9 encP q0_0) FA68 q0_0 x0_0, Row 36 3 y3v.1 s1v.length y3v.2.1 rs4v.flatten, y3v.2.2, F]) rfl rfl rfl rfl rfl rfl Try.call57 (.sel 0 rfl (.sel 0 rfl (.sel 0 rfl (.sel 0 rfl (.sel 0 rfl (.sel 0 rfl (.sel 0 rfl (.sel 0 rfl (.nil _))))))))) (synodref_SameTexts.calls _ _ k y15v.1 y15v.2 s13v y18v.1 y18v.2 s16v ((Rd.asV hl22v hq23v).up (Up.lend 2 rfl) (fun _ _ h => h)) hq24v hq25v ((Rd.asV hl20v hq27v).up (Up.lend 0 rfl) (fun _ _ h => h)) hq28v hq29v) hs32v) rfl rfl rfl ?_
 intro y33v
 refine va rfl rfl (simL_nil (nrm_then ?_))
 refine sim_cut (S := Unit) (Unit) (fun s y => [(0, .pointer (some ⟨b0, 0, none⟩)), (1, .pointer (some ⟨b1, 0, none⟩)), (6, .bool s10v), (8, .bool s31v)]) (fun s y => [obj b1 29 [.slice a1_0 x1_0.length c1_0, .int .i64 x1_1, .bool x1_2, str x1_3], obj b0 64 [.map (some m0_0), str x0_1, .int .i64 x0_2, .bool x0_3], mapF (mapO m0_0 enc9 encP q0_0) FA68 q0_0 x0_0, F]) ?_ ?_
 refine sr ?_
 refine va rfl rfl (simL_nil (nrm_then ?_))
 refine sim_block ?_
 refine sim_ent (H' := [Row 9 1 y18v.1 s16v.length y18v.2 rs19v.flatten, obj b1 29 [.slice a1_0 x1_0.length c1_0, .int .i64 x1_1, .bool x1_2, str x1_3], Row 9 1 y15v.1 s13v.length y15v.2 rs21v.flatten, obj b0 64 [.map (some m0_0), str x0_1, .int .i64 x0_2, .bool x0_3], mapF (mapO m0_0 enc9 encP q0_0) FA68 q0_0 x0_0, Row 36 3 y3v.1 s1v.length y3v.2.1 rs4v.flatten, (Shp y3v.2.2), F]) (Ent.set' 6 rfl (fun h x => Shp.of h x)) ?_
 refine sim_loop (S := (List (Ty36)) × List (List UInt8) × Int) (HA) (fun k s => synodlaw4_Same.l0 k s.1 s.2.1 s.2.2) (fun s y => [(0, .pointer (some ⟨b0, 0, none⟩)), (1, .pointer (some ⟨b1, 0, none⟩)), (5, .slice y3v.1 s.1.length y3v.2.1), (6, .bool s10v), (7, .slice y15v.1 s.2.1.length y15v.2), (8, .bool s31v), (9, .int .i64 s.2.2)]) (fun s y => [obj b1 29 [.slice a1_0 x1_0.length c1_0, .int .i64 x1_1, .bool x1_2, str x1_3], obj b0 64 [.map (some m0_0), str x0_1, .int .i64 x0_2, .bool x0_3], RowV 36 3 (V36s (y)) y3v.1 s.1 y3v.2.1, RowV 9 1 (V9 tt) y15v.1 s.2.1 y15v.2, mapF (mapO m0_0 enc9 encP q0_0) FA68 q0_0 x0_0, y, F]) (fun _ => by rw [synodlaw4_Same.l0]) ?_ k (s1v, s13v, 0) (Shp y3v.2.2) ⟨rfl, rfl, rfl, rfl, rfl, rfl, rfl, trivial⟩ (.sel 1 rfl (.sel 2 rfl (.sel' 3 rfl (RowV.mk (hl5v.mono V36w.shp)) (.sel' 1 rfl (RowV.mk hl22v) (.sel 1 rfl (.sel 1 rfl (.sel 1 rfl (.nil _))))))))
 intro k s36v y37v
 refine sim_eq (by rw [synodlaw4_Same.l0]) ?_
 refine sim_seq (sr ?_)
 refine vm rfl rfl ?_
 refine vm rfl rfl ?_
 refine vq (q_len rfl rfl rfl Try.underlying27) rfl ?_
 refine vq (q_lss rfl rfl rfl) rfl (simL_nil (nrm_then ?_))
 refine sim_cond rfl (fun h41v => ?_) (fun h42v => ?_)
 refine sim_skip ?_
 refine nrm_then ?_
 refine sim_cut (S := Unit) (HA) (fun s y => [(0, .pointer (some ⟨b0, 0, none⟩)), (1, .pointer (some ⟨b1, 0, none⟩)), (5, .slice y3v.1 ((s36v.1.set s36v.2.2.toNat ((s36v.1.getD s36v.2.2.toNat dz36).1, ((s36v.1.getD s36v.2.2.toNat dz36).2.1) ++ ([97] : List UInt8), (s36v.1.getD s36v.2.2.toNat dz36).2.2)).length) y3v.2.1), (6, .bool s10v), (7, .slice y15v.1 ((s36v.2.1.set s36v.2.2.toNat ([111, 118, 101, 114] : List UInt8)).length) y15v.2), (8, .bool s31v), (9, .int .i64 s36v.2.2)]) (fun s y => [obj b1 29 [.slice a1_0 x1_0.length c1_0, .int .i64 x1_1, .bool x1_2, str x1_3], obj b0 64 [.map (some m0_0), str x0_1, .int .i64 x0_2, .bool x0_3], RowV 36 3 (V36s (y)) y3v.1 (s36v.1.set s36v.2.2.toNat ((s36v.1.getD s36v.2.2.toNat dz36).1, ((s36v.1.getD s36v.2.2.toNat dz36).2.1) ++ ([97] : List UInt8), (s36v.1.getD s36v.2.2.toNat dz36).2.2)) y3v.2.1, RowV 9 1 (V9 tt) y15v.1 (s36v.2.1.set s36v.2.2.toNat ([111, 118, 101, 114] : List UInt8)) y15v.2, mapF (mapO m0_0 enc9 encP q0_0) FA68 q0_0 x0_0, y, F]) ?_ ?_
 refine sim_block ?_
 refine sim_cut (S := Unit) (Unit) (fun s y => [(0, .pointer (some ⟨b0, 0, none⟩)), (1, .pointer (some ⟨b1, 0, none⟩)), (5, .slice y3v.1 s36v.1.length y3v.2.1), (6, .bool s10v), (7, .slice y15v.1 s36v.2.1.length y15v.2), (8, .bool s31v), (9, .int .i64 s36v.2.2)]) (fun s y => [obj b1 29 [.slice a1_0 x1_0.length c1_0, .int .i64 x1_1, .bool x1_2, str x1_3], obj b0 64 [.map (some m0_0), str x0_1, .int .i64 x0_2, .bool x0_3], RowV 36 3 (V36s (y37v)) y3v.1 s36v.1 y3v.2.1, RowV 9 1 (V9 tt) y15v.1 s36v.2.1 y15v.2, mapF (mapO m0_0 enc9 encP q0_0) FA68 q0_0 x0_0, y37v, F]) ?_ ?_
 refine sr ?_
 refine va rfl rfl (simL_nil (nrm_then ?_))
 refine sim_block ?_
 refine sim_loop (S := Int) (Unit) (fun k s => synodlaw4_Same.l1 s36v k s) (fun s y => [(0, .pointer (some ⟨b0, 0, none⟩)), (1, .pointer (some ⟨b1, 0, none⟩)), (5, .slice y3v.1 s36v.1.length y3v.2.1), (6, .bool s10v), (7, .slice y15v.1 s36v.2.1.length y15v.2), (8, .bool s31v), (9, .int .i64 s36v.2.2), (10, .int .i64 s)]) (fun s y => [obj b1 29 [.slice a1_0 x1_0.length c1_0, .int .i64 x1_1, .bool x1_2, str x1_3], obj b0 64 [.map (some m0_0), str x0_1, .int .i64 x0_2, .bool x0_3], RowV 36 3 (V36s (y37v)) y3v.1 s36v.1 y3v.2.1, RowV 9 1 (V9 tt) y15v.1 s36v.2.1 y15v.2, mapF (mapO m0_0 enc9 encP q0_0) FA68 q0_0 x0_0, y37v, F]) (fun _ => by rw [synodlaw4_Same.l1]) ?_ k 0 () ⟨rfl, rfl, rfl, rfl, rfl, rfl, rfl, rfl, trivial⟩ (.sel 0 rfl (.sel 0 rfl (.sel 0 rfl (.sel 0 rfl (.sel 0 rfl (.sel 0 rfl (.sel 0 rfl (.nil _))))))))
 intro k s47v y48v
 refine sim_eq (by rw [synodlaw4_Same.l1]) ?_
 refine sim_seq (sr ?_)
 refine vm rfl rfl ?_
 refine vm rfl rfl ?_
 refine vm rfl rfl ?_
 refine simL_openV 2 rfl (fun rs58v hl59v => ?_)
 refine simL_ask (fun hi50v => ?_)
 refine simL_posV 2 rfl hl59v rfl (i := s36v.2.2.toNat) (by omega) dz36 (fun b51v b51vo r54v ha52v hV55v hlr56v hcell57v => ?_)
 obtain ⟨a60v, c61v, rfl, ⟨he62v, hc63v, hm64v⟩⟩ := hV55v
 refine vq (q_idx rfl rfl rfl ha52v Try.underlying27 Try.sizeOf36 hi50v.1 hi50v.2) rfl ?_
 refine vq (q_fa rfl rfl Try.underlying36 rfl rfl Try.sizeOf34 rfl) rfl ?_
 refine vq (q_load rfl rfl Try.isAgg34 (hcell57v 2 rfl 1 _ rfl)) rfl ?_
 refine vq (q_len rfl rfl rfl Try.underlying34) rfl ?_
 refine vq (q_lss rfl rfl rfl) rfl (simL_nil (nrm_then ?_))
 refine sim_cond rfl (fun h65v => ?_) (fun h66v => ?_)
 refine sim_skip ?_
 refine nrm_then (sim_seq ?_)
 refine sim_block ?_
 refine sim_region ?_
 refine vm rfl rfl ?_
 refine vm rfl rfl ?_
 refine simL_ask (fun hi67v => ?_)
 refine simL_posV 2 rfl hl59v rfl (i := s36v.2.2.toNat) (by omega) dz36 (fun b68v b68vo r71v ha69v hV72v hlr73v hcell74v => ?_)
 obtain ⟨a75v, c76v, rfl, ⟨he77v, hc78v, hm79v⟩⟩ := hV72v
 refine vq (q_idx rfl rfl rfl ha69v Try.underlying27 Try.sizeOf36 hi67v.1 hi67v.2) rfl ?_
 refine vq (q_fa rfl rfl Try.underlying36 rfl rfl Try.sizeOf34 rfl) rfl ?_
 refine vq (q_load rfl rfl Try.isAgg34 (hcell74v 2 rfl 1 _ rfl)) rfl ?_
 refine vm rfl rfl ?_
 refine simL_ask (fun hi80v => ?_)
 refine simL_wrt 5 rfl he77v (by have := hc78v; omega) (fun b81v b81vo ha82v => ?_)
 refine vq (q_idx1 rfl rfl rfl ha82v Try.underlying34 Try.sizeOf5 hi80v.1 hi80v.2) rfl ?_
 refine simL_do (re_storeS (c := c76v) (j := s47v.toNat) 5 rfl rfl rfl Try.sizeOf5 rfl (one_of (by rfl)) rfl he77v ha82v (by have := hc78v; omega)) rfl rfl ?_
 intro _
 refine simL_nil (nrm_block (nrm_then (sim_region ?_)))
 refine vm rfl rfl ?_
 refine vq (q_add rfl rfl rfl) rfl ?_
 refine va rfl rfl (simL_nil ?_)
 exact nrm_again (s := IntKind.i64.wrap (s47v + 1)) () ⟨rfl, rfl, rfl, rfl, rfl, rfl, rfl, rfl, trivial⟩ (.sel 0 rfl (.sel 0 rfl (.sel' 0 rfl (RowV.mk hl59v) (.sel 0 rfl (.sel 0 rfl (.sel 0 rfl (.sel 0 rfl (.nil _))))))))
 refine sim_exi ?_
 refine exi_then ?_
 refine exi_loop ?_
 refine exi_here ?_
 exact nrm_cut (s := ()) () ⟨rfl, rfl, rfl, rfl, rfl, rfl, rfl, trivial⟩ (.sel 0 rfl (.sel 0 rfl (.sel' 0 rfl (RowV.mk hl59v) (.sel 0 rfl (.sel 0 rfl (.sel 0 rfl (.sel 0 rfl (.nil _))))))))
 intro s45v y46v
 refine sr ?_
 refine vm rfl rfl ?_
 refine vm rfl rfl ?_
 refine vm rfl rfl ?_
 refine vm rfl rfl ?_
 refine simL_openV 2 rfl (fun rs92v hl93v => ?_)
 refine simL_ask (fun hi84v => ?_)
 refine simL_posV 2 rfl hl93v rfl (i := s36v.2.2.toNat) (by omega) dz36 (fun b85v b85vo r88v ha86v hV89v hlr90v hcell91v => ?_)
 obtain ⟨a94v, c95v, rfl, ⟨he96v, hc97v, hm98v⟩⟩ := hV89v
 refine vq (q_idx rfl rfl rfl ha86v Try.underlying27 Try.sizeOf36 hi84v.1 hi84v.2) rfl ?_
 refine vq (q_fa rfl rfl Try.underlying36 rfl rfl Try.sizeOf34 rfl) rfl ?_
 refine vq (q_load rfl rfl Try.isAgg34 (hcell91v 2 rfl 1 _ rfl)) rfl ?_
 refine simL_eff (re_litb (cs := [.int .u8 97]) ([97] : List UInt8) rfl rfl Try.underlying34 elt5 rfl (by kernel_rfl) rfl rfl rfl) rfl rfl rfl ?_
 intro b99v
 refine simL_ask (fun hb102v => ?_)
 refine simL_eff (re_appendS 6 rfl rfl rfl Try.underlying34 elt5 rfl he96v hc97v hm98v (Rds.row 0 rfl) (by simp) hb102v) rfl rfl rfl ?_
 intro y101v
 refine simL_pr (fun hp103v => ?_)
 refine simL_pr (fun hu104v => ?_)
 refine simL_ask (fun hi105v => ?_)
 refine simL_posV 3 rfl (hl93v.mono (V36s.up hu104v)) rfl (i := s36v.2.2.toNat) (by omega) dz36 (fun b106v b106vo r109v ha107v hV110v hlr111v hcell112v => ?_)
 obtain ⟨a113v, c114v, rfl, ⟨he115v, hc116v, hm117v⟩⟩ := hV110v
 refine vq (q_idx rfl rfl rfl ha107v Try.underlying27 Try.sizeOf36 hi105v.1 hi105v.2) rfl ?_
 refine vq (q_fa rfl rfl Try.underlying36 rfl rfl Try.sizeOf34 rfl) rfl ?_
 refine simL_do (re_storeV (V := (V36s (y101v.2.2))) ((s36v.1.getD s36v.2.2.toNat dz36).1, ((s36v.1.getD s36v.2.2.toNat dz36).2.1) ++ ([97] : List UInt8), (s36v.1.getD s36v.2.2.toNat dz36).2.2) 1 dz36 3 rfl rfl rfl Try.sizeOf34 rfl rfl (one_of (by rfl)) rfl (hl93v.mono (V36s.up hu104v)) ha107v (by omega) rfl (fun r hr _ _ => by obtain ⟨a1', c1', rfl, h1'⟩ := hr; exact ⟨y101v.1, y101v.2.1, rfl, ⟨hp103v.1, hp103v.2.1, hp103v.2.2⟩⟩)) rfl rfl ?_
 intro _
 refine simL_ren (.slice y3v.1 ((s36v.1.set s36v.2.2.toNat ((s36v.1.getD s36v.2.2.toNat dz36).1, ((s36v.1.getD s36v.2.2.toNat dz36).2.1) ++ ([97] : List UInt8), (s36v.1.getD s36v.2.2.toNat dz36).2.2)).length) y3v.2.1) (d := 5) rfl (slc_len (by simp)) ?_
 refine simL_ren (.slice y3v.1 ((s36v.1.set s36v.2.2.toNat ((s36v.1.getD s36v.2.2.toNat dz36).1, ((s36v.1.getD s36v.2.2.toNat dz36).2.1) ++ ([97] : List UInt8), (s36v.1.getD s36v.2.2.toNat dz36).2.2)).length) y3v.2.1) (d := 49) rfl (slc_len (by simp)) ?_
 refine simL_ren (.slice y3v.1 ((s36v.1.set s36v.2.2.toNat ((s36v.1.getD s36v.2.2.toNat dz36).1, ((s36v.1.getD s36v.2.2.toNat dz36).2.1) ++ ([97] : List UInt8), (s36v.1.getD s36v.2.2.toNat dz36).2.2)).length) y3v.2.1) (d := 51) rfl (slc_len (by simp)) ?_
 refine ny ?_
 refine vm rfl rfl ?_
 refine vm rfl rfl ?_
 refine simL_openV 4 rfl (fun rs126v hl127v => ?_)
 refine simL_ask (fun hi118v => ?_)
 refine simL_posV 4 rfl hl127v rfl (i := s36v.2.2.toNat) (by omega) ([] : List UInt8) (fun b119v b119vo r122v ha120v hV123v hlr124v hcell125v => ?_)
 obtain rfl := hV123v
 refine vq (q_idx rfl rfl rfl ha120v Try.underlying22 Try.sizeOf9 hi118v.1 hi118v.2) rfl ?_
 refine simL_do (re_storeV (V := (V9 tt)) ([111, 118, 101, 114] : List UInt8) 0 ([] : List UInt8) 4 rfl rfl rfl Try.sizeOf9 rfl rfl (one_of (by rfl)) rfl hl127v ha120v (by omega) rfl (fun r hr _ _ => by cases (show r = _ from hr); exact rfl)) rfl rfl ?_
 intro _
 refine simL_ren (.slice y15v.1 ((s36v.2.1.set s36v.2.2.toNat ([111, 118, 101, 114] : List UInt8)).length) y15v.2) (d := 7) rfl (slc_len (by simp)) ?_
 refine simL_ren (.slice y15v.1 ((s36v.2.1.set s36v.2.2.toNat ([111, 118, 101, 114] : List UInt8)).length) y15v.2) (d := 60) rfl (slc_len (by simp)) ?_
 refine simL_nil (nrm_block ?_)
 exact nrm_cut (s := ()) y101v.2.2 ⟨rfl, rfl, rfl, rfl, rfl, rfl, rfl, trivial⟩ (.sel 1 rfl (.sel 1 rfl (.sel 1 rfl (.sel 1 rfl (.sel 1 rfl (.sel 1 rfl (.sel 1 rfl (.nil _))))))))
 intro s43v y44v
 refine sim_region ?_
 refine vm rfl rfl ?_
 refine vq (q_add rfl rfl rfl) rfl ?_
 refine va rfl rfl (simL_nil ?_)
 exact nrm_again (s := (s36v.1.set s36v.2.2.toNat ((s36v.1.getD s36v.2.2.toNat dz36).1, ((s36v.1.getD s36v.2.2.toNat dz36).2.1) ++ ([97] : List UInt8), (s36v.1.getD s36v.2.2.toNat dz36).2.2), s36v.2.1.set s36v.2.2.toNat ([111, 118, 101, 114] : List UInt8), IntKind.i64.wrap (s36v.2.2 + 1))) y44v ⟨rfl, rfl, rfl, rfl, rfl, rfl, rfl, trivial⟩ (.sel 0 rfl (.sel 0 rfl (.sel 0 rfl (.sel 0 rfl (.sel 0 rfl (.sel 0 rfl (.sel 0 rfl (.nil _))))))))
 refine sim_exi ?_
 refine exi_then ?_
 refine exi_loop ?_
 refine exi_here ?_
 exact nrm_cut (s := ()) () ⟨rfl, rfl, rfl, rfl, trivial⟩ (.sel 0 rfl (.sel 0 rfl (.sel 2 rfl (.sel 3 rfl (.nil _)))))
 intro s34v y35v
 refine sim_seq ?_
 refine sim_bind (fun s128v hs129v => ?_)
 refine sim_bind (fun s137v hs138v => ?_)
 refine sim_draw (Γ := (Option Addr × Nat × HA)) (none, 0, tt) [[], [0], [], [2], [2, 3], [2, 3, 4], rL 6, rL 7] [1, 6] [0, 2, 3, 4, 5, 7] (fun i => [[0], [], [0, 1], [0, 1], [0, 1], [0, 1], [], [2]].getD i []) (fun i => [[], [0, 2, 3, 4, 5], [], [], [], [], rL 6, []].getD i []) (fun γ i => [.pointer (some ⟨b0, 0, none⟩), .slice γ.1 s128v.length γ.2.1, .pointer (some ⟨b1, 0, none⟩), .pointer (some ⟨b1, 0, none⟩), .pointer (some ⟨b1, 0, none⟩), .slice a1_0 x1_0.length c1_0, .bool s137v, .bool s137v].getD i undef) (fun j γ => [[obj b1 29 [.slice a1_0 x1_0.length c1_0, .int .i64 x1_1, .bool x1_2, str x1_3], obj b0 64 [.map (some m0_0), str x0_1, .int .i64 x0_2, .bool x0_3], mapF (mapO m0_0 enc9 encP q0_0) FA68 q0_0 x0_0, F], [RowV 36 3 (V36w (γ.2.2)) γ.1 s128v γ.2.1, γ.2.2, obj b0 64 [.map (some m0_0), str x0_1, .int .i64 x0_2, .bool x0_3], mapF (mapO m0_0 enc9 encP q0_0) FA68 q0_0 x0_0, obj b1 29 [.slice a1_0 x1_0.length c1_0, .int .i64 x1_1, .bool x1_2, str x1_3], F], [RowV 36 3 (V36w (γ.2.2)) γ.1 s128v γ.2.1, γ.2.2, obj b0 64 [.map (some m0_0), str x0_1, .int .i64 x0_2, .bool x0_3], mapF (mapO m0_0 enc9 encP q0_0) FA68 q0_0 x0_0, obj b1 29 [.slice a1_0 x1_0.length c1_0, .int .i64 x1_1, .bool x1_2, str x1_3], F]].getD j []) (fun γ => [(0, .pointer (some ⟨b0, 0, none⟩)), (1, .pointer (some ⟨b1, 0, none⟩)), (6, .bool s10v), (8, .bool s31v), (11, .bool s137v)]) mixed (by decide) (by decide) (by decide) (by decide) (by decide) (by decide) (by decide) 93 rfl (by decide) (by decide) (by decide) (Ent.refl _) ?_ ?_ (fun _ => ⟨rfl, rfl, rfl, rfl, rfl, trivial⟩) ?_
 exact (aq rfl (fun γ => qm rfl (.o (s := 0) rfl (by decide) .nil) rfl) (ac (fun γ => (ac (qm rfl (.o (s := 1) rfl (by decide) .nil) rfl) (ac (qm rfl (.o (s := 1) rfl (by decide) .nil) rfl) zA))) (ac (fun γ => (ac (qp rfl rfl (.v 2 rfl rfl .nil) (q_nil rfl rfl) rfl) (ac (qp rfl rfl (.v 2 rfl rfl .nil) (q_nil rfl rfl) rfl) zA))) (ac (fun γ => (ac (qp rfl rfl (.v 3 rfl rfl .nil) (q_fa rfl rfl Try.underlying29 rfl rfl Try.sizeOf27 rfl) rfl) (ac (qp rfl rfl (.v 3 rfl rfl .nil) (q_fa rfl rfl Try.underlying29 rfl rfl Try.sizeOf27 rfl) rfl) zA))) (ac (fun γ => (ac (qp rfl rfl (.v 4 rfl rfl .nil) (q_load rfl rfl Try.isAgg27 (.obj 0 rfl rfl)) rfl) (ac (qp rfl rfl (.v 4 rfl rfl .nil) (q_load rfl rfl Try.isAgg27 (.obj 4 rfl rfl)) rfl) zA))) (aq rfl (fun γ => qp rfl rfl (.v 6 rfl rfl .nil) (q_asg rfl rfl) rfl) zA))))))
 exact (ac (fun γ => eo (Z := Option Addr × Nat × HA) (fun z => z) rfl rfl (.v 0 rfl rfl .nil) (re_call (vs := [.pointer (some ⟨b0, 0, none⟩)]) (cap := []) (A := [obj b0 64 [.map (some m0_0), str x0_1, .int .i64 x0_2, .bool x0_3], mapF (mapO m0_0 enc9 encP q0_0) FA68 q0_0 x0_0]) (rst := [obj b1 29 [.slice a1_0 x1_0.length c1_0, .int .i64 x1_1, .bool x1_2, str x1_3], F]) rfl rfl rfl rfl rfl rfl Try.call21 (.sel 1 rfl (.sel 1 rfl (.sel 0 rfl (.sel 0 rfl (.nil _))))) (disk_Disk_Files.calls _ _ k b0 m0_0 q0_0 x0_0 x0_1 x0_2 x0_3 ) hs129v) (fun _ => ⟨rfl, rfl, rfl, rfl, rfl, trivial⟩) (fun _ => .inr rfl) (fun z => Ent.refl _)) (ac (fun γ => eo (Z := Unit) (fun z => γ) rfl rfl (.v 1 rfl rfl (.v 5 rfl rfl .nil)) (RE.openV 0 rfl (fun rs135v hl136v => RE.lend 0 rfl (fun hq131v hq132v hq133v hq134v => re_call (vs := [.slice γ.1 s128v.length γ.2.1, .slice a1_0 x1_0.length c1_0]) (cap := []) (A := []) (rst := [Row 36 3 γ.1 s128v.length γ.2.1 rs135v.flatten, γ.2.2, obj b0 64 [.map (some m0_0), str x0_1, .int .i64 x0_2, .bool x0_3], mapF (mapO m0_0 enc9 encP q0_0) FA68 q0_0 x0_0, obj b1 29 [.slice a1_0 x1_0.length c1_0, .int .i64 x1_1, .bool x1_2, str x1_3], F]) rfl rfl rfl rfl rfl rfl Try.call25 (.sel 0 rfl (.sel 0 rfl (.sel 0 rfl (.sel 0 rfl (.sel 0 rfl (.sel 0 rfl (.nil _))))))) (synodref_SameFiles.calls _ _ k γ.1 γ.2.1 s128v a1_0 c1_0 x1_0 ((Rd.asV (hl136v.mono V36w.rd) hq131v).up (Up.lend 0 rfl) (V36.up (Up.lend 1 rfl))) hq132v hq133v (h1_0.up (Up.lend 5 rfl) (V36.up (Up.lend 5 rfl))) hc1_0 hm1_0) hs138v)) (fun rs135v hl136v _ => (.sel' 0 rfl (RowV.mk hl136v) (.sel 0 rfl (.sel 0 rfl (.sel 0 rfl (.sel 0 rfl (.sel 0 rfl (.nil _))))))))) (fun _ => ⟨rfl, rfl, rfl, rfl, rfl, rfl, trivial⟩) (fun _ => .inr rfl) (fun z => Ent.refl _)) zA))
 intro g140v
 refine nrm_then (sim_seq ?_)
 refine sim_openV 0 rfl (fun rs141v hl142v => ?_)
 refine sim_bind (fun s143v hs144v => ?_)
 refine sim_bind (fun s146v hs147v => ?_)
 refine sim_draw (Γ := Unit) () [[], [0], [0, 1], [0, 1, 2], rL 4, rL 5, rL 6, rL 7, rL 8, rL 9, rL 8, rL 11, rL 12, rL 13, rL 14, rL 15, rL 16, rL 15, [0, 1, 2, 3, 4, 5, 6, 7, 8, 9, 10, 11, 12, 13, 14, 17], [0, 1, 2, 3, 4, 5, 6, 7, 8, 9, 10, 11, 12, 13, 14, 17, 18], [0, 1, 2, 3, 4, 5, 6, 7, 8, 9, 10, 11, 12, 13, 14, 17, 18, 19], rL 21, rL 22, rL 23] [] [0, 1, 2, 3, 4, 5, 6, 7, 8, 9, 10, 11, 12, 13, 14, 15, 16, 17, 18, 19, 20, 21, 22, 23] (fun i => [[0], [0], [0], [0], [0], [0], [0], [0], [0], [0], [0], [0], [0], [0], [0], [0], [0], [0], [0], [0], [0], [0], [0], [0]].getD i []) (fun i => [[], [], [], [], [], [], [], [], [], [], [], [], [], [], [], [], [], [], [], [], [], [], [], []].getD i []) (fun γ i => [.bool s10v, .bool s10v, cv (s10v == true) (.bool s31v), .bool (s10v && s31v), .bool (s10v && s31v), cv ((s10v && s31v) == true) (.bool s137v), .bool ((s10v && s31v) && s137v), .bool ((s10v && s31v) && s137v), cv (((s10v && s31v) && s137v) == true) (.pointer (some ⟨b0, 0, none⟩)), cv (((s10v && s31v) && s137v) == true) (.int .i64 s143v), cv (((s10v && s31v) && s137v) == true) (.pointer (some ⟨b1, 0, none⟩)), cv (((s10v && s31v) && s137v) == true) (.int .i64 s146v), cv (((s10v && s31v) && s137v) == true) (.bool (decide (s143v = s146v))), .bool (((s10v && s31v) && s137v) && (decide (s143v = s146v))), .bool (((s10v && s31v) && s137v) && (decide (s143v = s146v))), cv ((((s10v && s31v) && s137v) && (decide (s143v = s146v))) == true) (.pointer (some ⟨b0, 0, none⟩)), cv ((((s10v && s31v) && s137v) && (decide (s143v = s146v))) == true) (.bool (disk_Disk_Down.v x0_0 x0_1 x0_2 x0_3)), cv ((((s10v && s31v) && s137v) && (decide (s143v = s146v))) == true) (.pointer (some ⟨b1, 0, none⟩)), cv ((((s10v && s31v) && s137v) && (decide (s143v = s146v))) == true) (.pointer (some ⟨b1, 0, none⟩)), cv ((((s10v && s31v) && s137v) && (decide (s143v = s146v))) == true) (.pointer (some ⟨b1, 2, none⟩)), cv ((((s10v && s31v) && s137v) && (decide (s143v = s146v))) == true) (.bool x1_2), cv ((((s10v && s31v) && s137v) && (decide (s143v = s146v))) == true) (.bool ((disk_Disk_Down.v x0_0 x0_1 x0_2 x0_3) == x1_2)), .bool ((((s10v && s31v) && s137v) && (decide (s143v = s146v))) && ((disk_Disk_Down.v x0_0 x0_1 x0_2 x0_3) == x1_2)), .bool ((((s10v && s31v) && s137v) && (decide (s143v = s146v))) && ((disk_Disk_Down.v x0_0 x0_1 x0_2 x0_3) == x1_2))].getD i undef) (fun j γ => [[Row 36 3 g140v.1 s128v.length g140v.2.1 rs141v.flatten, g140v.2.2, obj b0 64 [.map (some m0_0), str x0_1, .int .i64 x0_2, .bool x0_3], mapF (mapO m0_0 enc9 encP q0_0) FA68 q0_0 x0_0, obj b1 29 [.slice a1_0 x1_0.length c1_0, .int .i64 x1_1, .bool x1_2, str x1_3], F]].getD j []) (fun γ => [(4, .bool ((((s10v && s31v) && s137v) && (decide (s143v = s146v))) && ((disk_Disk_Down.v x0_0 x0_1 x0_2 x0_3) == x1_2)))]) mixed (by decide) (by decide) (by decide) (by decide) (by decide) (by decide) (by decide) 93 rfl (by decide) (by decide) (by decide) (Ent.refl _) ?_ ?_ (fun _ => ⟨rfl, trivial⟩) ?_
 exact (aq rfl (fun γ => qm rfl (.o (s := 6) rfl (by decide) .nil) rfl) (aq rfl (fun γ => qm rfl (.v 0 rfl rfl .nil) rfl) (aq rfl (fun γ => QOb.grd (b := s10v) [(8, .bool s31v), (71, .bool s10v)] rfl rfl rfl rfl (.o (s := 8) rfl (by decide) (.v 1 rfl rfl .nil)) (fun hb152v => RQ.sub (E' := [(8, .bool s31v)]) ⟨rfl, trivial⟩ (q_move rfl rfl)) rfl) (aq rfl (fun γ => qp rfl rfl (.v 1 rfl rfl (.v 2 rfl rfl .nil)) (q_and rfl rfl rfl) rfl) (aq rfl (fun γ => qm rfl (.v 3 rfl rfl .nil) rfl) (aq rfl (fun γ => QOb.grd (b := s10v && s31v) [(11, .bool s137v), (74, .bool (s10v && s31v))] rfl rfl rfl rfl (.o (s := 11) rfl (by decide) (.v 4 rfl rfl .nil)) (fun hb153v => RQ.sub (E' := [(11, .bool s137v)]) ⟨rfl, trivial⟩ (q_move rfl rfl)) rfl) (aq rfl (fun γ => qp rfl rfl (.v 4 rfl rfl (.v 5 rfl rfl .nil)) (q_and rfl rfl rfl) rfl) (aq rfl (fun γ => qm rfl (.v 6 rfl rfl .nil) rfl) (aq rfl (fun γ => QOb.grd (b := (s10v && s31v) && s137v) [(0, .pointer (some ⟨b0, 0, none⟩)), (77, .bool ((s10v && s31v) && s137v))] rfl rfl rfl rfl (.o (s := 0) rfl (by decide) (.v 7 rfl rfl .nil)) (fun hb154v => RQ.sub (E' := [(0, .pointer (some ⟨b0, 0, none⟩))]) ⟨rfl, trivial⟩ (q_move rfl rfl)) rfl) (aq rfl (fun γ => QOb.grd (b := (s10v && s31v) && s137v) [(77, .bool ((s10v && s31v) && s137v)), (78, cv (((s10v && s31v) && s137v) == true) (.pointer (some ⟨b0, 0, none⟩)))] rfl rfl rfl rfl (.v 7 rfl rfl (.v 8 rfl rfl .nil)) (fun hb155v => RQ.sub (E' := [(78, .pointer (some ⟨b0, 0, none⟩))]) ⟨lk_cv rfl hb155v, trivial⟩ (RE.rq (re_call (vs := [.pointer (some ⟨b0, 0, none⟩)]) (cap := []) (A := [obj b0 64 [.map (some m0_0), str x0_1, .int .i64 x0_2, .bool x0_3], mapF (mapO m0_0 enc9 encP q0_0) FA68 q0_0 x0_0]) (rst := [Row 36 3 g140v.1 s128v.length g140v.2.1 rs141v.flatten, g140v.2.2, obj b1 29 [.slice a1_0 x1_0.length c1_0, .int .i64 x1_1, .bool x1_2, str x1_3], F]) rfl rfl rfl rfl rfl rfl Try.call16 (.sel 2 rfl (.sel 2 rfl (.sel 0 rfl (.sel 0 rfl (.sel 0 rfl (.sel 0 rfl (.nil _))))))) (disk_Disk_Size.calls _ _ b0 m0_0 q0_0 x0_0 x0_1 x0_2 x0_3 ) (by rw [if_pos hb155v] at hs144v; exact hs144v)) (fun _ => rfl) (fun _ => (.sel 2 rfl (.sel 2 rfl (.sel 0 rfl (.sel 0 rfl (.sel 0 rfl (.sel 0 rfl (.nil _)))))))))) rfl) (aq rfl (fun γ => QOb.grd (b := (s10v && s31v) && s137v) [(1, .pointer (some ⟨b1, 0, none⟩)), (77, .bool ((s10v && s31v) && s137v))] rfl rfl rfl rfl (.o (s := 1) rfl (by decide) (.v 7 rfl rfl .nil)) (fun hb156v => RQ.sub (E' := [(1, .pointer (some ⟨b1, 0, none⟩))]) ⟨rfl, trivial⟩ (q_move rfl rfl)) rfl) (aq rfl (fun γ => QOb.grd (b := (s10v && s31v) && s137v) [(77, .bool ((s10v && s31v) && s137v)), (80, cv (((s10v && s31v) && s137v) == true) (.pointer (some ⟨b1, 0, none⟩)))] rfl rfl rfl rfl (.v 7 rfl rfl (.v 10 rfl rfl .nil)) (fun hb157v => RQ.sub (E' := [(80, .pointer (some ⟨b1, 0, none⟩))]) ⟨lk_cv rfl hb157v, trivial⟩ (RE.rq (re_call (vs := [.pointer (some ⟨b1, 0, none⟩)]) (cap := []) (A := [obj b1 29 [.slice a1_0 x1_0.length c1_0, .int .i64 x1_1, .bool x1_2, str x1_3]]) (rst := [Row 36 3 g140v.1 s128v.length g140v.2.1 rs141v.flatten, g140v.2.2, obj b0 64 [.map (some m0_0), str x0_1, .int .i64 x0_2, .bool x0_3], mapF (mapO m0_0 enc9 encP q0_0) FA68 q0_0 x0_0, F]) rfl rfl rfl rfl rfl rfl Try.call17 (.sel 4 rfl (.sel 0 rfl (.sel 0 rfl (.sel 0 rfl (.sel 0 rfl (.sel 0 rfl (.nil _))))))) (synodref4_Disk_Size.calls _ _ k b1 a1_0 c1_0 x1_0 x1_1 x1_2 x1_3 (h1_0.up (Up.lend 4 rfl) (V36.up (Up.lend 4 rfl))) hc1_0 hm1_0) (by rw [if_pos hb157v] at hs147v; exact hs147v)) (fun _ => rfl) (fun _ => (.sel 1 rfl (.sel 1 rfl (.sel 1 rfl (.sel 1 rfl (.sel 0 rfl (.sel 0 rfl (.nil _)))))))))) rfl) (aq rfl (fun γ => QOb.grd (b := (s10v && s31v) && s137v) [(77, .bool ((s10v && s31v) && s137v)), (79, cv (((s10v && s31v) && s137v) == true) (.int .i64 s143v)), (81, cv (((s10v && s31v) && s137v) == true) (.int .i64 s146v))] rfl rfl rfl rfl (.v 7 rfl rfl (.v 9 rfl rfl (.v 11 rfl rfl .nil))) (fun hb158v => RQ.sub (E' := [(79, .int .i64 s143v), (81, .int .i64 s146v)]) ⟨lk_cv rfl hb158v, lk_cv rfl hb158v, trivial⟩ (q_eql rfl rfl rfl)) rfl) (aq rfl (fun γ => qp rfl rfl (.v 7 rfl rfl (.v 12 rfl rfl .nil)) (q_and rfl rfl rfl) rfl) (aq rfl (fun γ => qm rfl (.v 13 rfl rfl .nil) rfl) (aq rfl (fun γ => QOb.grd (b := ((s10v && s31v) && s137v) && (decide (s143v = s146v))) [(0, .pointer (some ⟨b0, 0, none⟩)), (84, .bool (((s10v && s31v) && s137v) && (decide (s143v = s146v))))] rfl rfl rfl rfl (.o (s := 0) rfl (by decide) (.v 14 rfl rfl .nil)) (fun hb159v => RQ.sub (E' := [(0, .pointer (some ⟨b0, 0, none⟩))]) ⟨rfl, trivial⟩ (q_move rfl rfl)) rfl) (aq rfl (fun γ => QOb.grd (b := ((s10v && s31v) && s137v) && (decide (s143v = s146v))) [(84, .bool (((s10v && s31v) && s137v) && (decide (s143v = s146v)))), (85, cv ((((s10v && s31v) && s137v) && (decide (s143v = s146v))) == true) (.pointer (some ⟨b0, 0, none⟩)))] rfl rfl rfl rfl (.v 14 rfl rfl (.v 15 rfl rfl .nil)) (fun hb163v => RQ.sub (E' := [(85, .pointer (some ⟨b0, 0, none⟩))]) ⟨lk_cv rfl hb163v, trivial⟩ (RE.rq (re_call (vs := [.pointer (some ⟨b0, 0, none⟩)]) (cap := []) (A := [obj b0 64 [.map (some m0_0), str x0_1, .int .i64 x0_2, .bool x0_3], mapF (mapO m0_0 enc9 encP q0_0) FA68 q0_0 x0_0]) (rst := [Row 36 3 g140v.1 s128v.length g140v.2.1 rs141v.flatten, g140v.2.2, obj b1 29 [.slice a1_0 x1_0.length c1_0, .int .i64 x1_1, .bool x1_2, str x1_3], F]) rfl rfl rfl rfl rfl rfl Try.call23 (.sel 2 rfl (.sel 2 rfl (.sel 0 rfl (.sel 0 rfl (.sel 0 rfl (.sel 0 rfl (.nil _))))))) (disk_Disk_Down.calls _ _ b0 m0_0 q0_0 x0_0 x0_1 x0_2 x0_3 ) (disk_Disk_Down.tot x0_0 x0_1 x0_2 x0_3)) (fun _ => rfl) (fun _ => (.sel 2 rfl (.sel 2 rfl (.sel 0 rfl (.sel 0 rfl (.sel 0 rfl (.sel 0 rfl (.nil _)))))))))) rfl) (aq rfl (fun γ => QOb.grd (b := ((s10v && s31v) && s137v) && (decide (s143v = s146v))) [(1, .pointer (some ⟨b1, 0, none⟩)), (84, .bool (((s10v && s31v) && s137v) && (decide (s143v = s146v))))] rfl rfl rfl rfl (.o (s := 1) rfl (by decide) (.v 14 rfl rfl .nil)) (fun hb164v => RQ.sub (E' := [(1, .pointer (some ⟨b1, 0, none⟩))]) ⟨rfl, trivial⟩ (q_move rfl rfl)) rfl) (aq rfl (fun γ => QOb.grd (b := ((s10v && s31v) && s137v) && (decide (s143v = s146v))) [(84, .bool (((s10v && s31v) && s137v) && (decide (s143v = s146v)))), (87, cv ((((s10v && s31v) && s137v) && (decide (s143v = s146v))) == true) (.pointer (some ⟨b1, 0, none⟩)))] rfl rfl rfl rfl (.v 14 rfl rfl (.v 17 rfl rfl .nil)) (fun hb165v => RQ.sub (E' := [(87, .pointer (some ⟨b1, 0, none⟩))]) ⟨lk_cv rfl hb165v, trivial⟩ (q_nil rfl rfl)) rfl) (aq rfl (fun γ => QOb.grd (b := ((s10v && s31v) && s137v) && (decide (s143v = s146v))) [(84, .bool (((s10v && s31v) && s137v) && (decide (s143v = s146v)))), (88, cv ((((s10v && s31v) && s137v) && (decide (s143v = s146v))) == true) (.pointer (some ⟨b1, 0, none⟩)))] rfl rfl rfl rfl (.v 14 rfl rfl (.v 18 rfl rfl .nil)) (fun hb166v => RQ.sub (E' := [(88, .pointer (some ⟨b1, 0, none⟩))]) ⟨lk_cv rfl hb166v, trivial⟩ (q_fa rfl rfl Try.underlying29 rfl rfl Try.sizeOf4 rfl)) rfl) (aq rfl (fun γ => QOb.grd (b := ((s10v && s31v) && s137v) && (decide (s143v = s146v))) [(84, .bool (((s10v && s31v) && s137v) && (decide (s143v = s146v)))), (89, cv ((((s10v && s31v) && s137v) && (decide (s143v = s146v))) == true) (.pointer (some ⟨b1, 2, none⟩)))] rfl rfl rfl rfl (.v 14 rfl rfl (.v 19 rfl rfl .nil)) (fun hb167v => RQ.sub (E' := [(89, .pointer (some ⟨b1, 2, none⟩))]) ⟨lk_cv rfl hb167v, trivial⟩ (q_load rfl rfl Try.isAgg4 (.obj 4 rfl rfl))) rfl) (aq rfl (fun γ => QOb.grd (b := ((s10v && s31v) && s137v) && (decide (s143v = s146v))) [(84, .bool (((s10v && s31v) && s137v) && (decide (s143v = s146v)))), (86, cv ((((s10v && s31v) && s137v) && (decide (s143v = s146v))) == true) (.bool (disk_Disk_Down.v x0_0 x0_1 x0_2 x0_3))), (90, cv ((((s10v && s31v) && s137v) && (decide (s143v = s146v))) == true) (.bool x1_2))] rfl rfl rfl rfl (.v 14 rfl rfl (.v 16 rfl rfl (.v 20 rfl rfl .nil))) (fun hb168v => RQ.sub (E' := [(86, .bool (disk_Disk_Down.v x0_0 x0_1 x0_2 x0_3)), (90, .bool x1_2)]) ⟨lk_cv rfl hb168v, lk_cv rfl hb168v, trivial⟩ (q_eqb rfl rfl rfl Try.underlying4)) rfl) (aq rfl (fun γ => qp rfl rfl (.v 14 rfl rfl (.v 21 rfl rfl .nil)) (q_and rfl rfl rfl) rfl) (aq rfl (fun γ => qp rfl rfl (.v 22 rfl rfl .nil) (q_asg rfl rfl) rfl) zA))))))))))))))))))))))))
 exact zA
 intro g169v
 refine nrm_then (sim_rtn ?_)
 exact rtn_fn () rfl rfl rfl (.sel 2 rfl (.sel 2 rfl (.sel 2 rfl (.sel 2 rfl (.nil _)))))

def synodref4_Disk_fails.f (x0_0 : List (Ty36)) (x0_1 : Int) (x0_2 : Bool) (x0_3 : List UInt8) : Option (Bool × Int × Bool × List UInt8) := if x0_1 < (1 : Int) then (some (false, x0_1, x0_2, x0_3)) else (some (decide (IntKind.i64.wrap (x0_1 - 1) = (0 : Int)), IntKind.i64.wrap (x0_1 - 1), decide (IntKind.i64.wrap (x0_1 - 1) = (0 : Int)), x0_3))
theorem synodref4_Disk_fails.calls (W : World) (F : HA) (b0 : Nat) (a0_0 : Option Addr) (c0_0 : Nat) (x0_0 : List (Ty36)) (x0_1 : Int) (x0_2 : Bool) (x0_3 : List UInt8) (h0_0 : RdV F 3 (V36 F) a0_0 x0_0) (hc0_0 : x0_0.length ≤ c0_0) (hm0_0 : c0_0 ≤ maxLen) :
    Fn Try.prog W 38 [.pointer (some ⟨b0, 0, none⟩)] [obj b0 29 [.slice a0_0 x0_0.length c0_0, .int .i64 x0_1, .bool x0_2, str x0_3]] F (synodref4_Disk_fails.f x0_0 x0_1 x0_2 x0_3) (fun (r : Bool × Int × Bool × List UInt8) (y : Unit) => .bool r.1) (fun r y => [obj b0 29 [.slice a0_0 x0_0.length c0_0, .int .i64 r.2.1, .bool r.2.2.1, str r.2.2.2]]) := by
 unfold synodref4_Disk_fails.f
 refine fn_intro 28 Try.func38 rfl Try.ntmps38 rfl ?_
 refine sr ?_
 refine va rfl rfl (simL_nil (nrm_then (sim_seq (sr ?_))))
 refine vm rfl rfl ?_
 refine vn rfl rfl ?_
 refine vq (q_fa rfl rfl Try.underlying29 rfl rfl Try.sizeOf3 rfl) rfl ?_
 refine vq (q_load rfl rfl Try.isAgg3 (.obj 0 rfl rfl)) rfl ?_
 refine vq (q_lss rfl rfl rfl) rfl (simL_nil (nrm_then ?_))
 refine sim_cond rfl (fun h1v => ?_) (fun h2v => ?_)
 refine sr ?_
 refine va rfl rfl (simL_nil (nrm_then (sim_rtn ?_)))
 refine rtn_then ?_
 exact rtn_fn () rfl rfl rfl (.sel 0 rfl (.sel 0 rfl (.nil _)))
 refine sim_skip ?_
 refine nrm_then (sr ?_)
 refine vm rfl rfl ?_
 refine vm rfl rfl ?_
 refine vn rfl rfl ?_
 refine vq (q_fa rfl rfl Try.underlying29 rfl rfl Try.sizeOf3 rfl) rfl ?_
 refine vq (q_load rfl rfl Try.isAgg3 (.obj 0 rfl rfl)) rfl ?_
 refine vq (q_sub rfl rfl rfl) rfl ?_
 refine vn rfl rfl ?_
 refine vq (q_fa rfl rfl Try.underlying29 rfl rfl Try.sizeOf3 rfl) rfl ?_
 refine simL_do (re_store 0 rfl rfl rfl Try.sizeOf3 rfl rfl (one_of (by rfl)) rfl rfl) rfl rfl ?_
 intro _
 refine nx ?_
 refine vm rfl rfl ?_
 refine vm rfl rfl ?_
 refine vn rfl rfl ?_
 refine vq (q_fa rfl rfl Try.underlying29 rfl rfl Try.sizeOf3 rfl) rfl ?_
 refine vq (q_load rfl rfl Try.isAgg3 (.obj 0 rfl rfl)) rfl ?_
 refine vq (q_eql rfl rfl rfl) rfl ?_
 refine vn rfl rfl ?_
 refine vq (q_fa rfl rfl Try.underlying29 rfl rfl Try.sizeOf4 rfl) rfl ?_
 refine simL_do (re_store 0 rfl rfl rfl Try.sizeOf4 rfl rfl (one_of (by rfl)) rfl rfl) rfl rfl ?_
 intro _
 refine nx ?_
 refine vm rfl rfl ?_
 refine vn rfl rfl ?_
 refine vq (q_fa rfl rfl Try.underlying29 rfl rfl Try.sizeOf4 rfl) rfl ?_
 refine vq (q_load rfl rfl Try.isAgg4 (.obj 0 rfl rfl)) rfl ?_
 refine va rfl rfl (simL_nil (nrm_then (sim_rtn ?_)))
 exact rtn_fn () rfl rfl rfl (.sel 0 rfl (.sel 0 rfl (.nil _)))

def synodref4_Disk_Create.f (k : Nat) (x0_0 : List (Ty36)) (x0_1 : Int) (x0_2 : Bool) (x0_3 : List UInt8) (x1 : List UInt8) : Option (Int × (List (Ty36)) × Int × Bool × List UInt8) := if x0_2 = true then (some (11, x0_0, x0_1, x0_2, x0_3)) else ((synodref4_Name.f k x1).bind fun s3v => (if (!s3v) = true then (some (7, x0_0, x0_1, x0_2, x0_3)) else ((synodref4_Disk_at.f k x0_0 x0_1 x0_2 x0_3 x1).bind fun s14v => (if (0 : Int) ≤ s14v then (some (9, x0_0, x0_1, x0_2, x0_3)) else (if (256 : Int) ≤ (x0_0.length : Int) then (some (10, x0_0, x0_1, x0_2, x0_3)) else ((synodref4_Disk_fails.f x0_0 x0_1 x0_2 x0_3).bind fun s25v => (if s25v.1 = true then (some (11, x0_0, s25v.2.1, s25v.2.2.1, s25v.2.2.2)) else ((synodref4_Disk_put.f k x0_0 s25v.2.1 s25v.2.2.1 s25v.2.2.2 x1 ([] : List UInt8) (0 : Int)).bind fun s30v => (some (0, s30v.1, s30v.2.1, s30v.2.2.1, s30v.2.2.2))))))))))
theorem synodref4_Disk_Create.calls (W : World) (F : HA) (k : Nat) (b0 : Nat) (a0_0 : Option Addr) (c0_0 : Nat) (x0_0 : List (Ty36)) (z0_0 : HA) (x0_1 : Int) (x0_2 : Bool) (x0_3 : List UInt8) (x1 : List UInt8)  :
    Fn Try.prog W 13 [.pointer (some ⟨b0, 0, none⟩), str x1] [obj b0 29 [.slice a0_0 x0_0.length c0_0, .int .i64 x0_1, .bool x0_2, str x0_3], RowV 36 3 (V36 z0_0) a0_0 x0_0 c0_0, z0_0] F (synodref4_Disk_Create.f k x0_0 x0_1 x0_2 x0_3 x1) (fun (r : Int × (List (Ty36)) × Int × Bool × List UInt8) (y : Option Addr × Nat × HA) => .int .i64 r.1) (fun r y => [obj b0 29 [.slice y.1 r.2.1.length y.2.1, .int .i64 r.2.2.1, .bool r.2.2.2.1, str r.2.2.2.2], RowV 36 3 (V36 (y.2.2)) y.1 r.2.1 y.2.1, y.2.2]) := by
 unfold synodref4_Disk_Create.f
 refine fn_intro 30 Try.func13 rfl Try.ntmps13 rfl ?_
 refine sr ?_
 refine va rfl rfl (simL_nil (nrm_then (sim_seq (sr ?_))))
 refine vm rfl rfl ?_
 refine vn rfl rfl ?_
 refine vq (q_fa rfl rfl Try.underlying29 rfl rfl Try.sizeOf4 rfl) rfl ?_
 refine vq (q_load rfl rfl Try.isAgg4 (.obj 0 rfl rfl)) rfl (simL_nil (nrm_then ?_))
 refine sim_condb rfl (fun h1v => ?_) (fun h2v => ?_)
 refine sr ?_
 refine va rfl rfl (simL_nil (nrm_then (sim_rtn ?_)))
 refine rtn_then ?_
 exact rtn_fn (a0_0, c0_0, z0_0) rfl rfl rfl (.sel 0 rfl (.sel 0 rfl (.sel 0 rfl (.sel 0 rfl (.nil _)))))
 refine sim_skip ?_
 refine nrm_then (sr ?_)
 refine vm rfl rfl ?_
 refine simL_bind (fun s3v hs4v => ?_)
 refine simL_eff (re_call (vs := [str x1]) (cap := []) (A := []) (rst := [obj b0 29 [.slice a0_0 x0_0.length c0_0, .int .i64 x0_1, .bool x0_2, str x0_3], RowV 36 3 (V36 z0_0) a0_0 x0_0 c0_0, z0_0, F]) rfl rfl rfl rfl rfl rfl Try.call36 (.sel 0 rfl (.sel 0 rfl (.sel 0 rfl (.sel 0 rfl (.nil _))))) (synodref4_Name.calls _ _ k x1 ) hs4v) rfl rfl rfl ?_
 intro y5v
 refine va rfl rfl (simL_nil (nrm_then (sim_seq (sr ?_))))
 refine vm rfl rfl ?_
 refine vq (q_not rfl rfl) rfl (simL_nil (nrm_then ?_))
 refine sim_condb rfl (fun h6v => ?_) (fun h7v => ?_)
 refine sr ?_
 refine va rfl rfl (simL_nil (nrm_then (sim_rtn ?_)))
 refine rtn_then ?_
 exact rtn_fn (a0_0, c0_0, z0_0) rfl rfl rfl (.sel 0 rfl (.sel 0 rfl (.sel 0 rfl (.sel 0 rfl (.nil _)))))
 refine sim_skip ?_
 refine nrm_then (sim_seq (sr ?_))
 refine vm rfl rfl ?_
 refine vm rfl rfl ?_
 refine simL_openV 1 rfl (fun rs8v hl9v => ?_)
 refine simL_bind (fun s14v hs15v => ?_)
 refine simL_lend 1 rfl (fun hq10v hq11v hq12v hq13v => ?_)
 refine simL_eff (re_call (vs := [.pointer (some ⟨b0, 0, none⟩), str x1]) (cap := []) (A := [obj b0 29 [.slice a0_0 x0_0.length c0_0, .int .i64 x0_1, .bool x0_2, str x0_3]]) (rst := [Row 36 3 a0_0 x0_0.length c0_0 rs8v.flatten, z0_0, F]) rfl rfl rfl rfl rfl rfl Try.call37 (.sel 0 rfl (.sel 0 rfl (.sel 0 rfl (.sel 0 rfl (.nil _))))) (synodref4_Disk_at.calls _ _ k b0 a0_0 c0_0 x0_0 x0_1 x0_2 x0_3 x1 ((Rd.asV hl9v hq10v).up (Up.lend 0 rfl) (V36.up (Up.lend 1 rfl))) hq11v hq12v) hs15v) rfl rfl rfl ?_
 intro y16v
 refine vq (q_geq rfl rfl rfl) rfl (simL_nil (nrm_then ?_))
 refine sim_cond rfl (fun h17v => ?_) (fun h18v => ?_)
 refine sr ?_
 refine va rfl rfl (simL_nil (nrm_then (sim_rtn ?_)))
 refine rtn_then ?_
 exact rtn_fn (a0_0, c0_0, z0_0) rfl rfl rfl (.sel 0 rfl (.sel' 0 rfl (RowV.mk hl9v) (.sel 0 rfl (.sel 0 rfl (.nil _)))))
 refine sim_skip ?_
 refine nrm_then (sim_seq (sr ?_))
 refine vm rfl rfl ?_
 refine vn rfl rfl ?_
 refine vq (q_fa rfl rfl Try.underlying29 rfl rfl Try.sizeOf27 rfl) rfl ?_
 refine vq (q_load rfl rfl Try.isAgg27 (.obj 0 rfl rfl)) rfl ?_
 refine vq (q_len rfl rfl rfl Try.underlying27) rfl ?_
 refine vq (q_geq rfl rfl rfl) rfl (simL_nil (nrm_then ?_))
 refine sim_cond rfl (fun h19v => ?_) (fun h20v => ?_)
 refine sr ?_
 refine va rfl rfl (simL_nil (nrm_then (sim_rtn ?_)))
 refine rtn_then ?_
 exact rtn_fn (a0_0, c0_0, z0_0) rfl rfl rfl (.sel 0 rfl (.sel' 0 rfl (RowV.mk hl9v) (.sel 0 rfl (.sel 0 rfl (.nil _)))))
 refine sim_skip ?_
 refine nrm_then (sim_seq (sr ?_))
 refine vm rfl rfl ?_
 refine simL_bind (fun s25v hs26v => ?_)
 refine simL_lend 1 rfl (fun hq21v hq22v hq23v hq24v => ?_)
 refine simL_eff (re_call (vs := [.pointer (some ⟨b0, 0, none⟩)]) (cap := []) (A := [obj b0 29 [.slice a0_0 x0_0.length c0_0, .int .i64 x0_1, .bool x0_2, str x0_3]]) (rst := [Row 36 3 a0_0 x0_0.length c0_0 rs8v.flatten, z0_0, F]) rfl rfl rfl rfl rfl rfl Try.call38 (.sel 0 rfl (.sel 0 rfl (.sel 0 rfl (.sel 0 rfl (.nil _))))) (synodref4_Disk_fails.calls _ _ b0 a0_0 c0_0 x0_0 x0_1 x0_2 x0_3 ((Rd.asV hl9v hq21v).up (Up.lend 0 rfl) (V36.up (Up.lend 1 rfl))) hq22v hq23v) hs26v) rfl rfl rfl ?_
 intro y27v
 refine simL_nil (nrm_then ?_)
 refine sim_condb rfl (fun h28v => ?_) (fun h29v => ?_)
 refine sr ?_
 refine va rfl rfl (simL_nil (nrm_then (sim_rtn ?_)))
 refine rtn_then ?_
 exact rtn_fn (a0_0, c0_0, z0_0) rfl rfl rfl (.sel 0 rfl (.sel' 0 rfl (RowV.mk hl9v) (.sel 0 rfl (.sel 0 rfl (.nil _)))))
 refine sim_skip ?_
 refine nrm_then (sr ?_)
 refine vm rfl rfl ?_
 refine vm rfl rfl ?_
 refine vq (q_build (v := .agg #[str x1, .slice none 0 0, .int .i64 0]) rfl rfl (fun _ => by kernel_rfl)) rfl ?_
 refine simL_bind (fun s30v hs31v => ?_)
 refine simL_eff (re_call (vs := [.pointer (some ⟨b0, 0, none⟩), .agg #[str x1, .slice none 0 0, .int .i64 0]]) (cap := []) (A := [obj b0 29 [.slice a0_0 x0_0.length c0_0, .int .i64 s25v.2.1, .bool s25v.2.2.1, str s25v.2.2.2], RowV 36 3 (V36 z0_0) a0_0 x0_0 c0_0, z0_0]) (rst := [F]) rfl rfl rfl rfl rfl rfl Try.call39 (.sel 0 rfl (.sel' 0 rfl (RowV.mk hl9v) (.sel 0 rfl (.sel 0 rfl (.nil _))))) (synodref4_Disk_put.calls _ _ k b0 a0_0 c0_0 x0_0 z0_0 s25v.2.1 s25v.2.2.1 s25v.2.2.2 x1 none 0 ([] : List UInt8) (0 : Int) (Rd.nil _ _) (Nat.le_refl _) (Nat.zero_le _)) hs31v) rfl rfl rfl ?_
 intro y32v
 refine nx ?_
 refine va rfl rfl (simL_nil (nrm_then (sim_rtn ?_)))
 exact rtn_fn (y32v.1, y32v.2.1, y32v.2.2) rfl rfl rfl (.sel 0 rfl (.sel 0 rfl (.sel 0 rfl (.sel 0 rfl (.nil _)))))

def synodref_Lent.f (x0 : List UInt8) : Option (List UInt8 × List UInt8) := (synodref_Bytes.f x0).bind fun s1v => (if (s1v.length + ([201] : List UInt8).length) * 1 ≤ 140737488355328 then (if 0 ≤ (x0.length : Int) ∧ (x0.length : Int) ≤ ((s1v ++ ([201] : List UInt8)).length : Int) then (some (List.take (x0.length : Int).toNat (s1v ++ ([201] : List UInt8)), List.drop (x0.length : Int).toNat (s1v ++ ([201] : List UInt8)))) else none) else none)
theorem synodref_Lent.calls (W : World) (F : HA) (a0 : Option Addr) (c0 : Nat) (x0 : List UInt8) (h0 : Rd F a0 (encB x0)) (hc0 : x0.length ≤ c0) (hm0 : c0 ≤ maxLen) :
    Fn Try.prog W 48 [.slice a0 x0.length c0] [] F (synodref_Lent.f x0) (fun (r : List UInt8 × List UInt8) (y : Option Addr × Nat) => .slice y.1 r.1.length y.2) (fun r y => [Row 5 1 y.1 r.1.length y.2 (encB (r.1 ++ r.2))]) := by
 unfold synodref_Lent.f
 refine fn_intro 12 Try.func48 rfl Try.ntmps48 rfl ?_
 refine sr ?_
 refine va rfl rfl (nx ?_)
 refine vm rfl rfl ?_
 refine simL_bind (fun s1v hs2v => ?_)
 refine simL_eff (re_call (vs := [.slice a0 x0.length c0]) (cap := []) (A := []) (rst := [F]) rfl rfl rfl rfl rfl rfl Try.call40 (.sel 0 rfl (.nil _)) (synodref_Bytes.calls _ _ a0 c0 x0 (h0.lend 0 rfl) hc0 hm0) hs2v) rfl rfl rfl ?_
 intro y3v
 refine simL_eff (re_litb (cs := [.int .u8 201]) ([201] : List UInt8) rfl rfl Try.underlying34 elt5 rfl (by kernel_rfl) rfl rfl rfl) rfl rfl rfl ?_
 intro b4v
 refine simL_ask (fun hb7v => ?_)
 refine simL_eff (re_appendb 1 rfl rfl rfl Try.underlying34 elt5 rfl (Rds.row 0 rfl) hb7v) rfl rfl rfl ?_
 intro y6v
 refine va rfl rfl (nx ?_)
 refine vm rfl rfl ?_
 refine vm rfl rfl ?_
 refine vq (q_len rfl rfl rfl Try.underlying34) rfl ?_
 refine simL_ask (fun hb8v => ?_)
 refine simL_eff (re_cut0 1 rfl rfl rfl Try.underlying34 Try.sizeOf5 rfl hb8v) rfl rfl rfl ?_
 intro _
 refine va rfl rfl (simL_nil (nrm_then (sim_rtn ?_)))
 exact rtn_fn (y6v.1, y6v.2) rfl rfl rfl (.sel 1 rfl (.sel 1 rfl (.nil _)))

def synodref_Kept.f (k : Nat) (x0 : List UInt8) (z0 : List UInt8) (x1 : List UInt8) : Option (Bool) := (synodref_SameBytes.f k x0 x1).bind fun s1v => ((if (s1v && (decide ((x0.length : Int) = (x1.length : Int)))) = true then (if 0 ≤ (0 : Int) ∧ (0 : Int) ≤ IntKind.i64.wrap ((x1.length : Int) + 1) ∧ IntKind.i64.wrap ((x1.length : Int) + 1) ≤ ((x0 ++ z0).length : Int) then (if 0 ≤ (x1.length : Int) ∧ (x1.length : Int) < ((cut (x0 ++ z0) (0 : Int) (IntKind.i64.wrap ((x1.length : Int) + 1))).length : Int) then (some (decide ((((cut (x0 ++ z0) (0 : Int) (IntKind.i64.wrap ((x1.length : Int) + 1))).getD (x1.length : Int).toNat 0).toNat : Int) = (201 : Int)))) else none) else none) else (some false)).bind fun s4v => (some s4v))
theorem synodref_Kept.calls (W : World) (F : HA) (k : Nat) (a0 : Option Addr) (c0 : Nat) (x0 z0 : List UInt8) (a1 : Option Addr) (c1 : Nat) (x1 : List UInt8) (h0 : Rd F a0 (encB (x0 ++ z0))) (hc0 : (x0 ++ z0).length ≤ c0) (hm0 : c0 ≤ maxLen) (h1 : Rd F a1 (encB x1)) (hc1 : x1.length ≤ c1) (hm1 : c1 ≤ maxLen) :
    Fn Try.prog W 49 [.slice a0 x0.length c0, .slice a1 x1.length c1] [] F (synodref_Kept.f k x0 z0 x1) (fun (r : Bool) (y : Unit) => .bool r) (fun r y => []) := by
 unfold synodref_Kept.f
 refine fn_intro 29 Try.func49 rfl Try.ntmps49 rfl ?_
 refine sr ?_
 refine va rfl rfl (nx ?_)
 refine vm rfl rfl ?_
 refine vm rfl rfl ?_
 refine simL_bind (fun s1v hs2v => ?_)
 refine simL_eff (re_call (vs := [.slice a0 x0.length c0, .slice a1 x1.length c1]) (cap := []) (A := []) (rst := [F]) rfl rfl rfl rfl rfl rfl Try.call24 (.sel 0 rfl (.nil _)) (synodref_SameBytes.calls _ _ k a0 c0 x0 a1 c1 x1 ((rd_front h0).lend 0 rfl) (front_len hc0) hm0 (h1.lend 0 rfl) hc1 hm1) hs2v) rfl rfl rfl ?_
 intro y3v
 refine va rfl rfl (nx ?_)
 refine vm rfl rfl ?_
 refine vm rfl rfl ?_
 refine simL_valc (b := s1v) (fun hb23v => RQ.sub (E' := [(0, .slice a0 x0.length c0)]) ⟨rfl, trivial⟩ (q_move rfl rfl)) rfl rfl rfl rfl rfl ?_
 refine simL_valc (b := s1v) (fun hb22v => RQ.sub (E' := [(11, .slice a0 x0.length c0)]) ⟨lk_cv rfl hb22v, trivial⟩ (q_len rfl rfl rfl Try.underlying34)) rfl rfl rfl rfl rfl ?_
 refine simL_valc (b := s1v) (fun hb21v => RQ.sub (E' := [(1, .slice a1 x1.length c1)]) ⟨rfl, trivial⟩ (q_move rfl rfl)) rfl rfl rfl rfl rfl ?_
 refine simL_valc (b := s1v) (fun hb20v => RQ.sub (E' := [(13, .slice a1 x1.length c1)]) ⟨lk_cv rfl hb20v, trivial⟩ (q_len rfl rfl rfl Try.underlying34)) rfl rfl rfl rfl rfl ?_
 refine simL_valc (b := s1v) (fun hb19v => RQ.sub (E' := [(12, .int .i64 (x0.length : Int)), (14, .int .i64 (x1.length : Int))]) ⟨lk_cv rfl hb19v, lk_cv rfl hb19v, trivial⟩ (q_eql rfl rfl rfl)) rfl rfl rfl rfl rfl ?_
 refine vq (q_and rfl rfl rfl) rfl ?_
 refine vm rfl rfl ?_
 refine simL_cut' 11 (S := Bool) (Unit) (fun s y => [(28, .bool s)]) (fun s y => [F]) ?_ ?_
 refine simL_caseb (fun hb17v => ?_) (fun hb18v => ?_)
 rw [hb17v]
 refine simL_valg (q_move rfl rfl) rfl rfl rfl rfl rfl rfl ?_
 refine simL_valg (q_move rfl rfl) rfl rfl rfl rfl rfl rfl ?_
 refine simL_valg (q_len rfl rfl rfl Try.underlying34) rfl rfl rfl rfl rfl rfl ?_
 refine simL_valg (q_add rfl rfl rfl) rfl rfl rfl rfl rfl rfl ?_
 refine simL_ask (fun hb6v => ?_)
 obtain ⟨a7v, c8v, hS9v, hr10v, hc11v, hm12v⟩ := slice_pre (lo := (0 : Int)) (hi := IntKind.i64.wrap ((x1.length : Int) + 1)) h0 hc0 hb6v
 refine simL_valg (q_sub_ro (l := (x0 ++ z0)) (lo' := (0 : Int)) (hi' := IntKind.i64.wrap ((x1.length : Int) + 1)) rfl rfl rfl rfl Try.underlying34 Try.sizeOf5 (.inr ⟨_, rfl⟩) (.inl ⟨rfl, rfl⟩) hb6v hc0 hS9v) rfl rfl rfl rfl rfl rfl ?_
 refine simL_valg (q_move rfl rfl) rfl rfl rfl rfl rfl rfl ?_
 refine simL_valg (q_len rfl rfl rfl Try.underlying34) rfl rfl rfl rfl rfl rfl ?_
 refine simL_ask (fun hi13v => ?_)
 obtain ⟨b14v, b14vo, ha15v⟩ := hr10v.pos (encB_ne (j := (x1.length : Int).toNat) (by omega))
 refine simL_valg (q_idx1 rfl rfl rfl ha15v Try.underlying34 Try.sizeOf5 hi13v.1 hi13v.2) rfl rfl rfl rfl rfl rfl ?_
 refine simL_valg (q_load rfl rfl Try.isAgg5 (hr10v.cell 0 rfl ha15v (encB_get (by omega)))) rfl rfl rfl rfl rfl rfl ?_
 refine simL_valg (q_eql rfl rfl rfl) rfl rfl rfl rfl rfl rfl ?_
 refine vq (q_pick rfl rfl rfl rfl rfl) rfl (simL_nil ?_)
 exact nrm_cut (s := decide ((((cut (x0 ++ z0) (0 : Int) (IntKind.i64.wrap ((x1.length : Int) + 1))).getD (x1.length : Int).toNat 0).toNat : Int) = (201 : Int))) () ⟨rfl, trivial⟩ (.sel 0 rfl (.nil _))
 rw [hb18v]
 refine simL_skipd rfl rfl rfl rfl rfl rfl ?_
 refine simL_skipd rfl rfl rfl rfl rfl rfl ?_
 refine simL_skipd rfl rfl rfl rfl rfl rfl ?_
 refine simL_skipd rfl rfl rfl rfl rfl rfl ?_
 refine simL_skipd rfl rfl rfl rfl rfl rfl ?_
 refine simL_skipd rfl rfl rfl rfl rfl rfl ?_
 refine simL_skipd rfl rfl rfl rfl rfl rfl ?_
 refine simL_skipd rfl rfl rfl rfl rfl rfl ?_
 refine simL_skipd rfl rfl rfl rfl rfl rfl ?_
 refine simL_skipd rfl rfl rfl rfl rfl rfl ?_
 refine vq (q_pick rfl rfl rfl rfl rfl) rfl (simL_nil ?_)
 exact nrm_cut (s := false) () ⟨rfl, trivial⟩ (.sel 0 rfl (.nil _))
 intro s4v y5v
 refine va rfl rfl (simL_nil (nrm_then (sim_rtn ?_)))
 exact rtn_fn () rfl rfl rfl (.sel 0 rfl (.nil _))

def synodref4_Disk_Append.f (k : Nat) (x0_0 : List (Ty36)) (x0_1 : Int) (x0_2 : Bool) (x0_3 : List UInt8) (x1 : List UInt8) (x2 : List UInt8) : Option (Int × (List (Ty36)) × Int × Bool × List UInt8) := if x0_2 = true then (some (11, x0_0, x0_1, x0_2, x0_3)) else ((synodref4_Disk_at.f k x0_0 x0_1 x0_2 x0_3 x1).bind fun s9v => (if s9v < (0 : Int) then (some (8, x0_0, x0_1, x0_2, x0_3)) else ((synodref4_Disk_Size.f k x0_0 x0_1 x0_2 x0_3).bind fun s18v => (if IntKind.i64.wrap (16777216 - s18v) < (x2.length : Int) then (some (10, x0_0, x0_1, x0_2, x0_3)) else ((synodref4_Disk_fails.f x0_0 x0_1 x0_2 x1).bind fun s27v => (if s27v.1 = true then (if 0 ≤ s9v ∧ s9v < (x0_0.length : Int) then ((synodref_Bytes.f ((x0_0.getD s9v.toNat dz36).2.1)).bind fun s45v => (if 0 ≤ (0 : Int) ∧ (0 : Int) ≤ IntKind.i64.wrap (Int.tdiv (x2.length : Int) 2) ∧ IntKind.i64.wrap (Int.tdiv (x2.length : Int) 2) ≤ (x2.length : Int) then (if (s45v.length + (cut x2 (0 : Int) (IntKind.i64.wrap (Int.tdiv (x2.length : Int) 2))).length) * 1 ≤ 140737488355328 then (if 0 ≤ s9v ∧ s9v < (x0_0.length : Int) then (some (11, x0_0.set s9v.toNat ((x0_0.getD s9v.toNat dz36).1, s45v ++ (cut x2 (0 : Int) (IntKind.i64.wrap (Int.tdiv (x2.length : Int) 2))), (x0_0.getD s9v.toNat dz36).2.2), s27v.2.1, s27v.2.2.1, s27v.2.2.2)) else none) else none) else none)) else none) else (if 0 ≤ s9v ∧ s9v < (x0_0.length : Int) then ((synodref_Bytes.f ((x0_0.getD s9v.toNat dz36).2.1)).bind fun s89v => (if (s89v.length + x2.length) * 1 ≤ 140737488355328 then (if 0 ≤ s9v ∧ s9v < (x0_0.length : Int) then (some (0, x0_0.set s9v.toNat ((x0_0.getD s9v.toNat dz36).1, s89v ++ x2, (x0_0.getD s9v.toNat dz36).2.2), s27v.2.1, s27v.2.2.1, s27v.2.2.2)) else none) else none)) else none)))))))
theorem synodref4_Disk_Append.calls (W : World) (F : HA) (k : Nat) (b0 : Nat) (a0_0 : Option Addr) (c0_0 : Nat) (x0_0 : List (Ty36)) (z0_0 : HA) (x0_1 : Int) (x0_2 : Bool) (x0_3 : List UInt8) (x1 : List UInt8) (a2 : Option Addr) (c2 : Nat) (x2 : List UInt8) (h2 : Rd F a2 (encB x2)) (hc2 : x2.length ≤ c2) (hm2 : c2 ≤ maxLen) :
    Fn Try.prog W 15 [.pointer (some ⟨b0, 0, none⟩), str x1, .slice a2 x2.length c2] [obj b0 29 [.slice a0_0 x0_0.length c0_0, .int .i64 x0_1, .bool x0_2, str x0_3], RowV 36 3 (V36 z0_0) a0_0 x0_0 c0_0, z0_0] F (synodref4_Disk_Append.f k x0_0 x0_1 x0_2 x0_3 x1 x2) (fun (r : Int × (List (Ty36)) × Int × Bool × List UInt8) (y : Option Addr × Nat × HA) => .int .i64 r.1) (fun r y => [obj b0 29 [.slice y.1 r.2.1.length y.2.1, .int .i64 r.2.2.1, .bool r.2.2.2.1, str r.2.2.2.2], RowV 36 3 (V36 (y.2.2)) y.1 r.2.1 y.2.1, y.2.2]) := by
 unfold synodref4_Disk_Append.f
 refine fn_intro 69 Try.func15 rfl Try.ntmps15 rfl ?_
 refine sr ?_
 refine va rfl rfl (simL_nil (nrm_then (sim_seq (sr ?_))))
 refine vm rfl rfl ?_
 refine vn rfl rfl ?_
 refine vq (q_fa rfl rfl Try.underlying29 rfl rfl Try.sizeOf4 rfl) rfl ?_
 refine vq (q_load rfl rfl Try.isAgg4 (.obj 0 rfl rfl)) rfl (simL_nil (nrm_then ?_))
 refine sim_condb rfl (fun h1v => ?_) (fun h2v => ?_)
 refine sr ?_
 refine va rfl rfl (simL_nil (nrm_then (sim_rtn ?_)))
 refine rtn_then ?_
 exact rtn_fn (a0_0, c0_0, z0_0) rfl rfl rfl (.sel 0 rfl (.sel 0 rfl (.sel 0 rfl (.sel 0 rfl (.nil _)))))
 refine sim_skip ?_
 refine nrm_then (sr ?_)
 refine vm rfl rfl ?_
 refine vm rfl rfl ?_
 refine simL_openV 1 rfl (fun rs3v hl4v => ?_)
 refine simL_bind (fun s9v hs10v => ?_)
 refine simL_lend 1 rfl (fun hq5v hq6v hq7v hq8v => ?_)
 refine simL_eff (re_call (vs := [.pointer (some ⟨b0, 0, none⟩), str x1]) (cap := []) (A := [obj b0 29 [.slice a0_0 x0_0.length c0_0, .int .i64 x0_1, .bool x0_2, str x0_3]]) (rst := [Row 36 3 a0_0 x0_0.length c0_0 rs3v.flatten, z0_0, F]) rfl rfl rfl rfl rfl rfl Try.call37 (.sel 0 rfl (.sel 0 rfl (.sel 0 rfl (.sel 0 rfl (.nil _))))) (synodref4_Disk_at.calls _ _ k b0 a0_0 c0_0 x0_0 x0_1 x0_2 x0_3 x1 ((Rd.asV hl4v hq5v).up (Up.lend 0 rfl) (V36.up (Up.lend 1 rfl))) hq6v hq7v) hs10v) rfl rfl rfl ?_
 intro y11v
 refine va rfl rfl (simL_nil (nrm_then (sim_seq (sr ?_))))
 refine vm rfl rfl ?_
 refine vq (q_lss rfl rfl rfl) rfl (simL_nil (nrm_then ?_))
 refine sim_cond rfl (fun h12v => ?_) (fun h13v => ?_)
 refine sr ?_
 refine va rfl rfl (simL_nil (nrm_then (sim_rtn ?_)))
 refine rtn_then ?_
 exact rtn_fn (a0_0, c0_0, z0_0) rfl rfl rfl (.sel 0 rfl (.sel' 0 rfl (RowV.mk hl4v) (.sel 0 rfl (.sel 0 rfl (.nil _)))))
 refine sim_skip ?_
 refine nrm_then (sim_seq (sr ?_))
 refine vm rfl rfl ?_
 refine vq (q_len rfl rfl rfl Try.underlying34) rfl ?_
 refine vm rfl rfl ?_
 refine simL_bind (fun s18v hs19v => ?_)
 refine simL_lend 1 rfl (fun hq14v hq15v hq16v hq17v => ?_)
 refine simL_eff (re_call (vs := [.pointer (some ⟨b0, 0, none⟩)]) (cap := []) (A := [obj b0 29 [.slice a0_0 x0_0.length c0_0, .int .i64 x0_1, .bool x0_2, str x0_3]]) (rst := [Row 36 3 a0_0 x0_0.length c0_0 rs3v.flatten, z0_0, F]) rfl rfl rfl rfl rfl rfl Try.call17 (.sel 0 rfl (.sel 0 rfl (.sel 0 rfl (.sel 0 rfl (.nil _))))) (synodref4_Disk_Size.calls _ _ k b0 a0_0 c0_0 x0_0 x0_1 x0_2 x0_3 ((Rd.asV hl4v hq14v).up (Up.lend 0 rfl) (V36.up (Up.lend 1 rfl))) hq15v hq16v) hs19v) rfl rfl rfl ?_
 intro y20v
 refine vq (q_sub rfl rfl rfl) rfl ?_
 refine vq (q_gtr rfl rfl rfl) rfl (simL_nil (nrm_then ?_))
 refine sim_cond rfl (fun h21v => ?_) (fun h22v => ?_)
 refine sr ?_
 refine va rfl rfl (simL_nil (nrm_then (sim_rtn ?_)))
 refine rtn_then ?_
 exact rtn_fn (a0_0, c0_0, z0_0) rfl rfl rfl (.sel 0 rfl (.sel' 0 rfl (RowV.mk hl4v) (.sel 0 rfl (.sel 0 rfl (.nil _)))))
 refine sim_skip ?_
 refine nrm_then (sr ?_)
 refine vm rfl rfl ?_
 refine vm rfl rfl ?_
 refine vn rfl rfl ?_
 refine vq (q_fa rfl rfl Try.underlying29 rfl rfl Try.sizeOf9 rfl) rfl ?_
 refine simL_do (re_store 0 rfl rfl rfl Try.sizeOf9 rfl rfl (one_of (by rfl)) rfl rfl) rfl rfl ?_
 intro _
 refine simL_nil (nrm_then (sim_seq (sr ?_)))
 refine vm rfl rfl ?_
 refine simL_bind (fun s27v hs28v => ?_)
 refine simL_lend 1 rfl (fun hq23v hq24v hq25v hq26v => ?_)
 refine simL_eff (re_call (vs := [.pointer (some ⟨b0, 0, none⟩)]) (cap := []) (A := [obj b0 29 [.slice a0_0 x0_0.length c0_0, .int .i64 x0_1, .bool x0_2, str x1]]) (rst := [Row 36 3 a0_0 x0_0.length c0_0 rs3v.flatten, z0_0, F]) rfl rfl rfl rfl rfl rfl Try.call38 (.sel 0 rfl (.sel 0 rfl (.sel 0 rfl (.sel 0 rfl (.nil _))))) (synodref4_Disk_fails.calls _ _ b0 a0_0 c0_0 x0_0 x0_1 x0_2 x1 ((Rd.asV hl4v hq23v).up (Up.lend 0 rfl) (V36.up (Up.lend 1 rfl))) hq24v hq25v) hs28v) rfl rfl rfl ?_
 intro y29v
 refine simL_nil (nrm_then ?_)
 refine sim_condb rfl (fun h30v => ?_) (fun h31v => ?_)
 refine sim_seq ?_
 refine sim_ask (fun hi32v => ?_)
 refine sim_posV 1 rfl hl4v rfl (i := s9v.toNat) (by omega) dz36 (fun b33v b33vo r36v ha34v hV37v hlr38v hcell39v => ?_)
 obtain ⟨a40v, c41v, rfl, ⟨he42v, hc43v, hm44v⟩⟩ := hV37v
 refine sim_bind (fun s45v hs46v => ?_)
 refine sim_ask (fun hb49v => ?_)
 obtain ⟨a50v, c51v, hS52v, hr53v, hc54v, hm55v⟩ := slice_pre (lo := (0 : Int)) (hi := IntKind.i64.wrap (Int.tdiv (x2.length : Int) 2)) h2 hc2 hb49v
 refine sim_ask (fun hb57v => ?_)
 refine sim_ask (fun hi58v => ?_)
 refine sim_posV 1 rfl hl4v rfl (i := s9v.toNat) (by omega) dz36 (fun b59v b59vo r62v ha60v hV63v hlr64v hcell65v => ?_)
 obtain ⟨a66v, c67v, rfl, ⟨he68v, hc69v, hm70v⟩⟩ := hV63v
 refine sim_draw (Γ := (Option Addr × Nat) × (Option Addr × Nat)) ((none, 0), (none, 0)) [[], [0], [0, 1], [0, 1, 2], [], [], [5], [5, 6], [5, 6, 7], [], [5, 6, 7, 8, 9], [5, 6, 7, 8, 9, 10], [5, 6, 7, 8, 9, 10, 11], [5, 6, 7, 8, 9, 10, 11, 12], [], [], [15], [15, 16], [14, 15, 16, 17], [5, 6, 7, 8, 9, 10, 11, 12, 13, 14, 15, 16, 17, 18], rL 20, rL 21, rL 22] [13, 19, 22] [0, 1, 2, 3, 4, 5, 6, 7, 8, 9, 10, 11, 12, 14, 15, 16, 17, 18, 20, 21] (fun i => [[0, 1, 2], [0, 1, 2], [0, 1, 2], [0, 1, 2], [0, 1, 2], [0], [0], [0], [0], [0], [0], [0], [0], [], [0, 1], [0, 1], [0, 1], [0, 1], [0, 1], [], [2], [2], []].getD i []) (fun i => [[], [], [], [], [], [], [], [], [], [], [], [], [], [0, 1, 2, 3, 4, 5, 6, 7, 8, 9, 10, 11, 12, 14, 15, 16, 17, 18], [], [], [], [], [], rL 19, [], [], rL 22].getD i []) (fun γ i => [.pointer (some ⟨b0, 0, none⟩), .pointer (some ⟨b0, 0, none⟩), .pointer (some ⟨b0, 0, none⟩), .slice a0_0 x0_0.length c0_0, .int .i64 s9v, .pointer (some ⟨b0, 0, none⟩), .pointer (some ⟨b0, 0, none⟩), .pointer (some ⟨b0, 0, none⟩), .slice a0_0 x0_0.length c0_0, .int .i64 s9v, .pointer (some ⟨b33v, b33vo + s9v.toNat * 3, none⟩), .pointer (some ⟨b33v, b33vo + s9v.toNat * 3 + 1, none⟩), .slice a40v (((x0_0.getD s9v.toNat dz36).2.1).length) c41v, .slice γ.1.1 s45v.length γ.1.2, .slice a2 x2.length c2, .slice a2 x2.length c2, .int .i64 (x2.length : Int), .int .i64 (IntKind.i64.wrap (Int.tdiv (x2.length : Int) 2)), .slice a50v ((cut x2 (0 : Int) (IntKind.i64.wrap (Int.tdiv (x2.length : Int) 2))).length) c51v, .slice γ.2.1 ((s45v ++ (cut x2 (0 : Int) (IntKind.i64.wrap (Int.tdiv (x2.length : Int) 2)))).length) γ.2.2, .pointer (some ⟨b59v, b59vo + s9v.toNat * 3, none⟩), .pointer (some ⟨b59v, b59vo + s9v.toNat * 3 + 1, none⟩), undef].getD i undef) (fun j γ => [[obj b0 29 [.slice a0_0 x0_0.length c0_0, .int .i64 s27v.2.1, .bool s27v.2.2.1, str s27v.2.2.2], Row 36 3 a0_0 x0_0.length c0_0 rs3v.flatten, z0_0, F], [Row 5 1 γ.1.1 s45v.length γ.1.2 (encB s45v), obj b0 29 [.slice a0_0 x0_0.length c0_0, .int .i64 s27v.2.1, .bool s27v.2.2.1, str s27v.2.2.2], Row 36 3 a0_0 x0_0.length c0_0 rs3v.flatten, z0_0, F], [Row 5 1 γ.2.1 (s45v ++ (cut x2 (0 : Int) (IntKind.i64.wrap (Int.tdiv (x2.length : Int) 2)))).length γ.2.2 (encB (s45v ++ (cut x2 (0 : Int) (IntKind.i64.wrap (Int.tdiv (x2.length : Int) 2))))), obj b0 29 [.slice a0_0 x0_0.length c0_0, .int .i64 s27v.2.1, .bool s27v.2.2.1, str s27v.2.2.2], Row 36 3 a0_0 x0_0.length c0_0 rs3v.flatten, z0_0, F], [stars [Row 5 1 γ.2.1 (s45v ++ (cut x2 (0 : Int) (IntKind.i64.wrap (Int.tdiv (x2.length : Int) 2)))).length γ.2.2 (encB (s45v ++ (cut x2 (0 : Int) (IntKind.i64.wrap (Int.tdiv (x2.length : Int) 2))))), z0_0], obj b0 29 [.slice a0_0 ((x0_0.set s9v.toNat ((x0_0.getD s9v.toNat dz36).1, s45v ++ (cut x2 (0 : Int) (IntKind.i64.wrap (Int.tdiv (x2.length : Int) 2))), (x0_0.getD s9v.toNat dz36).2.2)).length) c0_0, .int .i64 s27v.2.1, .bool s27v.2.2.1, str s27v.2.2.2], RowV 36 3 (V36 (stars [Row 5 1 γ.2.1 (s45v ++ (cut x2 (0 : Int) (IntKind.i64.wrap (Int.tdiv (x2.length : Int) 2)))).length γ.2.2 (encB (s45v ++ (cut x2 (0 : Int) (IntKind.i64.wrap (Int.tdiv (x2.length : Int) 2))))), z0_0])) a0_0 (x0_0.set s9v.toNat ((x0_0.getD s9v.toNat dz36).1, s45v ++ (cut x2 (0 : Int) (IntKind.i64.wrap (Int.tdiv (x2.length : Int) 2))), (x0_0.getD s9v.toNat dz36).2.2)) c0_0, F]].getD j []) (fun γ => []) mixed (by decide) (by decide) (by decide) (by decide) (by decide) (by decide) (by decide) 69 rfl (by decide) (by decide) (by decide) (Ent.refl _) ?_ ?_ (fun _ => trivial) ?_
 exact (ac (fun γ => (ac (qm rfl (.o (s := 0) rfl (by decide) .nil) rfl) (ac (qm rfl (.o (s := 0) rfl (by decide) .nil) rfl) (ac (qm rfl (.o (s := 0) rfl (by decide) .nil) rfl) zA)))) (ac (fun γ => (ac (qp rfl rfl (.v 0 rfl rfl .nil) (q_nil rfl rfl) rfl) (ac (qp rfl rfl (.v 0 rfl rfl .nil) (q_nil rfl rfl) rfl) (ac (qp rfl rfl (.v 0 rfl rfl .nil) (q_nil rfl rfl) rfl) zA)))) (ac (fun γ => (ac (qp rfl rfl (.v 1 rfl rfl .nil) (q_fa rfl rfl Try.underlying29 rfl rfl Try.sizeOf27 rfl) rfl) (ac (qp rfl rfl (.v 1 rfl rfl .nil) (q_fa rfl rfl Try.underlying29 rfl rfl Try.sizeOf27 rfl) rfl) (ac (qp rfl rfl (.v 1 rfl rfl .nil) (q_fa rfl rfl Try.underlying29 rfl rfl Try.sizeOf27 rfl) rfl) zA)))) (ac (fun γ => (ac (qp rfl rfl (.v 2 rfl rfl .nil) (q_load rfl rfl Try.isAgg27 (.obj 0 rfl rfl)) rfl) (ac (qp rfl rfl (.v 2 rfl rfl .nil) (q_load rfl rfl Try.isAgg27 (.obj 1 rfl rfl)) rfl) (ac (qp rfl rfl (.v 2 rfl rfl .nil) (q_load rfl rfl Try.isAgg27 (.obj 1 rfl rfl)) rfl) zA)))) (ac (fun γ => (ac (qm rfl (.o (s := 7) rfl (by decide) .nil) rfl) (ac (qm rfl (.o (s := 7) rfl (by decide) .nil) rfl) (ac (qm rfl (.o (s := 7) rfl (by decide) .nil) rfl) zA)))) (aq rfl (fun γ => qm rfl (.o (s := 0) rfl (by decide) .nil) rfl) (aq rfl (fun γ => qp rfl rfl (.v 5 rfl rfl .nil) (q_nil rfl rfl) rfl) (aq rfl (fun γ => qp rfl rfl (.v 6 rfl rfl .nil) (q_fa rfl rfl Try.underlying29 rfl rfl Try.sizeOf27 rfl) rfl) (aq rfl (fun γ => qp rfl rfl (.v 7 rfl rfl .nil) (q_load rfl rfl Try.isAgg27 (.obj 0 rfl rfl)) rfl) (aq rfl (fun γ => qm rfl (.o (s := 7) rfl (by decide) .nil) rfl) (aq rfl (fun γ => qp rfl rfl (.v 8 rfl rfl (.v 9 rfl rfl .nil)) (q_idx rfl rfl rfl ha34v Try.underlying27 Try.sizeOf36 hi32v.1 hi32v.2) rfl) (aq rfl (fun γ => qp rfl rfl (.v 10 rfl rfl .nil) (q_fa rfl rfl Try.underlying36 rfl rfl Try.sizeOf34 rfl) rfl) (aq rfl (fun γ => qp rfl rfl (.v 11 rfl rfl .nil) (q_load rfl rfl Try.isAgg34 (hcell39v 1 rfl 1 _ rfl)) rfl) (ac (fun γ => (ac (qm rfl (.o (s := 2) rfl (by decide) .nil) rfl) (ac (qm rfl (.o (s := 2) rfl (by decide) .nil) rfl) zA))) (ac (fun γ => (ac (qm rfl (.o (s := 2) rfl (by decide) .nil) rfl) (ac (qm rfl (.o (s := 2) rfl (by decide) .nil) rfl) zA))) (ac (fun γ => (ac (qp rfl rfl (.v 15 rfl rfl .nil) (q_len rfl rfl rfl Try.underlying34) rfl) (ac (qp rfl rfl (.v 15 rfl rfl .nil) (q_len rfl rfl rfl Try.underlying34) rfl) zA))) (ac (fun γ => (ac (qp rfl rfl (.v 16 rfl rfl .nil) (q_quo rfl rfl rfl (by decide)) rfl) (ac (qp rfl rfl (.v 16 rfl rfl .nil) (q_quo rfl rfl rfl (by decide)) rfl) zA))) (ac (fun γ => (ac (qp rfl rfl (.v 14 rfl rfl (.v 17 rfl rfl .nil)) (q_sub_ro (l := x2) (lo' := (0 : Int)) (hi' := IntKind.i64.wrap (Int.tdiv (x2.length : Int) 2)) rfl rfl rfl rfl Try.underlying34 Try.sizeOf5 (.inr ⟨_, rfl⟩) (.inl ⟨rfl, rfl⟩) hb49v hc2 hS52v) rfl) (ac (qp rfl rfl (.v 14 rfl rfl (.v 17 rfl rfl .nil)) (q_sub_ro (l := x2) (lo' := (0 : Int)) (hi' := IntKind.i64.wrap (Int.tdiv (x2.length : Int) 2)) rfl rfl rfl rfl Try.underlying34 Try.sizeOf5 (.inr ⟨_, rfl⟩) (.inl ⟨rfl, rfl⟩) hb49v hc2 hS52v) rfl) zA))) (aq rfl (fun γ => qp rfl rfl (.v 3 rfl rfl (.v 4 rfl rfl .nil)) (q_idx rfl rfl rfl ha60v Try.underlying27 Try.sizeOf36 hi58v.1 hi58v.2) rfl) (aq rfl (fun γ => qp rfl rfl (.v 20 rfl rfl .nil) (q_fa rfl rfl Try.underlying36 rfl rfl Try.sizeOf34 rfl) rfl) zA))))))))))))))))))))
 exact (ac (fun γ => eo (Z := Option Addr × Nat) (fun z => (z, γ.2)) rfl rfl (.v 12 rfl rfl .nil) (re_call (vs := [.slice a40v (((x0_0.getD s9v.toNat dz36).2.1).length) c41v]) (cap := []) (A := []) (rst := [obj b0 29 [.slice a0_0 x0_0.length c0_0, .int .i64 s27v.2.1, .bool s27v.2.2.1, str s27v.2.2.2], Row 36 3 a0_0 x0_0.length c0_0 rs3v.flatten, z0_0, F]) rfl rfl rfl rfl rfl rfl Try.call40 (.sel 0 rfl (.sel 0 rfl (.sel 0 rfl (.sel 0 rfl (.nil _))))) (synodref_Bytes.calls _ _ a40v c41v ((x0_0.getD s9v.toNat dz36).2.1) (he42v.lend 2 rfl) hc43v hm44v) hs46v) (fun _ => ⟨rfl, rfl, rfl, rfl, rfl, rfl, rfl, rfl, rfl, rfl, rfl, rfl, rfl, rfl, rfl, rfl, rfl, rfl, trivial⟩) (fun _ => .inr rfl) (fun z => Ent.refl _)) (ac (fun γ => eo (Z := Option Addr × Nat) (fun z => (γ.1, z)) rfl rfl (.v 13 rfl rfl (.v 18 rfl rfl .nil)) (re_appendb 0 rfl rfl rfl Try.underlying34 elt5 rfl (hr53v.rds 3 rfl) hb57v) (fun _ => ⟨rfl, rfl, rfl, rfl, rfl, rfl, rfl, rfl, rfl, rfl, rfl, rfl, rfl, rfl, rfl, rfl, rfl, rfl, rfl, trivial⟩) (fun _ => .inr rfl) (fun z => Ent.refl _)) (ac (fun γ => eo (Z := Unit) (fun z => (γ.1, γ.2)) rfl rfl (.v 19 rfl rfl (.v 21 rfl rfl .nil)) (RE.lend 0 rfl (fun hq71v hq72v hq73v hq74v => RE.ent (H1 := [stars [Row 5 1 γ.2.1 (s45v ++ (cut x2 (0 : Int) (IntKind.i64.wrap (Int.tdiv (x2.length : Int) 2)))).length γ.2.2 (encB (s45v ++ (cut x2 (0 : Int) (IntKind.i64.wrap (Int.tdiv (x2.length : Int) 2))))), z0_0], obj b0 29 [.slice a0_0 x0_0.length c0_0, .int .i64 s27v.2.1, .bool s27v.2.2.1, str s27v.2.2.2], Row 36 3 a0_0 x0_0.length c0_0 rs3v.flatten, F]) (Ent.trans (m := [Row 5 1 γ.2.1 (s45v ++ (cut x2 (0 : Int) (IntKind.i64.wrap (Int.tdiv (x2.length : Int) 2)))).length γ.2.2 (encB (s45v ++ (cut x2 (0 : Int) (IntKind.i64.wrap (Int.tdiv (x2.length : Int) 2))))), z0_0, obj b0 29 [.slice a0_0 x0_0.length c0_0, .int .i64 s27v.2.1, .bool s27v.2.2.1, str s27v.2.2.2], Row 36 3 a0_0 x0_0.length c0_0 rs3v.flatten, F]) (.sel 0 rfl (.sel 2 rfl (.sel 0 rfl (.sel 0 rfl (.sel 0 rfl (.nil _)))))) (ent_pack [Row 5 1 γ.2.1 (s45v ++ (cut x2 (0 : Int) (IntKind.i64.wrap (Int.tdiv (x2.length : Int) 2)))).length γ.2.2 (encB (s45v ++ (cut x2 (0 : Int) (IntKind.i64.wrap (Int.tdiv (x2.length : Int) 2))))), z0_0] _)) (re_storeV (V := (V36 (stars [Row 5 1 γ.2.1 (s45v ++ (cut x2 (0 : Int) (IntKind.i64.wrap (Int.tdiv (x2.length : Int) 2)))).length γ.2.2 (encB (s45v ++ (cut x2 (0 : Int) (IntKind.i64.wrap (Int.tdiv (x2.length : Int) 2))))), z0_0]))) ((x0_0.getD s9v.toNat dz36).1, s45v ++ (cut x2 (0 : Int) (IntKind.i64.wrap (Int.tdiv (x2.length : Int) 2))), (x0_0.getD s9v.toNat dz36).2.2) 1 dz36 2 rfl rfl rfl Try.sizeOf34 rfl rfl (one_of (by rfl)) rfl (hl4v.mono (V36.up (Up.lend (l := [Row 5 1 γ.2.1 (s45v ++ (cut x2 (0 : Int) (IntKind.i64.wrap (Int.tdiv (x2.length : Int) 2)))).length γ.2.2 (encB (s45v ++ (cut x2 (0 : Int) (IntKind.i64.wrap (Int.tdiv (x2.length : Int) 2))))), z0_0]) 1 rfl))) ha60v (by omega) rfl (fun r hr _ _ => by obtain ⟨a1', c1', rfl, h1'⟩ := hr; exact ⟨γ.2.1, γ.2.2, rfl, ⟨(Rd.lend (l := [Row 5 1 γ.2.1 (s45v ++ (cut x2 (0 : Int) (IntKind.i64.wrap (Int.tdiv (x2.length : Int) 2)))).length γ.2.2 (encB (s45v ++ (cut x2 (0 : Int) (IntKind.i64.wrap (Int.tdiv (x2.length : Int) 2))))), z0_0]) hq71v 0 rfl), hq72v, hq73v⟩⟩)))) (fun _ => ⟨rfl, rfl, rfl, rfl, rfl, rfl, rfl, rfl, rfl, rfl, rfl, rfl, rfl, rfl, rfl, rfl, rfl, rfl, rfl, rfl, rfl, rfl, trivial⟩) (fun _ => .inl rfl) (fun z => ent_eq ((rfl : _ = [stars [Row 5 1 γ.2.1 (s45v ++ (cut x2 (0 : Int) (IntKind.i64.wrap (Int.tdiv (x2.length : Int) 2)))).length γ.2.2 (encB (s45v ++ (cut x2 (0 : Int) (IntKind.i64.wrap (Int.tdiv (x2.length : Int) 2))))), z0_0], obj b0 29 [.slice a0_0 x0_0.length c0_0, .int .i64 s27v.2.1, .bool s27v.2.2.1, str s27v.2.2.2], RowV 36 3 (V36 (stars [Row 5 1 γ.2.1 (s45v ++ (cut x2 (0 : Int) (IntKind.i64.wrap (Int.tdiv (x2.length : Int) 2)))).length γ.2.2 (encB (s45v ++ (cut x2 (0 : Int) (IntKind.i64.wrap (Int.tdiv (x2.length : Int) 2))))), z0_0])) a0_0 (x0_0.set s9v.toNat ((x0_0.getD s9v.toNat dz36).1, s45v ++ (cut x2 (0 : Int) (IntKind.i64.wrap (Int.tdiv (x2.length : Int) 2))), (x0_0.getD s9v.toNat dz36).2.2)) c0_0, F]).trans ((by simp only [List.length_set, copyB_length] : [stars [Row 5 1 γ.2.1 (s45v ++ (cut x2 (0 : Int) (IntKind.i64.wrap (Int.tdiv (x2.length : Int) 2)))).length γ.2.2 (encB (s45v ++ (cut x2 (0 : Int) (IntKind.i64.wrap (Int.tdiv (x2.length : Int) 2))))), z0_0], obj b0 29 [.slice a0_0 x0_0.length c0_0, .int .i64 s27v.2.1, .bool s27v.2.2.1, str s27v.2.2.2], RowV 36 3 (V36 (stars [Row 5 1 γ.2.1 (s45v ++ (cut x2 (0 : Int) (IntKind.i64.wrap (Int.tdiv (x2.length : Int) 2)))).length γ.2.2 (encB (s45v ++ (cut x2 (0 : Int) (IntKind.i64.wrap (Int.tdiv (x2.length : Int) 2))))), z0_0])) a0_0 (x0_0.set s9v.toNat ((x0_0.getD s9v.toNat dz36).1, s45v ++ (cut x2 (0 : Int) (IntKind.i64.wrap (Int.tdiv (x2.length : Int) 2))), (x0_0.getD s9v.toNat dz36).2.2)) c0_0, F] = [stars [Row 5 1 γ.2.1 (s45v ++ (cut x2 (0 : Int) (IntKind.i64.wrap (Int.tdiv (x2.length : Int) 2)))).length γ.2.2 (encB (s45v ++ (cut x2 (0 : Int) (IntKind.i64.wrap (Int.tdiv (x2.length : Int) 2))))), z0_0], obj b0 29 [.slice a0_0 ((x0_0.set s9v.toNat ((x0_0.getD s9v.toNat dz36).1, s45v ++ (cut x2 (0 : Int) (IntKind.i64.wrap (Int.tdiv (x2.length : Int) 2))), (x0_0.getD s9v.toNat dz36).2.2)).length) c0_0, .int .i64 s27v.2.1, .bool s27v.2.2.1, str s27v.2.2.2], RowV 36 3 (V36 (stars [Row 5 1 γ.2.1 (s45v ++ (cut x2 (0 : Int) (IntKind.i64.wrap (Int.tdiv (x2.length : Int) 2)))).length γ.2.2 (encB (s45v ++ (cut x2 (0 : Int) (IntKind.i64.wrap (Int.tdiv (x2.length : Int) 2))))), z0_0])) a0_0 (x0_0.set s9v.toNat ((x0_0.getD s9v.toNat dz36).1, s45v ++ (cut x2 (0 : Int) (IntKind.i64.wrap (Int.tdiv (x2.length : Int) 2))), (x0_0.getD s9v.toNat dz36).2.2)) c0_0, F]).trans rfl)))) zA)))
 intro g75v
 refine nrm_then (sr ?_)
 refine va rfl rfl (simL_nil (nrm_then (sim_rtn ?_)))
 refine rtn_then ?_
 exact rtn_fn (a0_0, c0_0, stars [Row 5 1 g75v.2.1 (s45v ++ (cut x2 (0 : Int) (IntKind.i64.wrap (Int.tdiv (x2.length : Int) 2)))).length g75v.2.2 (encB (s45v ++ (cut x2 (0 : Int) (IntKind.i64.wrap (Int.tdiv (x2.length : Int) 2))))), z0_0]) rfl rfl rfl (.sel 1 rfl (.sel 1 rfl (.sel 0 rfl (.sel 0 rfl (.nil _)))))
 refine sim_skip ?_
 refine nrm_then (sim_seq ?_)
 refine sim_ask (fun hi76v => ?_)
 refine sim_posV 1 rfl hl4v rfl (i := s9v.toNat) (by omega) dz36 (fun b77v b77vo r80v ha78v hV81v hlr82v hcell83v => ?_)
 obtain ⟨a84v, c85v, rfl, ⟨he86v, hc87v, hm88v⟩⟩ := hV81v
 refine sim_bind (fun s89v hs90v => ?_)
 refine sim_ask (fun hb93v => ?_)
 refine sim_ask (fun hi94v => ?_)
 refine sim_posV 1 rfl hl4v rfl (i := s9v.toNat) (by omega) dz36 (fun b95v b95vo r98v ha96v hV99v hlr100v hcell101v => ?_)
 obtain ⟨a102v, c103v, rfl, ⟨he104v, hc105v, hm106v⟩⟩ := hV99v
 refine sim_draw (Γ := (Option Addr × Nat) × (Option Addr × Nat)) ((none, 0), (none, 0)) [[], [0], [0, 1], [0, 1, 2], [], [], [5], [5, 6], [5, 6, 7], [], [5, 6, 7, 8, 9], [5, 6, 7, 8, 9, 10], [5, 6, 7, 8, 9, 10, 11], [5, 6, 7, 8, 9, 10, 11, 12], [], [5, 6, 7, 8, 9, 10, 11, 12, 13, 14], rL 16, rL 17, rL 18] [13, 15, 18] [0, 1, 2, 3, 4, 5, 6, 7, 8, 9, 10, 11, 12, 14, 16, 17] (fun i => [[0, 1, 2], [0, 1, 2], [0, 1, 2], [0, 1, 2], [0, 1, 2], [0], [0], [0], [0], [0], [0], [0], [0], [], [0, 1], [], [2], [2], []].getD i []) (fun i => [[], [], [], [], [], [], [], [], [], [], [], [], [], [0, 1, 2, 3, 4, 5, 6, 7, 8, 9, 10, 11, 12, 14], [], rL 15, [], [], rL 18].getD i []) (fun γ i => [.pointer (some ⟨b0, 0, none⟩), .pointer (some ⟨b0, 0, none⟩), .pointer (some ⟨b0, 0, none⟩), .slice a0_0 x0_0.length c0_0, .int .i64 s9v, .pointer (some ⟨b0, 0, none⟩), .pointer (some ⟨b0, 0, none⟩), .pointer (some ⟨b0, 0, none⟩), .slice a0_0 x0_0.length c0_0, .int .i64 s9v, .pointer (some ⟨b77v, b77vo + s9v.toNat * 3, none⟩), .pointer (some ⟨b77v, b77vo + s9v.toNat * 3 + 1, none⟩), .slice a84v (((x0_0.getD s9v.toNat dz36).2.1).length) c85v, .slice γ.1.1 s89v.length γ.1.2, .slice a2 x2.length c2, .slice γ.2.1 ((s89v ++ x2).length) γ.2.2, .pointer (some ⟨b95v, b95vo + s9v.toNat * 3, none⟩), .pointer (some ⟨b95v, b95vo + s9v.toNat * 3 + 1, none⟩), undef].getD i undef) (fun j γ => [[obj b0 29 [.slice a0_0 x0_0.length c0_0, .int .i64 s27v.2.1, .bool s27v.2.2.1, str s27v.2.2.2], Row 36 3 a0_0 x0_0.length c0_0 rs3v.flatten, z0_0, F], [Row 5 1 γ.1.1 s89v.length γ.1.2 (encB s89v), obj b0 29 [.slice a0_0 x0_0.length c0_0, .int .i64 s27v.2.1, .bool s27v.2.2.1, str s27v.2.2.2], Row 36 3 a0_0 x0_0.length c0_0 rs3v.flatten, z0_0, F], [Row 5 1 γ.2.1 (s89v ++ x2).length γ.2.2 (encB (s89v ++ x2)), obj b0 29 [.slice a0_0 x0_0.length c0_0, .int .i64 s27v.2.1, .bool s27v.2.2.1, str s27v.2.2.2], Row 36 3 a0_0 x0_0.length c0_0 rs3v.flatten, z0_0, F], [stars [Row 5 1 γ.2.1 (s89v ++ x2).length γ.2.2 (encB (s89v ++ x2)), z0_0], obj b0 29 [.slice a0_0 ((x0_0.set s9v.toNat ((x0_0.getD s9v.toNat dz36).1, s89v ++ x2, (x0_0.getD s9v.toNat dz36).2.2)).length) c0_0, .int .i64 s27v.2.1, .bool s27v.2.2.1, str s27v.2.2.2], RowV 36 3 (V36 (stars [Row 5 1 γ.2.1 (s89v ++ x2).length γ.2.2 (encB (s89v ++ x2)), z0_0])) a0_0 (x0_0.set s9v.toNat ((x0_0.getD s9v.toNat dz36).1, s89v ++ x2, (x0_0.getD s9v.toNat dz36).2.2)) c0_0, F]].getD j []) (fun γ => []) mixed (by decide) (by decide) (by decide) (by decide) (by decide) (by decide) (by decide) 69 rfl (by decide) (by decide) (by decide) (Ent.refl _) ?_ ?_ (fun _ => trivial) ?_
 exact (ac (fun γ => (ac (qm rfl (.o (s := 0) rfl (by decide) .nil) rfl) (ac (qm rfl (.o (s := 0) rfl (by decide) .nil) rfl) (ac (qm rfl (.o (s := 0) rfl (by decide) .nil) rfl) zA)))) (ac (fun γ => (ac (qp rfl rfl (.v 0 rfl rfl .nil) (q_nil rfl rfl) rfl) (ac (qp rfl rfl (.v 0 rfl rfl .nil) (q_nil rfl rfl) rfl) (ac (qp rfl rfl (.v 0 rfl rfl .nil) (q_nil rfl rfl) rfl) zA)))) (ac (fun γ => (ac (qp rfl rfl (.v 1 rfl rfl .nil) (q_fa rfl rfl Try.underlying29 rfl rfl Try.sizeOf27 rfl) rfl) (ac (qp rfl rfl (.v 1 rfl rfl .nil) (q_fa rfl rfl Try.underlying29 rfl rfl Try.sizeOf27 rfl) rfl) (ac (qp rfl rfl (.v 1 rfl rfl .nil) (q_fa rfl rfl Try.underlying29 rfl rfl Try.sizeOf27 rfl) rfl) zA)))) (ac (fun γ => (ac (qp rfl rfl (.v 2 rfl rfl .nil) (q_load rfl rfl Try.isAgg27 (.obj 0 rfl rfl)) rfl) (ac (qp rfl rfl (.v 2 rfl rfl .nil) (q_load rfl rfl Try.isAgg27 (.obj 1 rfl rfl)) rfl) (ac (qp rfl rfl (.v 2 rfl rfl .nil) (q_load rfl rfl Try.isAgg27 (.obj 1 rfl rfl)) rfl) zA)))) (ac (fun γ => (ac (qm rfl (.o (s := 7) rfl (by decide) .nil) rfl) (ac (qm rfl (.o (s := 7) rfl (by decide) .nil) rfl) (ac (qm rfl (.o (s := 7) rfl (by decide) .nil) rfl) zA)))) (aq rfl (fun γ => qm rfl (.o (s := 0) rfl (by decide) .nil) rfl) (aq rfl (fun γ => qp rfl rfl (.v 5 rfl rfl .nil) (q_nil rfl rfl) rfl) (aq rfl (fun γ => qp rfl rfl (.v 6 rfl rfl .nil) (q_fa rfl rfl Try.underlying29 rfl rfl Try.sizeOf27 rfl) rfl) (aq rfl (fun γ => qp rfl rfl (.v 7 rfl rfl .nil) (q_load rfl rfl Try.isAgg27 (.obj 0 rfl rfl)) rfl) (aq rfl (fun γ => qm rfl (.o (s := 7) rfl (by decide) .nil) rfl) (aq rfl (fun γ => qp rfl rfl (.v 8 rfl rfl (.v 9 rfl rfl .nil)) (q_idx rfl rfl rfl ha78v Try.underlying27 Try.sizeOf36 hi76v.1 hi76v.2) rfl) (aq rfl (fun γ => qp rfl rfl (.v 10 rfl rfl .nil) (q_fa rfl rfl Try.underlying36 rfl rfl Try.sizeOf34 rfl) rfl) (aq rfl (fun γ => qp rfl rfl (.v 11 rfl rfl .nil) (q_load rfl rfl Try.isAgg34 (hcell83v 1 rfl 1 _ rfl)) rfl) (ac (fun γ => (ac (qm rfl (.o (s := 2) rfl (by decide) .nil) rfl) (ac (qm rfl (.o (s := 2) rfl (by decide) .nil) rfl) zA))) (aq rfl (fun γ => qp rfl rfl (.v 3 rfl rfl (.v 4 rfl rfl .nil)) (q_idx rfl rfl rfl ha96v Try.underlying27 Try.sizeOf36 hi94v.1 hi94v.2) rfl) (aq rfl (fun γ => qp rfl rfl (.v 16 rfl rfl .nil) (q_fa rfl rfl Try.underlying36 rfl rfl Try.sizeOf34 rfl) rfl) zA))))))))))))))))
 exact (ac (fun γ => eo (Z := Option Addr × Nat) (fun z => (z, γ.2)) rfl rfl (.v 12 rfl rfl .nil) (re_call (vs := [.slice a84v (((x0_0.getD s9v.toNat dz36).2.1).length) c85v]) (cap := []) (A := []) (rst := [obj b0 29 [.slice a0_0 x0_0.length c0_0, .int .i64 s27v.2.1, .bool s27v.2.2.1, str s27v.2.2.2], Row 36 3 a0_0 x0_0.length c0_0 rs3v.flatten, z0_0, F]) rfl rfl rfl rfl rfl rfl Try.call40 (.sel 0 rfl (.sel 0 rfl (.sel 0 rfl (.sel 0 rfl (.nil _))))) (synodref_Bytes.calls _ _ a84v c85v ((x0_0.getD s9v.toNat dz36).2.1) (he86v.lend 2 rfl) hc87v hm88v) hs90v) (fun _ => ⟨rfl, rfl, rfl, rfl, rfl, rfl, rfl, rfl, rfl, rfl, rfl, rfl, rfl, rfl, trivial⟩) (fun _ => .inr rfl) (fun z => Ent.refl _)) (ac (fun γ => eo (Z := Option Addr × Nat) (fun z => (γ.1, z)) rfl rfl (.v 13 rfl rfl (.v 14 rfl rfl .nil)) (re_appendb 0 rfl rfl rfl Try.underlying34 elt5 rfl (h2.rds 3 rfl) hb93v) (fun _ => ⟨rfl, rfl, rfl, rfl, rfl, rfl, rfl, rfl, rfl, rfl, rfl, rfl, rfl, rfl, rfl, trivial⟩) (fun _ => .inr rfl) (fun z => Ent.refl _)) (ac (fun γ => eo (Z := Unit) (fun z => (γ.1, γ.2)) rfl rfl (.v 15 rfl rfl (.v 17 rfl rfl .nil)) (RE.lend 0 rfl (fun hq107v hq108v hq109v hq110v => RE.ent (H1 := [stars [Row 5 1 γ.2.1 (s89v ++ x2).length γ.2.2 (encB (s89v ++ x2)), z0_0], obj b0 29 [.slice a0_0 x0_0.length c0_0, .int .i64 s27v.2.1, .bool s27v.2.2.1, str s27v.2.2.2], Row 36 3 a0_0 x0_0.length c0_0 rs3v.flatten, F]) (Ent.trans (m := [Row 5 1 γ.2.1 (s89v ++ x2).length γ.2.2 (encB (s89v ++ x2)), z0_0, obj b0 29 [.slice a0_0 x0_0.length c0_0, .int .i64 s27v.2.1, .bool s27v.2.2.1, str s27v.2.2.2], Row 36 3 a0_0 x0_0.length c0_0 rs3v.flatten, F]) (.sel 0 rfl (.sel 2 rfl (.sel 0 rfl (.sel 0 rfl (.sel 0 rfl (.nil _)))))) (ent_pack [Row 5 1 γ.2.1 (s89v ++ x2).length γ.2.2 (encB (s89v ++ x2)), z0_0] _)) (re_storeV (V := (V36 (stars [Row 5 1 γ.2.1 (s89v ++ x2).length γ.2.2 (encB (s89v ++ x2)), z0_0]))) ((x0_0.getD s9v.toNat dz36).1, s89v ++ x2, (x0_0.getD s9v.toNat dz36).2.2) 1 dz36 2 rfl rfl rfl Try.sizeOf34 rfl rfl (one_of (by rfl)) rfl (hl4v.mono (V36.up (Up.lend (l := [Row 5 1 γ.2.1 (s89v ++ x2).length γ.2.2 (encB (s89v ++ x2)), z0_0]) 1 rfl))) ha96v (by omega) rfl (fun r hr _ _ => by obtain ⟨a1', c1', rfl, h1'⟩ := hr; exact ⟨γ.2.1, γ.2.2, rfl, ⟨(Rd.lend (l := [Row 5 1 γ.2.1 (s89v ++ x2).length γ.2.2 (encB (s89v ++ x2)), z0_0]) hq107v 0 rfl), hq108v, hq109v⟩⟩)))) (fun _ => ⟨rfl, rfl, rfl, rfl, rfl, rfl, rfl, rfl, rfl, rfl, rfl, rfl, rfl, rfl, rfl, rfl, rfl, rfl, trivial⟩) (fun _ => .inl rfl) (fun z => ent_eq ((rfl : _ = [stars [Row 5 1 γ.2.1 (s89v ++ x2).length γ.2.2 (encB (s89v ++ x2)), z0_0], obj b0 29 [.slice a0_0 x0_0.length c0_0, .int .i64 s27v.2.1, .bool s27v.2.2.1, str s27v.2.2.2], RowV 36 3 (V36 (stars [Row 5 1 γ.2.1 (s89v ++ x2).length γ.2.2 (encB (s89v ++ x2)), z0_0])) a0_0 (x0_0.set s9v.toNat ((x0_0.getD s9v.toNat dz36).1, s89v ++ x2, (x0_0.getD s9v.toNat dz36).2.2)) c0_0, F]).trans ((by simp only [List.length_set, copyB_length] : [stars [Row 5 1 γ.2.1 (s89v ++ x2).length γ.2.2 (encB (s89v ++ x2)), z0_0], obj b0 29 [.slice a0_0 x0_0.length c0_0, .int .i64 s27v.2.1, .bool s27v.2.2.1, str s27v.2.2.2], RowV 36 3 (V36 (stars [Row 5 1 γ.2.1 (s89v ++ x2).length γ.2.2 (encB (s89v ++ x2)), z0_0])) a0_0 (x0_0.set s9v.toNat ((x0_0.getD s9v.toNat dz36).1, s89v ++ x2, (x0_0.getD s9v.toNat dz36).2.2)) c0_0, F] = [stars [Row 5 1 γ.2.1 (s89v ++ x2).length γ.2.2 (encB (s89v ++ x2)), z0_0], obj b0 29 [.slice a0_0 ((x0_0.set s9v.toNat ((x0_0.getD s9v.toNat dz36).1, s89v ++ x2, (x0_0.getD s9v.toNat dz36).2.2)).length) c0_0, .int .i64 s27v.2.1, .bool s27v.2.2.1, str s27v.2.2.2], RowV 36 3 (V36 (stars [Row 5 1 γ.2.1 (s89v ++ x2).length γ.2.2 (encB (s89v ++ x2)), z0_0])) a0_0 (x0_0.set s9v.toNat ((x0_0.getD s9v.toNat dz36).1, s89v ++ x2, (x0_0.getD s9v.toNat dz36).2.2)) c0_0, F]).trans rfl)))) zA)))
 intro g111v
 refine nrm_then (sr ?_)
 refine va rfl rfl (simL_nil (nrm_then (sim_rtn ?_)))
 exact rtn_fn (a0_0, c0_0, stars [Row 5 1 g111v.2.1 (s89v ++ x2).length g111v.2.2 (encB (s89v ++ x2)), z0_0]) rfl rfl rfl (.sel 1 rfl (.sel 1 rfl (.sel 0 rfl (.sel 0 rfl (.nil _)))))
end Go.Proofs.Ytkkbgcocpkipjaa

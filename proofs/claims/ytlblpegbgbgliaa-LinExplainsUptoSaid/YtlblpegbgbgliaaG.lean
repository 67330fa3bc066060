/- Printed by gen.py: pure functions and the proofs that the Go functions simulate them. Conditions: as each theorem says. -/
import Derived.Test.YtlblpegbgbgliaaG3
namespace Go.Proofs.Ytlblpegbgbgliaa
open Go.RowKit
set_option linter.unusedVariables false
set_option maxRecDepth 20000
set_option maxHeartbeats 2000000
def synodref16_Keys.l1 (x0 : List (Ty35)) (s3v : List (List UInt8) × Int) : Nat → Int → Option (Int)
  | 0, _ => none
  | k + 1, z28v => (if z28v < (s3v.1.length : Int) then (if 0 ≤ z28v ∧ z28v < (s3v.1.length : Int) then (if 0 ≤ s3v.2 ∧ s3v.2 < (x0.length : Int) then (some (Op.bytesLess (s3v.1.getD z28v.toNat ([] : List UInt8)) ((x0.getD s3v.2.toNat dz35).2.2.2.1))) else none) else none) else (some false)).bind fun s29v => (if s29v = true then (synodref16_Keys.l1 x0 s3v k (IntKind.i64.wrap (z28v + 1))) else (some z28v))
def synodref16_Keys.l0 (x0 : List (Ty35)) : Nat → List (List UInt8) → Int → Option (List (List UInt8))
  | 0, _, _ => none
  | k + 1, z5v, z6v => if z6v < (x0.length : Int) then ((if 0 ≤ z6v ∧ z6v < (x0.length : Int) then ((synodref16_Counts.f ((x0.getD z6v.toNat dz35).1) ((x0.getD z6v.toNat dz35).2.1) ((x0.getD z6v.toNat dz35).2.2.1) ((x0.getD z6v.toNat dz35).2.2.2.1) ((x0.getD z6v.toNat dz35).2.2.2.2.1) ((x0.getD z6v.toNat dz35).2.2.2.2.2.1) ((x0.getD z6v.toNat dz35).2.2.2.2.2.2.1) ((x0.getD z6v.toNat dz35).2.2.2.2.2.2.2.1) ((x0.getD z6v.toNat dz35).2.2.2.2.2.2.2.2.1) ((x0.getD z6v.toNat dz35).2.2.2.2.2.2.2.2.2)).bind fun s19v => (if (!s19v) = true then (some z5v) else ((synodref16_Keys.l1 x0 (z5v, z6v) k 0).bind fun s24v => ((if s24v = (z5v.length : Int) then (some true) else (if 0 ≤ s24v ∧ s24v < (z5v.length : Int) then (if 0 ≤ z6v ∧ z6v < (x0.length : Int) then (some (!decide ((z5v.getD s24v.toNat ([] : List UInt8)) = ((x0.getD z6v.toNat dz35).2.2.2.1)))) else none) else none)).bind fun s54v => (if s54v = true then (if 0 ≤ (0 : Int) ∧ (0 : Int) ≤ s24v ∧ s24v ≤ (z5v.length : Int) then (if (([] : List (List UInt8)).length + (cut z5v (0 : Int) s24v).length) * 16 ≤ 140737488355328 then (if 0 ≤ z6v ∧ z6v < (x0.length : Int) then (if ((([] : List (List UInt8)) ++ (cut z5v (0 : Int) s24v)).length + ([(x0.getD z6v.toNat dz35).2.2.2.1] : List (List UInt8)).length) * 16 ≤ 140737488355328 then (if 0 ≤ s24v ∧ s24v ≤ (z5v.length : Int) ∧ (z5v.length : Int) ≤ (z5v.length : Int) then (if (((([] : List (List UInt8)) ++ (cut z5v (0 : Int) s24v)) ++ ([(x0.getD z6v.toNat dz35).2.2.2.1] : List (List UInt8))).length + (cut z5v s24v (z5v.length : Int)).length) * 16 ≤ 140737488355328 then (some (((([] : List (List UInt8)) ++ (cut z5v (0 : Int) s24v)) ++ ([(x0.getD z6v.toNat dz35).2.2.2.1] : List (List UInt8))) ++ (cut z5v s24v (z5v.length : Int)))) else none) else none) else none) else none) else none) else none) else (some z5v)))))) else none).bind fun s9v => (synodref16_Keys.l0 x0 k s9v (IntKind.i64.wrap (z6v + 1)))) else (some z5v)
def synodref16_Keys.f (k : Nat) (x0 : List (Ty35)) : Option (List (List UInt8)) := (synodref16_Keys.l0 x0 k ([] : List (List UInt8)) 0).bind fun s1v => (some s1v)
theorem synodref16_Keys.calls (W : World) (F : HA) (k : Nat) (a0 : Option Addr) (c0 : Nat) (x0 : List (Ty35)) (h0 : RdV F 10 (V35 tt) a0 x0) (hc0 : x0.length ≤ c0) (hm0 : c0 ≤ maxLen) :
    Fn Try.prog W 16 [.slice a0 x0.length c0] [] F (synodref16_Keys.f k x0) (fun (r : List (List UInt8)) (y : Option Addr × Nat) => .slice y.1 r.length y.2) (fun r y => [RowV 9 1 (V9 tt) y.1 r y.2]) := by
 unfold synodref16_Keys.f
 refine fn_intro 74 Try.func16 rfl Try.ntmps16 rfl ?_
 refine sim_seq (sim_region ?_)
 refine simL_val (q_asg rfl rfl) rfl rfl rfl (simL_nil (nrm_then (sim_seq (sim_region ?_))))
 refine simL_val (q_asg rfl rfl) rfl rfl rfl (simL_nil (nrm_then ?_))
 refine sim_cut (S := List (List UInt8)) (Option Addr × Nat) (fun s y => [(3, .slice y.1 s.length y.2)]) (fun s y => [RowV 9 1 (V9 tt) y.1 s y.2, F]) ?_ ?_
 refine sim_seq (sim_region ?_)
 refine simL_val (q_asg rfl rfl) rfl rfl rfl (simL_nil (nrm_then ?_))
 refine sim_block ?_
 refine sim_loop (S := List (List UInt8) × Int) (Option Addr × Nat) (fun k s => synodref16_Keys.l0 x0 k s.1 s.2) (fun s y => [(0, .slice a0 x0.length c0), (3, .slice y.1 s.1.length y.2), (4, .int .i64 s.2)]) (fun s y => [RowV 9 1 (V9 tt) y.1 s.1 y.2, F]) (fun _ => by rw [synodref16_Keys.l0]) ?_ k (([] : List (List UInt8)), 0) (none, 0) ⟨rfl, rfl, rfl, trivial⟩ (.rowV_nil (.sel 0 rfl (.nil _)))
 intro k s3v y4v
 refine sim_eq (by rw [synodref16_Keys.l0]) ?_
 refine sim_seq (sim_seq (sim_region ?_))
 refine simL_val (q_move rfl rfl) rfl rfl rfl ?_
 refine simL_val (q_move rfl rfl) rfl rfl rfl ?_
 refine simL_val (q_len rfl rfl rfl Try.underlying22) rfl rfl rfl ?_
 refine simL_val (q_lss rfl rfl rfl) rfl rfl rfl (simL_nil (nrm_then ?_))
 refine sim_cond rfl (fun h7v => ?_) (fun h8v => ?_)
 refine sim_skip ?_
 refine nrm_then ?_
 refine sim_cut (S := List (List UInt8)) (Option Addr × Nat) (fun s y => [(0, .slice a0 x0.length c0), (3, .slice y.1 s.length y.2), (4, .int .i64 s3v.2)]) (fun s y => [RowV 9 1 (V9 tt) y.1 s y.2, F]) ?_ ?_
 refine sim_block ?_
 refine sim_seq (sim_region ?_)
 refine simL_val (q_move rfl rfl) rfl rfl rfl ?_
 refine simL_val (q_move rfl rfl) rfl rfl rfl ?_
 refine simL_ask (fun hi11v => ?_)
 obtain ⟨b12v, b12vo, r15v, ha13v, hV16v, hlr17v, hcell18v⟩ := RdV.pos h0 (Up.refl _) rfl (i := s3v.2.toNat) (by omega) dz35
 obtain rfl := hV16v
 refine simL_val (q_idx rfl rfl rfl ha13v Try.underlying22 Try.sizeOf35 hi11v.1 hi11v.2) rfl rfl rfl ?_
 refine simL_val (q_loads rfl rfl Try.isAgg35 Try.sizeOf35 rfl (fun j v hj => hcell18v 1 rfl j v hj)) rfl rfl rfl ?_
 refine simL_bind (fun s19v hs21v => ?_)
 refine simL_eff (re_call (vs := [.agg #[.int .i64 ((x0.getD s3v.2.toNat dz35).1), .int .i64 ((x0.getD s3v.2.toNat dz35).2.1), .int .i64 ((x0.getD s3v.2.toNat dz35).2.2.1), str ((x0.getD s3v.2.toNat dz35).2.2.2.1), str ((x0.getD s3v.2.toNat dz35).2.2.2.2.1), str ((x0.getD s3v.2.toNat dz35).2.2.2.2.2.1), .int .i64 ((x0.getD s3v.2.toNat dz35).2.2.2.2.2.2.1), .int .i64 ((x0.getD s3v.2.toNat dz35).2.2.2.2.2.2.2.1), .int .i64 ((x0.getD s3v.2.toNat dz35).2.2.2.2.2.2.2.2.1), str ((x0.getD s3v.2.toNat dz35).2.2.2.2.2.2.2.2.2)]]) (cap := []) (A := []) (rst := [RowV 9 1 (V9 tt) y4v.1 s3v.1 y4v.2, F]) rfl rfl rfl rfl rfl rfl Try.call19 (.sel 0 rfl (.sel 0 rfl (.nil _))) (synodref16_Counts.calls _ _ ((x0.getD s3v.2.toNat dz35).1) ((x0.getD s3v.2.toNat dz35).2.1) ((x0.getD s3v.2.toNat dz35).2.2.1) ((x0.getD s3v.2.toNat dz35).2.2.2.1) ((x0.getD s3v.2.toNat dz35).2.2.2.2.1) ((x0.getD s3v.2.toNat dz35).2.2.2.2.2.1) ((x0.getD s3v.2.toNat dz35).2.2.2.2.2.2.1) ((x0.getD s3v.2.toNat dz35).2.2.2.2.2.2.2.1) ((x0.getD s3v.2.toNat dz35).2.2.2.2.2.2.2.2.1) ((x0.getD s3v.2.toNat dz35).2.2.2.2.2.2.2.2.2) ) hs21v) rfl rfl rfl ?_
 intro y20v
 refine simL_val (q_asg rfl rfl) rfl rfl rfl (simL_nil (nrm_then (sim_seq (sim_seq (sim_region ?_)))))
 refine simL_val (q_move rfl rfl) rfl rfl rfl ?_
 refine simL_val (q_not rfl rfl) rfl rfl rfl (simL_nil (nrm_then ?_))
 refine sim_condb rfl (fun h22v => ?_) (fun h23v => ?_)
 refine sim_exi ?_
 refine exi_then ?_
 refine exi_here ?_
 exact nrm_cut (s := s3v.1) (y4v.1, y4v.2) ⟨rfl, rfl, rfl, trivial⟩ (.sel 0 rfl (.sel 0 rfl (.nil _)))
 refine sim_skip ?_
 refine nrm_then (sim_seq (sim_region ?_))
 refine simL_val (q_asg rfl rfl) rfl rfl rfl (simL_nil (nrm_then ?_))
 refine sim_cut (S := Int) (Unit) (fun s y => [(0, .slice a0 x0.length c0), (3, .slice y4v.1 s3v.1.length y4v.2), (4, .int .i64 s3v.2), (6, .int .i64 s)]) (fun s y => [RowV 9 1 (V9 tt) y4v.1 s3v.1 y4v.2, F]) ?_ ?_
 refine sim_block ?_
 refine sim_loop (S := Int) (Unit) (fun k s => synodref16_Keys.l1 x0 s3v k s) (fun s y => [(0, .slice a0 x0.length c0), (3, .slice y4v.1 s3v.1.length y4v.2), (4, .int .i64 s3v.2), (6, .int .i64 s)]) (fun s y => [RowV 9 1 (V9 tt) y4v.1 s3v.1 y4v.2, F]) (fun _ => by rw [synodref16_Keys.l1]) ?_ k 0 () ⟨rfl, rfl, rfl, rfl, trivial⟩ (.sel 0 rfl (.sel 0 rfl (.nil _)))
 intro k s26v y27v
 refine sim_eq (by rw [synodref16_Keys.l1]) ?_
 refine sim_seq ?_
 refine sim_cut (S := Bool) (Unit) (fun s y => [(0, .slice a0 x0.length c0), (3, .slice y4v.1 s3v.1.length y4v.2), (4, .int .i64 s3v.2), (6, .int .i64 s26v), (36, .bool s)]) (fun s y => [RowV 9 1 (V9 tt) y4v.1 s3v.1 y4v.2, F]) ?_ ?_
 refine sim_openV 0 rfl (fun rs31v hl32v => ?_)
 refine sim_if (fun hk33v => ?_) (fun hk33v => ?_)
 refine sim_ask (fun hi34v => ?_)
 refine sim_posV 0 rfl hl32v rfl (i := s26v.toNat) (by omega) ([] : List UInt8) (fun b35v b35vo r38v ha36v hV39v hlr40v hcell41v => ?_)
 obtain rfl := hV39v
 refine sim_ask (fun hi42v => ?_)
 obtain ⟨b43v, b43vo, r46v, ha44v, hV47v, hlr48v, hcell49v⟩ := RdV.pos h0 (Up.refl _) rfl (i := s3v.2.toNat) (by omega) dz35
 obtain rfl := hV47v
 refine sim_draw (Γ := Unit) () [[], [], [1], [0, 1, 2], [0, 1, 2, 3], [0, 1, 2, 3, 4], [0, 1, 2, 3, 4], [0, 1, 2, 3, 4, 5, 6], [0, 1, 2, 3, 4, 5, 6, 7], [0, 1, 2, 3, 4], [0, 1, 2, 3, 4], [0, 1, 2, 3, 4, 9, 10], [0, 1, 2, 3, 4, 9, 10, 11], [0, 1, 2, 3, 4, 9, 10, 11, 12], [0, 1, 2, 3, 4, 5, 6, 7, 8, 9, 10, 11, 12, 13], [0, 1, 2, 3, 4, 5, 6, 7, 8, 9, 10, 11, 12, 13, 14]] [] [0, 1, 2, 3, 4, 5, 6, 7, 8, 9, 10, 11, 12, 13, 14, 15] (fun i => [[0], [0], [0], [0], [0], [0], [0], [0], [0], [0], [0], [0], [0], [0], [0], [0]].getD i []) (fun i => [[], [], [], [], [], [], [], [], [], [], [], [], [], [], [], []].getD i []) (fun γ i => [.int .i64 s26v, .slice y4v.1 s3v.1.length y4v.2, .int .i64 (s3v.1.length : Int), .bool (decide (s26v < (s3v.1.length : Int))), .bool (decide (s26v < (s3v.1.length : Int))), .slice y4v.1 s3v.1.length y4v.2, .int .i64 s26v, .pointer (some ⟨b35v, b35vo + s26v.toNat * 1, none⟩), str (s3v.1.getD s26v.toNat ([] : List UInt8)), .slice a0 x0.length c0, .int .i64 s3v.2, .pointer (some ⟨b43v, b43vo + s3v.2.toNat * 10, none⟩), .pointer (some ⟨b43v, b43vo + s3v.2.toNat * 10 + 3, none⟩), str ((x0.getD s3v.2.toNat dz35).2.2.2.1), .bool (Op.bytesLess (s3v.1.getD s26v.toNat ([] : List UInt8)) ((x0.getD s3v.2.toNat dz35).2.2.2.1)), .bool (Op.bytesLess (s3v.1.getD s26v.toNat ([] : List UInt8)) ((x0.getD s3v.2.toNat dz35).2.2.2.1))].getD i undef) (fun j γ => [[Row 9 1 y4v.1 s3v.1.length y4v.2 rs31v.flatten, F]].getD j []) (fun γ => [(0, .slice a0 x0.length c0), (3, .slice y4v.1 s3v.1.length y4v.2), (4, .int .i64 s3v.2), (6, .int .i64 s26v), (26, .slice y4v.1 s3v.1.length y4v.2), (27, .int .i64 s26v), (28, .pointer (some ⟨b35v, b35vo + s26v.toNat * 1, none⟩)), (29, str (s3v.1.getD s26v.toNat ([] : List UInt8))), (30, .slice a0 x0.length c0), (31, .int .i64 s3v.2), (32, .pointer (some ⟨b43v, b43vo + s3v.2.toNat * 10, none⟩)), (33, .pointer (some ⟨b43v, b43vo + s3v.2.toNat * 10 + 3, none⟩)), (34, str ((x0.getD s3v.2.toNat dz35).2.2.2.1)), (35, .bool (Op.bytesLess (s3v.1.getD s26v.toNat ([] : List UInt8)) ((x0.getD s3v.2.toNat dz35).2.2.2.1))), (36, .bool (Op.bytesLess (s3v.1.getD s26v.toNat ([] : List UInt8)) ((x0.getD s3v.2.toNat dz35).2.2.2.1)))]) mixed (by decide) (by decide) (by decide) (by decide) (by decide) (by decide) (by decide) 74 rfl (by decide) (by decide) (by decide) (Ent.refl _) ?_ ?_ (fun _ => ⟨rfl, rfl, rfl, rfl, rfl, rfl, rfl, rfl, rfl, rfl, rfl, rfl, rfl, rfl, rfl, trivial⟩) ?_
 exact (All.cons (fun γ => (All.cons (QOb.plain [(6, .int .i64 s26v)] rfl rfl (.o rfl (by decide) .nil) (q_move rfl rfl) rfl) All.nil)) (All.cons (fun γ => (All.cons (QOb.plain [(3, .slice y4v.1 s3v.1.length y4v.2)] rfl rfl (.o rfl (by decide) .nil) (q_move rfl rfl) rfl) All.nil)) (All.cons (fun γ => (All.cons (QOb.plain [(22, .slice y4v.1 s3v.1.length y4v.2)] rfl rfl (.w 1 rfl rfl rfl .nil) (q_len rfl rfl rfl Try.underlying29) rfl) All.nil)) (All.cons (fun γ => (All.cons (QOb.plain [(21, .int .i64 s26v), (23, .int .i64 (s3v.1.length : Int))] rfl rfl (.w 0 rfl rfl rfl (.w 2 rfl rfl rfl .nil)) (q_lss rfl rfl rfl) rfl) All.nil)) (All.cons (fun γ => (All.cons (QOb.plain [(24, .bool (decide (s26v < (s3v.1.length : Int))))] rfl rfl (.w 3 rfl rfl rfl .nil) (q_move rfl rfl) rfl) All.nil)) (All.cons (fun γ => (All.cons (QOb.yes (b := decide (s26v < (s3v.1.length : Int))) [(3, .slice y4v.1 s3v.1.length y4v.2), (25, .bool (decide (s26v < (s3v.1.length : Int))))] rfl rfl rfl rfl (beq_yes (decide_eq_true hk33v)) (.o rfl (by decide) (.w 4 rfl rfl rfl .nil)) (q_move rfl rfl) rfl) All.nil)) (All.cons (fun γ => (All.cons (QOb.yes (b := decide (s26v < (s3v.1.length : Int))) [(6, .int .i64 s26v), (25, .bool (decide (s26v < (s3v.1.length : Int))))] rfl rfl rfl rfl (beq_yes (decide_eq_true hk33v)) (.o rfl (by decide) (.w 4 rfl rfl rfl .nil)) (q_move rfl rfl) rfl) All.nil)) (All.cons (fun γ => (All.cons (QOb.yes (b := decide (s26v < (s3v.1.length : Int))) [(25, .bool (decide (s26v < (s3v.1.length : Int)))), (26, .slice y4v.1 s3v.1.length y4v.2), (27, .int .i64 s26v)] rfl rfl rfl rfl (beq_yes (decide_eq_true hk33v)) (.w 4 rfl rfl rfl (.w 5 rfl rfl rfl (.w 6 rfl rfl rfl .nil))) (q_idx rfl rfl rfl ha36v Try.underlying29 Try.sizeOf9 hi34v.1 hi34v.2) rfl) All.nil)) (All.cons (fun γ => (All.cons (QOb.yes (b := decide (s26v < (s3v.1.length : Int))) [(25, .bool (decide (s26v < (s3v.1.length : Int)))), (28, .pointer (some ⟨b35v, b35vo + s26v.toNat * 1, none⟩))] rfl rfl rfl rfl (beq_yes (decide_eq_true hk33v)) (.w 4 rfl rfl rfl (.w 7 rfl rfl rfl .nil)) (q_load rfl rfl Try.isAgg9 (hcell41v 0 rfl 0 _ rfl)) rfl) All.nil)) (All.cons (fun γ => (All.cons (QOb.yes (b := decide (s26v < (s3v.1.length : Int))) [(0, .slice a0 x0.length c0), (25, .bool (decide (s26v < (s3v.1.length : Int))))] rfl rfl rfl rfl (beq_yes (decide_eq_true hk33v)) (.o rfl (by decide) (.w 4 rfl rfl rfl .nil)) (q_move rfl rfl) rfl) All.nil)) (All.cons (fun γ => (All.cons (QOb.yes (b := decide (s26v < (s3v.1.length : Int))) [(4, .int .i64 s3v.2), (25, .bool (decide (s26v < (s3v.1.length : Int))))] rfl rfl rfl rfl (beq_yes (decide_eq_true hk33v)) (.o rfl (by decide) (.w 4 rfl rfl rfl .nil)) (q_move rfl rfl) rfl) All.nil)) (All.cons (fun γ => (All.cons (QOb.yes (b := decide (s26v < (s3v.1.length : Int))) [(25, .bool (decide (s26v < (s3v.1.length : Int)))), (30, .slice a0 x0.length c0), (31, .int .i64 s3v.2)] rfl rfl rfl rfl (beq_yes (decide_eq_true hk33v)) (.w 4 rfl rfl rfl (.w 9 rfl rfl rfl (.w 10 rfl rfl rfl .nil))) (q_idx rfl rfl rfl ha44v Try.underlying22 Try.sizeOf35 hi42v.1 hi42v.2) rfl) All.nil)) (All.cons (fun γ => (All.cons (QOb.yes (b := decide (s26v < (s3v.1.length : Int))) [(25, .bool (decide (s26v < (s3v.1.length : Int)))), (32, .pointer (some ⟨b43v, b43vo + s3v.2.toNat * 10, none⟩))] rfl rfl rfl rfl (beq_yes (decide_eq_true hk33v)) (.w 4 rfl rfl rfl (.w 11 rfl rfl rfl .nil)) (q_fa rfl rfl Try.underlying35 rfl rfl Try.sizeOf9 rfl) rfl) All.nil)) (All.cons (fun γ => (All.cons (QOb.yes (b := decide (s26v < (s3v.1.length : Int))) [(25, .bool (decide (s26v < (s3v.1.length : Int)))), (33, .pointer (some ⟨b43v, b43vo + s3v.2.toNat * 10 + 3, none⟩))] rfl rfl rfl rfl (beq_yes (decide_eq_true hk33v)) (.w 4 rfl rfl rfl (.w 12 rfl rfl rfl .nil)) (q_load rfl rfl Try.isAgg9 (hcell49v 1 rfl 3 _ rfl)) rfl) All.nil)) (All.cons (fun γ => (All.cons (QOb.yes (b := decide (s26v < (s3v.1.length : Int))) [(25, .bool (decide (s26v < (s3v.1.length : Int)))), (29, str (s3v.1.getD s26v.toNat ([] : List UInt8))), (34, str ((x0.getD s3v.2.toNat dz35).2.2.2.1))] rfl rfl rfl rfl (beq_yes (decide_eq_true hk33v)) (.w 4 rfl rfl rfl (.w 8 rfl rfl rfl (.w 13 rfl rfl rfl .nil))) (q_lts rfl rfl rfl) rfl) All.nil)) (All.cons (fun γ => (All.cons (QOb.plain [(25, .bool (decide (s26v < (s3v.1.length : Int)))), (35, .bool (Op.bytesLess (s3v.1.getD s26v.toNat ([] : List UInt8)) ((x0.getD s3v.2.toNat dz35).2.2.2.1)))] rfl rfl (.w 4 rfl rfl rfl (.w 14 rfl rfl rfl .nil)) (q_pick rfl rfl rfl rfl (bif_yes (decide_eq_true hk33v) _ _)) rfl) All.nil)) All.nil))))))))))))))))
 exact All.nil
 intro g50v
 exact nrm_cut (s := Op.bytesLess (s3v.1.getD s26v.toNat ([] : List UInt8)) ((x0.getD s3v.2.toNat dz35).2.2.2.1)) () ⟨rfl, rfl, rfl, rfl, rfl, trivial⟩ (.sel' 0 rfl (RowV.mk hl32v) (.sel 0 rfl (.nil _)))
 refine sim_draw (Γ := Unit) () [[], [], [1], [0, 1, 2], [0, 1, 2, 3], [0, 1, 2, 3, 4], [0, 1, 2, 3, 4], [0, 1, 2, 3, 4, 5, 6], [0, 1, 2, 3, 4, 5, 6, 7], [0, 1, 2, 3, 4], [0, 1, 2, 3, 4], [0, 1, 2, 3, 4, 9, 10], [0, 1, 2, 3, 4, 9, 10, 11], [0, 1, 2, 3, 4, 9, 10, 11, 12], [0, 1, 2, 3, 4, 5, 6, 7, 8, 9, 10, 11, 12, 13], [0, 1, 2, 3, 4, 5, 6, 7, 8, 9, 10, 11, 12, 13, 14]] [] [0, 1, 2, 3, 4, 5, 6, 7, 8, 9, 10, 11, 12, 13, 14, 15] (fun i => [[0], [0], [0], [0], [0], [0], [0], [0], [0], [0], [0], [0], [0], [0], [0], [0]].getD i []) (fun i => [[], [], [], [], [], [], [], [], [], [], [], [], [], [], [], []].getD i []) (fun γ i => [.int .i64 s26v, .slice y4v.1 s3v.1.length y4v.2, .int .i64 (s3v.1.length : Int), .bool (decide (s26v < (s3v.1.length : Int))), .bool (decide (s26v < (s3v.1.length : Int))), undef, undef, undef, undef, undef, undef, undef, undef, undef, undef, .bool false].getD i undef) (fun j γ => [[Row 9 1 y4v.1 s3v.1.length y4v.2 rs31v.flatten, F]].getD j []) (fun γ => [(0, .slice a0 x0.length c0), (3, .slice y4v.1 s3v.1.length y4v.2), (4, .int .i64 s3v.2), (6, .int .i64 s26v), (26, undef), (27, undef), (28, undef), (29, undef), (30, undef), (31, undef), (32, undef), (33, undef), (34, undef), (35, undef), (36, .bool false)]) mixed (by decide) (by decide) (by decide) (by decide) (by decide) (by decide) (by decide) 74 rfl (by decide) (by decide) (by decide) (Ent.refl _) ?_ ?_ (fun _ => ⟨rfl, rfl, rfl, rfl, rfl, rfl, rfl, rfl, rfl, rfl, rfl, rfl, rfl, rfl, rfl, trivial⟩) ?_
 exact (All.cons (fun γ => (All.cons (QOb.plain [(6, .int .i64 s26v)] rfl rfl (.o rfl (by decide) .nil) (q_move rfl rfl) rfl) All.nil)) (All.cons (fun γ => (All.cons (QOb.plain [(3, .slice y4v.1 s3v.1.length y4v.2)] rfl rfl (.o rfl (by decide) .nil) (q_move rfl rfl) rfl) All.nil)) (All.cons (fun γ => (All.cons (QOb.plain [(22, .slice y4v.1 s3v.1.length y4v.2)] rfl rfl (.w 1 rfl rfl rfl .nil) (q_len rfl rfl rfl Try.underlying29) rfl) All.nil)) (All.cons (fun γ => (All.cons (QOb.plain [(21, .int .i64 s26v), (23, .int .i64 (s3v.1.length : Int))] rfl rfl (.w 0 rfl rfl rfl (.w 2 rfl rfl rfl .nil)) (q_lss rfl rfl rfl) rfl) All.nil)) (All.cons (fun γ => (All.cons (QOb.plain [(24, .bool (decide (s26v < (s3v.1.length : Int))))] rfl rfl (.w 3 rfl rfl rfl .nil) (q_move rfl rfl) rfl) All.nil)) (All.cons (fun γ => (All.cons (QOb.no (b := decide (s26v < (s3v.1.length : Int))) [(3, .slice y4v.1 s3v.1.length y4v.2), (25, .bool (decide (s26v < (s3v.1.length : Int))))] rfl rfl rfl rfl (beq_no' (decide_eq_false hk33v)) (.o rfl (by decide) (.w 4 rfl rfl rfl .nil)) rfl) All.nil)) (All.cons (fun γ => (All.cons (QOb.no (b := decide (s26v < (s3v.1.length : Int))) [(6, .int .i64 s26v), (25, .bool (decide (s26v < (s3v.1.length : Int))))] rfl rfl rfl rfl (beq_no' (decide_eq_false hk33v)) (.o rfl (by decide) (.w 4 rfl rfl rfl .nil)) rfl) All.nil)) (All.cons (fun γ => (All.cons (QOb.no (b := decide (s26v < (s3v.1.length : Int))) [(25, .bool (decide (s26v < (s3v.1.length : Int)))), (26, undef), (27, undef)] rfl rfl rfl rfl (beq_no' (decide_eq_false hk33v)) (.w 4 rfl rfl rfl (.w 5 rfl rfl rfl (.w 6 rfl rfl rfl .nil))) rfl) All.nil)) (All.cons (fun γ => (All.cons (QOb.no (b := decide (s26v < (s3v.1.length : Int))) [(25, .bool (decide (s26v < (s3v.1.length : Int)))), (28, undef)] rfl rfl rfl rfl (beq_no' (decide_eq_false hk33v)) (.w 4 rfl rfl rfl (.w 7 rfl rfl rfl .nil)) rfl) All.nil)) (All.cons (fun γ => (All.cons (QOb.no (b := decide (s26v < (s3v.1.length : Int))) [(0, .slice a0 x0.length c0), (25, .bool (decide (s26v < (s3v.1.length : Int))))] rfl rfl rfl rfl (beq_no' (decide_eq_false hk33v)) (.o rfl (by decide) (.w 4 rfl rfl rfl .nil)) rfl) All.nil)) (All.cons (fun γ => (All.cons (QOb.no (b := decide (s26v < (s3v.1.length : Int))) [(4, .int .i64 s3v.2), (25, .bool (decide (s26v < (s3v.1.length : Int))))] rfl rfl rfl rfl (beq_no' (decide_eq_false hk33v)) (.o rfl (by decide) (.w 4 rfl rfl rfl .nil)) rfl) All.nil)) (All.cons (fun γ => (All.cons (QOb.no (b := decide (s26v < (s3v.1.length : Int))) [(25, .bool (decide (s26v < (s3v.1.length : Int)))), (30, undef), (31, undef)] rfl rfl rfl rfl (beq_no' (decide_eq_false hk33v)) (.w 4 rfl rfl rfl (.w 9 rfl rfl rfl (.w 10 rfl rfl rfl .nil))) rfl) All.nil)) (All.cons (fun γ => (All.cons (QOb.no (b := decide (s26v < (s3v.1.length : Int))) [(25, .bool (decide (s26v < (s3v.1.length : Int)))), (32, undef)] rfl rfl rfl rfl (beq_no' (decide_eq_false hk33v)) (.w 4 rfl rfl rfl (.w 11 rfl rfl rfl .nil)) rfl) All.nil)) (All.cons (fun γ => (All.cons (QOb.no (b := decide (s26v < (s3v.1.length : Int))) [(25, .bool (decide (s26v < (s3v.1.length : Int)))), (33, undef)] rfl rfl rfl rfl (beq_no' (decide_eq_false hk33v)) (.w 4 rfl rfl rfl (.w 12 rfl rfl rfl .nil)) rfl) All.nil)) (All.cons (fun γ => (All.cons (QOb.no (b := decide (s26v < (s3v.1.length : Int))) [(25, .bool (decide (s26v < (s3v.1.length : Int)))), (29, undef), (34, undef)] rfl rfl rfl rfl (beq_no' (decide_eq_false hk33v)) (.w 4 rfl rfl rfl (.w 8 rfl rfl rfl (.w 13 rfl rfl rfl .nil))) rfl) All.nil)) (All.cons (fun γ => (All.cons (QOb.plain [(25, .bool (decide (s26v < (s3v.1.length : Int)))), (35, undef)] rfl rfl (.w 4 rfl rfl rfl (.w 14 rfl rfl rfl .nil)) (q_pick rfl rfl rfl rfl (bif_no (decide_eq_false hk33v) _ _)) rfl) All.nil)) All.nil))))))))))))))))
 exact All.nil
 intro g51v
 exact nrm_cut (s := false) () ⟨rfl, rfl, rfl, rfl, rfl, trivial⟩ (.sel' 0 rfl (RowV.mk hl32v) (.sel 0 rfl (.nil _)))
 intro s29v y30v
 refine sim_condb rfl (fun h52v => ?_) (fun h53v => ?_)
 refine sim_skip ?_
 refine nrm_then ?_
 refine sim_block ?_
 refine sim_region ?_
 refine simL_val (q_move rfl rfl) rfl rfl rfl ?_
 refine simL_val (q_add rfl rfl rfl) rfl rfl rfl ?_
 refine simL_val (q_asg rfl rfl) rfl rfl rfl (simL_nil (nrm_block ?_))
 exact nrm_again (s := IntKind.i64.wrap (s26v + 1)) () ⟨rfl, rfl, rfl, rfl, trivial⟩ (.sel 0 rfl (.sel 0 rfl (.nil _)))
 refine sim_exi ?_
 refine exi_then ?_
 refine exi_loop ?_
 refine exi_here ?_
 exact nrm_cut (s := s26v) () ⟨rfl, rfl, rfl, rfl, trivial⟩ (.sel 0 rfl (.sel 0 rfl (.nil _)))
 intro s24v y25v
 refine sim_cut (S := Bool) (Unit) (fun s y => [(0, .slice a0 x0.length c0), (3, .slice y4v.1 s3v.1.length y4v.2), (4, .int .i64 s3v.2), (6, .int .i64 s24v), (54, .bool s)]) (fun s y => [RowV 9 1 (V9 tt) y4v.1 s3v.1 y4v.2, F]) ?_ ?_
 refine sim_openV 0 rfl (fun rs56v hl57v => ?_)
 refine sim_if (fun hk58v => ?_) (fun hk58v => ?_)
 refine sim_draw (Γ := Unit) () [[], [], [1], [0, 1, 2], [0, 1, 2, 3], [0, 1, 2, 3, 4], [0, 1, 2, 3, 4], [0, 1, 2, 3, 4, 5, 6], [0, 1, 2, 3, 4, 5, 6, 7], [0, 1, 2, 3, 4], [0, 1, 2, 3, 4], [0, 1, 2, 3, 4, 9, 10], [0, 1, 2, 3, 4, 9, 10, 11], [0, 1, 2, 3, 4, 9, 10, 11, 12], [0, 1, 2, 3, 4, 5, 6, 7, 8, 9, 10, 11, 12, 13], [0, 1, 2, 3, 4, 5, 6, 7, 8, 9, 10, 11, 12, 13, 14]] [] [0, 1, 2, 3, 4, 5, 6, 7, 8, 9, 10, 11, 12, 13, 14, 15] (fun i => [[0], [0], [0], [0], [0], [0], [0], [0], [0], [0], [0], [0], [0], [0], [0], [0]].getD i []) (fun i => [[], [], [], [], [], [], [], [], [], [], [], [], [], [], [], []].getD i []) (fun γ i => [.int .i64 s24v, .slice y4v.1 s3v.1.length y4v.2, .int .i64 (s3v.1.length : Int), .bool (decide (s24v = (s3v.1.length : Int))), .bool (decide (s24v = (s3v.1.length : Int))), undef, undef, undef, undef, undef, undef, undef, undef, undef, undef, .bool true].getD i undef) (fun j γ => [[Row 9 1 y4v.1 s3v.1.length y4v.2 rs56v.flatten, F]].getD j []) (fun γ => [(0, .slice a0 x0.length c0), (3, .slice y4v.1 s3v.1.length y4v.2), (4, .int .i64 s3v.2), (6, .int .i64 s24v), (44, undef), (45, undef), (46, undef), (47, undef), (48, undef), (49, undef), (50, undef), (51, undef), (52, undef), (53, undef), (54, .bool true)]) mixed (by decide) (by decide) (by decide) (by decide) (by decide) (by decide) (by decide) 74 rfl (by decide) (by decide) (by decide) (Ent.refl _) ?_ ?_ (fun _ => ⟨rfl, rfl, rfl, rfl, rfl, rfl, rfl, rfl, rfl, rfl, rfl, rfl, rfl, rfl, rfl, trivial⟩) ?_
 exact (All.cons (fun γ => (All.cons (QOb.plain [(6, .int .i64 s24v)] rfl rfl (.o rfl (by decide) .nil) (q_move rfl rfl) rfl) All.nil)) (All.cons (fun γ => (All.cons (QOb.plain [(3, .slice y4v.1 s3v.1.length y4v.2)] rfl rfl (.o rfl (by decide) .nil) (q_move rfl rfl) rfl) All.nil)) (All.cons (fun γ => (All.cons (QOb.plain [(40, .slice y4v.1 s3v.1.length y4v.2)] rfl rfl (.w 1 rfl rfl rfl .nil) (q_len rfl rfl rfl Try.underlying29) rfl) All.nil)) (All.cons (fun γ => (All.cons (QOb.plain [(39, .int .i64 s24v), (41, .int .i64 (s3v.1.length : Int))] rfl rfl (.w 0 rfl rfl rfl (.w 2 rfl rfl rfl .nil)) (q_eql rfl rfl rfl) rfl) All.nil)) (All.cons (fun γ => (All.cons (QOb.plain [(42, .bool (decide (s24v = (s3v.1.length : Int))))] rfl rfl (.w 3 rfl rfl rfl .nil) (q_move rfl rfl) rfl) All.nil)) (All.cons (fun γ => (All.cons (QOb.no (b := decide (s24v = (s3v.1.length : Int))) [(3, .slice y4v.1 s3v.1.length y4v.2), (43, .bool (decide (s24v = (s3v.1.length : Int))))] rfl rfl rfl rfl (beq_yes' (decide_eq_true hk58v)) (.o rfl (by decide) (.w 4 rfl rfl rfl .nil)) rfl) All.nil)) (All.cons (fun γ => (All.cons (QOb.no (b := decide (s24v = (s3v.1.length : Int))) [(6, .int .i64 s24v), (43, .bool (decide (s24v = (s3v.1.length : Int))))] rfl rfl rfl rfl (beq_yes' (decide_eq_true hk58v)) (.o rfl (by decide) (.w 4 rfl rfl rfl .nil)) rfl) All.nil)) (All.cons (fun γ => (All.cons (QOb.no (b := decide (s24v = (s3v.1.length : Int))) [(43, .bool (decide (s24v = (s3v.1.length : Int)))), (44, undef), (45, undef)] rfl rfl rfl rfl (beq_yes' (decide_eq_true hk58v)) (.w 4 rfl rfl rfl (.w 5 rfl rfl rfl (.w 6 rfl rfl rfl .nil))) rfl) All.nil)) (All.cons (fun γ => (All.cons (QOb.no (b := decide (s24v = (s3v.1.length : Int))) [(43, .bool (decide (s24v = (s3v.1.length : Int)))), (46, undef)] rfl rfl rfl rfl (beq_yes' (decide_eq_true hk58v)) (.w 4 rfl rfl rfl (.w 7 rfl rfl rfl .nil)) rfl) All.nil)) (All.cons (fun γ => (All.cons (QOb.no (b := decide (s24v = (s3v.1.length : Int))) [(0, .slice a0 x0.length c0), (43, .bool (decide (s24v = (s3v.1.length : Int))))] rfl rfl rfl rfl (beq_yes' (decide_eq_true hk58v)) (.o rfl (by decide) (.w 4 rfl rfl rfl .nil)) rfl) All.nil)) (All.cons (fun γ => (All.cons (QOb.no (b := decide (s24v = (s3v.1.length : Int))) [(4, .int .i64 s3v.2), (43, .bool (decide (s24v = (s3v.1.length : Int))))] rfl rfl rfl rfl (beq_yes' (decide_eq_true hk58v)) (.o rfl (by decide) (.w 4 rfl rfl rfl .nil)) rfl) All.nil)) (All.cons (fun γ => (All.cons (QOb.no (b := decide (s24v = (s3v.1.length : Int))) [(43, .bool (decide (s24v = (s3v.1.length : Int)))), (48, undef), (49, undef)] rfl rfl rfl rfl (beq_yes' (decide_eq_true hk58v)) (.w 4 rfl rfl rfl (.w 9 rfl rfl rfl (.w 10 rfl rfl rfl .nil))) rfl) All.nil)) (All.cons (fun γ => (All.cons (QOb.no (b := decide (s24v = (s3v.1.length : Int))) [(43, .bool (decide (s24v = (s3v.1.length : Int)))), (50, undef)] rfl rfl rfl rfl (beq_yes' (decide_eq_true hk58v)) (.w 4 rfl rfl rfl (.w 11 rfl rfl rfl .nil)) rfl) All.nil)) (All.cons (fun γ => (All.cons (QOb.no (b := decide (s24v = (s3v.1.length : Int))) [(43, .bool (decide (s24v = (s3v.1.length : Int)))), (51, undef)] rfl rfl rfl rfl (beq_yes' (decide_eq_true hk58v)) (.w 4 rfl rfl rfl (.w 12 rfl rfl rfl .nil)) rfl) All.nil)) (All.cons (fun γ => (All.cons (QOb.no (b := decide (s24v = (s3v.1.length : Int))) [(43, .bool (decide (s24v = (s3v.1.length : Int)))), (47, undef), (52, undef)] rfl rfl rfl rfl (beq_yes' (decide_eq_true hk58v)) (.w 4 rfl rfl rfl (.w 8 rfl rfl rfl (.w 13 rfl rfl rfl .nil))) rfl) All.nil)) (All.cons (fun γ => (All.cons (QOb.plain [(43, .bool (decide (s24v = (s3v.1.length : Int)))), (53, undef)] rfl rfl (.w 4 rfl rfl rfl (.w 14 rfl rfl rfl .nil)) (q_pick rfl rfl rfl rfl (bif_yes (decide_eq_true hk58v) _ _)) rfl) All.nil)) All.nil))))))))))))))))
 exact All.nil
 intro g59v
 exact nrm_cut (s := true) () ⟨rfl, rfl, rfl, rfl, rfl, trivial⟩ (.sel' 0 rfl (RowV.mk hl57v) (.sel 0 rfl (.nil _)))
 refine sim_ask (fun hi60v => ?_)
 refine sim_posV 0 rfl hl57v rfl (i := s24v.toNat) (by omega) ([] : List UInt8) (fun b61v b61vo r64v ha62v hV65v hlr66v hcell67v => ?_)
 obtain rfl := hV65v
 refine sim_ask (fun hi68v => ?_)
 obtain ⟨b69v, b69vo, r72v, ha70v, hV73v, hlr74v, hcell75v⟩ := RdV.pos h0 (Up.refl _) rfl (i := s3v.2.toNat) (by omega) dz35
 obtain rfl := hV73v
 refine sim_draw (Γ := Unit) () [[], [], [1], [0, 1, 2], [0, 1, 2, 3], [0, 1, 2, 3, 4], [0, 1, 2, 3, 4], [0, 1, 2, 3, 4, 5, 6], [0, 1, 2, 3, 4, 5, 6, 7], [0, 1, 2, 3, 4], [0, 1, 2, 3, 4], [0, 1, 2, 3, 4, 9, 10], [0, 1, 2, 3, 4, 9, 10, 11], [0, 1, 2, 3, 4, 9, 10, 11, 12], [0, 1, 2, 3, 4, 5, 6, 7, 8, 9, 10, 11, 12, 13], [0, 1, 2, 3, 4, 5, 6, 7, 8, 9, 10, 11, 12, 13, 14]] [] [0, 1, 2, 3, 4, 5, 6, 7, 8, 9, 10, 11, 12, 13, 14, 15] (fun i => [[0], [0], [0], [0], [0], [0], [0], [0], [0], [0], [0], [0], [0], [0], [0], [0]].getD i []) (fun i => [[], [], [], [], [], [], [], [], [], [], [], [], [], [], [], []].getD i []) (fun γ i => [.int .i64 s24v, .slice y4v.1 s3v.1.length y4v.2, .int .i64 (s3v.1.length : Int), .bool (decide (s24v = (s3v.1.length : Int))), .bool (decide (s24v = (s3v.1.length : Int))), .slice y4v.1 s3v.1.length y4v.2, .int .i64 s24v, .pointer (some ⟨b61v, b61vo + s24v.toNat * 1, none⟩), str (s3v.1.getD s24v.toNat ([] : List UInt8)), .slice a0 x0.length c0, .int .i64 s3v.2, .pointer (some ⟨b69v, b69vo + s3v.2.toNat * 10, none⟩), .pointer (some ⟨b69v, b69vo + s3v.2.toNat * 10 + 3, none⟩), str ((x0.getD s3v.2.toNat dz35).2.2.2.1), .bool (!decide ((s3v.1.getD s24v.toNat ([] : List UInt8)) = ((x0.getD s3v.2.toNat dz35).2.2.2.1))), .bool (!decide ((s3v.1.getD s24v.toNat ([] : List UInt8)) = ((x0.getD s3v.2.toNat dz35).2.2.2.1)))].getD i undef) (fun j γ => [[Row 9 1 y4v.1 s3v.1.length y4v.2 rs56v.flatten, F]].getD j []) (fun γ => [(0, .slice a0 x0.length c0), (3, .slice y4v.1 s3v.1.length y4v.2), (4, .int .i64 s3v.2), (6, .int .i64 s24v), (44, .slice y4v.1 s3v.1.length y4v.2), (45, .int .i64 s24v), (46, .pointer (some ⟨b61v, b61vo + s24v.toNat * 1, none⟩)), (47, str (s3v.1.getD s24v.toNat ([] : List UInt8))), (48, .slice a0 x0.length c0), (49, .int .i64 s3v.2), (50, .pointer (some ⟨b69v, b69vo + s3v.2.toNat * 10, none⟩)), (51, .pointer (some ⟨b69v, b69vo + s3v.2.toNat * 10 + 3, none⟩)), (52, str ((x0.getD s3v.2.toNat dz35).2.2.2.1)), (53, .bool (!decide ((s3v.1.getD s24v.toNat ([] : List UInt8)) = ((x0.getD s3v.2.toNat dz35).2.2.2.1)))), (54, .bool (!decide ((s3v.1.getD s24v.toNat ([] : List UInt8)) = ((x0.getD s3v.2.toNat dz35).2.2.2.1))))]) mixed (by decide) (by decide) (by decide) (by decide) (by decide) (by decide) (by decide) 74 rfl (by decide) (by decide) (by decide) (Ent.refl _) ?_ ?_ (fun _ => ⟨rfl, rfl, rfl, rfl, rfl, rfl, rfl, rfl, rfl, rfl, rfl, rfl, rfl, rfl, rfl, trivial⟩) ?_
 exact (All.cons (fun γ => (All.cons (QOb.plain [(6, .int .i64 s24v)] rfl rfl (.o rfl (by decide) .nil) (q_move rfl rfl) rfl) All.nil)) (All.cons (fun γ => (All.cons (QOb.plain [(3, .slice y4v.1 s3v.1.length y4v.2)] rfl rfl (.o rfl (by decide) .nil) (q_move rfl rfl) rfl) All.nil)) (All.cons (fun γ => (All.cons (QOb.plain [(40, .slice y4v.1 s3v.1.length y4v.2)] rfl rfl (.w 1 rfl rfl rfl .nil) (q_len rfl rfl rfl Try.underlying29) rfl) All.nil)) (All.cons (fun γ => (All.cons (QOb.plain [(39, .int .i64 s24v), (41, .int .i64 (s3v.1.length : Int))] rfl rfl (.w 0 rfl rfl rfl (.w 2 rfl rfl rfl .nil)) (q_eql rfl rfl rfl) rfl) All.nil)) (All.cons (fun γ => (All.cons (QOb.plain [(42, .bool (decide (s24v = (s3v.1.length : Int))))] rfl rfl (.w 3 rfl rfl rfl .nil) (q_move rfl rfl) rfl) All.nil)) (All.cons (fun γ => (All.cons (QOb.yes (b := decide (s24v = (s3v.1.length : Int))) [(3, .slice y4v.1 s3v.1.length y4v.2), (43, .bool (decide (s24v = (s3v.1.length : Int))))] rfl rfl rfl rfl (beq_no (decide_eq_false hk58v)) (.o rfl (by decide) (.w 4 rfl rfl rfl .nil)) (q_move rfl rfl) rfl) All.nil)) (All.cons (fun γ => (All.cons (QOb.yes (b := decide (s24v = (s3v.1.length : Int))) [(6, .int .i64 s24v), (43, .bool (decide (s24v = (s3v.1.length : Int))))] rfl rfl rfl rfl (beq_no (decide_eq_false hk58v)) (.o rfl (by decide) (.w 4 rfl rfl rfl .nil)) (q_move rfl rfl) rfl) All.nil)) (All.cons (fun γ => (All.cons (QOb.yes (b := decide (s24v = (s3v.1.length : Int))) [(43, .bool (decide (s24v = (s3v.1.length : Int)))), (44, .slice y4v.1 s3v.1.length y4v.2), (45, .int .i64 s24v)] rfl rfl rfl rfl (beq_no (decide_eq_false hk58v)) (.w 4 rfl rfl rfl (.w 5 rfl rfl rfl (.w 6 rfl rfl rfl .nil))) (q_idx rfl rfl rfl ha62v Try.underlying29 Try.sizeOf9 hi60v.1 hi60v.2) rfl) All.nil)) (All.cons (fun γ => (All.cons (QOb.yes (b := decide (s24v = (s3v.1.length : Int))) [(43, .bool (decide (s24v = (s3v.1.length : Int)))), (46, .pointer (some ⟨b61v, b61vo + s24v.toNat * 1, none⟩))] rfl rfl rfl rfl (beq_no (decide_eq_false hk58v)) (.w 4 rfl rfl rfl (.w 7 rfl rfl rfl .nil)) (q_load rfl rfl Try.isAgg9 (hcell67v 0 rfl 0 _ rfl)) rfl) All.nil)) (All.cons (fun γ => (All.cons (QOb.yes (b := decide (s24v = (s3v.1.length : Int))) [(0, .slice a0 x0.length c0), (43, .bool (decide (s24v = (s3v.1.length : Int))))] rfl rfl rfl rfl (beq_no (decide_eq_false hk58v)) (.o rfl (by decide) (.w 4 rfl rfl rfl .nil)) (q_move rfl rfl) rfl) All.nil)) (All.cons (fun γ => (All.cons (QOb.yes (b := decide (s24v = (s3v.1.length : Int))) [(4, .int .i64 s3v.2), (43, .bool (decide (s24v = (s3v.1.length : Int))))] rfl rfl rfl rfl (beq_no (decide_eq_false hk58v)) (.o rfl (by decide) (.w 4 rfl rfl rfl .nil)) (q_move rfl rfl) rfl) All.nil)) (All.cons (fun γ => (All.cons (QOb.yes (b := decide (s24v = (s3v.1.length : Int))) [(43, .bool (decide (s24v = (s3v.1.length : Int)))), (48, .slice a0 x0.length c0), (49, .int .i64 s3v.2)] rfl rfl rfl rfl (beq_no (decide_eq_false hk58v)) (.w 4 rfl rfl rfl (.w 9 rfl rfl rfl (.w 10 rfl rfl rfl .nil))) (q_idx rfl rfl rfl ha70v Try.underlying22 Try.sizeOf35 hi68v.1 hi68v.2) rfl) All.nil)) (All.cons (fun γ => (All.cons (QOb.yes (b := decide (s24v = (s3v.1.length : Int))) [(43, .bool (decide (s24v = (s3v.1.length : Int)))), (50, .pointer (some ⟨b69v, b69vo + s3v.2.toNat * 10, none⟩))] rfl rfl rfl rfl (beq_no (decide_eq_false hk58v)) (.w 4 rfl rfl rfl (.w 11 rfl rfl rfl .nil)) (q_fa rfl rfl Try.underlying35 rfl rfl Try.sizeOf9 rfl) rfl) All.nil)) (All.cons (fun γ => (All.cons (QOb.yes (b := decide (s24v = (s3v.1.length : Int))) [(43, .bool (decide (s24v = (s3v.1.length : Int)))), (51, .pointer (some ⟨b69v, b69vo + s3v.2.toNat * 10 + 3, none⟩))] rfl rfl rfl rfl (beq_no (decide_eq_false hk58v)) (.w 4 rfl rfl rfl (.w 12 rfl rfl rfl .nil)) (q_load rfl rfl Try.isAgg9 (hcell75v 1 rfl 3 _ rfl)) rfl) All.nil)) (All.cons (fun γ => (All.cons (QOb.yes (b := decide (s24v = (s3v.1.length : Int))) [(43, .bool (decide (s24v = (s3v.1.length : Int)))), (47, str (s3v.1.getD s24v.toNat ([] : List UInt8))), (52, str ((x0.getD s3v.2.toNat dz35).2.2.2.1))] rfl rfl rfl rfl (beq_no (decide_eq_false hk58v)) (.w 4 rfl rfl rfl (.w 8 rfl rfl rfl (.w 13 rfl rfl rfl .nil))) (q_nes rfl rfl rfl) rfl) All.nil)) (All.cons (fun γ => (All.cons (QOb.plain [(43, .bool (decide (s24v = (s3v.1.length : Int)))), (53, .bool (!decide ((s3v.1.getD s24v.toNat ([] : List UInt8)) = ((x0.getD s3v.2.toNat dz35).2.2.2.1))))] rfl rfl (.w 4 rfl rfl rfl (.w 14 rfl rfl rfl .nil)) (q_pick rfl rfl rfl rfl (bif_no (decide_eq_false hk58v) _ _)) rfl) All.nil)) All.nil))))))))))))))))
 exact All.nil
 intro g76v
 exact nrm_cut (s := !decide ((s3v.1.getD s24v.toNat ([] : List UInt8)) = ((x0.getD s3v.2.toNat dz35).2.2.2.1))) () ⟨rfl, rfl, rfl, rfl, rfl, trivial⟩ (.sel' 0 rfl (RowV.mk hl57v) (.sel 0 rfl (.nil _)))
 intro s54v y55v
 refine sim_condb rfl (fun h77v => ?_) (fun h78v => ?_)
 refine sim_seq (sim_region ?_)
 refine simL_eff (re_lit0V (α := List UInt8) (V := (V9 tt)) rfl Try.underlying29 elt9) rfl rfl rfl ?_
 intro b79v
 refine simL_val (q_move rfl rfl) rfl rfl rfl ?_
 refine simL_val (q_move rfl rfl) rfl rfl rfl ?_
 refine simL_openV 1 rfl (fun rs81v hl82v => ?_)
 refine simL_lend 1 rfl (fun hq83v hq84v hq85v hq86v => ?_)
 refine simL_ask (fun hb80v => ?_)
 obtain ⟨a87v, c88v, hS89v, hr90v, hc91v, hm92v⟩ := slice_preV (lo := (0 : Int)) (hi := s24v) (Rd.asV hl82v hq83v) hq84v hb80v
 refine simL_val (q_sub_roV (l := s3v.1) (lo' := (0 : Int)) (hi' := s24v) rfl rfl rfl rfl Try.underlying29 Try.sizeOf9 (.inr ⟨_, rfl⟩) (.inl ⟨rfl, rfl⟩) hb80v hq84v hS89v) rfl rfl rfl ?_
 refine simL_openV 0 rfl (fun rs97v hl98v => ?_)
 refine simL_ask (fun hb96v => ?_)
 refine simL_eff (re_appendV 0 rfl rfl rfl Try.underlying29 elt9 rfl hl98v (hr90v.rds 0 rfl) hb96v) rfl rfl rfl ?_
 intro y95v
 refine simL_val (q_asg rfl rfl) rfl rfl rfl (simL_nil (nrm_then (sim_seq (sim_region ?_))))
 refine simL_val (q_move rfl rfl) rfl rfl rfl ?_
 refine simL_val (q_move rfl rfl) rfl rfl rfl ?_
 refine simL_val (q_move rfl rfl) rfl rfl rfl ?_
 refine simL_ask (fun hi99v => ?_)
 obtain ⟨b100v, b100vo, r103v, ha101v, hV104v, hlr105v, hcell106v⟩ := RdV.pos h0 (Up.refl _) rfl (i := s3v.2.toNat) (by omega) dz35
 obtain rfl := hV104v
 refine simL_val (q_idx rfl rfl rfl ha101v Try.underlying22 Try.sizeOf35 hi99v.1 hi99v.2) rfl rfl rfl ?_
 refine simL_val (q_fa rfl rfl Try.underlying35 rfl rfl Try.sizeOf9 rfl) rfl rfl rfl ?_
 refine simL_val (q_load rfl rfl Try.isAgg9 (hcell106v 2 rfl 3 _ rfl)) rfl rfl rfl ?_
 have hlb108v : ListV 1 (V9 tt) ([(x0.getD s3v.2.toNat dz35).2.2.2.1] : List (List UInt8)) [[str ((x0.getD s3v.2.toNat dz35).2.2.2.1)]] := ⟨⟨rfl, one_of (by rfl), rfl⟩, trivial⟩
 refine simL_eff (re_litV (V := (V9 tt)) (xs := ([(x0.getD s3v.2.toNat dz35).2.2.2.1] : List (List UInt8))) [[str ((x0.getD s3v.2.toNat dz35).2.2.2.1)]] rfl rfl Try.underlying29 elt9 rfl (by kernel_rfl) rfl hlb108v rfl rfl) rfl rfl rfl ?_
 intro b108v
 refine simL_openV 1 rfl (fun rs113v hl114v => ?_)
 refine simL_ask (fun hb112v => ?_)
 refine simL_eff (re_appendV 1 rfl rfl rfl Try.underlying29 elt9 rfl hl114v (RdsV.row hlb108v 0 rfl) hb112v) rfl rfl rfl ?_
 intro y111v
 refine simL_val (q_asg rfl rfl) rfl rfl rfl (simL_nil (nrm_then (sim_region ?_)))
 refine simL_val (q_move rfl rfl) rfl rfl rfl ?_
 refine simL_val (q_move rfl rfl) rfl rfl rfl ?_
 refine simL_val (q_move rfl rfl) rfl rfl rfl ?_
 refine simL_lend 2 rfl (fun hq116v hq117v hq118v hq119v => ?_)
 refine simL_ask (fun hb115v => ?_)
 obtain ⟨a120v, c121v, hS122v, hr123v, hc124v, hm125v⟩ := slice_preV (lo := s24v) (hi := (s3v.1.length : Int)) (Rd.asV hl82v hq116v) hq117v hb115v
 refine simL_val (q_sub_roV (l := s3v.1) (lo' := s24v) (hi' := (s3v.1.length : Int)) rfl rfl rfl rfl Try.underlying29 Try.sizeOf9 (.inl ⟨rfl, rfl⟩) (.inr ⟨_, rfl⟩) hb115v hq117v hS122v) rfl rfl rfl ?_
 refine simL_openV 1 rfl (fun rs130v hl131v => ?_)
 refine simL_ask (fun hb129v => ?_)
 refine simL_eff (re_appendV 1 rfl rfl rfl Try.underlying29 elt9 rfl hl131v (hr123v.rds 1 rfl) hb129v) rfl rfl rfl ?_
 intro y128v
 refine simL_val (q_asg rfl rfl) rfl rfl rfl (simL_nil (nrm_block ?_))
 exact nrm_cut (s := ((([] : List (List UInt8)) ++ (cut s3v.1 (0 : Int) s24v)) ++ ([(x0.getD s3v.2.toNat dz35).2.2.2.1] : List (List UInt8))) ++ (cut s3v.1 s24v (s3v.1.length : Int))) (y128v.1, y128v.2) ⟨rfl, rfl, rfl, trivial⟩ (.sel 1 rfl (.sel 2 rfl (.nil _)))
 refine sim_skip ?_
 refine nrm_block ?_
 exact nrm_cut (s := s3v.1) (y4v.1, y4v.2) ⟨rfl, rfl, rfl, trivial⟩ (.sel 0 rfl (.sel 0 rfl (.nil _)))
 intro s9v y10v
 refine sim_region ?_
 refine simL_val (q_move rfl rfl) rfl rfl rfl ?_
 refine simL_val (q_add rfl rfl rfl) rfl rfl rfl ?_
 refine simL_val (q_asg rfl rfl) rfl rfl rfl (simL_nil ?_)
 exact nrm_again (s := (s9v, IntKind.i64.wrap (s3v.2 + 1))) (y10v.1, y10v.2) ⟨rfl, rfl, rfl, trivial⟩ (.sel 0 rfl (.sel 0 rfl (.nil _)))
 refine sim_exi ?_
 refine exi_then ?_
 refine exi_loop ?_
 refine exi_here ?_
 exact nrm_cut (s := s3v.1) (y4v.1, y4v.2) ⟨rfl, trivial⟩ (.sel 0 rfl (.sel 0 rfl (.nil _)))
 intro s1v y2v
 refine sim_seq (sim_region ?_)
 refine simL_val (q_move rfl rfl) rfl rfl rfl ?_
 refine simL_val (q_asg rfl rfl) rfl rfl rfl (simL_nil (nrm_then (sim_rtn ?_)))
 exact rtn_fn (y2v.1, y2v.2) rfl rfl rfl (.sel 0 rfl (.sel 0 rfl (.nil _)))

def synodref16_Check.l0 (x0 : List (Ty35)) (s1v : List (List UInt8)) : Nat → Int → Option ((Unit) ⊕ (Bool))
  | 0, _ => none
  | k + 1, z8v => if z8v < (s1v.length : Int) then (if 0 ≤ z8v ∧ z8v < (s1v.length : Int) then ((synodref16_Explain.f k x0 (s1v.getD z8v.toNat ([] : List UInt8))).bind fun s21v => (if (!s21v.2) = true then (some (.inr false)) else (synodref16_Check.l0 x0 s1v k (IntKind.i64.wrap (z8v + 1))))) else none) else (some (.inl ()))
def synodref16_Check.f (k : Nat) (x0 : List (Ty35)) : Option (Bool) := (synodref16_Keys.f k x0).bind fun s1v => (orR (synodref16_Check.l0 x0 s1v k 0) fun s4v => (some true))
theorem synodref16_Check.calls (W : World) (F : HA) (k : Nat) (a0 : Option Addr) (c0 : Nat) (x0 : List (Ty35)) (h0 : RdV F 10 (V35 tt) a0 x0) (hc0 : x0.length ≤ c0) (hm0 : c0 ≤ maxLen) :
    Fn Try.prog W 22 [.slice a0 x0.length c0] [] F (synodref16_Check.f k x0) (fun (r : Bool) (y : Unit) => .bool r) (fun r y => []) := by
 unfold synodref16_Check.f
 refine fn_intro 26 Try.func22 rfl Try.ntmps22 rfl ?_
 refine sim_seq (sim_region ?_)
 refine simL_val (q_asg rfl rfl) rfl rfl rfl (simL_nil (nrm_then (sim_seq (sim_region ?_))))
 refine simL_val (q_move rfl rfl) rfl rfl rfl ?_
 refine simL_bind (fun s1v hs3v => ?_)
 refine simL_eff (re_call (vs := [.slice a0 x0.length c0]) (cap := []) (A := []) (rst := [F]) rfl rfl rfl rfl rfl rfl Try.call16 (.sel 0 rfl (.nil _)) (synodref16_Keys.calls _ _ k a0 c0 x0 (h0.up (Up.lend 0 rfl) (fun _ _ h => h)) hc0 hm0) hs3v) rfl rfl rfl ?_
 intro y2v
 refine simL_val (q_asg rfl rfl) rfl rfl rfl (simL_nil (nrm_then ?_))
 refine sim_cutR (S := Unit) (Unit) (fun s y => []) (fun s y => [F]) ?_ ?_
 refine sim_seq (sim_region ?_)
 refine simL_val (q_asg rfl rfl) rfl rfl rfl (simL_nil (nrm_then ?_))
 refine sim_block ?_
 refine sim_loop (S := Int) (Unit) (fun k s => synodref16_Check.l0 x0 s1v k s) (fun s y => [(0, .slice a0 x0.length c0), (3, .slice y2v.1 s1v.length y2v.2), (4, .int .i64 s)]) (fun s y => [RowV 9 1 (V9 tt) y2v.1 s1v y2v.2, F]) (fun _ => by rw [synodref16_Check.l0]) ?_ k 0 () ⟨rfl, rfl, rfl, trivial⟩ (.sel 0 rfl (.sel 0 rfl (.nil _)))
 intro k s6v y7v
 refine sim_eq (by rw [synodref16_Check.l0]) ?_
 refine sim_seq (sim_seq (sim_region ?_))
 refine simL_val (q_move rfl rfl) rfl rfl rfl ?_
 refine simL_val (q_move rfl rfl) rfl rfl rfl ?_
 refine simL_val (q_len rfl rfl rfl Try.underlying29) rfl rfl rfl ?_
 refine simL_val (q_lss rfl rfl rfl) rfl rfl rfl (simL_nil (nrm_then ?_))
 refine sim_cond rfl (fun h9v => ?_) (fun h10v => ?_)
 refine sim_skip ?_
 refine nrm_then (sim_seq ?_)
 refine sim_block ?_
 refine sim_seq (sim_region ?_)
 refine simL_val (q_move rfl rfl) rfl rfl rfl ?_
 refine simL_val (q_move rfl rfl) rfl rfl rfl ?_
 refine simL_val (q_move rfl rfl) rfl rfl rfl ?_
 refine simL_openV 0 rfl (fun rs19v hl20v => ?_)
 refine simL_ask (fun hi11v => ?_)
 refine simL_posV 0 rfl hl20v rfl (i := s6v.toNat) (by omega) ([] : List UInt8) (fun b12v b12vo r15v ha13v hV16v hlr17v hcell18v => ?_)
 obtain rfl := hV16v
 refine simL_val (q_idx rfl rfl rfl ha13v Try.underlying29 Try.sizeOf9 hi11v.1 hi11v.2) rfl rfl rfl ?_
 refine simL_val (q_load rfl rfl Try.isAgg9 (hcell18v 0 rfl 0 _ rfl)) rfl rfl rfl ?_
 refine simL_bind (fun s21v hs23v => ?_)
 refine simL_eff (re_call (vs := [.slice a0 x0.length c0, str (s1v.getD s6v.toNat ([] : List UInt8))]) (cap := []) (A := []) (rst := [Row 9 1 y2v.1 s1v.length y2v.2 rs19v.flatten, F]) rfl rfl rfl rfl rfl rfl Try.call24 (.sel 0 rfl (.sel 0 rfl (.nil _))) (synodref16_Explain.calls _ _ k a0 c0 x0 (s1v.getD s6v.toNat ([] : List UInt8)) (h0.up (Up.lend 1 rfl) (fun _ _ h => h)) hc0 hm0) hs23v) rfl rfl rfl ?_
 intro y22v
 refine simL_val (q_move rfl rfl) rfl rfl rfl ?_
 refine simL_val (q_ext rfl rfl rfl) rfl rfl rfl ?_
 refine simL_val (q_ext rfl rfl rfl) rfl rfl rfl ?_
 refine simL_val (q_asg rfl rfl) rfl rfl rfl ?_
 refine simL_val (q_asg rfl rfl) rfl rfl rfl (simL_nil (nrm_then (sim_seq (sim_region ?_))))
 refine simL_val (q_move rfl rfl) rfl rfl rfl ?_
 refine simL_val (q_not rfl rfl) rfl rfl rfl (simL_nil (nrm_then ?_))
 refine sim_condb rfl (fun h24v => ?_) (fun h25v => ?_)
 refine sim_seq (sim_region ?_)
 refine simL_val (q_asg rfl rfl) rfl rfl rfl (simL_nil (nrm_then (sim_rtn ?_)))
 refine rtn_block ?_
 refine rtn_then ?_
 refine rtn_loop ?_
 refine rtn_block ?_
 refine rtn_cutR ?_
 exact rtn_fn () rfl rfl rfl (.sel 2 rfl (.nil _))
 refine sim_skip ?_
 refine nrm_block (nrm_then (sim_region ?_))
 refine simL_val (q_move rfl rfl) rfl rfl rfl ?_
 refine simL_val (q_add rfl rfl rfl) rfl rfl rfl ?_
 refine simL_val (q_asg rfl rfl) rfl rfl rfl (simL_nil ?_)
 exact nrm_again (s := IntKind.i64.wrap (s6v + 1)) () ⟨rfl, rfl, rfl, trivial⟩ (.sel' 1 rfl (RowV.mk hl20v) (.sel 1 rfl (.nil _)))
 refine sim_exi ?_
 refine exi_then ?_
 refine exi_loop ?_
 refine exi_here ?_
 exact nrm_cutR (s := ()) () trivial (.sel 1 rfl (.nil _))
 intro s4v y5v
 refine sim_seq (sim_region ?_)
 refine simL_val (q_asg rfl rfl) rfl rfl rfl (simL_nil (nrm_then (sim_rtn ?_)))
 exact rtn_fn () rfl rfl rfl (.sel 0 rfl (.nil _))

def synodref_SameTexts.l0 (x0 : List (List UInt8)) (x1 : List (List UInt8)) : Nat → Int → Option ((Unit) ⊕ (Bool))
  | 0, _ => none
  | k + 1, z7v => if z7v < (x0.length : Int) then (if 0 ≤ z7v ∧ z7v < (x0.length : Int) then (if 0 ≤ z7v ∧ z7v < (x1.length : Int) then (if (x0.getD z7v.toNat ([] : List UInt8)) = (x1.getD z7v.toNat ([] : List UInt8)) then (synodref_SameTexts.l0 x0 x1 k (IntKind.i64.wrap (z7v + 1))) else (some (.inr false))) else none) else none) else (some (.inl ()))
def synodref_SameTexts.f (k : Nat) (x0 : List (List UInt8)) (x1 : List (List UInt8)) : Option (Bool) := if (x0.length : Int) = (x1.length : Int) then (orR (synodref_SameTexts.l0 x0 x1 k 0) fun s3v => (some true)) else (some false)
theorem synodref_SameTexts.calls (W : World) (F : HA) (k : Nat) (a0 : Option Addr) (c0 : Nat) (x0 : List (List UInt8)) (a1 : Option Addr) (c1 : Nat) (x1 : List (List UInt8)) (h0 : RdV F 1 (V9 tt) a0 x0) (hc0 : x0.length ≤ c0) (hm0 : c0 ≤ maxLen) (h1 : RdV F 1 (V9 tt) a1 x1) (hc1 : x1.length ≤ c1) (hm1 : c1 ≤ maxLen) :
    Fn Try.prog W 17 [.slice a0 x0.length c0, .slice a1 x1.length c1] [] F (synodref_SameTexts.f k x0 x1) (fun (r : Bool) (y : Unit) => .bool r) (fun r y => []) := by
 unfold synodref_SameTexts.f
 refine fn_intro 26 Try.func17 rfl Try.ntmps17 rfl ?_
 refine sim_seq (sim_region ?_)
 refine simL_val (q_asg rfl rfl) rfl rfl rfl (simL_nil (nrm_then (sim_seq (sim_seq (sim_region ?_)))))
 refine simL_val (q_move rfl rfl) rfl rfl rfl ?_
 refine simL_val (q_len rfl rfl rfl Try.underlying29) rfl rfl rfl ?_
 refine simL_val (q_move rfl rfl) rfl rfl rfl ?_
 refine simL_val (q_len rfl rfl rfl Try.underlying29) rfl rfl rfl ?_
 refine simL_val (q_neq rfl rfl rfl) rfl rfl rfl (simL_nil (nrm_then ?_))
 refine sim_condn rfl (fun h1v => ?_) (fun h2v => ?_)
 refine sim_skip ?_
 refine nrm_then ?_
 refine sim_cutR (S := Unit) (Unit) (fun s y => []) (fun s y => [F]) ?_ ?_
 refine sim_seq (sim_region ?_)
 refine simL_val (q_asg rfl rfl) rfl rfl rfl (simL_nil (nrm_then ?_))
 refine sim_block ?_
 refine sim_loop (S := Int) (Unit) (fun k s => synodref_SameTexts.l0 x0 x1 k s) (fun s y => [(0, .slice a0 x0.length c0), (1, .slice a1 x1.length c1), (5, .int .i64 s)]) (fun s y => [F]) (fun _ => by rw [synodref_SameTexts.l0]) ?_ k 0 () ⟨rfl, rfl, rfl, trivial⟩ (.sel 0 rfl (.nil _))
 intro k s5v y6v
 refine sim_eq (by rw [synodref_SameTexts.l0]) ?_
 refine sim_seq (sim_seq (sim_region ?_))
 refine simL_val (q_move rfl rfl) rfl rfl rfl ?_
 refine simL_val (q_move rfl rfl) rfl rfl rfl ?_
 refine simL_val (q_len rfl rfl rfl Try.underlying29) rfl rfl rfl ?_
 refine simL_val (q_lss rfl rfl rfl) rfl rfl rfl (simL_nil (nrm_then ?_))
 refine sim_cond rfl (fun h8v => ?_) (fun h9v => ?_)
 refine sim_skip ?_
 refine nrm_then (sim_seq ?_)
 refine sim_block ?_
 refine sim_seq ?_
 refine sim_ask (fun hi10v => ?_)
 obtain ⟨b11v, b11vo, r14v, ha12v, hV15v, hlr16v, hcell17v⟩ := RdV.pos h0 (Up.refl _) rfl (i := s5v.toNat) (by omega) ([] : List UInt8)
 obtain rfl := hV15v
 refine sim_ask (fun hi18v => ?_)
 obtain ⟨b19v, b19vo, r22v, ha20v, hV23v, hlr24v, hcell25v⟩ := RdV.pos h1 (Up.refl _) rfl (i := s5v.toNat) (by omega) ([] : List UInt8)
 obtain rfl := hV23v
 refine sim_draw (Γ := Unit) () [[], [], [0, 1], [0, 1, 2], [], [], [4, 5], [4, 5, 6], [0, 1, 2, 3, 4, 5, 6, 7]] [] [0, 1, 2, 3, 4, 5, 6, 7, 8] (fun i => [[0], [0], [0], [0], [0], [0], [0], [0], [0]].getD i []) (fun i => [[], [], [], [], [], [], [], [], []].getD i []) (fun γ i => [.slice a0 x0.length c0, .int .i64 s5v, .pointer (some ⟨b11v, b11vo + s5v.toNat * 1, none⟩), str (x0.getD s5v.toNat ([] : List UInt8)), .slice a1 x1.length c1, .int .i64 s5v, .pointer (some ⟨b19v, b19vo + s5v.toNat * 1, none⟩), str (x1.getD s5v.toNat ([] : List UInt8)), .bool (!decide ((x0.getD s5v.toNat ([] : List UInt8)) = (x1.getD s5v.toNat ([] : List UInt8))))].getD i undef) (fun j γ => [[F]].getD j []) (fun γ => [(0, .slice a0 x0.length c0), (1, .slice a1 x1.length c1), (5, .int .i64 s5v), (25, .bool (!decide ((x0.getD s5v.toNat ([] : List UInt8)) = (x1.getD s5v.toNat ([] : List UInt8)))))]) mixed (by decide) (by decide) (by decide) (by decide) (by decide) (by decide) (by decide) 26 rfl (by decide) (by decide) (by decide) (Ent.refl _) ?_ ?_ (fun _ => ⟨rfl, rfl, rfl, rfl, trivial⟩) ?_
 exact (All.cons (fun γ => (All.cons (QOb.plain [(0, .slice a0 x0.length c0)] rfl rfl (.o rfl (by decide) .nil) (q_move rfl rfl) rfl) All.nil)) (All.cons (fun γ => (All.cons (QOb.plain [(5, .int .i64 s5v)] rfl rfl (.o rfl (by decide) .nil) (q_move rfl rfl) rfl) All.nil)) (All.cons (fun γ => (All.cons (QOb.plain [(17, .slice a0 x0.length c0), (18, .int .i64 s5v)] rfl rfl (.w 0 rfl rfl rfl (.w 1 rfl rfl rfl .nil)) (q_idx rfl rfl rfl ha12v Try.underlying29 Try.sizeOf9 hi10v.1 hi10v.2) rfl) All.nil)) (All.cons (fun γ => (All.cons (QOb.plain [(19, .pointer (some ⟨b11v, b11vo + s5v.toNat * 1, none⟩))] rfl rfl (.w 2 rfl rfl rfl .nil) (q_load rfl rfl Try.isAgg9 (hcell17v 0 rfl 0 _ rfl)) rfl) All.nil)) (All.cons (fun γ => (All.cons (QOb.plain [(1, .slice a1 x1.length c1)] rfl rfl (.o rfl (by decide) .nil) (q_move rfl rfl) rfl) All.nil)) (All.cons (fun γ => (All.cons (QOb.plain [(5, .int .i64 s5v)] rfl rfl (.o rfl (by decide) .nil) (q_move rfl rfl) rfl) All.nil)) (All.cons (fun γ => (All.cons (QOb.plain [(21, .slice a1 x1.length c1), (22, .int .i64 s5v)] rfl rfl (.w 4 rfl rfl rfl (.w 5 rfl rfl rfl .nil)) (q_idx rfl rfl rfl ha20v Try.underlying29 Try.sizeOf9 hi18v.1 hi18v.2) rfl) All.nil)) (All.cons (fun γ => (All.cons (QOb.plain [(23, .pointer (some ⟨b19v, b19vo + s5v.toNat * 1, none⟩))] rfl rfl (.w 6 rfl rfl rfl .nil) (q_load rfl rfl Try.isAgg9 (hcell25v 0 rfl 0 _ rfl)) rfl) All.nil)) (All.cons (fun γ => (All.cons (QOb.plain [(20, str (x0.getD s5v.toNat ([] : List UInt8))), (24, str (x1.getD s5v.toNat ([] : List UInt8)))] rfl rfl (.w 3 rfl rfl rfl (.w 7 rfl rfl rfl .nil)) (q_nes rfl rfl rfl) rfl) All.nil)) All.nil)))))))))
 exact All.nil
 intro g26v
 refine nrm_then ?_
 refine sim_condn rfl (fun h27v => ?_) (fun h28v => ?_)
 refine sim_skip ?_
 refine nrm_block (nrm_then (sim_region ?_))
 refine simL_val (q_move rfl rfl) rfl rfl rfl ?_
 refine simL_val (q_add rfl rfl rfl) rfl rfl rfl ?_
 refine simL_val (q_asg rfl rfl) rfl rfl rfl (simL_nil ?_)
 exact nrm_again (s := IntKind.i64.wrap (s5v + 1)) () ⟨rfl, rfl, rfl, trivial⟩ (.sel 0 rfl (.nil _))
 refine sim_seq (sim_region ?_)
 refine simL_val (q_asg rfl rfl) rfl rfl rfl (simL_nil (nrm_then (sim_rtn ?_)))
 refine rtn_block ?_
 refine rtn_then ?_
 refine rtn_loop ?_
 refine rtn_block ?_
 refine rtn_cutR ?_
 exact rtn_fn () rfl rfl rfl (.sel 0 rfl (.nil _))
 refine sim_exi ?_
 refine exi_then ?_
 refine exi_loop ?_
 refine exi_here ?_
 exact nrm_cutR (s := ()) () trivial (.sel 0 rfl (.nil _))
 intro s3v y4v
 refine sim_seq (sim_region ?_)
 refine simL_val (q_asg rfl rfl) rfl rfl rfl (simL_nil (nrm_then (sim_rtn ?_)))
 exact rtn_fn () rfl rfl rfl (.sel 0 rfl (.nil _))
 refine sim_seq (sim_region ?_)
 refine simL_val (q_asg rfl rfl) rfl rfl rfl (simL_nil (nrm_then (sim_rtn ?_)))
 refine rtn_then ?_
 exact rtn_fn () rfl rfl rfl (.sel 0 rfl (.nil _))
end Go.Proofs.Ytlblpegbgbgliaa

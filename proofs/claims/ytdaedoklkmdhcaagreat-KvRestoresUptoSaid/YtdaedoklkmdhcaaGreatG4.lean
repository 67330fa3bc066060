/- Printed by gen.py: pure functions and the proofs that the Go functions simulate them. Conditions: as each theorem says. -/
import Derived.Test.YtdaedoklkmdhcaaGreatG3
namespace Go.Proofs.YtdaedoklkmdhcaaGreat
open Go.RowKit
set_option linter.unusedVariables false
set_option linter.unusedSimpArgs false
set_option maxRecDepth 20000
set_option maxHeartbeats 20000000
def synodlaw11_Sessions.l0 (x0 : List (Ty91)) (x1_1 : List (Ty91)) : Nat → Int → Option ((Unit) ⊕ (Bool))
  | 0, _ => none
  | k + 1, z7v => if z7v < (x0.length : Int) then ((if 0 ≤ z7v ∧ z7v < (x0.length : Int) then (if 0 ≤ z7v ∧ z7v < (x1_1.length : Int) then (if (x0.getD z7v.toNat dz91).1 = (x1_1.getD z7v.toNat dz91).1 then (if 0 ≤ z7v ∧ z7v < (x0.length : Int) then (if 0 ≤ z7v ∧ z7v < (x1_1.length : Int) then (if (x0.getD z7v.toNat dz91).2.1 = (x1_1.getD z7v.toNat dz91).2.1 then (if 0 ≤ z7v ∧ z7v < (x0.length : Int) then (if 0 ≤ z7v ∧ z7v < (x1_1.length : Int) then (some (!(decide ((x0.getD z7v.toNat dz91).2.2.1 = (x1_1.getD z7v.toNat dz91).2.2.1) && (decide (((x0.getD z7v.toNat dz91).2.2.2) = ((x1_1.getD z7v.toNat dz91).2.2.2)))))) else none) else none) else (some true)) else none) else none) else (some true)) else none) else none).bind fun s10v => (if s10v = true then (some (.inr false)) else (synodlaw11_Sessions.l0 x0 x1_1 k (IntKind.i64.wrap (z7v + 1))))) else (some (.inl ()))
def synodlaw11_Sessions.f (k : Nat) (x0 : List (Ty91)) (x1_0 : List (Ty90)) (x1_1 : List (Ty91)) : Option (Bool) := if (x0.length : Int) = (x1_1.length : Int) then (orR (synodlaw11_Sessions.l0 x0 x1_1 k 0) fun s3v => (some true)) else (some false)
theorem synodlaw11_Sessions.calls (W : World) (F : HA) (k : Nat) (a0 : Option Addr) (c0 : Nat) (x0 : List (Ty91)) (b1 : Nat) (a1_0 : Option Addr) (c1_0 : Nat) (x1_0 : List (Ty90)) (a1_1 : Option Addr) (c1_1 : Nat) (x1_1 : List (Ty91)) (h0 : RdV F 4 (V69 tt) a0 x0) (hc0 : x0.length ≤ c0) (hm0 : c0 ≤ maxLen) (h1_0 : RdV F 2 (V90 tt) a1_0 x1_0) (hc1_0 : x1_0.length ≤ c1_0) (hm1_0 : c1_0 ≤ maxLen) (h1_1 : RdV F 4 (V91 tt) a1_1 x1_1) (hc1_1 : x1_1.length ≤ c1_1) (hm1_1 : c1_1 ≤ maxLen) :
    Fn Tryz.prog W 43 [.slice a0 x0.length c0, .pointer (some ⟨b1, 0, none⟩)] [obj b1 85 [.slice a1_0 x1_0.length c1_0, .slice a1_1 x1_1.length c1_1]] F (synodlaw11_Sessions.f k x0 x1_0 x1_1) (fun (r : Bool) (y : Unit) => .bool r) (fun r y => [obj b1 85 [.slice a1_0 x1_0.length c1_0, .slice a1_1 x1_1.length c1_1]]) := by
 unfold synodlaw11_Sessions.f
 refine fn_intro 66 Tryz.func43 rfl Tryz.ntmps43 rfl ?_
 refine sr ?_
 refine va rfl rfl (simL_nil (nrm_then (sim_seq (sr ?_))))
 refine vm rfl rfl ?_
 refine vq (q_len rfl rfl rfl Tryz.underlying66) rfl ?_
 refine vm rfl rfl ?_
 refine vn rfl rfl ?_
 refine vq (q_fa rfl rfl Tryz.underlying85 rfl rfl Tryz.sizeOf83 rfl) rfl ?_
 refine vq (q_load rfl rfl Tryz.isAgg83 (.obj 0 rfl rfl)) rfl ?_
 refine vq (q_len rfl rfl rfl Tryz.underlying83) rfl ?_
 refine vq (q_neq rfl rfl rfl) rfl (simL_nil (nrm_then ?_))
 refine sim_condn rfl (fun h1v => ?_) (fun h2v => ?_)
 refine sim_skip ?_
 refine nrm_then ?_
 refine sim_cutR (S := Unit) (Unit) (fun s y => []) (fun s y => [obj b1 85 [.slice a1_0 x1_0.length c1_0, .slice a1_1 x1_1.length c1_1], F]) ?_ ?_
 refine sr ?_
 refine va rfl rfl (simL_nil (nrm_then ?_))
 refine sim_block ?_
 refine sim_loop (S := Int) (Unit) (fun k s => synodlaw11_Sessions.l0 x0 x1_1 k s) (fun s y => [(0, .slice a0 x0.length c0), (1, .pointer (some ⟨b1, 0, none⟩)), (5, .int .i64 s)]) (fun s y => [obj b1 85 [.slice a1_0 x1_0.length c1_0, .slice a1_1 x1_1.length c1_1], F]) (fun _ => by rw [synodlaw11_Sessions.l0]) ?_ k 0 () ⟨rfl, rfl, rfl, trivial⟩ (.sel 0 rfl (.sel 0 rfl (.nil _)))
 intro k s5v y6v
 refine sim_eq (by rw [synodlaw11_Sessions.l0]) ?_
 refine sim_seq (sr ?_)
 refine vm rfl rfl ?_
 refine vm rfl rfl ?_
 refine vq (q_len rfl rfl rfl Tryz.underlying66) rfl ?_
 refine vq (q_lss rfl rfl rfl) rfl (simL_nil (nrm_then ?_))
 refine sim_cond rfl (fun h8v => ?_) (fun h9v => ?_)
 refine sim_skip ?_
 refine nrm_then (sim_seq ?_)
 refine sim_block ?_
 refine sim_cut (S := Bool) (Unit) (fun s y => [(0, .slice a0 x0.length c0), (1, .pointer (some ⟨b1, 0, none⟩)), (5, .int .i64 s5v), (65, .bool s)]) (fun s y => [obj b1 85 [.slice a1_0 x1_0.length c1_0, .slice a1_1 x1_1.length c1_1], F]) ?_ ?_
 refine sim_ask (fun hi12v => ?_)
 obtain ⟨b13v, b13vo, r16v, ha14v, hV17v, hlr18v, hcell19v⟩ := RdV.pos h0 (Up.refl _) rfl (i := s5v.toNat) (by omega) dz91
 obtain rfl := hV17v
 refine sim_ask (fun hi20v => ?_)
 obtain ⟨b21v, b21vo, r24v, ha22v, hV25v, hlr26v, hcell27v⟩ := RdV.pos h1_1 (Up.refl _) rfl (i := s5v.toNat) (by omega) dz91
 obtain rfl := hV25v
 refine sim_if (fun hk28v => ?_) (fun hk28v => ?_)
 refine sim_ask (fun hi30v => ?_)
 obtain ⟨b31v, b31vo, r34v, ha32v, hV35v, hlr36v, hcell37v⟩ := RdV.pos h0 (Up.refl _) rfl (i := s5v.toNat) (by omega) dz91
 obtain rfl := hV35v
 refine sim_ask (fun hi38v => ?_)
 obtain ⟨b39v, b39vo, r42v, ha40v, hV43v, hlr44v, hcell45v⟩ := RdV.pos h1_1 (Up.refl _) rfl (i := s5v.toNat) (by omega) dz91
 obtain rfl := hV43v
 refine sim_if (fun hk46v => ?_) (fun hk46v => ?_)
 refine sim_ask (fun hi48v => ?_)
 obtain ⟨b49v, b49vo, r52v, ha50v, hV53v, hlr54v, hcell55v⟩ := RdV.pos h0 (Up.refl _) rfl (i := s5v.toNat) (by omega) dz91
 obtain rfl := hV53v
 refine sim_ask (fun hi56v => ?_)
 obtain ⟨b57v, b57vo, r60v, ha58v, hV61v, hlr62v, hcell63v⟩ := RdV.pos h1_1 (Up.refl _) rfl (i := s5v.toNat) (by omega) dz91
 obtain rfl := hV61v
 refine sim_draw (Γ := Unit) () [[], [], [0, 1], [0, 1, 2], rL 4, [], [5], [5, 6], [5, 6, 7], [], [5, 6, 7, 8, 9], [5, 6, 7, 8, 9, 10], [5, 6, 7, 8, 9, 10, 11], rL 13, rL 14, rL 15, rL 15, rL 17, rL 18, rL 19, rL 15, [0, 1, 2, 3, 4, 5, 6, 7, 8, 9, 10, 11, 12, 13, 14, 20], [0, 1, 2, 3, 4, 5, 6, 7, 8, 9, 10, 11, 12, 13, 14, 20, 21], [0, 1, 2, 3, 4, 5, 6, 7, 8, 9, 10, 11, 12, 13, 14, 20, 21, 22], rL 15, [0, 1, 2, 3, 4, 5, 6, 7, 8, 9, 10, 11, 12, 13, 14, 20, 21, 22, 23, 24], [0, 1, 2, 3, 4, 5, 6, 7, 8, 9, 10, 11, 12, 13, 14, 20, 21, 22, 23, 24, 25], [0, 1, 2, 3, 4, 5, 6, 7, 8, 9, 10, 11, 12, 13, 14, 20, 21, 22, 23, 24, 25, 26], rL 28, rL 29, rL 30, rL 31, rL 31, rL 33, rL 34, rL 35, rL 31, [0, 1, 2, 3, 4, 5, 6, 7, 8, 9, 10, 11, 12, 13, 14, 15, 16, 17, 18, 19, 20, 21, 22, 23, 24, 25, 26, 27, 28, 29, 30, 36], [0, 1, 2, 3, 4, 5, 6, 7, 8, 9, 10, 11, 12, 13, 14, 15, 16, 17, 18, 19, 20, 21, 22, 23, 24, 25, 26, 27, 28, 29, 30, 36, 37], [0, 1, 2, 3, 4, 5, 6, 7, 8, 9, 10, 11, 12, 13, 14, 15, 16, 17, 18, 19, 20, 21, 22, 23, 24, 25, 26, 27, 28, 29, 30, 36, 37, 38], rL 31, [0, 1, 2, 3, 4, 5, 6, 7, 8, 9, 10, 11, 12, 13, 14, 15, 16, 17, 18, 19, 20, 21, 22, 23, 24, 25, 26, 27, 28, 29, 30, 36, 37, 38, 39, 40], [0, 1, 2, 3, 4, 5, 6, 7, 8, 9, 10, 11, 12, 13, 14, 15, 16, 17, 18, 19, 20, 21, 22, 23, 24, 25, 26, 27, 28, 29, 30, 36, 37, 38, 39, 40, 41], [0, 1, 2, 3, 4, 5, 6, 7, 8, 9, 10, 11, 12, 13, 14, 15, 16, 17, 18, 19, 20, 21, 22, 23, 24, 25, 26, 27, 28, 29, 30, 36, 37, 38, 39, 40, 41, 42], rL 44, rL 45] [] [0, 1, 2, 3, 4, 5, 6, 7, 8, 9, 10, 11, 12, 13, 14, 15, 16, 17, 18, 19, 20, 21, 22, 23, 24, 25, 26, 27, 28, 29, 30, 31, 32, 33, 34, 35, 36, 37, 38, 39, 40, 41, 42, 43, 44, 45] (fun i => [[0], [0], [0], [0], [0], [0], [0], [0], [0], [0], [0], [0], [0], [0], [0], [0], [0], [0], [0], [0], [0], [0], [0], [0], [0], [0], [0], [0], [0], [0], [0], [0], [0], [0], [0], [0], [0], [0], [0], [0], [0], [0], [0], [0], [0], [0]].getD i []) (fun i => [[], [], [], [], [], [], [], [], [], [], [], [], [], [], [], [], [], [], [], [], [], [], [], [], [], [], [], [], [], [], [], [], [], [], [], [], [], [], [], [], [], [], [], [], [], []].getD i []) (fun γ i => [.slice a0 x0.length c0, .int .i64 s5v, .pointer (some ⟨b13v, b13vo + s5v.toNat * 4, none⟩), .pointer (some ⟨b13v, b13vo + s5v.toNat * 4 + 0, none⟩), .int .i64 ((x0.getD s5v.toNat dz91).1), .pointer (some ⟨b1, 0, none⟩), .pointer (some ⟨b1, 0, none⟩), .pointer (some ⟨b1, 1, none⟩), .slice a1_1 x1_1.length c1_1, .int .i64 s5v, .pointer (some ⟨b21v, b21vo + s5v.toNat * 4, none⟩), .pointer (some ⟨b21v, b21vo + s5v.toNat * 4 + 0, none⟩), .int .i64 ((x1_1.getD s5v.toNat dz91).1), .bool (!decide ((x0.getD s5v.toNat dz91).1 = (x1_1.getD s5v.toNat dz91).1)), .bool (!decide ((x0.getD s5v.toNat dz91).1 = (x1_1.getD s5v.toNat dz91).1)), .slice a0 x0.length c0, .int .i64 s5v, .pointer (some ⟨b31v, b31vo + s5v.toNat * 4, none⟩), .pointer (some ⟨b31v, b31vo + s5v.toNat * 4 + 1, none⟩), .int .i64 ((x0.getD s5v.toNat dz91).2.1), .pointer (some ⟨b1, 0, none⟩), .pointer (some ⟨b1, 0, none⟩), .pointer (some ⟨b1, 1, none⟩), .slice a1_1 x1_1.length c1_1, .int .i64 s5v, .pointer (some ⟨b39v, b39vo + s5v.toNat * 4, none⟩), .pointer (some ⟨b39v, b39vo + s5v.toNat * 4 + 1, none⟩), .int .i64 ((x1_1.getD s5v.toNat dz91).2.1), .bool (!decide ((x0.getD s5v.toNat dz91).2.1 = (x1_1.getD s5v.toNat dz91).2.1)), .bool (!decide ((x0.getD s5v.toNat dz91).2.1 = (x1_1.getD s5v.toNat dz91).2.1)), .bool (!decide ((x0.getD s5v.toNat dz91).2.1 = (x1_1.getD s5v.toNat dz91).2.1)), .slice a0 x0.length c0, .int .i64 s5v, .pointer (some ⟨b49v, b49vo + s5v.toNat * 4, none⟩), .pointer (some ⟨b49v, b49vo + s5v.toNat * 4 + 2, none⟩), .agg #[.int .i64 ((x0.getD s5v.toNat dz91).2.2.1), str ((x0.getD s5v.toNat dz91).2.2.2)], .pointer (some ⟨b1, 0, none⟩), .pointer (some ⟨b1, 0, none⟩), .pointer (some ⟨b1, 1, none⟩), .slice a1_1 x1_1.length c1_1, .int .i64 s5v, .pointer (some ⟨b57v, b57vo + s5v.toNat * 4, none⟩), .pointer (some ⟨b57v, b57vo + s5v.toNat * 4 + 2, none⟩), .agg #[.int .i64 ((x1_1.getD s5v.toNat dz91).2.2.1), str ((x1_1.getD s5v.toNat dz91).2.2.2)], .bool (!(decide ((x0.getD s5v.toNat dz91).2.2.1 = (x1_1.getD s5v.toNat dz91).2.2.1) && (decide (((x0.getD s5v.toNat dz91).2.2.2) = ((x1_1.getD s5v.toNat dz91).2.2.2))))), .bool (!(decide ((x0.getD s5v.toNat dz91).2.2.1 = (x1_1.getD s5v.toNat dz91).2.2.1) && (decide (((x0.getD s5v.toNat dz91).2.2.2) = ((x1_1.getD s5v.toNat dz91).2.2.2)))))].getD i undef) (fun j γ => [[obj b1 85 [.slice a1_0 x1_0.length c1_0, .slice a1_1 x1_1.length c1_1], F]].getD j []) (fun γ => [(0, .slice a0 x0.length c0), (1, .pointer (some ⟨b1, 0, none⟩)), (5, .int .i64 s5v), (35, .slice a0 x0.length c0), (36, .int .i64 s5v), (37, .pointer (some ⟨b31v, b31vo + s5v.toNat * 4, none⟩)), (38, .pointer (some ⟨b31v, b31vo + s5v.toNat * 4 + 1, none⟩)), (39, .int .i64 ((x0.getD s5v.toNat dz91).2.1)), (40, .pointer (some ⟨b1, 0, none⟩)), (41, .pointer (some ⟨b1, 0, none⟩)), (42, .pointer (some ⟨b1, 1, none⟩)), (43, .slice a1_1 x1_1.length c1_1), (44, .int .i64 s5v), (45, .pointer (some ⟨b39v, b39vo + s5v.toNat * 4, none⟩)), (46, .pointer (some ⟨b39v, b39vo + s5v.toNat * 4 + 1, none⟩)), (47, .int .i64 ((x1_1.getD s5v.toNat dz91).2.1)), (48, .bool (!decide ((x0.getD s5v.toNat dz91).2.1 = (x1_1.getD s5v.toNat dz91).2.1))), (51, .slice a0 x0.length c0), (52, .int .i64 s5v), (53, .pointer (some ⟨b49v, b49vo + s5v.toNat * 4, none⟩)), (54, .pointer (some ⟨b49v, b49vo + s5v.toNat * 4 + 2, none⟩)), (55, .agg #[.int .i64 ((x0.getD s5v.toNat dz91).2.2.1), str ((x0.getD s5v.toNat dz91).2.2.2)]), (56, .pointer (some ⟨b1, 0, none⟩)), (57, .pointer (some ⟨b1, 0, none⟩)), (58, .pointer (some ⟨b1, 1, none⟩)), (59, .slice a1_1 x1_1.length c1_1), (60, .int .i64 s5v), (61, .pointer (some ⟨b57v, b57vo + s5v.toNat * 4, none⟩)), (62, .pointer (some ⟨b57v, b57vo + s5v.toNat * 4 + 2, none⟩)), (63, .agg #[.int .i64 ((x1_1.getD s5v.toNat dz91).2.2.1), str ((x1_1.getD s5v.toNat dz91).2.2.2)]), (64, .bool (!(decide ((x0.getD s5v.toNat dz91).2.2.1 = (x1_1.getD s5v.toNat dz91).2.2.1) && (decide (((x0.getD s5v.toNat dz91).2.2.2) = ((x1_1.getD s5v.toNat dz91).2.2.2)))))), (65, .bool (!(decide ((x0.getD s5v.toNat dz91).2.2.1 = (x1_1.getD s5v.toNat dz91).2.2.1) && (decide (((x0.getD s5v.toNat dz91).2.2.2) = ((x1_1.getD s5v.toNat dz91).2.2.2))))))]) mixed (by decide) (by decide) (by decide) (by decide) (by decide) (by decide) (by decide) 66 rfl (by decide) (by decide) (by decide) (Ent.refl _) ?_ ?_ (fun _ => ⟨rfl, rfl, rfl, rfl, rfl, rfl, rfl, rfl, rfl, rfl, rfl, rfl, rfl, rfl, rfl, rfl, rfl, rfl, rfl, rfl, rfl, rfl, rfl, rfl, rfl, rfl, rfl, rfl, rfl, rfl, rfl, rfl, trivial⟩) ?_
 exact (aq rfl (fun γ => qm rfl (.o (s := 0) rfl (by decide) .nil) rfl) (aq rfl (fun γ => qm rfl (.o (s := 5) rfl (by decide) .nil) rfl) (aq rfl (fun γ => qp rfl rfl (.v 0 rfl rfl (.v 1 rfl rfl .nil)) (q_idx rfl rfl rfl ha14v Tryz.underlying66 Tryz.sizeOf69 hi12v.1 hi12v.2) rfl) (aq rfl (fun γ => qp rfl rfl (.v 2 rfl rfl .nil) (q_fa rfl rfl Tryz.underlying69 rfl rfl Tryz.sizeOf3 rfl) rfl) (aq rfl (fun γ => qp rfl rfl (.v 3 rfl rfl .nil) (q_load rfl rfl Tryz.isAgg3 (hcell19v 1 rfl 0 _ rfl)) rfl) (aq rfl (fun γ => qm rfl (.o (s := 1) rfl (by decide) .nil) rfl) (aq rfl (fun γ => qp rfl rfl (.v 5 rfl rfl .nil) (q_nil rfl rfl) rfl) (aq rfl (fun γ => qp rfl rfl (.v 6 rfl rfl .nil) (q_fa rfl rfl Tryz.underlying85 rfl rfl Tryz.sizeOf83 rfl) rfl) (aq rfl (fun γ => qp rfl rfl (.v 7 rfl rfl .nil) (q_load rfl rfl Tryz.isAgg83 (.obj 0 rfl rfl)) rfl) (aq rfl (fun γ => qm rfl (.o (s := 5) rfl (by decide) .nil) rfl) (aq rfl (fun γ => qp rfl rfl (.v 8 rfl rfl (.v 9 rfl rfl .nil)) (q_idx rfl rfl rfl ha22v Tryz.underlying83 Tryz.sizeOf91 hi20v.1 hi20v.2) rfl) (aq rfl (fun γ => qp rfl rfl (.v 10 rfl rfl .nil) (q_fa rfl rfl Tryz.underlying91 rfl rfl Tryz.sizeOf3 rfl) rfl) (aq rfl (fun γ => qp rfl rfl (.v 11 rfl rfl .nil) (q_load rfl rfl Tryz.isAgg3 (hcell27v 1 rfl 0 _ rfl)) rfl) (aq rfl (fun γ => qp rfl rfl (.v 4 rfl rfl (.v 12 rfl rfl .nil)) (q_neq rfl rfl rfl) rfl) (aq rfl (fun γ => qm rfl (.v 13 rfl rfl .nil) rfl) (aq rfl (fun γ => qy rfl rfl (.o (s := 0) rfl (by decide) (.v 14 rfl rfl .nil)) rfl rfl (beq_no (ndec_no hk28v)) (q_move rfl rfl) rfl) (aq rfl (fun γ => qy rfl rfl (.o (s := 5) rfl (by decide) (.v 14 rfl rfl .nil)) rfl rfl (beq_no (ndec_no hk28v)) (q_move rfl rfl) rfl) (aq rfl (fun γ => qy rfl rfl (.v 14 rfl rfl (.v 15 rfl rfl (.v 16 rfl rfl .nil))) rfl rfl (beq_no (ndec_no hk28v)) (q_idx rfl rfl rfl ha32v Tryz.underlying66 Tryz.sizeOf69 hi30v.1 hi30v.2) rfl) (aq rfl (fun γ => qy rfl rfl (.v 14 rfl rfl (.v 17 rfl rfl .nil)) rfl rfl (beq_no (ndec_no hk28v)) (q_fa rfl rfl Tryz.underlying69 rfl rfl Tryz.sizeOf3 rfl) rfl) (aq rfl (fun γ => qy rfl rfl (.v 14 rfl rfl (.v 18 rfl rfl .nil)) rfl rfl (beq_no (ndec_no hk28v)) (q_load rfl rfl Tryz.isAgg3 (hcell37v 1 rfl 1 _ rfl)) rfl) (aq rfl (fun γ => qy rfl rfl (.o (s := 1) rfl (by decide) (.v 14 rfl rfl .nil)) rfl rfl (beq_no (ndec_no hk28v)) (q_move rfl rfl) rfl) (aq rfl (fun γ => qy rfl rfl (.v 14 rfl rfl (.v 20 rfl rfl .nil)) rfl rfl (beq_no (ndec_no hk28v)) (q_nil rfl rfl) rfl) (aq rfl (fun γ => qy rfl rfl (.v 14 rfl rfl (.v 21 rfl rfl .nil)) rfl rfl (beq_no (ndec_no hk28v)) (q_fa rfl rfl Tryz.underlying85 rfl rfl Tryz.sizeOf83 rfl) rfl) (aq rfl (fun γ => qy rfl rfl (.v 14 rfl rfl (.v 22 rfl rfl .nil)) rfl rfl (beq_no (ndec_no hk28v)) (q_load rfl rfl Tryz.isAgg83 (.obj 0 rfl rfl)) rfl) (aq rfl (fun γ => qy rfl rfl (.o (s := 5) rfl (by decide) (.v 14 rfl rfl .nil)) rfl rfl (beq_no (ndec_no hk28v)) (q_move rfl rfl) rfl) (aq rfl (fun γ => qy rfl rfl (.v 14 rfl rfl (.v 23 rfl rfl (.v 24 rfl rfl .nil))) rfl rfl (beq_no (ndec_no hk28v)) (q_idx rfl rfl rfl ha40v Tryz.underlying83 Tryz.sizeOf91 hi38v.1 hi38v.2) rfl) (aq rfl (fun γ => qy rfl rfl (.v 14 rfl rfl (.v 25 rfl rfl .nil)) rfl rfl (beq_no (ndec_no hk28v)) (q_fa rfl rfl Tryz.underlying91 rfl rfl Tryz.sizeOf3 rfl) rfl) (aq rfl (fun γ => qy rfl rfl (.v 14 rfl rfl (.v 26 rfl rfl .nil)) rfl rfl (beq_no (ndec_no hk28v)) (q_load rfl rfl Tryz.isAgg3 (hcell45v 1 rfl 1 _ rfl)) rfl) (aq rfl (fun γ => qy rfl rfl (.v 14 rfl rfl (.v 19 rfl rfl (.v 27 rfl rfl .nil))) rfl rfl (beq_no (ndec_no hk28v)) (q_neq rfl rfl rfl) rfl) (aq rfl (fun γ => qp rfl rfl (.v 14 rfl rfl (.v 28 rfl rfl .nil)) (q_pick rfl rfl rfl rfl (bif_no (ndec_no hk28v) _ _)) rfl) (aq rfl (fun γ => qm rfl (.v 29 rfl rfl .nil) rfl) (aq rfl (fun γ => qy rfl rfl (.o (s := 0) rfl (by decide) (.v 30 rfl rfl .nil)) rfl rfl (beq_no (ndec_no hk46v)) (q_move rfl rfl) rfl) (aq rfl (fun γ => qy rfl rfl (.o (s := 5) rfl (by decide) (.v 30 rfl rfl .nil)) rfl rfl (beq_no (ndec_no hk46v)) (q_move rfl rfl) rfl) (aq rfl (fun γ => qy rfl rfl (.v 30 rfl rfl (.v 31 rfl rfl (.v 32 rfl rfl .nil))) rfl rfl (beq_no (ndec_no hk46v)) (q_idx rfl rfl rfl ha50v Tryz.underlying66 Tryz.sizeOf69 hi48v.1 hi48v.2) rfl) (aq rfl (fun γ => qy rfl rfl (.v 30 rfl rfl (.v 33 rfl rfl .nil)) rfl rfl (beq_no (ndec_no hk46v)) (q_fa rfl rfl Tryz.underlying69 rfl rfl Tryz.sizeOf45 rfl) rfl) (aq rfl (fun γ => qy rfl rfl (.v 30 rfl rfl (.v 34 rfl rfl .nil)) rfl rfl (beq_no (ndec_no hk46v)) (q_loads (vs := [.int .i64 ((x0.getD s5v.toNat dz91).2.2.1), str ((x0.getD s5v.toNat dz91).2.2.2)]) rfl rfl Tryz.isAgg45 Tryz.sizeOf45 rfl (fun j v hj => cellAt_off (hcell55v 1 rfl (2 + j) v (get_drop 2 hj)))) rfl) (aq rfl (fun γ => qy rfl rfl (.o (s := 1) rfl (by decide) (.v 30 rfl rfl .nil)) rfl rfl (beq_no (ndec_no hk46v)) (q_move rfl rfl) rfl) (aq rfl (fun γ => qy rfl rfl (.v 30 rfl rfl (.v 36 rfl rfl .nil)) rfl rfl (beq_no (ndec_no hk46v)) (q_nil rfl rfl) rfl) (aq rfl (fun γ => qy rfl rfl (.v 30 rfl rfl (.v 37 rfl rfl .nil)) rfl rfl (beq_no (ndec_no hk46v)) (q_fa rfl rfl Tryz.underlying85 rfl rfl Tryz.sizeOf83 rfl) rfl) (aq rfl (fun γ => qy rfl rfl (.v 30 rfl rfl (.v 38 rfl rfl .nil)) rfl rfl (beq_no (ndec_no hk46v)) (q_load rfl rfl Tryz.isAgg83 (.obj 0 rfl rfl)) rfl) (aq rfl (fun γ => qy rfl rfl (.o (s := 5) rfl (by decide) (.v 30 rfl rfl .nil)) rfl rfl (beq_no (ndec_no hk46v)) (q_move rfl rfl) rfl) (aq rfl (fun γ => qy rfl rfl (.v 30 rfl rfl (.v 39 rfl rfl (.v 40 rfl rfl .nil))) rfl rfl (beq_no (ndec_no hk46v)) (q_idx rfl rfl rfl ha58v Tryz.underlying83 Tryz.sizeOf91 hi56v.1 hi56v.2) rfl) (aq rfl (fun γ => qy rfl rfl (.v 30 rfl rfl (.v 41 rfl rfl .nil)) rfl rfl (beq_no (ndec_no hk46v)) (q_fa rfl rfl Tryz.underlying91 rfl rfl Tryz.sizeOf45 rfl) rfl) (aq rfl (fun γ => qy rfl rfl (.v 30 rfl rfl (.v 42 rfl rfl .nil)) rfl rfl (beq_no (ndec_no hk46v)) (q_loads (vs := [.int .i64 ((x1_1.getD s5v.toNat dz91).2.2.1), str ((x1_1.getD s5v.toNat dz91).2.2.2)]) rfl rfl Tryz.isAgg45 Tryz.sizeOf45 rfl (fun j v hj => cellAt_off (hcell63v 1 rfl (2 + j) v (get_drop 2 hj)))) rfl) (aq rfl (fun γ => qy rfl rfl (.v 30 rfl rfl (.v 35 rfl rfl (.v 43 rfl rfl .nil))) rfl rfl (beq_no (ndec_no hk46v)) (q_neagg rfl rfl rfl (by kernel_rfl) (fun d w => eqi_struct Tryz.underlying45 (by kernel_rfl) (eqf_cons (by rfl) (part_of Tryz.isAgg3 rfl) (part_of Tryz.isAgg3 rfl) (eqi_int Tryz.underlying3) (eqf_last (by rfl) (part_of Tryz.isAgg9 rfl) (part_of Tryz.isAgg9 rfl) (eqi_str Tryz.underlying9))))) rfl) (aq rfl (fun γ => qp rfl rfl (.v 30 rfl rfl (.v 44 rfl rfl .nil)) (q_pick rfl rfl rfl rfl (bif_no (ndec_no hk46v) _ _)) rfl) zA))))))))))))))))))))))))))))))))))))))))))))))
 exact zA
 intro g64v
 exact nrm_cut (s := !(decide ((x0.getD s5v.toNat dz91).2.2.1 = (x1_1.getD s5v.toNat dz91).2.2.1) && (decide (((x0.getD s5v.toNat dz91).2.2.2) = ((x1_1.getD s5v.toNat dz91).2.2.2))))) () ⟨rfl, rfl, rfl, rfl, trivial⟩ (.sel 0 rfl (.sel 0 rfl (.nil _)))
 refine sim_draw (Γ := Unit) () [[], [], [0, 1], [0, 1, 2], rL 4, [], [5], [5, 6], [5, 6, 7], [], [5, 6, 7, 8, 9], [5, 6, 7, 8, 9, 10], [5, 6, 7, 8, 9, 10, 11], rL 13, rL 14, rL 15, rL 15, rL 17, rL 18, rL 19, rL 15, [0, 1, 2, 3, 4, 5, 6, 7, 8, 9, 10, 11, 12, 13, 14, 20], [0, 1, 2, 3, 4, 5, 6, 7, 8, 9, 10, 11, 12, 13, 14, 20, 21], [0, 1, 2, 3, 4, 5, 6, 7, 8, 9, 10, 11, 12, 13, 14, 20, 21, 22], rL 15, [0, 1, 2, 3, 4, 5, 6, 7, 8, 9, 10, 11, 12, 13, 14, 20, 21, 22, 23, 24], [0, 1, 2, 3, 4, 5, 6, 7, 8, 9, 10, 11, 12, 13, 14, 20, 21, 22, 23, 24, 25], [0, 1, 2, 3, 4, 5, 6, 7, 8, 9, 10, 11, 12, 13, 14, 20, 21, 22, 23, 24, 25, 26], rL 28, rL 29, rL 30, rL 31, rL 31, rL 33, rL 34, rL 35, rL 31, [0, 1, 2, 3, 4, 5, 6, 7, 8, 9, 10, 11, 12, 13, 14, 15, 16, 17, 18, 19, 20, 21, 22, 23, 24, 25, 26, 27, 28, 29, 30, 36], [0, 1, 2, 3, 4, 5, 6, 7, 8, 9, 10, 11, 12, 13, 14, 15, 16, 17, 18, 19, 20, 21, 22, 23, 24, 25, 26, 27, 28, 29, 30, 36, 37], [0, 1, 2, 3, 4, 5, 6, 7, 8, 9, 10, 11, 12, 13, 14, 15, 16, 17, 18, 19, 20, 21, 22, 23, 24, 25, 26, 27, 28, 29, 30, 36, 37, 38], rL 31, [0, 1, 2, 3, 4, 5, 6, 7, 8, 9, 10, 11, 12, 13, 14, 15, 16, 17, 18, 19, 20, 21, 22, 23, 24, 25, 26, 27, 28, 29, 30, 36, 37, 38, 39, 40], [0, 1, 2, 3, 4, 5, 6, 7, 8, 9, 10, 11, 12, 13, 14, 15, 16, 17, 18, 19, 20, 21, 22, 23, 24, 25, 26, 27, 28, 29, 30, 36, 37, 38, 39, 40, 41], [0, 1, 2, 3, 4, 5, 6, 7, 8, 9, 10, 11, 12, 13, 14, 15, 16, 17, 18, 19, 20, 21, 22, 23, 24, 25, 26, 27, 28, 29, 30, 36, 37, 38, 39, 40, 41, 42], rL 44, rL 45] [] [0, 1, 2, 3, 4, 5, 6, 7, 8, 9, 10, 11, 12, 13, 14, 15, 16, 17, 18, 19, 20, 21, 22, 23, 24, 25, 26, 27, 28, 29, 30, 31, 32, 33, 34, 35, 36, 37, 38, 39, 40, 41, 42, 43, 44, 45] (fun i => [[0], [0], [0], [0], [0], [0], [0], [0], [0], [0], [0], [0], [0], [0], [0], [0], [0], [0], [0], [0], [0], [0], [0], [0], [0], [0], [0], [0], [0], [0], [0], [0], [0], [0], [0], [0], [0], [0], [0], [0], [0], [0], [0], [0], [0], [0]].getD i []) (fun i => [[], [], [], [], [], [], [], [], [], [], [], [], [], [], [], [], [], [], [], [], [], [], [], [], [], [], [], [], [], [], [], [], [], [], [], [], [], [], [], [], [], [], [], [], [], []].getD i []) (fun γ i => [.slice a0 x0.length c0, .int .i64 s5v, .pointer (some ⟨b13v, b13vo + s5v.toNat * 4, none⟩), .pointer (some ⟨b13v, b13vo + s5v.toNat * 4 + 0, none⟩), .int .i64 ((x0.getD s5v.toNat dz91).1), .pointer (some ⟨b1, 0, none⟩), .pointer (some ⟨b1, 0, none⟩), .pointer (some ⟨b1, 1, none⟩), .slice a1_1 x1_1.length c1_1, .int .i64 s5v, .pointer (some ⟨b21v, b21vo + s5v.toNat * 4, none⟩), .pointer (some ⟨b21v, b21vo + s5v.toNat * 4 + 0, none⟩), .int .i64 ((x1_1.getD s5v.toNat dz91).1), .bool (!decide ((x0.getD s5v.toNat dz91).1 = (x1_1.getD s5v.toNat dz91).1)), .bool (!decide ((x0.getD s5v.toNat dz91).1 = (x1_1.getD s5v.toNat dz91).1)), .slice a0 x0.length c0, .int .i64 s5v, .pointer (some ⟨b31v, b31vo + s5v.toNat * 4, none⟩), .pointer (some ⟨b31v, b31vo + s5v.toNat * 4 + 1, none⟩), .int .i64 ((x0.getD s5v.toNat dz91).2.1), .pointer (some ⟨b1, 0, none⟩), .pointer (some ⟨b1, 0, none⟩), .pointer (some ⟨b1, 1, none⟩), .slice a1_1 x1_1.length c1_1, .int .i64 s5v, .pointer (some ⟨b39v, b39vo + s5v.toNat * 4, none⟩), .pointer (some ⟨b39v, b39vo + s5v.toNat * 4 + 1, none⟩), .int .i64 ((x1_1.getD s5v.toNat dz91).2.1), .bool (!decide ((x0.getD s5v.toNat dz91).2.1 = (x1_1.getD s5v.toNat dz91).2.1)), .bool (!decide ((x0.getD s5v.toNat dz91).2.1 = (x1_1.getD s5v.toNat dz91).2.1)), .bool (!decide ((x0.getD s5v.toNat dz91).2.1 = (x1_1.getD s5v.toNat dz91).2.1)), undef, undef, undef, undef, undef, undef, undef, undef, undef, undef, undef, undef, undef, undef, .bool true].getD i undef) (fun j γ => [[obj b1 85 [.slice a1_0 x1_0.length c1_0, .slice a1_1 x1_1.length c1_1], F]].getD j []) (fun γ => [(0, .slice a0 x0.length c0), (1, .pointer (some ⟨b1, 0, none⟩)), (5, .int .i64 s5v), (35, .slice a0 x0.length c0), (36, .int .i64 s5v), (37, .pointer (some ⟨b31v, b31vo + s5v.toNat * 4, none⟩)), (38, .pointer (some ⟨b31v, b31vo + s5v.toNat * 4 + 1, none⟩)), (39, .int .i64 ((x0.getD s5v.toNat dz91).2.1)), (40, .pointer (some ⟨b1, 0, none⟩)), (41, .pointer (some ⟨b1, 0, none⟩)), (42, .pointer (some ⟨b1, 1, none⟩)), (43, .slice a1_1 x1_1.length c1_1), (44, .int .i64 s5v), (45, .pointer (some ⟨b39v, b39vo + s5v.toNat * 4, none⟩)), (46, .pointer (some ⟨b39v, b39vo + s5v.toNat * 4 + 1, none⟩)), (47, .int .i64 ((x1_1.getD s5v.toNat dz91).2.1)), (48, .bool (!decide ((x0.getD s5v.toNat dz91).2.1 = (x1_1.getD s5v.toNat dz91).2.1))), (51, undef), (52, undef), (53, undef), (54, undef), (55, undef), (56, undef), (57, undef), (58, undef), (59, undef), (60, undef), (61, undef), (62, undef), (63, undef), (64, undef), (65, .bool true)]) mixed (by decide) (by decide) (by decide) (by decide) (by decide) (by decide) (by decide) 66 rfl (by decide) (by decide) (by decide) (Ent.refl _) ?_ ?_ (fun _ => ⟨rfl, rfl, rfl, rfl, rfl, rfl, rfl, rfl, rfl, rfl, rfl, rfl, rfl, rfl, rfl, rfl, rfl, rfl, rfl, rfl, rfl, rfl, rfl, rfl, rfl, rfl, rfl, rfl, rfl, rfl, rfl, rfl, trivial⟩) ?_
 exact (aq rfl (fun γ => qm rfl (.o (s := 0) rfl (by decide) .nil) rfl) (aq rfl (fun γ => qm rfl (.o (s := 5) rfl (by decide) .nil) rfl) (aq rfl (fun γ => qp rfl rfl (.v 0 rfl rfl (.v 1 rfl rfl .nil)) (q_idx rfl rfl rfl ha14v Tryz.underlying66 Tryz.sizeOf69 hi12v.1 hi12v.2) rfl) (aq rfl (fun γ => qp rfl rfl (.v 2 rfl rfl .nil) (q_fa rfl rfl Tryz.underlying69 rfl rfl Tryz.sizeOf3 rfl) rfl) (aq rfl (fun γ => qp rfl rfl (.v 3 rfl rfl .nil) (q_load rfl rfl Tryz.isAgg3 (hcell19v 1 rfl 0 _ rfl)) rfl) (aq rfl (fun γ => qm rfl (.o (s := 1) rfl (by decide) .nil) rfl) (aq rfl (fun γ => qp rfl rfl (.v 5 rfl rfl .nil) (q_nil rfl rfl) rfl) (aq rfl (fun γ => qp rfl rfl (.v 6 rfl rfl .nil) (q_fa rfl rfl Tryz.underlying85 rfl rfl Tryz.sizeOf83 rfl) rfl) (aq rfl (fun γ => qp rfl rfl (.v 7 rfl rfl .nil) (q_load rfl rfl Tryz.isAgg83 (.obj 0 rfl rfl)) rfl) (aq rfl (fun γ => qm rfl (.o (s := 5) rfl (by decide) .nil) rfl) (aq rfl (fun γ => qp rfl rfl (.v 8 rfl rfl (.v 9 rfl rfl .nil)) (q_idx rfl rfl rfl ha22v Tryz.underlying83 Tryz.sizeOf91 hi20v.1 hi20v.2) rfl) (aq rfl (fun γ => qp rfl rfl (.v 10 rfl rfl .nil) (q_fa rfl rfl Tryz.underlying91 rfl rfl Tryz.sizeOf3 rfl) rfl) (aq rfl (fun γ => qp rfl rfl (.v 11 rfl rfl .nil) (q_load rfl rfl Tryz.isAgg3 (hcell27v 1 rfl 0 _ rfl)) rfl) (aq rfl (fun γ => qp rfl rfl (.v 4 rfl rfl (.v 12 rfl rfl .nil)) (q_neq rfl rfl rfl) rfl) (aq rfl (fun γ => qm rfl (.v 13 rfl rfl .nil) rfl) (aq rfl (fun γ => qy rfl rfl (.o (s := 0) rfl (by decide) (.v 14 rfl rfl .nil)) rfl rfl (beq_no (ndec_no hk28v)) (q_move rfl rfl) rfl) (aq rfl (fun γ => qy rfl rfl (.o (s := 5) rfl (by decide) (.v 14 rfl rfl .nil)) rfl rfl (beq_no (ndec_no hk28v)) (q_move rfl rfl) rfl) (aq rfl (fun γ => qy rfl rfl (.v 14 rfl rfl (.v 15 rfl rfl (.v 16 rfl rfl .nil))) rfl rfl (beq_no (ndec_no hk28v)) (q_idx rfl rfl rfl ha32v Tryz.underlying66 Tryz.sizeOf69 hi30v.1 hi30v.2) rfl) (aq rfl (fun γ => qy rfl rfl (.v 14 rfl rfl (.v 17 rfl rfl .nil)) rfl rfl (beq_no (ndec_no hk28v)) (q_fa rfl rfl Tryz.underlying69 rfl rfl Tryz.sizeOf3 rfl) rfl) (aq rfl (fun γ => qy rfl rfl (.v 14 rfl rfl (.v 18 rfl rfl .nil)) rfl rfl (beq_no (ndec_no hk28v)) (q_load rfl rfl Tryz.isAgg3 (hcell37v 1 rfl 1 _ rfl)) rfl) (aq rfl (fun γ => qy rfl rfl (.o (s := 1) rfl (by decide) (.v 14 rfl rfl .nil)) rfl rfl (beq_no (ndec_no hk28v)) (q_move rfl rfl) rfl) (aq rfl (fun γ => qy rfl rfl (.v 14 rfl rfl (.v 20 rfl rfl .nil)) rfl rfl (beq_no (ndec_no hk28v)) (q_nil rfl rfl) rfl) (aq rfl (fun γ => qy rfl rfl (.v 14 rfl rfl (.v 21 rfl rfl .nil)) rfl rfl (beq_no (ndec_no hk28v)) (q_fa rfl rfl Tryz.underlying85 rfl rfl Tryz.sizeOf83 rfl) rfl) (aq rfl (fun γ => qy rfl rfl (.v 14 rfl rfl (.v 22 rfl rfl .nil)) rfl rfl (beq_no (ndec_no hk28v)) (q_load rfl rfl Tryz.isAgg83 (.obj 0 rfl rfl)) rfl) (aq rfl (fun γ => qy rfl rfl (.o (s := 5) rfl (by decide) (.v 14 rfl rfl .nil)) rfl rfl (beq_no (ndec_no hk28v)) (q_move rfl rfl) rfl) (aq rfl (fun γ => qy rfl rfl (.v 14 rfl rfl (.v 23 rfl rfl (.v 24 rfl rfl .nil))) rfl rfl (beq_no (ndec_no hk28v)) (q_idx rfl rfl rfl ha40v Tryz.underlying83 Tryz.sizeOf91 hi38v.1 hi38v.2) rfl) (aq rfl (fun γ => qy rfl rfl (.v 14 rfl rfl (.v 25 rfl rfl .nil)) rfl rfl (beq_no (ndec_no hk28v)) (q_fa rfl rfl Tryz.underlying91 rfl rfl Tryz.sizeOf3 rfl) rfl) (aq rfl (fun γ => qy rfl rfl (.v 14 rfl rfl (.v 26 rfl rfl .nil)) rfl rfl (beq_no (ndec_no hk28v)) (q_load rfl rfl Tryz.isAgg3 (hcell45v 1 rfl 1 _ rfl)) rfl) (aq rfl (fun γ => qy rfl rfl (.v 14 rfl rfl (.v 19 rfl rfl (.v 27 rfl rfl .nil))) rfl rfl (beq_no (ndec_no hk28v)) (q_neq rfl rfl rfl) rfl) (aq rfl (fun γ => qp rfl rfl (.v 14 rfl rfl (.v 28 rfl rfl .nil)) (q_pick rfl rfl rfl rfl (bif_no (ndec_no hk28v) _ _)) rfl) (aq rfl (fun γ => qm rfl (.v 29 rfl rfl .nil) rfl) (aq rfl (fun γ => qn rfl rfl (.o (s := 0) rfl (by decide) (.v 30 rfl rfl .nil)) rfl rfl (beq_yes' (ndec_yes hk46v)) rfl) (aq rfl (fun γ => qn rfl rfl (.o (s := 5) rfl (by decide) (.v 30 rfl rfl .nil)) rfl rfl (beq_yes' (ndec_yes hk46v)) rfl) (aq rfl (fun γ => qn rfl rfl (.v 30 rfl rfl (.v 31 rfl rfl (.v 32 rfl rfl .nil))) rfl rfl (beq_yes' (ndec_yes hk46v)) rfl) (aq rfl (fun γ => qn rfl rfl (.v 30 rfl rfl (.v 33 rfl rfl .nil)) rfl rfl (beq_yes' (ndec_yes hk46v)) rfl) (aq rfl (fun γ => qn rfl rfl (.v 30 rfl rfl (.v 34 rfl rfl .nil)) rfl rfl (beq_yes' (ndec_yes hk46v)) rfl) (aq rfl (fun γ => qn rfl rfl (.o (s := 1) rfl (by decide) (.v 30 rfl rfl .nil)) rfl rfl (beq_yes' (ndec_yes hk46v)) rfl) (aq rfl (fun γ => qn rfl rfl (.v 30 rfl rfl (.v 36 rfl rfl .nil)) rfl rfl (beq_yes' (ndec_yes hk46v)) rfl) (aq rfl (fun γ => qn rfl rfl (.v 30 rfl rfl (.v 37 rfl rfl .nil)) rfl rfl (beq_yes' (ndec_yes hk46v)) rfl) (aq rfl (fun γ => qn rfl rfl (.v 30 rfl rfl (.v 38 rfl rfl .nil)) rfl rfl (beq_yes' (ndec_yes hk46v)) rfl) (aq rfl (fun γ => qn rfl rfl (.o (s := 5) rfl (by decide) (.v 30 rfl rfl .nil)) rfl rfl (beq_yes' (ndec_yes hk46v)) rfl) (aq rfl (fun γ => qn rfl rfl (.v 30 rfl rfl (.v 39 rfl rfl (.v 40 rfl rfl .nil))) rfl rfl (beq_yes' (ndec_yes hk46v)) rfl) (aq rfl (fun γ => qn rfl rfl (.v 30 rfl rfl (.v 41 rfl rfl .nil)) rfl rfl (beq_yes' (ndec_yes hk46v)) rfl) (aq rfl (fun γ => qn rfl rfl (.v 30 rfl rfl (.v 42 rfl rfl .nil)) rfl rfl (beq_yes' (ndec_yes hk46v)) rfl) (aq rfl (fun γ => qn rfl rfl (.v 30 rfl rfl (.v 35 rfl rfl (.v 43 rfl rfl .nil))) rfl rfl (beq_yes' (ndec_yes hk46v)) rfl) (aq rfl (fun γ => qp rfl rfl (.v 30 rfl rfl (.v 44 rfl rfl .nil)) (q_pick rfl rfl rfl rfl (bif_yes (ndec_yes hk46v) _ _)) rfl) zA))))))))))))))))))))))))))))))))))))))))))))))
 exact zA
 intro g47v
 exact nrm_cut (s := true) () ⟨rfl, rfl, rfl, rfl, trivial⟩ (.sel 0 rfl (.sel 0 rfl (.nil _)))
 refine sim_draw (Γ := Unit) () [[], [], [0, 1], [0, 1, 2], rL 4, [], [5], [5, 6], [5, 6, 7], [], [5, 6, 7, 8, 9], [5, 6, 7, 8, 9, 10], [5, 6, 7, 8, 9, 10, 11], rL 13, rL 14, rL 15, rL 15, rL 17, rL 18, rL 19, rL 15, [0, 1, 2, 3, 4, 5, 6, 7, 8, 9, 10, 11, 12, 13, 14, 20], [0, 1, 2, 3, 4, 5, 6, 7, 8, 9, 10, 11, 12, 13, 14, 20, 21], [0, 1, 2, 3, 4, 5, 6, 7, 8, 9, 10, 11, 12, 13, 14, 20, 21, 22], rL 15, [0, 1, 2, 3, 4, 5, 6, 7, 8, 9, 10, 11, 12, 13, 14, 20, 21, 22, 23, 24], [0, 1, 2, 3, 4, 5, 6, 7, 8, 9, 10, 11, 12, 13, 14, 20, 21, 22, 23, 24, 25], [0, 1, 2, 3, 4, 5, 6, 7, 8, 9, 10, 11, 12, 13, 14, 20, 21, 22, 23, 24, 25, 26], rL 28, rL 29, rL 30, rL 31, rL 31, rL 33, rL 34, rL 35, rL 31, [0, 1, 2, 3, 4, 5, 6, 7, 8, 9, 10, 11, 12, 13, 14, 15, 16, 17, 18, 19, 20, 21, 22, 23, 24, 25, 26, 27, 28, 29, 30, 36], [0, 1, 2, 3, 4, 5, 6, 7, 8, 9, 10, 11, 12, 13, 14, 15, 16, 17, 18, 19, 20, 21, 22, 23, 24, 25, 26, 27, 28, 29, 30, 36, 37], [0, 1, 2, 3, 4, 5, 6, 7, 8, 9, 10, 11, 12, 13, 14, 15, 16, 17, 18, 19, 20, 21, 22, 23, 24, 25, 26, 27, 28, 29, 30, 36, 37, 38], rL 31, [0, 1, 2, 3, 4, 5, 6, 7, 8, 9, 10, 11, 12, 13, 14, 15, 16, 17, 18, 19, 20, 21, 22, 23, 24, 25, 26, 27, 28, 29, 30, 36, 37, 38, 39, 40], [0, 1, 2, 3, 4, 5, 6, 7, 8, 9, 10, 11, 12, 13, 14, 15, 16, 17, 18, 19, 20, 21, 22, 23, 24, 25, 26, 27, 28, 29, 30, 36, 37, 38, 39, 40, 41], [0, 1, 2, 3, 4, 5, 6, 7, 8, 9, 10, 11, 12, 13, 14, 15, 16, 17, 18, 19, 20, 21, 22, 23, 24, 25, 26, 27, 28, 29, 30, 36, 37, 38, 39, 40, 41, 42], rL 44, rL 45] [] [0, 1, 2, 3, 4, 5, 6, 7, 8, 9, 10, 11, 12, 13, 14, 15, 16, 17, 18, 19, 20, 21, 22, 23, 24, 25, 26, 27, 28, 29, 30, 31, 32, 33, 34, 35, 36, 37, 38, 39, 40, 41, 42, 43, 44, 45] (fun i => [[0], [0], [0], [0], [0], [0], [0], [0], [0], [0], [0], [0], [0], [0], [0], [0], [0], [0], [0], [0], [0], [0], [0], [0], [0], [0], [0], [0], [0], [0], [0], [0], [0], [0], [0], [0], [0], [0], [0], [0], [0], [0], [0], [0], [0], [0]].getD i []) (fun i => [[], [], [], [], [], [], [], [], [], [], [], [], [], [], [], [], [], [], [], [], [], [], [], [], [], [], [], [], [], [], [], [], [], [], [], [], [], [], [], [], [], [], [], [], [], []].getD i []) (fun γ i => [.slice a0 x0.length c0, .int .i64 s5v, .pointer (some ⟨b13v, b13vo + s5v.toNat * 4, none⟩), .pointer (some ⟨b13v, b13vo + s5v.toNat * 4 + 0, none⟩), .int .i64 ((x0.getD s5v.toNat dz91).1), .pointer (some ⟨b1, 0, none⟩), .pointer (some ⟨b1, 0, none⟩), .pointer (some ⟨b1, 1, none⟩), .slice a1_1 x1_1.length c1_1, .int .i64 s5v, .pointer (some ⟨b21v, b21vo + s5v.toNat * 4, none⟩), .pointer (some ⟨b21v, b21vo + s5v.toNat * 4 + 0, none⟩), .int .i64 ((x1_1.getD s5v.toNat dz91).1), .bool (!decide ((x0.getD s5v.toNat dz91).1 = (x1_1.getD s5v.toNat dz91).1)), .bool (!decide ((x0.getD s5v.toNat dz91).1 = (x1_1.getD s5v.toNat dz91).1)), undef, undef, undef, undef, undef, undef, undef, undef, undef, undef, undef, undef, undef, undef, .bool true, .bool true, undef, undef, undef, undef, undef, undef, undef, undef, undef, undef, undef, undef, undef, undef, .bool true].getD i undef) (fun j γ => [[obj b1 85 [.slice a1_0 x1_0.length c1_0, .slice a1_1 x1_1.length c1_1], F]].getD j []) (fun γ => [(0, .slice a0 x0.length c0), (1, .pointer (some ⟨b1, 0, none⟩)), (5, .int .i64 s5v), (35, undef), (36, undef), (37, undef), (38, undef), (39, undef), (40, undef), (41, undef), (42, undef), (43, undef), (44, undef), (45, undef), (46, undef), (47, undef), (48, undef), (51, undef), (52, undef), (53, undef), (54, undef), (55, undef), (56, undef), (57, undef), (58, undef), (59, undef), (60, undef), (61, undef), (62, undef), (63, undef), (64, undef), (65, .bool true)]) mixed (by decide) (by decide) (by decide) (by decide) (by decide) (by decide) (by decide) 66 rfl (by decide) (by decide) (by decide) (Ent.refl _) ?_ ?_ (fun _ => ⟨rfl, rfl, rfl, rfl, rfl, rfl, rfl, rfl, rfl, rfl, rfl, rfl, rfl, rfl, rfl, rfl, rfl, rfl, rfl, rfl, rfl, rfl, rfl, rfl, rfl, rfl, rfl, rfl, rfl, rfl, rfl, rfl, trivial⟩) ?_
 exact (aq rfl (fun γ => qm rfl (.o (s := 0) rfl (by decide) .nil) rfl) (aq rfl (fun γ => qm rfl (.o (s := 5) rfl (by decide) .nil) rfl) (aq rfl (fun γ => qp rfl rfl (.v 0 rfl rfl (.v 1 rfl rfl .nil)) (q_idx rfl rfl rfl ha14v Tryz.underlying66 Tryz.sizeOf69 hi12v.1 hi12v.2) rfl) (aq rfl (fun γ => qp rfl rfl (.v 2 rfl rfl .nil) (q_fa rfl rfl Tryz.underlying69 rfl rfl Tryz.sizeOf3 rfl) rfl) (aq rfl (fun γ => qp rfl rfl (.v 3 rfl rfl .nil) (q_load rfl rfl Tryz.isAgg3 (hcell19v 1 rfl 0 _ rfl)) rfl) (aq rfl (fun γ => qm rfl (.o (s := 1) rfl (by decide) .nil) rfl) (aq rfl (fun γ => qp rfl rfl (.v 5 rfl rfl .nil) (q_nil rfl rfl) rfl) (aq rfl (fun γ => qp rfl rfl (.v 6 rfl rfl .nil) (q_fa rfl rfl Tryz.underlying85 rfl rfl Tryz.sizeOf83 rfl) rfl) (aq rfl (fun γ => qp rfl rfl (.v 7 rfl rfl .nil) (q_load rfl rfl Tryz.isAgg83 (.obj 0 rfl rfl)) rfl) (aq rfl (fun γ => qm rfl (.o (s := 5) rfl (by decide) .nil) rfl) (aq rfl (fun γ => qp rfl rfl (.v 8 rfl rfl (.v 9 rfl rfl .nil)) (q_idx rfl rfl rfl ha22v Tryz.underlying83 Tryz.sizeOf91 hi20v.1 hi20v.2) rfl) (aq rfl (fun γ => qp rfl rfl (.v 10 rfl rfl .nil) (q_fa rfl rfl Tryz.underlying91 rfl rfl Tryz.sizeOf3 rfl) rfl) (aq rfl (fun γ => qp rfl rfl (.v 11 rfl rfl .nil) (q_load rfl rfl Tryz.isAgg3 (hcell27v 1 rfl 0 _ rfl)) rfl) (aq rfl (fun γ => qp rfl rfl (.v 4 rfl rfl (.v 12 rfl rfl .nil)) (q_neq rfl rfl rfl) rfl) (aq rfl (fun γ => qm rfl (.v 13 rfl rfl .nil) rfl) (aq rfl (fun γ => qn rfl rfl (.o (s := 0) rfl (by decide) (.v 14 rfl rfl .nil)) rfl rfl (beq_yes' (ndec_yes hk28v)) rfl) (aq rfl (fun γ => qn rfl rfl (.o (s := 5) rfl (by decide) (.v 14 rfl rfl .nil)) rfl rfl (beq_yes' (ndec_yes hk28v)) rfl) (aq rfl (fun γ => qn rfl rfl (.v 14 rfl rfl (.v 15 rfl rfl (.v 16 rfl rfl .nil))) rfl rfl (beq_yes' (ndec_yes hk28v)) rfl) (aq rfl (fun γ => qn rfl rfl (.v 14 rfl rfl (.v 17 rfl rfl .nil)) rfl rfl (beq_yes' (ndec_yes hk28v)) rfl) (aq rfl (fun γ => qn rfl rfl (.v 14 rfl rfl (.v 18 rfl rfl .nil)) rfl rfl (beq_yes' (ndec_yes hk28v)) rfl) (aq rfl (fun γ => qn rfl rfl (.o (s := 1) rfl (by decide) (.v 14 rfl rfl .nil)) rfl rfl (beq_yes' (ndec_yes hk28v)) rfl) (aq rfl (fun γ => qn rfl rfl (.v 14 rfl rfl (.v 20 rfl rfl .nil)) rfl rfl (beq_yes' (ndec_yes hk28v)) rfl) (aq rfl (fun γ => qn rfl rfl (.v 14 rfl rfl (.v 21 rfl rfl .nil)) rfl rfl (beq_yes' (ndec_yes hk28v)) rfl) (aq rfl (fun γ => qn rfl rfl (.v 14 rfl rfl (.v 22 rfl rfl .nil)) rfl rfl (beq_yes' (ndec_yes hk28v)) rfl) (aq rfl (fun γ => qn rfl rfl (.o (s := 5) rfl (by decide) (.v 14 rfl rfl .nil)) rfl rfl (beq_yes' (ndec_yes hk28v)) rfl) (aq rfl (fun γ => qn rfl rfl (.v 14 rfl rfl (.v 23 rfl rfl (.v 24 rfl rfl .nil))) rfl rfl (beq_yes' (ndec_yes hk28v)) rfl) (aq rfl (fun γ => qn rfl rfl (.v 14 rfl rfl (.v 25 rfl rfl .nil)) rfl rfl (beq_yes' (ndec_yes hk28v)) rfl) (aq rfl (fun γ => qn rfl rfl (.v 14 rfl rfl (.v 26 rfl rfl .nil)) rfl rfl (beq_yes' (ndec_yes hk28v)) rfl) (aq rfl (fun γ => qn rfl rfl (.v 14 rfl rfl (.v 19 rfl rfl (.v 27 rfl rfl .nil))) rfl rfl (beq_yes' (ndec_yes hk28v)) rfl) (aq rfl (fun γ => qp rfl rfl (.v 14 rfl rfl (.v 28 rfl rfl .nil)) (q_pick rfl rfl rfl rfl (bif_yes (ndec_yes hk28v) _ _)) rfl) (aq rfl (fun γ => qm rfl (.v 29 rfl rfl .nil) rfl) (aq rfl (fun γ => qn rfl rfl (.o (s := 0) rfl (by decide) (.v 30 rfl rfl .nil)) rfl rfl rfl rfl) (aq rfl (fun γ => qn rfl rfl (.o (s := 5) rfl (by decide) (.v 30 rfl rfl .nil)) rfl rfl rfl rfl) (aq rfl (fun γ => qn rfl rfl (.v 30 rfl rfl (.v 31 rfl rfl (.v 32 rfl rfl .nil))) rfl rfl rfl rfl) (aq rfl (fun γ => qn rfl rfl (.v 30 rfl rfl (.v 33 rfl rfl .nil)) rfl rfl rfl rfl) (aq rfl (fun γ => qn rfl rfl (.v 30 rfl rfl (.v 34 rfl rfl .nil)) rfl rfl rfl rfl) (aq rfl (fun γ => qn rfl rfl (.o (s := 1) rfl (by decide) (.v 30 rfl rfl .nil)) rfl rfl rfl rfl) (aq rfl (fun γ => qn rfl rfl (.v 30 rfl rfl (.v 36 rfl rfl .nil)) rfl rfl rfl rfl) (aq rfl (fun γ => qn rfl rfl (.v 30 rfl rfl (.v 37 rfl rfl .nil)) rfl rfl rfl rfl) (aq rfl (fun γ => qn rfl rfl (.v 30 rfl rfl (.v 38 rfl rfl .nil)) rfl rfl rfl rfl) (aq rfl (fun γ => qn rfl rfl (.o (s := 5) rfl (by decide) (.v 30 rfl rfl .nil)) rfl rfl rfl rfl) (aq rfl (fun γ => qn rfl rfl (.v 30 rfl rfl (.v 39 rfl rfl (.v 40 rfl rfl .nil))) rfl rfl rfl rfl) (aq rfl (fun γ => qn rfl rfl (.v 30 rfl rfl (.v 41 rfl rfl .nil)) rfl rfl rfl rfl) (aq rfl (fun γ => qn rfl rfl (.v 30 rfl rfl (.v 42 rfl rfl .nil)) rfl rfl rfl rfl) (aq rfl (fun γ => qn rfl rfl (.v 30 rfl rfl (.v 35 rfl rfl (.v 43 rfl rfl .nil))) rfl rfl rfl rfl) (aq rfl (fun γ => qp rfl rfl (.v 30 rfl rfl (.v 44 rfl rfl .nil)) (q_pick rfl rfl rfl rfl rfl) rfl) zA))))))))))))))))))))))))))))))))))))))))))))))
 exact zA
 intro g29v
 exact nrm_cut (s := true) () ⟨rfl, rfl, rfl, rfl, trivial⟩ (.sel 0 rfl (.sel 0 rfl (.nil _)))
 intro s10v y11v
 refine sim_condb rfl (fun h65v => ?_) (fun h66v => ?_)
 refine sr ?_
 refine va rfl rfl (simL_nil (nrm_then (sim_rtn ?_)))
 refine rtn_block ?_
 refine rtn_then ?_
 refine rtn_loop ?_
 refine rtn_block ?_
 refine rtn_cutR ?_
 exact rtn_fn () rfl rfl rfl (.sel 0 rfl (.sel 0 rfl (.nil _)))
 refine sim_skip ?_
 refine nrm_block (nrm_then (sim_region ?_))
 refine vm rfl rfl ?_
 refine vq (q_add rfl rfl rfl) rfl ?_
 refine va rfl rfl (simL_nil ?_)
 exact nrm_again (s := IntKind.i64.wrap (s5v + 1)) () ⟨rfl, rfl, rfl, trivial⟩ (.sel 0 rfl (.sel 0 rfl (.nil _)))
 refine sim_exi ?_
 refine exi_then ?_
 refine exi_loop ?_
 refine exi_here ?_
 exact nrm_cutR (s := ()) () trivial (.sel 0 rfl (.sel 0 rfl (.nil _)))
 intro s3v y4v
 refine sr ?_
 refine va rfl rfl (simL_nil (nrm_then (sim_rtn ?_)))
 exact rtn_fn () rfl rfl rfl (.sel 0 rfl (.sel 0 rfl (.nil _)))
 refine sr ?_
 refine va rfl rfl (simL_nil (nrm_then (sim_rtn ?_)))
 refine rtn_then ?_
 exact rtn_fn () rfl rfl rfl (.sel 0 rfl (.sel 0 rfl (.nil _)))

def wire_NewWriter.f  : Option (List UInt8 × Int) := some (([] : List UInt8), 0)
theorem wire_NewWriter.calls (W : World) (F : HA)   :
    Fn Tryz.prog W 24 [] [] F (wire_NewWriter.f ) (fun (r : List UInt8 × Int) (y : Nat × Option Addr × Nat) => .pointer (some ⟨y.1, 0, none⟩)) (fun r y => [obj y.1 108 [.slice y.2.1 r.1.length y.2.2, .int .i64 r.2], Row 5 1 y.2.1 r.1.length y.2.2 (encB r.1)]) := by
 unfold wire_NewWriter.f
 refine fn_intro 3 Tryz.func24 rfl Tryz.ntmps24 rfl ?_
 refine sr ?_
 refine va rfl rfl (nx ?_)
 refine vq (q_build (v := .agg #[.slice none 0 0, .int .i64 0]) rfl rfl (fun _ => by kernel_rfl)) rfl ?_
 refine simL_eff (re_box rfl rfl rfl) rfl rfl rfl ?_
 intro b1v
 refine va rfl rfl (simL_nil (nrm_then (sim_rtn ?_)))
 exact rtn_fn (b1v, none, 0) rfl rfl rfl (.sel 0 rfl (.row_nil (.sel 0 rfl (.nil _))))

def wire_Size.l0 : Nat → Int → Int → Option (Int)
  | 0, _, _ => none
  | k + 1, z7v, z8v => if (128 : Int) ≤ z7v then (wire_Size.l0 k (Int.fdiv z7v (2 ^ (min (7 : Int).toNat IntKind.i64.bits))) (IntKind.i64.wrap (z8v + 1))) else (some z8v)
def wire_Size.f (k : Nat) (x0 : Int) : Option (Int) := if ((decide (x0 < (0 : Int))) || (decide ((4611686018427387904 : Int) < x0))) = true then (some 0) else ((wire_Size.l0 k x0 1).bind fun s3v => (some s3v))
theorem wire_Size.calls (W : World) (F : HA) (k : Nat) (x0 : Int)  :
    Fn Tryz.prog W 49 [.int .i64 x0] [] F (wire_Size.f k x0) (fun (r : Int) (y : Unit) => .int .i64 r) (fun r y => []) := by
 unfold wire_Size.f
 refine fn_intro 17 Tryz.func49 rfl Tryz.ntmps49 rfl ?_
 refine sr ?_
 refine va rfl rfl (simL_nil (nrm_then (sim_seq (sr ?_))))
 refine vm rfl rfl ?_
 refine vq (q_lss rfl rfl rfl) rfl ?_
 refine vm rfl rfl ?_
 refine simL_valc (b := decide (x0 < (0 : Int))) (fun hb12v => RQ.sub (E' := [(0, .int .i64 x0)]) ⟨rfl, trivial⟩ (q_move rfl rfl)) rfl rfl rfl rfl rfl ?_
 refine simL_valc (b := decide (x0 < (0 : Int))) (fun hb11v => RQ.sub (E' := [(7, .int .i64 x0)]) ⟨lk_cv rfl hb11v, trivial⟩ (q_gtr rfl rfl rfl)) rfl rfl rfl rfl rfl ?_
 refine vq (q_or rfl rfl rfl) rfl (simL_nil (nrm_then ?_))
 refine sim_condb rfl (fun h1v => ?_) (fun h2v => ?_)
 refine sr ?_
 refine va rfl rfl (simL_nil (nrm_then (sim_rtn ?_)))
 refine rtn_then ?_
 exact rtn_fn () rfl rfl rfl (.sel 0 rfl (.nil _))
 refine sim_skip ?_
 refine nrm_then (sr ?_)
 refine va rfl rfl (simL_nil (nrm_then ?_))
 refine sim_cut (S := Int) (Unit) (fun s y => [(3, .int .i64 s)]) (fun s y => [F]) ?_ ?_
 refine sim_block ?_
 refine sim_loop (S := Int × Int) (Unit) (fun k s => wire_Size.l0 k s.1 s.2) (fun s y => [(0, .int .i64 s.1), (3, .int .i64 s.2)]) (fun s y => [F]) (fun _ => by rw [wire_Size.l0]) ?_ k (x0, 1) () ⟨rfl, rfl, trivial⟩ (.sel 0 rfl (.nil _))
 intro k s5v y6v
 refine sim_eq (by rw [wire_Size.l0]) ?_
 refine sim_seq (sr ?_)
 refine vm rfl rfl ?_
 refine vq (q_geq rfl rfl rfl) rfl (simL_nil (nrm_then ?_))
 refine sim_cond rfl (fun h9v => ?_) (fun h10v => ?_)
 refine sim_skip ?_
 refine nrm_then ?_
 refine sim_block ?_
 refine sr ?_
 refine vm rfl rfl ?_
 refine vq (q_shr rfl rfl rfl (by decide)) rfl ?_
 refine va rfl rfl (ny ?_)
 refine vm rfl rfl ?_
 refine vq (q_add rfl rfl rfl) rfl ?_
 refine va rfl rfl (simL_nil (nrm_block ?_))
 exact nrm_again (s := (Int.fdiv s5v.1 (2 ^ (min (7 : Int).toNat IntKind.i64.bits)), IntKind.i64.wrap (s5v.2 + 1))) () ⟨rfl, rfl, trivial⟩ (.sel 0 rfl (.nil _))
 refine sim_exi ?_
 refine exi_then ?_
 refine exi_loop ?_
 refine exi_here ?_
 exact nrm_cut (s := s5v.2) () ⟨rfl, trivial⟩ (.sel 0 rfl (.nil _))
 intro s3v y4v
 refine sr ?_
 refine vm rfl rfl ?_
 refine va rfl rfl (simL_nil (nrm_then (sim_rtn ?_)))
 exact rtn_fn () rfl rfl rfl (.sel 0 rfl (.nil _))

def wire_sevens_1.l0 {S : Type} (step : S → Int → Option S) : Nat → Int → S → Option (Int × S)
  | 0, _, _ => none
  | k + 1, z5v, z6v => if (128 : Int) ≤ z5v then ((step z6v (IntKind.u8.wrap (bitsV .or .i64 (bitsV .and .i64 z5v 127) 128))).bind fun s9v => (wire_sevens_1.l0 step k (Int.fdiv z5v (2 ^ (min (7 : Int).toNat IntKind.i64.bits))) s9v)) else (some (z5v, z6v))
def wire_sevens_1.f {S : Type} (k : Nat) (step : S → Int → Option S) (s0 : S) (x1_0 : Int) : Option (S) := (wire_sevens_1.l0 step k x1_0 s0).bind fun s1v => ((step s1v.2 (IntKind.u8.wrap s1v.1)).bind fun s12v => (some s12v))
theorem wire_sevens_1.calls (W : World) (F : HA) (k : Nat) (S Y : Type) (l : Nat) (step : S → Int → Option S) (A : S → Y → HA) (s0 : S) (y0 : Y) (b1 : Nat) (x1_0 : Int) (hY : YieldOk Tryz.prog W l (fun (x : Int) => [.int .u8 x]) step A) :
    Fn Tryz.prog W 87 [.func (.yield l) #[] #[], .pointer (some ⟨b1, 0, none⟩)] [A s0 y0, obj b1 3 [.int .i64 x1_0]] F (wire_sevens_1.f k step s0 x1_0) (fun (r : S) (y : Y) => .tuple #[]) (fun r y => [A r y, obj b1 3 [.int .i64 x1_0]]) := by
 unfold wire_sevens_1.f
 refine fn_intro 20 Tryz.func87 rfl Tryz.ntmps87 rfl ?_
 refine sr ?_
 refine vq (q_load rfl rfl Tryz.isAgg3 (.obj 1 rfl rfl)) rfl ?_
 refine va rfl rfl (simL_nil (nrm_then ?_))
 refine sim_cut (S := Int × S) (Y) (fun s y => [(0, .func (.yield l) #[] #[]), (3, .int .i64 s.1)]) (fun s y => [obj b1 3 [.int .i64 x1_0], A s.2 y, F]) ?_ ?_
 refine sim_block ?_
 refine sim_loop (S := Int × S) (Y) (fun k s => wire_sevens_1.l0 step k s.1 s.2) (fun s y => [(0, .func (.yield l) #[] #[]), (3, .int .i64 s.1)]) (fun s y => [obj b1 3 [.int .i64 x1_0], A s.2 y, F]) (fun _ => by rw [wire_sevens_1.l0]) ?_ k (x1_0, s0) y0 ⟨rfl, rfl, trivial⟩ (.sel 1 rfl (.sel 0 rfl (.sel 0 rfl (.nil _))))
 intro k s3v y4v
 refine sim_eq (by rw [wire_sevens_1.l0]) ?_
 refine sim_seq (sr ?_)
 refine vm rfl rfl ?_
 refine vq (q_geq rfl rfl rfl) rfl (simL_nil (nrm_then ?_))
 refine sim_cond rfl (fun h7v => ?_) (fun h8v => ?_)
 refine sim_skip ?_
 refine nrm_then ?_
 refine sim_block ?_
 refine sim_seq (sr ?_)
 refine vm rfl rfl ?_
 refine vm rfl rfl ?_
 refine vq (q_and_ rfl rfl rfl) rfl ?_
 refine vq (q_or_ rfl rfl rfl) rfl ?_
 refine vq (q_conv rfl rfl Tryz.underlying3 Tryz.underlying5) rfl ?_
 refine simL_bind (fun s9v hs11v => ?_)
 refine simL_eff (re_yield (IntKind.u8.wrap (bitsV .or .i64 (bitsV .and .i64 s3v.1 127) 128)) 1 rfl rfl rfl rfl rfl rfl hY rfl hs11v) rfl rfl rfl ?_
 intro y10v
 refine vq (q_not rfl rfl) rfl (simL_nil (nrm_then ?_))
 refine sim_false rfl ?_
 refine sim_skip ?_
 refine nrm_then (sim_region ?_)
 refine vm rfl rfl ?_
 refine vq (q_shr rfl rfl rfl (by decide)) rfl ?_
 refine va rfl rfl (simL_nil (nrm_block ?_))
 exact nrm_again (s := (Int.fdiv s3v.1 (2 ^ (min (7 : Int).toNat IntKind.i64.bits)), s9v)) y10v ⟨rfl, rfl, trivial⟩ (.sel 0 rfl (.sel 0 rfl (.sel 0 rfl (.nil _))))
 refine sim_exi ?_
 refine exi_then ?_
 refine exi_loop ?_
 refine exi_here ?_
 exact nrm_cut (s := (s3v.1, s3v.2)) y4v ⟨rfl, rfl, trivial⟩ (.sel 0 rfl (.sel 0 rfl (.sel 0 rfl (.nil _))))
 intro s1v y2v
 refine sim_region ?_
 refine vm rfl rfl ?_
 refine vm rfl rfl ?_
 refine vq (q_conv rfl rfl Tryz.underlying3 Tryz.underlying5) rfl ?_
 refine simL_bind (fun s12v hs14v => ?_)
 refine simL_eff (re_yield (IntKind.u8.wrap s1v.1) 1 rfl rfl rfl rfl rfl rfl hY rfl hs14v) rfl rfl rfl ?_
 intro y13v
 refine simL_nil ?_
 exact nrm_fn y13v rfl rfl rfl (.sel 1 rfl (.sel 0 rfl (.sel 0 rfl (.nil _))))

def wire_sevens.f (x0 : Int) : Option (Int) := some x0
theorem wire_sevens.calls (W : World) (F : HA) (x0 : Int)  :
    Fn Tryz.prog W 50 [.int .i64 x0] [] F (wire_sevens.f x0) (fun (r : Int) (y : Nat) => .func (.func 87) #[] #[.pointer (some ⟨y, 0, none⟩)]) (fun r y => [obj y 3 [.int .i64 r]]) := by
 unfold wire_sevens.f
 refine fn_intro 4 Tryz.func50 rfl Tryz.ntmps50 rfl ?_
 refine sr ?_
 refine simL_eff (re_box rfl rfl rfl) rfl rfl rfl ?_
 intro b1v
 refine va rfl rfl (nx ?_)
 refine vq (q_mkfn rfl rfl rfl) rfl ?_
 refine va rfl rfl (simL_nil (nrm_then (sim_rtn ?_)))
 exact rtn_fn b1v rfl rfl rfl (.sel 0 rfl (.sel 0 rfl (.nil _)))

def wire_Writer_Int.f (k : Nat) (x0_0 : List UInt8) (x0_1 : Int) (x1 : Int) : Option (List UInt8 × Int) := if x0_1 = (0 : Int) then ((wire_Size.f k x1).bind fun s4v => (if s4v = (0 : Int) then (some (x0_0, 1)) else ((wire_sevens.f x1).bind fun s9v => ((wire_sevens_1.f k (fun (s13v : List UInt8) (x12v : Int) => if 0 ≤ x12v ∧ x12v < 256 then (if (s13v.length + ([(byte x12v)] : List UInt8).length) * 1 ≤ 140737488355328 then (some (s13v ++ ([(byte x12v)] : List UInt8))) else none) else none) x0_0 s9v).bind fun s20v => (some (s20v, x0_1)))))) else (some (x0_0, x0_1))
theorem wire_Writer_Int.calls (W : World) (F : HA) (k : Nat) (b0 : Nat) (a0_0 : Option Addr) (c0_0 : Nat) (x0_0 : List UInt8) (x0_1 : Int) (x1 : Int)  :
    Fn Tryz.prog W 25 [.pointer (some ⟨b0, 0, none⟩), .int .i64 x1] [obj b0 108 [.slice a0_0 x0_0.length c0_0, .int .i64 x0_1], Row 5 1 a0_0 x0_0.length c0_0 (encB x0_0)] F (wire_Writer_Int.f k x0_0 x0_1 x1) (fun (r : List UInt8 × Int) (y : Option Addr × Nat) => .tuple #[]) (fun r y => [obj b0 108 [.slice y.1 r.1.length y.2, .int .i64 r.2], Row 5 1 y.1 r.1.length y.2 (encB r.1)]) := by
 unfold wire_Writer_Int.f
 refine fn_introM 29 Tryz.func25 rfl Tryz.ntmps25 rfl ?_
 refine sr ?_
 refine simL_eff (re_box rfl rfl rfl) rfl rfl rfl ?_
 intro b1v
 refine simL_nil (nrm_then (sim_seq (sr ?_)))
 refine vq (q_load rfl rfl Tryz.isAgg59 (.obj 0 rfl rfl)) rfl ?_
 refine vn rfl rfl ?_
 refine vq (q_fa rfl rfl Tryz.underlying108 rfl rfl Tryz.sizeOf31 rfl) rfl ?_
 refine vq (q_load rfl rfl Tryz.isAgg31 (.obj 1 rfl rfl)) rfl ?_
 refine vq (q_neq rfl rfl rfl) rfl (simL_nil (nrm_then ?_))
 refine sim_condn rfl (fun h2v => ?_) (fun h3v => ?_)
 refine sim_skip ?_
 refine nrm_then (sim_seq (sr ?_))
 refine vm rfl rfl ?_
 refine simL_bind (fun s4v hs5v => ?_)
 refine simL_eff (re_call (vs := [.int .i64 x1]) (cap := []) (A := []) (rst := [obj b1v 59 [.pointer (some ⟨b0, 0, none⟩)], obj b0 108 [.slice a0_0 x0_0.length c0_0, .int .i64 x0_1], Row 5 1 a0_0 x0_0.length c0_0 (encB x0_0), F]) rfl rfl rfl rfl rfl rfl Tryz.call49 (.sel 0 rfl (.sel 0 rfl (.sel 0 rfl (.sel 0 rfl (.nil _))))) (wire_Size.calls _ _ k x1 ) hs5v) rfl rfl rfl ?_
 intro y6v
 refine vq (q_eql rfl rfl rfl) rfl (simL_nil (nrm_then ?_))
 refine sim_cond rfl (fun h7v => ?_) (fun h8v => ?_)
 refine sr ?_
 refine vq (q_load rfl rfl Tryz.isAgg59 (.obj 0 rfl rfl)) rfl ?_
 refine vn rfl rfl ?_
 refine vq (q_fa rfl rfl Tryz.underlying108 rfl rfl Tryz.sizeOf31 rfl) rfl ?_
 refine simL_do (re_store 1 rfl rfl rfl Tryz.sizeOf31 rfl rfl (one_of (by rfl)) rfl rfl) rfl rfl ?_
 intro _
 refine simL_nil (nrm_then (sim_rtn ?_))
 refine rtn_then ?_
 exact rtn_fnM [] (a0_0, c0_0) rfl rfl rfl (.sel 1 rfl (.sel 1 rfl (.sel 1 rfl (.nil _))))
 refine sim_skip ?_
 refine nrm_then (sr ?_)
 refine vm rfl rfl ?_
 refine simL_bind (fun s9v hs10v => ?_)
 refine simL_eff (re_call (vs := [.int .i64 x1]) (cap := []) (A := []) (rst := [obj b1v 59 [.pointer (some ⟨b0, 0, none⟩)], obj b0 108 [.slice a0_0 x0_0.length c0_0, .int .i64 x0_1], Row 5 1 a0_0 x0_0.length c0_0 (encB x0_0), F]) rfl rfl rfl rfl rfl rfl Tryz.call50 (.sel 0 rfl (.sel 0 rfl (.sel 0 rfl (.sel 0 rfl (.nil _))))) (wire_sevens.calls _ _ x1 ) hs10v) rfl rfl rfl ?_
 intro y11v
 refine simL_nil (nrm_then ?_)
 refine sim_block ?_
 refine sim_range (S := List UInt8) (Y := Option Addr × Nat) (R' := List UInt8) (Y' := (Option Addr × Nat)) (ps := [18]) (Cap := [obj y11v 3 [.int .i64 s9v]]) (rst := []) (CapB := fun r y => [obj y11v 3 [.int .i64 s9v]]) (enc := fun (x : Int) => [.int .u8 x]) (oN := wire_sevens_1.f k (fun (s13v : List UInt8) (x12v : Int) => if 0 ≤ x12v ∧ x12v < 256 then (if (s13v.length + ([(byte x12v)] : List UInt8).length) * 1 ≤ 140737488355328 then (some (s13v ++ ([(byte x12v)] : List UInt8))) else none) else none) x0_0 s9v) (fun s y => [obj b1v 59 [.pointer (some ⟨b0, 0, none⟩)], obj b0 108 [.slice y.1 s.length y.2, .int .i64 x0_1], Row 5 1 y.1 s.length y.2 (encB s), F]) x0_0 (a0_0, c0_0) (fun s13v x12v y14v => [(2, .pointer (some ⟨b1v, 0, none⟩)), (4, .int .u8 x12v)]) (fun r => r) (fun r y => y) rfl rfl Tryz.call87 (fun l A hY X => wire_sevens_1.calls _ _ k _ _ l _ A _ _ y11v s9v hY) rfl (fun _ => rfl) (.sel 1 rfl (.sel 1 rfl (.sel 1 rfl (.sel 1 rfl (.sel 0 rfl (.nil _)))))) ?_ ?_ ?_
 intro l s13v x12v y14v Fr
 refine sim_ent (H' := [obj b1v 59 [.pointer (some ⟨b0, 0, none⟩)], obj b0 108 [.slice y14v.1 s13v.length y14v.2, .int .i64 x0_1], Row 5 1 y14v.1 s13v.length y14v.2 (encB s13v), F, Fr]) (Ent.refl _) ?_
 refine sim_region ?_
 refine va rfl rfl (simL_nil ?_)
 exact nrm_cut () ⟨rfl, rfl, trivial⟩ (Ent.refl _)
 intro l s13v x12v y14v Fr
 refine sim_ent (H' := [obj b1v 59 [.pointer (some ⟨b0, 0, none⟩)], obj b0 108 [.slice y14v.1 s13v.length y14v.2, .int .i64 x0_1], Row 5 1 y14v.1 s13v.length y14v.2 (encB s13v), F, Fr]) (Ent.refl _) ?_
 refine sim_block ?_
 refine sim_ask (fun hb16v => ?_)
 refine sim_ask (fun hb18v => ?_)
 refine sim_draw (Γ := Nat × (Option Addr × Nat)) (0, (none, 0)) [[], [], [1], [1, 2], [1, 2, 3], [], [5], [1, 2, 3, 4, 5, 6], rL 8, rL 9, rL 10] [6, 7, 10] [0, 1, 2, 3, 4, 5, 8, 9] (fun i => [[0, 1, 2], [0, 1], [0, 1], [0, 1], [0, 1], [0], [], [], [2], [2], []].getD i []) (fun i => [[], [], [], [], [], [], rL 6, rL 7, [], [], rL 10].getD i []) (fun γ i => [.pointer (some ⟨b0, 0, none⟩), .pointer (some ⟨b0, 0, none⟩), .pointer (some ⟨b0, 0, none⟩), .pointer (some ⟨b0, 0, none⟩), .slice y14v.1 s13v.length y14v.2, .int .u8 x12v, .slice (some ⟨γ.1, 0, none⟩) (([(byte x12v)] : List UInt8).length) 1, .slice γ.2.1 ((s13v ++ ([(byte x12v)] : List UInt8)).length) γ.2.2, .pointer (some ⟨b0, 0, none⟩), .pointer (some ⟨b0, 0, none⟩), undef].getD i undef) (fun j γ => [[obj b1v 59 [.pointer (some ⟨b0, 0, none⟩)], obj b0 108 [.slice y14v.1 s13v.length y14v.2, .int .i64 x0_1], Row 5 1 y14v.1 s13v.length y14v.2 (encB s13v), F, Fr], [Row 5 1 (some ⟨γ.1, 0, none⟩) ([(byte x12v)] : List UInt8).length 1 (encB ([(byte x12v)] : List UInt8)), obj b1v 59 [.pointer (some ⟨b0, 0, none⟩)], obj b0 108 [.slice y14v.1 s13v.length y14v.2, .int .i64 x0_1], Row 5 1 y14v.1 s13v.length y14v.2 (encB s13v), F, Fr], [Row 5 1 (some ⟨γ.1, 0, none⟩) ([(byte x12v)] : List UInt8).length 1 (encB ([(byte x12v)] : List UInt8)), obj b1v 59 [.pointer (some ⟨b0, 0, none⟩)], obj b0 108 [.slice y14v.1 s13v.length y14v.2, .int .i64 x0_1], Row 5 1 γ.2.1 (s13v ++ ([(byte x12v)] : List UInt8)).length γ.2.2 (encB (s13v ++ ([(byte x12v)] : List UInt8))), F, Fr], [Row 5 1 (some ⟨γ.1, 0, none⟩) ([(byte x12v)] : List UInt8).length 1 (encB ([(byte x12v)] : List UInt8)), obj b1v 59 [.pointer (some ⟨b0, 0, none⟩)], obj b0 108 [.slice γ.2.1 ((s13v ++ ([(byte x12v)] : List UInt8)).length) γ.2.2, .int .i64 x0_1], Row 5 1 γ.2.1 (s13v ++ ([(byte x12v)] : List UInt8)).length γ.2.2 (encB (s13v ++ ([(byte x12v)] : List UInt8))), F, Fr]].getD j []) (fun γ => []) mixed (by decide) (by decide) (by decide) (by decide) (by decide) (by decide) (by decide) 29 rfl (by decide) (by decide) (by decide) (Ent.refl _) ?_ ?_ (fun _ => trivial) ?_
 exact (ac (fun γ => (ac (qp rfl rfl (.o (s := 2) rfl (by decide) .nil) (q_load rfl rfl Tryz.isAgg59 (.obj 0 rfl rfl)) rfl) (ac (qp rfl rfl (.o (s := 2) rfl (by decide) .nil) (q_load rfl rfl Tryz.isAgg59 (.obj 1 rfl rfl)) rfl) (ac (qp rfl rfl (.o (s := 2) rfl (by decide) .nil) (q_load rfl rfl Tryz.isAgg59 (.obj 1 rfl rfl)) rfl) zA)))) (ac (fun γ => (ac (qp rfl rfl (.o (s := 2) rfl (by decide) .nil) (q_load rfl rfl Tryz.isAgg59 (.obj 0 rfl rfl)) rfl) (ac (qp rfl rfl (.o (s := 2) rfl (by decide) .nil) (q_load rfl rfl Tryz.isAgg59 (.obj 1 rfl rfl)) rfl) zA))) (ac (fun γ => (ac (qp rfl rfl (.v 1 rfl rfl .nil) (q_nil rfl rfl) rfl) (ac (qp rfl rfl (.v 1 rfl rfl .nil) (q_nil rfl rfl) rfl) zA))) (ac (fun γ => (ac (qp rfl rfl (.v 2 rfl rfl .nil) (q_fa rfl rfl Tryz.underlying108 rfl rfl Tryz.sizeOf23 rfl) rfl) (ac (qp rfl rfl (.v 2 rfl rfl .nil) (q_fa rfl rfl Tryz.underlying108 rfl rfl Tryz.sizeOf23 rfl) rfl) zA))) (ac (fun γ => (ac (qp rfl rfl (.v 3 rfl rfl .nil) (q_load rfl rfl Tryz.isAgg23 (.obj 1 rfl rfl)) rfl) (ac (qp rfl rfl (.v 3 rfl rfl .nil) (q_load rfl rfl Tryz.isAgg23 (.obj 2 rfl rfl)) rfl) zA))) (aq rfl (fun γ => qm rfl (.o (s := 4) rfl (by decide) .nil) rfl) (aq rfl (fun γ => qp rfl rfl (.v 0 rfl rfl .nil) (q_nil rfl rfl) rfl) (aq rfl (fun γ => qp rfl rfl (.v 8 rfl rfl .nil) (q_fa rfl rfl Tryz.underlying108 rfl rfl Tryz.sizeOf23 rfl) rfl) zA))))))))
 exact (ac (fun γ => eo (Z := Nat) (fun z => (z, γ.2)) rfl rfl (.v 5 rfl rfl .nil) (re_litb (cs := [.int .u8 x12v]) ([(byte x12v)] : List UInt8) rfl rfl Tryz.underlying23 elt5 rfl (by kernel_rfl) rfl rfl (byte_lit1 hb16v)) (fun _ => ⟨rfl, rfl, rfl, rfl, rfl, rfl, trivial⟩) (fun _ => .inr rfl) (fun z => Ent.refl _)) (ac (fun γ => eo (Z := Option Addr × Nat) (fun z => (γ.1, z)) rfl rfl (.v 4 rfl rfl (.v 6 rfl rfl .nil)) (re_appendb 3 rfl rfl rfl Tryz.underlying23 elt5 rfl (Rds.row 0 rfl) hb18v) (fun _ => ⟨rfl, rfl, rfl, rfl, rfl, rfl, rfl, trivial⟩) (fun _ => .inr rfl) (fun z => Ent.refl _)) (ac (fun γ => eo (Z := Unit) (fun z => (γ.1, γ.2)) rfl rfl (.v 7 rfl rfl (.v 9 rfl rfl .nil)) (re_store 2 rfl rfl rfl Tryz.sizeOf23 rfl rfl (one_of (by rfl)) rfl rfl) (fun _ => ⟨rfl, rfl, rfl, rfl, rfl, rfl, rfl, rfl, rfl, rfl, trivial⟩) (fun _ => .inl rfl) (fun z => Ent.refl _)) zA)))
 intro g19v
 refine nrm_block ?_
 exact nrm_cut (s := s13v ++ ([(byte x12v)] : List UInt8)) (g19v.2.1, g19v.2.2) trivial (.sel 1 rfl (.sel 1 rfl (.sel 1 rfl (.sel 1 rfl (.sel 1 rfl (.nil _))))))
 intro D22v s20v y21v
 refine nrm_ent (H' := [shutD D22v, obj b1v 59 [.pointer (some ⟨b0, 0, none⟩)], obj b0 108 [.slice y21v.1 s20v.length y21v.2, .int .i64 x0_1], Row 5 1 y21v.1 s20v.length y21v.2 (encB s20v), F, obj y11v 3 [.int .i64 s9v]]) (Ent.refl _) ?_
 refine nrm_block ?_
 exact nrm_fnM [D22v] (y21v.1, y21v.2) rfl rfl rfl (.sel 0 rfl (.sel 1 rfl (.sel 1 rfl (.sel 1 rfl (.nil _)))))
 refine sim_rtn ?_
 refine rtn_then ?_
 exact rtn_fnM [] (a0_0, c0_0) rfl rfl rfl (.sel 1 rfl (.sel 1 rfl (.sel 1 rfl (.nil _))))

def kv_Store_Each.f  : Option (Unit) := some ()
theorem kv_Store_Each.calls (W : World) (F : HA) (b0 : Nat)  :
    Fn Tryz.prog W 26 [.pointer (some ⟨b0, 0, none⟩)] [] F (kv_Store_Each.f ) (fun (r : Unit) (y : Nat) => .func (.func 51) #[] #[.pointer (some ⟨y, 0, none⟩)]) (fun r y => [obj y 26 [.pointer (some ⟨b0, 0, none⟩)]]) := by
 unfold kv_Store_Each.f
 refine fn_intro 4 Tryz.func26 rfl Tryz.ntmps26 rfl ?_
 refine sr ?_
 refine simL_eff (re_box rfl rfl rfl) rfl rfl rfl ?_
 intro b1v
 refine va rfl rfl (nx ?_)
 refine vq (q_mkfn rfl rfl rfl) rfl ?_
 refine va rfl rfl (simL_nil (nrm_then (sim_rtn ?_)))
 exact rtn_fn b1v rfl rfl rfl (.sel 0 rfl (.sel 0 rfl (.nil _)))

def wire_Writer_Bytes.f (k : Nat) (x0_0 : List UInt8) (x0_1 : Int) (x1 : List UInt8) (x2 : Int) : Option (List UInt8 × Int) := (if ((decide (x0_1 = (0 : Int))) && (decide (max x2 (0 : Int) < (x1.length : Int)))) = true then (some 3) else (some x0_1)).bind fun s1v => (if s1v = (0 : Int) then ((wire_Writer_Int.f k x0_0 s1v (x1.length : Int)).bind fun s12v => (if (s12v.1.length + x1.length) * 1 ≤ 140737488355328 then (some (s12v.1 ++ x1, s12v.2)) else none)) else (some (x0_0, s1v)))
theorem wire_Writer_Bytes.calls (W : World) (F : HA) (k : Nat) (b0 : Nat) (a0_0 : Option Addr) (c0_0 : Nat) (x0_0 : List UInt8) (x0_1 : Int) (a1 : Option Addr) (c1 : Nat) (x1 : List UInt8) (x2 : Int) (h1 : Rd F a1 (encB x1)) (hc1 : x1.length ≤ c1) (hm1 : c1 ≤ maxLen) :
    Fn Tryz.prog W 54 [.pointer (some ⟨b0, 0, none⟩), .slice a1 x1.length c1, .int .i64 x2] [obj b0 108 [.slice a0_0 x0_0.length c0_0, .int .i64 x0_1], Row 5 1 a0_0 x0_0.length c0_0 (encB x0_0)] F (wire_Writer_Bytes.f k x0_0 x0_1 x1 x2) (fun (r : List UInt8 × Int) (y : Option Addr × Nat) => .tuple #[]) (fun r y => [obj b0 108 [.slice y.1 r.1.length y.2, .int .i64 r.2], Row 5 1 y.1 r.1.length y.2 (encB r.1)]) := by
 unfold wire_Writer_Bytes.f
 refine fn_intro 39 Tryz.func54 rfl Tryz.ntmps54 rfl ?_
 refine sim_cut (S := Int) (Unit) (fun s y => [(0, .pointer (some ⟨b0, 0, none⟩)), (1, .slice a1 x1.length c1)]) (fun s y => [obj b0 108 [.slice a0_0 x0_0.length c0_0, .int .i64 s], Row 5 1 a0_0 x0_0.length c0_0 (encB x0_0), F]) ?_ ?_
 refine sr ?_
 refine vm rfl rfl ?_
 refine vn rfl rfl ?_
 refine vq (q_fa rfl rfl Tryz.underlying108 rfl rfl Tryz.sizeOf31 rfl) rfl ?_
 refine vq (q_load rfl rfl Tryz.isAgg31 (.obj 0 rfl rfl)) rfl ?_
 refine vq (q_eql rfl rfl rfl) rfl ?_
 refine vm rfl rfl ?_
 refine simL_valc (b := decide (x0_1 = (0 : Int))) (fun hb9v => RQ.sub (E' := [(1, .slice a1 x1.length c1)]) ⟨rfl, trivial⟩ (q_move rfl rfl)) rfl rfl rfl rfl rfl ?_
 refine simL_valc (b := decide (x0_1 = (0 : Int))) (fun hb8v => RQ.sub (E' := [(12, .slice a1 x1.length c1)]) ⟨lk_cv rfl hb8v, trivial⟩ (q_len rfl rfl rfl Tryz.underlying23)) rfl rfl rfl rfl rfl ?_
 refine simL_valc (b := decide (x0_1 = (0 : Int))) (fun hb7v => RQ.sub (E' := [(2, .int .i64 x2)]) ⟨rfl, trivial⟩ (q_move rfl rfl)) rfl rfl rfl rfl rfl ?_
 refine simL_valc (b := decide (x0_1 = (0 : Int))) (fun hb6v => RQ.sub (E' := [(14, .int .i64 x2)]) ⟨lk_cv rfl hb6v, trivial⟩ (q_max rfl rfl rfl)) rfl rfl rfl rfl rfl ?_
 refine simL_valc (b := decide (x0_1 = (0 : Int))) (fun hb5v => RQ.sub (E' := [(13, .int .i64 (x1.length : Int)), (15, .int .i64 (max x2 (0 : Int)))]) ⟨lk_cv rfl hb5v, lk_cv rfl hb5v, trivial⟩ (q_gtr rfl rfl rfl)) rfl rfl rfl rfl rfl ?_
 refine vq (q_and rfl rfl rfl) rfl (simL_nil (nrm_then ?_))
 refine sim_condb rfl (fun h3v => ?_) (fun h4v => ?_)
 refine sim_region ?_
 refine vm rfl rfl ?_
 refine vn rfl rfl ?_
 refine vq (q_fa rfl rfl Tryz.underlying108 rfl rfl Tryz.sizeOf31 rfl) rfl ?_
 refine simL_do (re_store 0 rfl rfl rfl Tryz.sizeOf31 rfl rfl (one_of (by rfl)) rfl rfl) rfl rfl ?_
 intro _
 refine simL_nil ?_
 exact nrm_cut (s := 3) () ⟨rfl, rfl, trivial⟩ (.sel 0 rfl (.sel 0 rfl (.sel 0 rfl (.nil _))))
 refine sim_skip ?_
 exact nrm_cut (s := x0_1) () ⟨rfl, rfl, trivial⟩ (.sel 0 rfl (.sel 0 rfl (.sel 0 rfl (.nil _))))
 intro s1v y2v
 refine sim_seq (sr ?_)
 refine vm rfl rfl ?_
 refine vn rfl rfl ?_
 refine vq (q_fa rfl rfl Tryz.underlying108 rfl rfl Tryz.sizeOf31 rfl) rfl ?_
 refine vq (q_load rfl rfl Tryz.isAgg31 (.obj 0 rfl rfl)) rfl ?_
 refine vq (q_neq rfl rfl rfl) rfl (simL_nil (nrm_then ?_))
 refine sim_condn rfl (fun h10v => ?_) (fun h11v => ?_)
 refine sim_skip ?_
 refine nrm_then (sr ?_)
 refine vm rfl rfl ?_
 refine vm rfl rfl ?_
 refine vq (q_len rfl rfl rfl Tryz.underlying23) rfl ?_
 refine simL_bind (fun s12v hs13v => ?_)
 refine simL_eff (re_call (vs := [.pointer (some ⟨b0, 0, none⟩), .int .i64 (x1.length : Int)]) (cap := []) (A := [obj b0 108 [.slice a0_0 x0_0.length c0_0, .int .i64 s1v], Row 5 1 a0_0 x0_0.length c0_0 (encB x0_0)]) (rst := [F]) rfl rfl rfl rfl rfl rfl Tryz.call25 (.sel 0 rfl (.sel 0 rfl (.sel 0 rfl (.nil _)))) (wire_Writer_Int.calls _ _ k b0 a0_0 c0_0 x0_0 s1v (x1.length : Int) ) hs13v) rfl rfl rfl ?_
 intro y14v
 refine ny ?_
 refine vm rfl rfl ?_
 refine vm rfl rfl ?_
 refine vn rfl rfl ?_
 refine vq (q_fa rfl rfl Tryz.underlying108 rfl rfl Tryz.sizeOf23 rfl) rfl ?_
 refine vq (q_load rfl rfl Tryz.isAgg23 (.obj 0 rfl rfl)) rfl ?_
 refine vm rfl rfl ?_
 refine simL_ask (fun hb16v => ?_)
 refine simL_eff (re_appendb 1 rfl rfl rfl Tryz.underlying23 elt5 rfl (h1.rds 1 rfl) hb16v) rfl rfl rfl ?_
 intro y15v
 refine vn rfl rfl ?_
 refine vq (q_fa rfl rfl Tryz.underlying108 rfl rfl Tryz.sizeOf23 rfl) rfl ?_
 refine simL_do (re_store 0 rfl rfl rfl Tryz.sizeOf23 rfl rfl (one_of (by rfl)) rfl rfl) rfl rfl ?_
 intro _
 refine simL_nil ?_
 exact nrm_fn (y15v.1, y15v.2) rfl rfl rfl (.sel 0 rfl (.sel 0 rfl (.sel 0 rfl (.nil _))))
 refine sim_rtn ?_
 refine rtn_then ?_
 exact rtn_fn (a0_0, c0_0) rfl rfl rfl (.sel 0 rfl (.sel 0 rfl (.sel 0 rfl (.nil _))))

def wire_Writer_Text.f (k : Nat) (x0_0 : List UInt8) (x0_1 : Int) (x1 : List UInt8) (x2 : Int) : Option (List UInt8 × Int) := if x1.length ≤ 140737488355328 then ((wire_Writer_Bytes.f k x0_0 x0_1 x1 x2).bind fun s7v => (some (s7v.1, s7v.2))) else none
theorem wire_Writer_Text.calls (W : World) (F : HA) (k : Nat) (b0 : Nat) (a0_0 : Option Addr) (c0_0 : Nat) (x0_0 : List UInt8) (x0_1 : Int) (x1 : List UInt8) (x2 : Int)  :
    Fn Tryz.prog W 27 [.pointer (some ⟨b0, 0, none⟩), str x1, .int .i64 x2] [obj b0 108 [.slice a0_0 x0_0.length c0_0, .int .i64 x0_1], Row 5 1 a0_0 x0_0.length c0_0 (encB x0_0)] F (wire_Writer_Text.f k x0_0 x0_1 x1 x2) (fun (r : List UInt8 × Int) (y : Option Addr × Nat) => .tuple #[]) (fun r y => [obj b0 108 [.slice y.1 r.1.length y.2, .int .i64 r.2], Row 5 1 y.1 r.1.length y.2 (encB r.1)]) := by
 unfold wire_Writer_Text.f
 refine fn_intro 11 Tryz.func27 rfl Tryz.ntmps27 rfl ?_
 refine sim_region ?_
 refine vm rfl rfl ?_
 refine vm rfl rfl ?_
 refine simL_ask (fun hb2v => ?_)
 refine simL_eff (re_tobytes rfl rfl Tryz.underlying9 Tryz.underlying23 Tryz.underlying5 hb2v) rfl rfl rfl ?_
 intro y1v
 refine vm rfl rfl ?_
 refine simL_bind (fun s7v hs8v => ?_)
 refine simL_lend 0 rfl (fun hq3v hq4v hq5v hq6v => ?_)
 refine simL_eff (re_call (vs := [.pointer (some ⟨b0, 0, none⟩), .slice (some ⟨y1v.1, 0, none⟩) x1.length y1v.2, .int .i64 x2]) (cap := []) (A := [obj b0 108 [.slice a0_0 x0_0.length c0_0, .int .i64 x0_1], Row 5 1 a0_0 x0_0.length c0_0 (encB x0_0)]) (rst := [Row 5 1 (some ⟨y1v.1, 0, none⟩) x1.length y1v.2 (encB x1), F]) rfl rfl rfl rfl rfl rfl Tryz.call54 (.sel 1 rfl (.sel 1 rfl (.sel 0 rfl (.sel 0 rfl (.nil _))))) (wire_Writer_Bytes.calls _ _ k b0 a0_0 c0_0 x0_0 x0_1 (some ⟨y1v.1, 0, none⟩) y1v.2 x1 x2 (hq3v.lend 0 rfl) hq4v hq5v) hs8v) rfl rfl rfl ?_
 intro y9v
 refine simL_nil ?_
 exact nrm_fn (y9v.1, y9v.2) rfl rfl rfl (.sel 0 rfl (.sel 0 rfl (.sel 1 rfl (.nil _))))

def wire_Writer_Done.f (x0_0 : List UInt8) (x0_1 : Int) : Option (List UInt8 × Int) := if x0_1 = (0 : Int) then ((wire_fresh.f x0_0).bind fun s3v => (some (s3v, 0))) else (some (([] : List UInt8), x0_1))
theorem wire_Writer_Done.calls (W : World) (F : HA) (b0 : Nat) (a0_0 : Option Addr) (c0_0 : Nat) (x0_0 : List UInt8) (x0_1 : Int) (h0_0 : Rd F a0_0 (encB x0_0)) (hc0_0 : x0_0.length ≤ c0_0) (hm0_0 : c0_0 ≤ maxLen) :
    Fn Tryz.prog W 29 [.pointer (some ⟨b0, 0, none⟩)] [obj b0 108 [.slice a0_0 x0_0.length c0_0, .int .i64 x0_1]] F (wire_Writer_Done.f x0_0 x0_1) (fun (r : List UInt8 × Int) (y : Option Addr × Nat) => .tuple #[.slice y.1 r.1.length y.2, .int .i64 r.2]) (fun r y => [Row 5 1 y.1 r.1.length y.2 (encB r.1), obj b0 108 [.slice a0_0 x0_0.length c0_0, .int .i64 x0_1]]) := by
 unfold wire_Writer_Done.f
 refine fn_intro 18 Tryz.func29 rfl Tryz.ntmps29 rfl ?_
 refine sr ?_
 refine va rfl rfl ?_
 refine va rfl rfl (simL_nil (nrm_then (sim_seq (sr ?_))))
 refine vm rfl rfl ?_
 refine vn rfl rfl ?_
 refine vq (q_fa rfl rfl Tryz.underlying108 rfl rfl Tryz.sizeOf31 rfl) rfl ?_
 refine vq (q_load rfl rfl Tryz.isAgg31 (.obj 0 rfl rfl)) rfl ?_
 refine vq (q_neq rfl rfl rfl) rfl (simL_nil (nrm_then ?_))
 refine sim_condn rfl (fun h1v => ?_) (fun h2v => ?_)
 refine sim_skip ?_
 refine nrm_then (sr ?_)
 refine vm rfl rfl ?_
 refine vn rfl rfl ?_
 refine vq (q_fa rfl rfl Tryz.underlying108 rfl rfl Tryz.sizeOf23 rfl) rfl ?_
 refine vq (q_load rfl rfl Tryz.isAgg23 (.obj 0 rfl rfl)) rfl ?_
 refine simL_bind (fun s3v hs4v => ?_)
 refine simL_eff (re_call (vs := [.slice a0_0 x0_0.length c0_0]) (cap := []) (A := []) (rst := [obj b0 108 [.slice a0_0 x0_0.length c0_0, .int .i64 x0_1], F]) rfl rfl rfl rfl rfl rfl Tryz.call57 (.sel 0 rfl (.sel 0 rfl (.nil _))) (wire_fresh.calls _ _ a0_0 c0_0 x0_0 (h0_0.lend 1 rfl) hc0_0 hm0_0) hs4v) rfl rfl rfl ?_
 intro y5v
 refine va rfl rfl ?_
 refine va rfl rfl (simL_nil (nrm_then (sim_rtn ?_)))
 exact rtn_fn (y5v.1, y5v.2) rfl rfl rfl (.sel 0 rfl (.sel 0 rfl (.sel 0 rfl (.nil _))))
 refine sim_seq ?_
 refine sim_draw (Γ := Unit) () [[], [0], [0, 1], [0, 1, 2], [], rL 5] [] [0, 1, 2, 3, 4, 5] (fun i => [[0], [0], [0], [0], [0], [0]].getD i []) (fun i => [[], [], [], [], [], []].getD i []) (fun γ i => [.pointer (some ⟨b0, 0, none⟩), .pointer (some ⟨b0, 0, none⟩), .pointer (some ⟨b0, 1, none⟩), .int .i64 x0_1, .slice none 0 0, .int .i64 x0_1].getD i undef) (fun j γ => [[obj b0 108 [.slice a0_0 x0_0.length c0_0, .int .i64 x0_1], F]].getD j []) (fun γ => [(2, .slice none 0 0), (3, .int .i64 x0_1)]) mixed (by decide) (by decide) (by decide) (by decide) (by decide) (by decide) (by decide) 18 rfl (by decide) (by decide) (by decide) (Ent.refl _) ?_ ?_ (fun _ => ⟨rfl, rfl, trivial⟩) ?_
 exact (aq rfl (fun γ => qm rfl (.o (s := 0) rfl (by decide) .nil) rfl) (aq rfl (fun γ => qp rfl rfl (.v 0 rfl rfl .nil) (q_nil rfl rfl) rfl) (aq rfl (fun γ => qp rfl rfl (.v 1 rfl rfl .nil) (q_fa rfl rfl Tryz.underlying108 rfl rfl Tryz.sizeOf31 rfl) rfl) (aq rfl (fun γ => qp rfl rfl (.v 2 rfl rfl .nil) (q_load rfl rfl Tryz.isAgg31 (.obj 0 rfl rfl)) rfl) (aq rfl (fun γ => qp rfl rfl .nil (q_asg rfl rfl) rfl) (aq rfl (fun γ => qp rfl rfl (.v 3 rfl rfl .nil) (q_asg rfl rfl) rfl) zA))))))
 exact zA
 intro g6v
 refine nrm_then (sim_rtn ?_)
 refine rtn_then ?_
 exact rtn_fn (none, 0) rfl rfl rfl (.row_nil (.sel 0 rfl (.sel 0 rfl (.nil _))))

def kv_Store_Each_1_s.l0 {S : Type} (step : S → (Ty90) → Option S) (s1v : List ((List UInt8) × (List UInt8))) (s7v : List (List UInt8)) : Nat → Int → S → Option (S)
  | 0, _, _ => none
  | k + 1, z12v, z13v => if z12v < (s7v.length : Int) then (if 0 ≤ z12v ∧ z12v < (s7v.length : Int) then ((step z13v ((s7v.getD z12v.toNat ([] : List UInt8)), ((mget s1v (s7v.getD z12v.toNat ([] : List UInt8))).getD ([] : List UInt8)))).bind fun s26v => (kv_Store_Each_1_s.l0 step s1v s7v k (IntKind.i64.wrap (z12v + 1)) s26v)) else none) else (some z13v)
def kv_Store_Each_1_s.f {S : Type} (k : Nat) (step : S → (Ty90) → Option S) (s0 : S) (xp1_0 : List ((List UInt8) × (List UInt8))) (xp1_1 : List ((Int) × (Ty91))) : Option (S) := (maps_Clone_map_string_string_string_string.f xp1_0).bind fun s1v => ((maps_Keys_map_string_string_string_string.f).bind fun s4v => ((slices_Sorted_string_maps_Keys_map_string_string_string_string_1.f s1v).bind fun s7v => (kv_Store_Each_1_s.l0 step s1v s7v k 0 s0)))
theorem kv_Store_Each_1_s.calls (W : World) (F : HA) (k : Nat) (S Y : Type) (l : Nat) (step : S → List UInt8 × List UInt8 → Option S) (A : S → Y → HA) (s0 : S) (y0 : Y) (bp0 : Nat) (bp1 : Nat) (mp1_0 : Nat) (xp1_0 : List ((List UInt8) × (List UInt8))) (mp1_1 : Nat) (xp1_1 : List ((Int) × (Ty91))) (hY : YieldOk Tryz.prog W l (fun (x : List UInt8 × List UInt8) => [str x.1, str x.2]) step A) :
    Fn Tryz.prog W 51 [.func (.yield l) #[] #[], .pointer (some ⟨bp0, 0, none⟩)] [A s0 y0, obj bp1 58 [.map (some mp1_0), .map (some mp1_1)], mapO mp1_0 enc9 enc9 xp1_0, mapO mp1_1 enc3 enc69 xp1_1, obj bp0 26 [.pointer (some ⟨bp1, 0, none⟩)]] F (kv_Store_Each_1_s.f k step s0 xp1_0 xp1_1) (fun (r : S) (y : Y) => .tuple #[]) (fun r y => [A r y, obj bp1 58 [.map (some mp1_0), .map (some mp1_1)], mapO mp1_0 enc9 enc9 xp1_0, mapO mp1_1 enc3 enc69 xp1_1, obj bp0 26 [.pointer (some ⟨bp1, 0, none⟩)]]) := by
 unfold kv_Store_Each_1_s.f
 refine fn_intro 27 Tryz.func51 rfl Tryz.ntmps51 rfl ?_
 refine sr ?_
 refine vq (q_load rfl rfl Tryz.isAgg26 (.obj 4 rfl rfl)) rfl ?_
 refine vn rfl rfl ?_
 refine vq (q_fa rfl rfl Tryz.underlying58 rfl rfl Tryz.sizeOf55 rfl) rfl ?_
 refine vq (q_load rfl rfl Tryz.isAgg55 (.obj 1 rfl rfl)) rfl ?_
 refine simL_bind (fun s1v hs2v => ?_)
 refine simL_eff (re_call (vs := [.map (some mp1_0)]) (cap := []) (A := [mapO mp1_0 enc9 enc9 xp1_0]) (rst := [A s0 y0, obj bp1 58 [.map (some mp1_0), .map (some mp1_1)], mapO mp1_1 enc3 enc69 xp1_1, obj bp0 26 [.pointer (some ⟨bp1, 0, none⟩)], F]) rfl rfl rfl rfl rfl rfl Tryz.call40 (.sel 2 rfl (.sel 0 rfl (.sel 0 rfl (.sel 0 rfl (.sel 0 rfl (.sel 0 rfl (.nil _))))))) (maps_Clone_map_string_string_string_string.calls _ _ mp1_0 xp1_0 ) hs2v) rfl rfl rfl ?_
 intro y3v
 refine va rfl rfl (nx ?_)
 refine vm rfl rfl ?_
 refine simL_bind (fun s4v hs5v => ?_)
 refine simL_eff (re_call (vs := [.map (some y3v)]) (cap := []) (A := []) (rst := [mapO y3v enc9 enc9 s1v, mapO mp1_0 enc9 enc9 xp1_0, A s0 y0, obj bp1 58 [.map (some mp1_0), .map (some mp1_1)], mapO mp1_1 enc3 enc69 xp1_1, obj bp0 26 [.pointer (some ⟨bp1, 0, none⟩)], F]) rfl rfl rfl rfl rfl rfl Tryz.call53 (.sel 0 rfl (.sel 0 rfl (.sel 0 rfl (.sel 0 rfl (.sel 0 rfl (.sel 0 rfl (.sel 0 rfl (.nil _)))))))) (maps_Keys_map_string_string_string_string.calls _ _ y3v ) hs5v) rfl rfl rfl ?_
 intro y6v
 refine simL_bind (fun s7v hs8v => ?_)
 refine simL_eff (re_call (vs := [.func (.func 90) #[] #[.pointer (some ⟨y6v, 0, none⟩)]]) (cap := []) (A := [obj y6v 55 [.map (some y3v)], mapO y3v enc9 enc9 s1v]) (rst := [mapO mp1_0 enc9 enc9 xp1_0, A s0 y0, obj bp1 58 [.map (some mp1_0), .map (some mp1_1)], mapO mp1_1 enc3 enc69 xp1_1, obj bp0 26 [.pointer (some ⟨bp1, 0, none⟩)], F]) rfl rfl rfl rfl rfl rfl Tryz.call52 (.sel 0 rfl (.sel 0 rfl (.sel 0 rfl (.sel 0 rfl (.sel 0 rfl (.sel 0 rfl (.sel 0 rfl (.sel 0 rfl (.nil _))))))))) (slices_Sorted_string_maps_Keys_map_string_string_string_string_1.calls _ _ y6v y3v s1v ) hs8v) rfl rfl rfl ?_
 intro y9v
 refine vq (q_len rfl rfl rfl Tryz.underlying94) rfl ?_
 refine vm rfl rfl (simL_nil (nrm_then ?_))
 refine sim_block ?_
 refine sim_loop (S := Int × S) (Y) (fun k s => kv_Store_Each_1_s.l0 step s1v s7v k s.1 s.2) (fun s y => [(0, .func (.yield l) #[] #[]), (3, .map (some y3v)), (13, .slice y9v.1 s7v.length y9v.2), (14, .int .i64 (s7v.length : Int)), (15, .int .i64 s.1)]) (fun s y => [obj bp1 58 [.map (some mp1_0), .map (some mp1_1)], obj bp0 26 [.pointer (some ⟨bp1, 0, none⟩)], mapO y3v enc9 enc9 s1v, RowV 9 1 (V9 tt) y9v.1 s7v y9v.2, mapO mp1_0 enc9 enc9 xp1_0, mapO mp1_1 enc3 enc69 xp1_1, A s.2 y, F]) (fun _ => by rw [kv_Store_Each_1_s.l0]) ?_ k (0, s0) y0 ⟨rfl, rfl, rfl, rfl, rfl, trivial⟩ (.sel 5 rfl (.sel 6 rfl (.sel 2 rfl (.sel 0 rfl (.sel 1 rfl (.sel 2 rfl (.sel 1 rfl (.sel 1 rfl (.nil _)))))))))
 intro k s10v y11v
 refine sim_eq (by rw [kv_Store_Each_1_s.l0]) ?_
 refine sr ?_
 refine vq (q_lss rfl rfl rfl) rfl (simL_nil (nrm_then (sim_seq ?_)))
 refine sim_cond rfl (fun h14v => ?_) (fun h15v => ?_)
 refine sim_skip ?_
 refine nrm_then (sim_seq ?_)
 refine sim_block ?_
 refine sr ?_
 refine simL_openV 3 rfl (fun rs24v hl25v => ?_)
 refine simL_ask (fun hi16v => ?_)
 refine simL_posV 3 rfl hl25v rfl (i := s10v.1.toNat) (by omega) ([] : List UInt8) (fun b17v b17vo r20v ha18v hV21v hlr22v hcell23v => ?_)
 obtain rfl := hV21v
 refine vq (q_idx rfl rfl rfl ha18v Tryz.underlying94 Tryz.sizeOf9 hi16v.1 hi16v.2) rfl ?_
 refine vq (q_load rfl rfl Tryz.isAgg9 (hcell23v 3 rfl 0 _ rfl)) rfl ?_
 refine va rfl rfl (nx ?_)
 refine vm rfl rfl ?_
 refine vm rfl rfl ?_
 refine vm rfl rfl ?_
 refine vm rfl rfl ?_
 refine vq ((q_mlook (ek := enc9) (ev := enc9) (z := ([] : List UInt8)) 2 (s7v.getD s10v.1.toNat ([] : List UInt8)) rfl rfl rfl Tryz.underlying55 key9 Tryz.zeroValue9 rfl : RQ _ _ _ _ (str ((mget s1v (s7v.getD s10v.1.toNat ([] : List UInt8))).getD ([] : List UInt8))))) rfl ?_
 refine simL_bind (fun s26v hs28v => ?_)
 refine simL_eff (re_yield ((s7v.getD s10v.1.toNat ([] : List UInt8)), ((mget s1v (s7v.getD s10v.1.toNat ([] : List UInt8))).getD ([] : List UInt8))) 6 rfl rfl rfl rfl rfl rfl hY rfl hs28v) rfl rfl rfl ?_
 intro y27v
 refine vq (q_not rfl rfl) rfl (simL_nil (nrm_then ?_))
 refine sim_false rfl ?_
 refine sim_skip ?_
 refine nrm_block (nrm_then (sim_region ?_))
 refine vq (q_add rfl rfl rfl) rfl ?_
 refine vm rfl rfl (simL_nil ?_)
 exact nrm_again (s := (IntKind.i64.wrap (s10v.1 + 1), s26v)) y27v ⟨rfl, rfl, rfl, rfl, rfl, trivial⟩ (.sel 0 rfl (.sel 0 rfl (.sel 0 rfl (.sel' 0 rfl (RowV.mk hl25v) (.sel 0 rfl (.sel 0 rfl (.sel 0 rfl (.sel 0 rfl (.nil _)))))))))
 refine sim_exi ?_
 refine exi_then ?_
 refine exi_loop ?_
 refine exi_here ?_
 exact nrm_fn y11v rfl rfl rfl (.sel 6 rfl (.sel 0 rfl (.sel 3 rfl (.sel 3 rfl (.sel 0 rfl (.sel 2 rfl (.nil _)))))))

def kv_Store_Snapshot.l0 (s30v : List (Ty91)) : Nat → Int → List UInt8 → Int → Option (List UInt8 × Int)
  | 0, _, _, _ => none
  | k + 1, z35v, z36v, z37v => if z35v < (s30v.length : Int) then (if 0 ≤ z35v ∧ z35v < (s30v.length : Int) then ((wire_Writer_Int.f k z36v z37v ((s30v.getD z35v.toNat dz91).1)).bind fun s51v => ((wire_Writer_Int.f k s51v.1 s51v.2 ((s30v.getD z35v.toNat dz91).2.1)).bind fun s54v => ((wire_Writer_Int.f k s54v.1 s54v.2 ((s30v.getD z35v.toNat dz91).2.2.1)).bind fun s57v => ((wire_Writer_Text.f k s57v.1 s57v.2 ((s30v.getD z35v.toNat dz91).2.2.2) (1024 : Int)).bind fun s60v => (kv_Store_Snapshot.l0 s30v k (IntKind.i64.wrap (z35v + 1)) s60v.1 s60v.2))))) else none) else (some (z36v, z37v))
def kv_Store_Snapshot.f (k : Nat) (x0_0 : List ((List UInt8) × (List UInt8))) (x0_1 : List ((Int) × (Ty91))) : Option (List UInt8) := (wire_NewWriter.f).bind fun s1v => ((wire_Writer_Int.f k s1v.1 s1v.2 (x0_0.length : Int)).bind fun s5v => ((kv_Store_Each.f).bind fun s9v => ((kv_Store_Each_1_s.f k (fun (s13v : List UInt8 × Int) (x12v : List UInt8 × List UInt8) => (wire_Writer_Text.f k s13v.1 s13v.2 x12v.1 (64 : Int)).bind fun s15v => ((wire_Writer_Text.f k s15v.1 s15v.2 x12v.2 (1024 : Int)).bind fun s18v => (some (s18v.1, s18v.2)))) (s5v.1, s5v.2) x0_0 x0_1).bind fun s21v => ((wire_Writer_Int.f k s21v.1 s21v.2 (x0_1.length : Int)).bind fun s24v => (((kv_Store_Sessions.f k x0_0 x0_1).bind fun s30v => (kv_Store_Snapshot.l0 s30v k 0 s24v.1 s24v.2)).bind fun s28v => ((wire_Writer_Done.f s28v.1 s28v.2).bind fun s67v => (some s67v.1)))))))
theorem kv_Store_Snapshot.calls (W : World) (F : HA) (k : Nat) (b0 : Nat) (m0_0 : Nat) (x0_0 : List ((List UInt8) × (List UInt8))) (m0_1 : Nat) (x0_1 : List ((Int) × (Ty91)))  :
    Fn Tryz.prog W 9 [.pointer (some ⟨b0, 0, none⟩)] [obj b0 58 [.map (some m0_0), .map (some m0_1)], mapO m0_0 enc9 enc9 x0_0, mapO m0_1 enc3 enc69 x0_1] F (kv_Store_Snapshot.f k x0_0 x0_1) (fun (r : List UInt8) (y : Option Addr × Nat) => .slice y.1 r.length y.2) (fun r y => [Row 5 1 y.1 r.length y.2 (encB r), obj b0 58 [.map (some m0_0), .map (some m0_1)], mapO m0_0 enc9 enc9 x0_0, mapO m0_1 enc3 enc69 x0_1]) := by
 unfold kv_Store_Snapshot.f
 refine fn_introM 67 Tryz.func9 rfl Tryz.ntmps9 rfl ?_
 refine sr ?_
 refine va rfl rfl (nx ?_)
 refine simL_bind (fun s1v hs2v => ?_)
 refine simL_eff (re_call (vs := []) (cap := []) (A := []) (rst := [obj b0 58 [.map (some m0_0), .map (some m0_1)], mapO m0_0 enc9 enc9 x0_0, mapO m0_1 enc3 enc69 x0_1, F]) rfl rfl rfl rfl rfl rfl Tryz.call24 (.sel 0 rfl (.sel 0 rfl (.sel 0 rfl (.sel 0 rfl (.nil _))))) (wire_NewWriter.calls _ _  ) hs2v) rfl rfl rfl ?_
 intro y3v
 refine simL_eff (re_alloc rfl Tryz.zeroValue59 rfl) rfl rfl rfl ?_
 intro b4v
 refine simL_do (re_store 0 rfl rfl rfl Tryz.sizeOf59 rfl rfl (one_of (by rfl)) rfl rfl) rfl rfl ?_
 intro _
 refine simL_nil (nrm_then (sim_seq ?_))
 refine sim_bind (fun s5v hs6v => ?_)
 refine sim_draw (Γ := (Option Addr × Nat)) (none, 0) [[], [], [1], [1, 2], [1, 2, 3], [1, 2, 3, 4], rL 6] [6] [0, 1, 2, 3, 4, 5] (fun i => [[0], [0], [0], [0], [0], [0], []].getD i []) (fun i => [[], [], [], [], [], [], rL 6].getD i []) (fun γ i => [.pointer (some ⟨y3v.1, 0, none⟩), .pointer (some ⟨b0, 0, none⟩), .pointer (some ⟨b0, 0, none⟩), .pointer (some ⟨b0, 0, none⟩), .map (some m0_0), .int .i64 (x0_0.length : Int), .tuple #[]].getD i undef) (fun j γ => [[obj b4v 59 [.pointer (some ⟨y3v.1, 0, none⟩)], obj y3v.1 108 [.slice y3v.2.1 s1v.1.length y3v.2.2, .int .i64 s1v.2], Row 5 1 y3v.2.1 s1v.1.length y3v.2.2 (encB s1v.1), obj b0 58 [.map (some m0_0), .map (some m0_1)], mapO m0_0 enc9 enc9 x0_0, mapO m0_1 enc3 enc69 x0_1, F], [obj y3v.1 108 [.slice γ.1 s5v.1.length γ.2, .int .i64 s5v.2], Row 5 1 γ.1 s5v.1.length γ.2 (encB s5v.1), obj b4v 59 [.pointer (some ⟨y3v.1, 0, none⟩)], obj b0 58 [.map (some m0_0), .map (some m0_1)], mapO m0_0 enc9 enc9 x0_0, mapO m0_1 enc3 enc69 x0_1, F]].getD j []) (fun γ => [(0, .pointer (some ⟨b0, 0, none⟩)), (3, .pointer (some ⟨b4v, 0, none⟩))]) mixed (by decide) (by decide) (by decide) (by decide) (by decide) (by decide) (by decide) 67 rfl (by decide) (by decide) (by decide) (Ent.refl _) ?_ ?_ (fun _ => ⟨rfl, rfl, trivial⟩) ?_
 exact (aq rfl (fun γ => qp rfl rfl (.o (s := 3) rfl (by decide) .nil) (q_load rfl rfl Tryz.isAgg59 (.obj 0 rfl rfl)) rfl) (aq rfl (fun γ => qm rfl (.o (s := 0) rfl (by decide) .nil) rfl) (aq rfl (fun γ => qp rfl rfl (.v 1 rfl rfl .nil) (q_nil rfl rfl) rfl) (aq rfl (fun γ => qp rfl rfl (.v 2 rfl rfl .nil) (q_fa rfl rfl Tryz.underlying58 rfl rfl Tryz.sizeOf55 rfl) rfl) (aq rfl (fun γ => qp rfl rfl (.v 3 rfl rfl .nil) (q_load rfl rfl Tryz.isAgg55 (.obj 3 rfl rfl)) rfl) (aq rfl (fun γ => qp rfl rfl (.v 4 rfl rfl .nil) (q_mlen 4 rfl rfl rfl Tryz.underlying55 rfl) rfl) zA))))))
 exact (ac (fun γ => eo (Z := Option Addr × Nat) (fun z => z) rfl rfl (.v 0 rfl rfl (.v 5 rfl rfl .nil)) (re_call (vs := [.pointer (some ⟨y3v.1, 0, none⟩), .int .i64 (x0_0.length : Int)]) (cap := []) (A := [obj y3v.1 108 [.slice y3v.2.1 s1v.1.length y3v.2.2, .int .i64 s1v.2], Row 5 1 y3v.2.1 s1v.1.length y3v.2.2 (encB s1v.1)]) (rst := [obj b4v 59 [.pointer (some ⟨y3v.1, 0, none⟩)], obj b0 58 [.map (some m0_0), .map (some m0_1)], mapO m0_0 enc9 enc9 x0_0, mapO m0_1 enc3 enc69 x0_1, F]) rfl rfl rfl rfl rfl rfl Tryz.call25 (.sel 1 rfl (.sel 1 rfl (.sel 0 rfl (.sel 0 rfl (.sel 0 rfl (.sel 0 rfl (.sel 0 rfl (.nil _)))))))) (wire_Writer_Int.calls _ _ k y3v.1 y3v.2.1 y3v.2.2 s1v.1 s1v.2 (x0_0.length : Int) ) hs6v) (fun _ => ⟨rfl, rfl, rfl, rfl, rfl, rfl, trivial⟩) (fun _ => .inr rfl) (fun z => Ent.refl _)) zA)
 intro g8v
 refine nrm_then (sim_seq (sr ?_))
 refine vm rfl rfl ?_
 refine simL_bind (fun s9v hs10v => ?_)
 refine simL_eff (re_call (vs := [.pointer (some ⟨b0, 0, none⟩)]) (cap := []) (A := []) (rst := [obj y3v.1 108 [.slice g8v.1 s5v.1.length g8v.2, .int .i64 s5v.2], Row 5 1 g8v.1 s5v.1.length g8v.2 (encB s5v.1), obj b4v 59 [.pointer (some ⟨y3v.1, 0, none⟩)], obj b0 58 [.map (some m0_0), .map (some m0_1)], mapO m0_0 enc9 enc9 x0_0, mapO m0_1 enc3 enc69 x0_1, F]) rfl rfl rfl rfl rfl rfl Tryz.call26 (.sel 0 rfl (.sel 0 rfl (.sel 0 rfl (.sel 0 rfl (.sel 0 rfl (.sel 0 rfl (.sel 0 rfl (.nil _)))))))) (kv_Store_Each.calls _ _ b0 ) hs10v) rfl rfl rfl ?_
 intro y11v
 refine simL_nil (nrm_then ?_)
 refine sim_block ?_
 refine sim_range (S := List UInt8 × Int) (Y := Option Addr × Nat) (R' := (List UInt8 × Int)) (Y' := (Option Addr × Nat)) (ps := [20, 21]) (Cap := [obj b0 58 [.map (some m0_0), .map (some m0_1)], mapO m0_0 enc9 enc9 x0_0, mapO m0_1 enc3 enc69 x0_1, obj y11v 26 [.pointer (some ⟨b0, 0, none⟩)]]) (rst := []) (CapB := fun r y => [obj b0 58 [.map (some m0_0), .map (some m0_1)], mapO m0_0 enc9 enc9 x0_0, mapO m0_1 enc3 enc69 x0_1, obj y11v 26 [.pointer (some ⟨b0, 0, none⟩)]]) (enc := fun (x : List UInt8 × List UInt8) => [str x.1, str x.2]) (oN := kv_Store_Each_1_s.f k (fun (s13v : List UInt8 × Int) (x12v : List UInt8 × List UInt8) => (wire_Writer_Text.f k s13v.1 s13v.2 x12v.1 (64 : Int)).bind fun s15v => ((wire_Writer_Text.f k s15v.1 s15v.2 x12v.2 (1024 : Int)).bind fun s18v => (some (s18v.1, s18v.2)))) (s5v.1, s5v.2) x0_0 x0_1) (fun s y => [obj y3v.1 108 [.slice y.1 s.1.length y.2, .int .i64 s.2], obj b4v 59 [.pointer (some ⟨y3v.1, 0, none⟩)], Row 5 1 y.1 s.1.length y.2 (encB s.1), F]) (s5v.1, s5v.2) (g8v.1, g8v.2) (fun s13v x12v y14v => [(3, .pointer (some ⟨b4v, 0, none⟩)), (4, str x12v.1), (5, str x12v.2)]) (fun r => r) (fun r y => y) rfl rfl Tryz.call51 (fun l A hY X => kv_Store_Each_1_s.calls _ _ k _ _ l _ A _ _ y11v b0 m0_0 x0_0 m0_1 x0_1 hY) rfl (fun _ => rfl) (.sel 1 rfl (.sel 2 rfl (.sel 1 rfl (.sel 4 rfl (.sel 1 rfl (.sel 1 rfl (.sel 1 rfl (.sel 0 rfl (.nil _))))))))) ?_ ?_ ?_
 intro l s13v x12v y14v Fr
 refine sim_ent (H' := [obj y3v.1 108 [.slice y14v.1 s13v.1.length y14v.2, .int .i64 s13v.2], obj b4v 59 [.pointer (some ⟨y3v.1, 0, none⟩)], Row 5 1 y14v.1 s13v.1.length y14v.2 (encB s13v.1), F, Fr]) (Ent.refl _) ?_
 refine sr ?_
 refine va rfl rfl (ny ?_)
 refine va rfl rfl (simL_nil ?_)
 exact nrm_cut () ⟨rfl, rfl, rfl, trivial⟩ (Ent.refl _)
 intro l s13v x12v y14v Fr
 refine sim_ent (H' := [obj y3v.1 108 [.slice y14v.1 s13v.1.length y14v.2, .int .i64 s13v.2], obj b4v 59 [.pointer (some ⟨y3v.1, 0, none⟩)], Row 5 1 y14v.1 s13v.1.length y14v.2 (encB s13v.1), F, Fr]) (Ent.refl _) ?_
 refine sim_block ?_
 refine sr ?_
 refine vq (q_load rfl rfl Tryz.isAgg59 (.obj 1 rfl rfl)) rfl ?_
 refine vm rfl rfl ?_
 refine simL_bind (fun s15v hs16v => ?_)
 refine simL_eff (re_call (vs := [.pointer (some ⟨y3v.1, 0, none⟩), str x12v.1, .int .i64 64]) (cap := []) (A := [obj y3v.1 108 [.slice y14v.1 s13v.1.length y14v.2, .int .i64 s13v.2], Row 5 1 y14v.1 s13v.1.length y14v.2 (encB s13v.1)]) (rst := [obj b4v 59 [.pointer (some ⟨y3v.1, 0, none⟩)], F, Fr]) rfl rfl rfl rfl rfl rfl Tryz.call27 (.sel 0 rfl (.sel 1 rfl (.sel 0 rfl (.sel 0 rfl (.sel 0 rfl (.nil _)))))) (wire_Writer_Text.calls _ _ k y3v.1 y14v.1 y14v.2 s13v.1 s13v.2 x12v.1 (64 : Int) ) hs16v) rfl rfl rfl ?_
 intro y17v
 refine ny ?_
 refine vq (q_load rfl rfl Tryz.isAgg59 (.obj 2 rfl rfl)) rfl ?_
 refine vm rfl rfl ?_
 refine simL_bind (fun s18v hs19v => ?_)
 refine simL_eff (re_call (vs := [.pointer (some ⟨y3v.1, 0, none⟩), str x12v.2, .int .i64 1024]) (cap := []) (A := [obj y3v.1 108 [.slice y17v.1 s15v.1.length y17v.2, .int .i64 s15v.2], Row 5 1 y17v.1 s15v.1.length y17v.2 (encB s15v.1)]) (rst := [obj b4v 59 [.pointer (some ⟨y3v.1, 0, none⟩)], F, Fr]) rfl rfl rfl rfl rfl rfl Tryz.call27 (.sel 0 rfl (.sel 0 rfl (.sel 0 rfl (.sel 0 rfl (.sel 0 rfl (.nil _)))))) (wire_Writer_Text.calls _ _ k y3v.1 y17v.1 y17v.2 s15v.1 s15v.2 x12v.2 (1024 : Int) ) hs19v) rfl rfl rfl ?_
 intro y20v
 refine simL_nil (nrm_block ?_)
 exact nrm_cut (s := (s18v.1, s18v.2)) (y20v.1, y20v.2) trivial (.sel 0 rfl (.sel 1 rfl (.sel 0 rfl (.sel 0 rfl (.sel 0 rfl (.nil _))))))
 intro D23v s21v y22v
 refine nrm_ent (H' := [shutD D23v, obj y3v.1 108 [.slice y22v.1 s21v.1.length y22v.2, .int .i64 s21v.2], obj b4v 59 [.pointer (some ⟨y3v.1, 0, none⟩)], Row 5 1 y22v.1 s21v.1.length y22v.2 (encB s21v.1), F, obj b0 58 [.map (some m0_0), .map (some m0_1)], mapO m0_0 enc9 enc9 x0_0, mapO m0_1 enc3 enc69 x0_1, obj y11v 26 [.pointer (some ⟨b0, 0, none⟩)]]) (Ent.refl _) ?_
 refine nrm_block (nrm_then (sim_seq ?_))
 refine sim_bind (fun s24v hs25v => ?_)
 refine sim_draw (Γ := (Option Addr × Nat)) (none, 0) [[], [], [1], [1, 2], [1, 2, 3], [1, 2, 3, 4], rL 6] [6] [0, 1, 2, 3, 4, 5] (fun i => [[0], [0], [0], [0], [0], [0], []].getD i []) (fun i => [[], [], [], [], [], [], rL 6].getD i []) (fun γ i => [.pointer (some ⟨y3v.1, 0, none⟩), .pointer (some ⟨b0, 0, none⟩), .pointer (some ⟨b0, 0, none⟩), .pointer (some ⟨b0, 1, none⟩), .map (some m0_1), .int .i64 (x0_1.length : Int), .tuple #[]].getD i undef) (fun j γ => [[shutD D23v, obj y3v.1 108 [.slice y22v.1 s21v.1.length y22v.2, .int .i64 s21v.2], obj b4v 59 [.pointer (some ⟨y3v.1, 0, none⟩)], Row 5 1 y22v.1 s21v.1.length y22v.2 (encB s21v.1), F, obj b0 58 [.map (some m0_0), .map (some m0_1)], mapO m0_0 enc9 enc9 x0_0, mapO m0_1 enc3 enc69 x0_1, obj y11v 26 [.pointer (some ⟨b0, 0, none⟩)]], [obj y3v.1 108 [.slice γ.1 s24v.1.length γ.2, .int .i64 s24v.2], Row 5 1 γ.1 s24v.1.length γ.2 (encB s24v.1), shutD D23v, obj b4v 59 [.pointer (some ⟨y3v.1, 0, none⟩)], F, obj b0 58 [.map (some m0_0), .map (some m0_1)], mapO m0_0 enc9 enc9 x0_0, mapO m0_1 enc3 enc69 x0_1, obj y11v 26 [.pointer (some ⟨b0, 0, none⟩)]]].getD j []) (fun γ => [(0, .pointer (some ⟨b0, 0, none⟩)), (3, .pointer (some ⟨b4v, 0, none⟩))]) mixed (by decide) (by decide) (by decide) (by decide) (by decide) (by decide) (by decide) 67 rfl (by decide) (by decide) (by decide) (Ent.refl _) ?_ ?_ (fun _ => ⟨rfl, rfl, trivial⟩) ?_
 exact (aq rfl (fun γ => qp rfl rfl (.o (s := 3) rfl (by decide) .nil) (q_load rfl rfl Tryz.isAgg59 (.obj 2 rfl rfl)) rfl) (aq rfl (fun γ => qm rfl (.o (s := 0) rfl (by decide) .nil) rfl) (aq rfl (fun γ => qp rfl rfl (.v 1 rfl rfl .nil) (q_nil rfl rfl) rfl) (aq rfl (fun γ => qp rfl rfl (.v 2 rfl rfl .nil) (q_fa rfl rfl Tryz.underlying58 rfl rfl Tryz.sizeOf56 rfl) rfl) (aq rfl (fun γ => qp rfl rfl (.v 3 rfl rfl .nil) (q_load rfl rfl Tryz.isAgg56 (.obj 5 rfl rfl)) rfl) (aq rfl (fun γ => qp rfl rfl (.v 4 rfl rfl .nil) (q_mlen 7 rfl rfl rfl Tryz.underlying56 rfl) rfl) zA))))))
 exact (ac (fun γ => eo (Z := Option Addr × Nat) (fun z => z) rfl rfl (.v 0 rfl rfl (.v 5 rfl rfl .nil)) (re_call (vs := [.pointer (some ⟨y3v.1, 0, none⟩), .int .i64 (x0_1.length : Int)]) (cap := []) (A := [obj y3v.1 108 [.slice y22v.1 s21v.1.length y22v.2, .int .i64 s21v.2], Row 5 1 y22v.1 s21v.1.length y22v.2 (encB s21v.1)]) (rst := [shutD D23v, obj b4v 59 [.pointer (some ⟨y3v.1, 0, none⟩)], F, obj b0 58 [.map (some m0_0), .map (some m0_1)], mapO m0_0 enc9 enc9 x0_0, mapO m0_1 enc3 enc69 x0_1, obj y11v 26 [.pointer (some ⟨b0, 0, none⟩)]]) rfl rfl rfl rfl rfl rfl Tryz.call25 (.sel 1 rfl (.sel 2 rfl (.sel 0 rfl (.sel 0 rfl (.sel 0 rfl (.sel 0 rfl (.sel 0 rfl (.sel 0 rfl (.sel 0 rfl (.nil _)))))))))) (wire_Writer_Int.calls _ _ k y3v.1 y22v.1 y22v.2 s21v.1 s21v.2 (x0_1.length : Int) ) hs25v) (fun _ => ⟨rfl, rfl, rfl, rfl, rfl, rfl, trivial⟩) (fun _ => .inr rfl) (fun z => Ent.refl _)) zA)
 intro g27v
 refine nrm_then ?_
 refine sim_cut (S := List UInt8 × Int) (Option Addr × Nat) (fun s y => [(3, .pointer (some ⟨b4v, 0, none⟩))]) (fun s y => [obj b0 58 [.map (some m0_0), .map (some m0_1)], obj y3v.1 108 [.slice y.1 s.1.length y.2, .int .i64 s.2], obj b4v 59 [.pointer (some ⟨y3v.1, 0, none⟩)], mapO m0_0 enc9 enc9 x0_0, mapO m0_1 enc3 enc69 x0_1, Row 5 1 y.1 s.1.length y.2 (encB s.1), shutD D23v, F]) ?_ ?_
 refine sr ?_
 refine vm rfl rfl ?_
 refine simL_bind (fun s30v hs31v => ?_)
 refine simL_eff (re_call (vs := [.pointer (some ⟨b0, 0, none⟩)]) (cap := []) (A := [obj b0 58 [.map (some m0_0), .map (some m0_1)], mapO m0_0 enc9 enc9 x0_0, mapO m0_1 enc3 enc69 x0_1]) (rst := [obj y3v.1 108 [.slice g27v.1 s24v.1.length g27v.2, .int .i64 s24v.2], Row 5 1 g27v.1 s24v.1.length g27v.2 (encB s24v.1), shutD D23v, obj b4v 59 [.pointer (some ⟨y3v.1, 0, none⟩)], F, obj y11v 26 [.pointer (some ⟨b0, 0, none⟩)]]) rfl rfl rfl rfl rfl rfl Tryz.call28 (.sel 5 rfl (.sel 5 rfl (.sel 5 rfl (.sel 0 rfl (.sel 0 rfl (.sel 0 rfl (.sel 0 rfl (.sel 0 rfl (.sel 0 rfl (.nil _)))))))))) (kv_Store_Sessions.calls _ _ k b0 m0_0 x0_0 m0_1 x0_1 ) hs31v) rfl rfl rfl ?_
 intro y32v
 refine vq (q_len rfl rfl rfl Tryz.underlying66) rfl ?_
 refine vm rfl rfl (simL_nil (nrm_then ?_))
 refine sim_block ?_
 refine sim_loop (S := Int × List UInt8 × Int) (Option Addr × Nat) (fun k s => kv_Store_Snapshot.l0 s30v k s.1 s.2.1 s.2.2) (fun s y => [(3, .pointer (some ⟨b4v, 0, none⟩)), (36, .slice y32v.1 s30v.length y32v.2), (37, .int .i64 (s30v.length : Int)), (38, .int .i64 s.1)]) (fun s y => [obj b0 58 [.map (some m0_0), .map (some m0_1)], obj y3v.1 108 [.slice y.1 s.2.1.length y.2, .int .i64 s.2.2], obj b4v 59 [.pointer (some ⟨y3v.1, 0, none⟩)], RowV 69 4 (V69 tt) y32v.1 s30v y32v.2, mapO m0_0 enc9 enc9 x0_0, mapO m0_1 enc3 enc69 x0_1, Row 5 1 y.1 s.2.1.length y.2 (encB s.2.1), shutD D23v, F]) (fun _ => by rw [kv_Store_Snapshot.l0]) ?_ k (0, s24v.1, s24v.2) (g27v.1, g27v.2) ⟨rfl, rfl, rfl, rfl, trivial⟩ (.sel 1 rfl (.sel 3 rfl (.sel 5 rfl (.sel 0 rfl (.sel 0 rfl (.sel 0 rfl (.sel 0 rfl (.sel 0 rfl (.sel 0 rfl (.nil _))))))))))
 intro k s33v y34v
 refine sim_eq (by rw [kv_Store_Snapshot.l0]) ?_
 refine sr ?_
 refine vq (q_lss rfl rfl rfl) rfl (simL_nil (nrm_then (sim_seq ?_)))
 refine sim_cond rfl (fun h38v => ?_) (fun h39v => ?_)
 refine sim_skip ?_
 refine nrm_then (sim_seq ?_)
 refine sim_block ?_
 refine sr ?_
 refine simL_openV 3 rfl (fun rs48v hl49v => ?_)
 refine simL_ask (fun hi40v => ?_)
 refine simL_posV 3 rfl hl49v rfl (i := s33v.1.toNat) (by omega) dz91 (fun b41v b41vo r44v ha42v hV45v hlr46v hcell47v => ?_)
 obtain rfl := hV45v
 refine vq (q_idx rfl rfl rfl ha42v Tryz.underlying66 Tryz.sizeOf69 hi40v.1 hi40v.2) rfl ?_
 refine vq (q_loads rfl rfl Tryz.isAgg69 Tryz.sizeOf69 rfl (fun j v hj => hcell47v 3 rfl j v hj)) rfl ?_
 refine simL_eff (re_alloc rfl Tryz.zeroValue69 rfl) rfl rfl rfl ?_
 intro b50v
 refine simL_do (re_store 0 rfl rfl rfl Tryz.sizeOf69 rfl rfl (one_of (by rfl)) rfl rfl) rfl rfl ?_
 intro _
 refine nx ?_
 refine vq (q_load rfl rfl Tryz.isAgg59 (.obj 3 rfl rfl)) rfl ?_
 refine vq (q_fa rfl rfl Tryz.underlying69 rfl rfl Tryz.sizeOf3 rfl) rfl ?_
 refine vq (q_load rfl rfl Tryz.isAgg3 (.obj 0 rfl rfl)) rfl ?_
 refine simL_bind (fun s51v hs52v => ?_)
 refine simL_eff (re_call (vs := [.pointer (some ⟨y3v.1, 0, none⟩), .int .i64 ((s30v.getD s33v.1.toNat dz91).1)]) (cap := []) (A := [obj y3v.1 108 [.slice y34v.1 s33v.2.1.length y34v.2, .int .i64 s33v.2.2], Row 5 1 y34v.1 s33v.2.1.length y34v.2 (encB s33v.2.1)]) (rst := [obj b50v 69 [.int .i64 ((s30v.getD s33v.1.toNat dz91).1), .int .i64 ((s30v.getD s33v.1.toNat dz91).2.1), .int .i64 ((s30v.getD s33v.1.toNat dz91).2.2.1), str ((s30v.getD s33v.1.toNat dz91).2.2.2)], obj b0 58 [.map (some m0_0), .map (some m0_1)], obj b4v 59 [.pointer (some ⟨y3v.1, 0, none⟩)], Row 69 4 y32v.1 s30v.length y32v.2 rs48v.flatten, mapO m0_0 enc9 enc9 x0_0, mapO m0_1 enc3 enc69 x0_1, shutD D23v, F]) rfl rfl rfl rfl rfl rfl Tryz.call25 (.sel 2 rfl (.sel 6 rfl (.sel 0 rfl (.sel 0 rfl (.sel 0 rfl (.sel 0 rfl (.sel 0 rfl (.sel 0 rfl (.sel 0 rfl (.sel 0 rfl (.nil _))))))))))) (wire_Writer_Int.calls _ _ k y3v.1 y34v.1 y34v.2 s33v.2.1 s33v.2.2 ((s30v.getD s33v.1.toNat dz91).1) ) hs52v) rfl rfl rfl ?_
 intro y53v
 refine nx ?_
 refine vq (q_load rfl rfl Tryz.isAgg59 (.obj 4 rfl rfl)) rfl ?_
 refine vq (q_fa rfl rfl Tryz.underlying69 rfl rfl Tryz.sizeOf3 rfl) rfl ?_
 refine vq (q_load rfl rfl Tryz.isAgg3 (.obj 2 rfl rfl)) rfl ?_
 refine simL_bind (fun s54v hs55v => ?_)
 refine simL_eff (re_call (vs := [.pointer (some ⟨y3v.1, 0, none⟩), .int .i64 ((s30v.getD s33v.1.toNat dz91).2.1)]) (cap := []) (A := [obj y3v.1 108 [.slice y53v.1 s51v.1.length y53v.2, .int .i64 s51v.2], Row 5 1 y53v.1 s51v.1.length y53v.2 (encB s51v.1)]) (rst := [obj b50v 69 [.int .i64 ((s30v.getD s33v.1.toNat dz91).1), .int .i64 ((s30v.getD s33v.1.toNat dz91).2.1), .int .i64 ((s30v.getD s33v.1.toNat dz91).2.2.1), str ((s30v.getD s33v.1.toNat dz91).2.2.2)], obj b0 58 [.map (some m0_0), .map (some m0_1)], obj b4v 59 [.pointer (some ⟨y3v.1, 0, none⟩)], Row 69 4 y32v.1 s30v.length y32v.2 rs48v.flatten, mapO m0_0 enc9 enc9 x0_0, mapO m0_1 enc3 enc69 x0_1, shutD D23v, F]) rfl rfl rfl rfl rfl rfl Tryz.call25 (.sel 0 rfl (.sel 0 rfl (.sel 0 rfl (.sel 0 rfl (.sel 0 rfl (.sel 0 rfl (.sel 0 rfl (.sel 0 rfl (.sel 0 rfl (.sel 0 rfl (.nil _))))))))))) (wire_Writer_Int.calls _ _ k y3v.1 y53v.1 y53v.2 s51v.1 s51v.2 ((s30v.getD s33v.1.toNat dz91).2.1) ) hs55v) rfl rfl rfl ?_
 intro y56v
 refine nx ?_
 refine vq (q_load rfl rfl Tryz.isAgg59 (.obj 4 rfl rfl)) rfl ?_
 refine vq (q_fa rfl rfl Tryz.underlying69 rfl rfl Tryz.sizeOf45 rfl) rfl ?_
 refine vq (q_fa rfl rfl Tryz.underlying45 rfl rfl Tryz.sizeOf3 rfl) rfl ?_
 refine vq (q_load rfl rfl Tryz.isAgg3 (.obj 2 rfl rfl)) rfl ?_
 refine simL_bind (fun s57v hs58v => ?_)
 refine simL_eff (re_call (vs := [.pointer (some ⟨y3v.1, 0, none⟩), .int .i64 ((s30v.getD s33v.1.toNat dz91).2.2.1)]) (cap := []) (A := [obj y3v.1 108 [.slice y56v.1 s54v.1.length y56v.2, .int .i64 s54v.2], Row 5 1 y56v.1 s54v.1.length y56v.2 (encB s54v.1)]) (rst := [obj b50v 69 [.int .i64 ((s30v.getD s33v.1.toNat dz91).1), .int .i64 ((s30v.getD s33v.1.toNat dz91).2.1), .int .i64 ((s30v.getD s33v.1.toNat dz91).2.2.1), str ((s30v.getD s33v.1.toNat dz91).2.2.2)], obj b0 58 [.map (some m0_0), .map (some m0_1)], obj b4v 59 [.pointer (some ⟨y3v.1, 0, none⟩)], Row 69 4 y32v.1 s30v.length y32v.2 rs48v.flatten, mapO m0_0 enc9 enc9 x0_0, mapO m0_1 enc3 enc69 x0_1, shutD D23v, F]) rfl rfl rfl rfl rfl rfl Tryz.call25 (.sel 0 rfl (.sel 0 rfl (.sel 0 rfl (.sel 0 rfl (.sel 0 rfl (.sel 0 rfl (.sel 0 rfl (.sel 0 rfl (.sel 0 rfl (.sel 0 rfl (.nil _))))))))))) (wire_Writer_Int.calls _ _ k y3v.1 y56v.1 y56v.2 s54v.1 s54v.2 ((s30v.getD s33v.1.toNat dz91).2.2.1) ) hs58v) rfl rfl rfl ?_
 intro y59v
 refine ny ?_
 refine vq (q_load rfl rfl Tryz.isAgg59 (.obj 4 rfl rfl)) rfl ?_
 refine vq (q_fa rfl rfl Tryz.underlying69 rfl rfl Tryz.sizeOf45 rfl) rfl ?_
 refine vq (q_fa rfl rfl Tryz.underlying45 rfl rfl Tryz.sizeOf9 rfl) rfl ?_
 refine vq (q_load rfl rfl Tryz.isAgg9 (.obj 2 rfl rfl)) rfl ?_
 refine simL_bind (fun s60v hs61v => ?_)
 refine simL_eff (re_call (vs := [.pointer (some ⟨y3v.1, 0, none⟩), str ((s30v.getD s33v.1.toNat dz91).2.2.2), .int .i64 1024]) (cap := []) (A := [obj y3v.1 108 [.slice y59v.1 s57v.1.length y59v.2, .int .i64 s57v.2], Row 5 1 y59v.1 s57v.1.length y59v.2 (encB s57v.1)]) (rst := [obj b50v 69 [.int .i64 ((s30v.getD s33v.1.toNat dz91).1), .int .i64 ((s30v.getD s33v.1.toNat dz91).2.1), .int .i64 ((s30v.getD s33v.1.toNat dz91).2.2.1), str ((s30v.getD s33v.1.toNat dz91).2.2.2)], obj b0 58 [.map (some m0_0), .map (some m0_1)], obj b4v 59 [.pointer (some ⟨y3v.1, 0, none⟩)], Row 69 4 y32v.1 s30v.length y32v.2 rs48v.flatten, mapO m0_0 enc9 enc9 x0_0, mapO m0_1 enc3 enc69 x0_1, shutD D23v, F]) rfl rfl rfl rfl rfl rfl Tryz.call27 (.sel 0 rfl (.sel 0 rfl (.sel 0 rfl (.sel 0 rfl (.sel 0 rfl (.sel 0 rfl (.sel 0 rfl (.sel 0 rfl (.sel 0 rfl (.sel 0 rfl (.nil _))))))))))) (wire_Writer_Text.calls _ _ k y3v.1 y59v.1 y59v.2 s57v.1 s57v.2 ((s30v.getD s33v.1.toNat dz91).2.2.2) (1024 : Int) ) hs61v) rfl rfl rfl ?_
 intro y62v
 refine simL_nil (nrm_block (nrm_then (sim_region ?_)))
 refine vq (q_add rfl rfl rfl) rfl ?_
 refine vm rfl rfl (simL_nil ?_)
 exact nrm_again (s := (IntKind.i64.wrap (s33v.1 + 1), s60v.1, s60v.2)) (y62v.1, y62v.2) ⟨rfl, rfl, rfl, rfl, trivial⟩ (.sel 3 rfl (.sel 0 rfl (.sel 2 rfl (.sel' 2 rfl (RowV.mk hl49v) (.sel 2 rfl (.sel 2 rfl (.sel 0 rfl (.sel 1 rfl (.sel 1 rfl (.nil _))))))))))
 refine sim_exi ?_
 refine exi_then ?_
 refine exi_loop ?_
 refine exi_here ?_
 exact nrm_cut (s := (s33v.2.1, s33v.2.2)) (y34v.1, y34v.2) ⟨rfl, trivial⟩ (.sel 0 rfl (.sel 0 rfl (.sel 0 rfl (.sel 1 rfl (.sel 1 rfl (.sel 1 rfl (.sel 1 rfl (.sel 1 rfl (.nil _)))))))))
 intro s28v y29v
 refine sr ?_
 refine vq (q_load rfl rfl Tryz.isAgg59 (.obj 2 rfl rfl)) rfl ?_
 refine simL_bind (fun s67v hs68v => ?_)
 refine simL_lend 5 rfl (fun hq63v hq64v hq65v hq66v => ?_)
 refine simL_eff (re_call (vs := [.pointer (some ⟨y3v.1, 0, none⟩)]) (cap := []) (A := [obj y3v.1 108 [.slice y29v.1 s28v.1.length y29v.2, .int .i64 s28v.2]]) (rst := [obj b0 58 [.map (some m0_0), .map (some m0_1)], obj b4v 59 [.pointer (some ⟨y3v.1, 0, none⟩)], mapO m0_0 enc9 enc9 x0_0, mapO m0_1 enc3 enc69 x0_1, Row 5 1 y29v.1 s28v.1.length y29v.2 (encB s28v.1), shutD D23v, F]) rfl rfl rfl rfl rfl rfl Tryz.call29 (.sel 1 rfl (.sel 0 rfl (.sel 0 rfl (.sel 0 rfl (.sel 0 rfl (.sel 0 rfl (.sel 0 rfl (.sel 0 rfl (.nil _))))))))) (wire_Writer_Done.calls _ _ y3v.1 y29v.1 y29v.2 s28v.1 s28v.2 (hq63v.lend 4 rfl) hq64v hq65v) hs68v) rfl rfl rfl ?_
 intro y69v
 refine vm rfl rfl ?_
 refine vq (q_ext rfl rfl rfl) rfl ?_
 refine vq (q_ext rfl rfl rfl) rfl ?_
 refine va rfl rfl ?_
 refine va rfl rfl (nx ?_)
 refine vm rfl rfl ?_
 refine va rfl rfl (simL_nil (nrm_then (sim_rtn ?_)))
 exact rtn_fnM [D23v] (y69v.1, y69v.2) rfl rfl rfl (.sel 7 rfl (.sel 0 rfl (.sel 1 rfl (.sel 2 rfl (.sel 2 rfl (.sel 3 rfl (.nil _)))))))

def synodref1_Size.l0 : Nat → Int → Int → Option (Int)
  | 0, _, _ => none
  | k + 1, z7v, z8v => if (128 : Int) ≤ z7v then (synodref1_Size.l0 k (IntKind.i64.wrap (Int.tdiv z7v 128)) (IntKind.i64.wrap (z8v + 1))) else (some z8v)
def synodref1_Size.f (k : Nat) (x0 : Int) : Option (Int) := if ((decide (x0 < (0 : Int))) || (decide ((4611686018427387904 : Int) < x0))) = true then (some 0) else ((synodref1_Size.l0 k x0 1).bind fun s3v => (some s3v))
theorem synodref1_Size.calls (W : World) (F : HA) (k : Nat) (x0 : Int)  :
    Fn Tryz.prog W 105 [.int .i64 x0] [] F (synodref1_Size.f k x0) (fun (r : Int) (y : Unit) => .int .i64 r) (fun r y => []) := by
 unfold synodref1_Size.f
 refine fn_intro 17 Tryz.func105 rfl Tryz.ntmps105 rfl ?_
 refine sr ?_
 refine va rfl rfl (simL_nil (nrm_then (sim_seq (sr ?_))))
 refine vm rfl rfl ?_
 refine vq (q_lss rfl rfl rfl) rfl ?_
 refine vm rfl rfl ?_
 refine simL_valc (b := decide (x0 < (0 : Int))) (fun hb13v => RQ.sub (E' := [(0, .int .i64 x0)]) ⟨rfl, trivial⟩ (q_move rfl rfl)) rfl rfl rfl rfl rfl ?_
 refine simL_valc (b := decide (x0 < (0 : Int))) (fun hb12v => RQ.sub (E' := [(7, .int .i64 x0)]) ⟨lk_cv rfl hb12v, trivial⟩ (q_gtr rfl rfl rfl)) rfl rfl rfl rfl rfl ?_
 refine vq (q_or rfl rfl rfl) rfl (simL_nil (nrm_then ?_))
 refine sim_condb rfl (fun h1v => ?_) (fun h2v => ?_)
 refine sr ?_
 refine va rfl rfl (simL_nil (nrm_then (sim_rtn ?_)))
 refine rtn_then ?_
 exact rtn_fn () rfl rfl rfl (.sel 0 rfl (.nil _))
 refine sim_skip ?_
 refine nrm_then (sr ?_)
 refine va rfl rfl (simL_nil (nrm_then ?_))
 refine sim_cut (S := Int) (Unit) (fun s y => [(3, .int .i64 s)]) (fun s y => [F]) ?_ ?_
 refine sim_block ?_
 refine sim_loop (S := Int × Int) (Unit) (fun k s => synodref1_Size.l0 k s.1 s.2) (fun s y => [(0, .int .i64 s.1), (3, .int .i64 s.2)]) (fun s y => [F]) (fun _ => by rw [synodref1_Size.l0]) ?_ k (x0, 1) () ⟨rfl, rfl, trivial⟩ (.sel 0 rfl (.nil _))
 intro k s5v y6v
 refine sim_eq (by rw [synodref1_Size.l0]) ?_
 refine sim_seq (sr ?_)
 refine vm rfl rfl ?_
 refine vq (q_geq rfl rfl rfl) rfl (simL_nil (nrm_then ?_))
 refine sim_cond rfl (fun h9v => ?_) (fun h10v => ?_)
 refine sim_skip ?_
 refine nrm_then ?_
 refine sim_block ?_
 refine sr ?_
 refine vm rfl rfl ?_
 refine vq (q_quo rfl rfl rfl (by decide)) rfl ?_
 refine va rfl rfl (ny ?_)
 refine vm rfl rfl ?_
 refine vq (q_add rfl rfl rfl) rfl ?_
 refine va rfl rfl (simL_nil (nrm_block ?_))
 exact nrm_again (s := (IntKind.i64.wrap (Int.tdiv s5v.1 128), IntKind.i64.wrap (s5v.2 + 1))) () ⟨rfl, rfl, trivial⟩ (.sel 0 rfl (.nil _))
 refine sim_exi ?_
 refine exi_then ?_
 refine exi_loop ?_
 refine exi_here ?_
 exact nrm_cut (s := s5v.2) () ⟨rfl, trivial⟩ (.sel 0 rfl (.nil _))
 intro s3v y4v
 refine sr ?_
 refine vm rfl rfl ?_
 refine va rfl rfl (simL_nil (nrm_then (sim_rtn ?_)))
 exact rtn_fn () rfl rfl rfl (.sel 0 rfl (.nil _))

def synodref1_PutInt.l0 : Nat → Int → List UInt8 → Option (Int × List UInt8)
  | 0, _, _ => none
  | k + 1, z10v, z11v => if (128 : Int) ≤ z10v then (if 0 ≤ IntKind.u8.wrap (IntKind.i64.wrap ((Int.tmod z10v 128) + 128)) ∧ IntKind.u8.wrap (IntKind.i64.wrap ((Int.tmod z10v 128) + 128)) < 256 then (if (z11v.length + ([(byte (IntKind.u8.wrap (IntKind.i64.wrap ((Int.tmod z10v 128) + 128))))] : List UInt8).length) * 1 ≤ 140737488355328 then (synodref1_PutInt.l0 k (IntKind.i64.wrap (Int.tdiv z10v 128)) (z11v ++ ([(byte (IntKind.u8.wrap (IntKind.i64.wrap ((Int.tmod z10v 128) + 128))))] : List UInt8))) else none) else none) else (some (z10v, z11v))
def synodref1_PutInt.f (k : Nat) (x0 : Int) : Option (List UInt8 × Int) := (synodref1_Size.f k x0).bind fun s1v => (if s1v = (0 : Int) then (some (([] : List UInt8), 1)) else ((synodref1_PutInt.l0 k x0 ([] : List UInt8)).bind fun s6v => (if 0 ≤ IntKind.u8.wrap s6v.1 ∧ IntKind.u8.wrap s6v.1 < 256 then (if (s6v.2.length + ([(byte (IntKind.u8.wrap s6v.1))] : List UInt8).length) * 1 ≤ 140737488355328 then (some (s6v.2 ++ ([(byte (IntKind.u8.wrap s6v.1))] : List UInt8), 0)) else none) else none)))
theorem synodref1_PutInt.calls (W : World) (F : HA) (k : Nat) (x0 : Int)  :
    Fn Tryz.prog W 97 [.int .i64 x0] [] F (synodref1_PutInt.f k x0) (fun (r : List UInt8 × Int) (y : Option Addr × Nat) => .tuple #[.slice y.1 r.1.length y.2, .int .i64 r.2]) (fun r y => [Row 5 1 y.1 r.1.length y.2 (encB r.1)]) := by
 unfold synodref1_PutInt.f
 refine fn_intro 24 Tryz.func97 rfl Tryz.ntmps97 rfl ?_
 refine sr ?_
 refine va rfl rfl ?_
 refine va rfl rfl (simL_nil (nrm_then (sim_seq (sr ?_))))
 refine vm rfl rfl ?_
 refine simL_bind (fun s1v hs2v => ?_)
 refine simL_eff (re_call (vs := [.int .i64 x0]) (cap := []) (A := []) (rst := [F]) rfl rfl rfl rfl rfl rfl Tryz.call105 (.sel 0 rfl (.nil _)) (synodref1_Size.calls _ _ k x0 ) hs2v) rfl rfl rfl ?_
 intro y3v
 refine vq (q_eql rfl rfl rfl) rfl (simL_nil (nrm_then ?_))
 refine sim_cond rfl (fun h4v => ?_) (fun h5v => ?_)
 refine sr ?_
 refine va rfl rfl ?_
 refine va rfl rfl (simL_nil (nrm_then (sim_rtn ?_)))
 refine rtn_then ?_
 exact rtn_fn (none, 0) rfl rfl rfl (.row_nil (.sel 0 rfl (.nil _)))
 refine sim_skip ?_
 refine nrm_then (sr ?_)
 refine va rfl rfl (simL_nil (nrm_then ?_))
 refine sim_cut (S := Int × List UInt8) (Option Addr × Nat) (fun s y => [(0, .int .i64 s.1), (4, .slice y.1 s.2.length y.2)]) (fun s y => [Row 5 1 y.1 s.2.length y.2 (encB s.2), F]) ?_ ?_
 refine sim_block ?_
 refine sim_loop (S := Int × List UInt8) (Option Addr × Nat) (fun k s => synodref1_PutInt.l0 k s.1 s.2) (fun s y => [(0, .int .i64 s.1), (4, .slice y.1 s.2.length y.2)]) (fun s y => [Row 5 1 y.1 s.2.length y.2 (encB s.2), F]) (fun _ => by rw [synodref1_PutInt.l0]) ?_ k (x0, ([] : List UInt8)) (none, 0) ⟨rfl, rfl, trivial⟩ (.row_nil (.sel 0 rfl (.nil _)))
 intro k s8v y9v
 refine sim_eq (by rw [synodref1_PutInt.l0]) ?_
 refine sim_seq (sr ?_)
 refine vm rfl rfl ?_
 refine vq (q_geq rfl rfl rfl) rfl (simL_nil (nrm_then ?_))
 refine sim_cond rfl (fun h12v => ?_) (fun h13v => ?_)
 refine sim_skip ?_
 refine nrm_then ?_
 refine sim_block ?_
 refine sr ?_
 refine vm rfl rfl ?_
 refine vm rfl rfl ?_
 refine vq (q_rem rfl rfl rfl (by decide)) rfl ?_
 refine vq (q_add rfl rfl rfl) rfl ?_
 refine vq (q_conv rfl rfl Tryz.underlying3 Tryz.underlying5) rfl ?_
 refine simL_ask (fun hb16v => ?_)
 refine simL_eff (re_litb (cs := [.int .u8 (IntKind.u8.wrap (IntKind.i64.wrap ((Int.tmod s8v.1 128) + 128)))]) ([(byte (IntKind.u8.wrap (IntKind.i64.wrap ((Int.tmod s8v.1 128) + 128))))] : List UInt8) rfl rfl Tryz.underlying23 elt5 rfl (by kernel_rfl) rfl rfl (byte_lit1 hb16v)) rfl rfl rfl ?_
 intro b15v
 refine simL_ask (fun hb18v => ?_)
 refine simL_eff (re_appendb 1 rfl rfl rfl Tryz.underlying23 elt5 rfl (Rds.row 0 rfl) hb18v) rfl rfl rfl ?_
 intro y17v
 refine va rfl rfl (ny ?_)
 refine vm rfl rfl ?_
 refine vq (q_quo rfl rfl rfl (by decide)) rfl ?_
 refine va rfl rfl (simL_nil (nrm_block ?_))
 exact nrm_again (s := (IntKind.i64.wrap (Int.tdiv s8v.1 128), s8v.2 ++ ([(byte (IntKind.u8.wrap (IntKind.i64.wrap ((Int.tmod s8v.1 128) + 128))))] : List UInt8))) (y17v.1, y17v.2) ⟨rfl, rfl, trivial⟩ (.sel 1 rfl (.sel 1 rfl (.nil _)))
 refine sim_exi ?_
 refine exi_then ?_
 refine exi_loop ?_
 refine exi_here ?_
 exact nrm_cut (s := (s8v.1, s8v.2)) (y9v.1, y9v.2) ⟨rfl, rfl, trivial⟩ (.sel 0 rfl (.sel 0 rfl (.nil _)))
 intro s6v y7v
 refine sr ?_
 refine vm rfl rfl ?_
 refine vm rfl rfl ?_
 refine vq (q_conv rfl rfl Tryz.underlying3 Tryz.underlying5) rfl ?_
 refine simL_ask (fun hb21v => ?_)
 refine simL_eff (re_litb (cs := [.int .u8 (IntKind.u8.wrap s6v.1)]) ([(byte (IntKind.u8.wrap s6v.1))] : List UInt8) rfl rfl Tryz.underlying23 elt5 rfl (by kernel_rfl) rfl rfl (byte_lit1 hb21v)) rfl rfl rfl ?_
 intro b20v
 refine simL_ask (fun hb23v => ?_)
 refine simL_eff (re_appendb 1 rfl rfl rfl Tryz.underlying23 elt5 rfl (Rds.row 0 rfl) hb23v) rfl rfl rfl ?_
 intro y22v
 refine va rfl rfl ?_
 refine va rfl rfl (simL_nil (nrm_then (sim_rtn ?_)))
 exact rtn_fn (y22v.1, y22v.2) rfl rfl rfl (.sel 1 rfl (.sel 1 rfl (.nil _)))

def synodref1_Writer_Int.f (k : Nat) (x0_0 : List UInt8) (x0_1 : Int) (x1 : Int) : Option (List UInt8 × Int) := if x0_1 = (0 : Int) then ((synodref1_PutInt.f k x1).bind fun s3v => (if (x0_0.length + s3v.1.length) * 1 ≤ 140737488355328 then (some (x0_0 ++ s3v.1, s3v.2)) else none)) else (some (x0_0, x0_1))
theorem synodref1_Writer_Int.calls (W : World) (F : HA) (k : Nat) (b0 : Nat) (a0_0 : Option Addr) (c0_0 : Nat) (x0_0 : List UInt8) (x0_1 : Int) (x1 : Int)  :
    Fn Tryz.prog W 78 [.pointer (some ⟨b0, 0, none⟩), .int .i64 x1] [obj b0 138 [.slice a0_0 x0_0.length c0_0, .int .i64 x0_1], Row 5 1 a0_0 x0_0.length c0_0 (encB x0_0)] F (synodref1_Writer_Int.f k x0_0 x0_1 x1) (fun (r : List UInt8 × Int) (y : Option Addr × Nat) => .tuple #[]) (fun r y => [obj b0 138 [.slice y.1 r.1.length y.2, .int .i64 r.2], Row 5 1 y.1 r.1.length y.2 (encB r.1)]) := by
 unfold synodref1_Writer_Int.f
 refine fn_intro 29 Tryz.func78 rfl Tryz.ntmps78 rfl ?_
 refine sim_seq (sr ?_)
 refine vm rfl rfl ?_
 refine vn rfl rfl ?_
 refine vq (q_fa rfl rfl Tryz.underlying138 rfl rfl Tryz.sizeOf3 rfl) rfl ?_
 refine vq (q_load rfl rfl Tryz.isAgg3 (.obj 0 rfl rfl)) rfl ?_
 refine vq (q_neq rfl rfl rfl) rfl (simL_nil (nrm_then ?_))
 refine sim_condn rfl (fun h1v => ?_) (fun h2v => ?_)
 refine sim_skip ?_
 refine nrm_then (sr ?_)
 refine vm rfl rfl ?_
 refine simL_bind (fun s3v hs4v => ?_)
 refine simL_eff (re_call (vs := [.int .i64 x1]) (cap := []) (A := []) (rst := [obj b0 138 [.slice a0_0 x0_0.length c0_0, .int .i64 x0_1], Row 5 1 a0_0 x0_0.length c0_0 (encB x0_0), F]) rfl rfl rfl rfl rfl rfl Tryz.call97 (.sel 0 rfl (.sel 0 rfl (.sel 0 rfl (.nil _)))) (synodref1_PutInt.calls _ _ k x1 ) hs4v) rfl rfl rfl ?_
 intro y5v
 refine vm rfl rfl ?_
 refine vq (q_ext rfl rfl rfl) rfl ?_
 refine vq (q_ext rfl rfl rfl) rfl ?_
 refine va rfl rfl ?_
 refine va rfl rfl (nx ?_)
 refine vm rfl rfl ?_
 refine vm rfl rfl ?_
 refine vn rfl rfl ?_
 refine vq (q_fa rfl rfl Tryz.underlying138 rfl rfl Tryz.sizeOf3 rfl) rfl ?_
 refine simL_do (re_store 1 rfl rfl rfl Tryz.sizeOf3 rfl rfl (one_of (by rfl)) rfl rfl) rfl rfl ?_
 intro _
 refine ny ?_
 refine vm rfl rfl ?_
 refine vm rfl rfl ?_
 refine vn rfl rfl ?_
 refine vq (q_fa rfl rfl Tryz.underlying138 rfl rfl Tryz.sizeOf23 rfl) rfl ?_
 refine vq (q_load rfl rfl Tryz.isAgg23 (.obj 1 rfl rfl)) rfl ?_
 refine vm rfl rfl ?_
 refine simL_ask (fun hb7v => ?_)
 refine simL_eff (re_appendb 2 rfl rfl rfl Tryz.underlying23 elt5 rfl (Rds.row 0 rfl) hb7v) rfl rfl rfl ?_
 intro y6v
 refine vn rfl rfl ?_
 refine vq (q_fa rfl rfl Tryz.underlying138 rfl rfl Tryz.sizeOf23 rfl) rfl ?_
 refine simL_do (re_store 1 rfl rfl rfl Tryz.sizeOf23 rfl rfl (one_of (by rfl)) rfl rfl) rfl rfl ?_
 intro _
 refine simL_nil ?_
 exact nrm_fn (y6v.1, y6v.2) rfl rfl rfl (.sel 1 rfl (.sel 1 rfl (.sel 1 rfl (.nil _))))
 refine sim_rtn ?_
 refine rtn_then ?_
 exact rtn_fn (a0_0, c0_0) rfl rfl rfl (.sel 0 rfl (.sel 0 rfl (.sel 0 rfl (.nil _))))

def synodref1_Writer_Bytes.f (k : Nat) (x0_0 : List UInt8) (x0_1 : Int) (x1 : List UInt8) (x2 : Int) : Option (List UInt8 × Int) := if x0_1 = (0 : Int) then (if max x2 (0 : Int) < (x1.length : Int) then (some (x0_0, 3)) else ((synodref1_Writer_Int.f k x0_0 x0_1 (x1.length : Int)).bind fun s5v => (if (s5v.1.length + x1.length) * 1 ≤ 140737488355328 then (some (s5v.1 ++ x1, s5v.2)) else none))) else (some (x0_0, x0_1))
theorem synodref1_Writer_Bytes.calls (W : World) (F : HA) (k : Nat) (b0 : Nat) (a0_0 : Option Addr) (c0_0 : Nat) (x0_0 : List UInt8) (x0_1 : Int) (a1 : Option Addr) (c1 : Nat) (x1 : List UInt8) (x2 : Int) (h1 : Rd F a1 (encB x1)) (hc1 : x1.length ≤ c1) (hm1 : c1 ≤ maxLen) :
    Fn Tryz.prog W 98 [.pointer (some ⟨b0, 0, none⟩), .slice a1 x1.length c1, .int .i64 x2] [obj b0 138 [.slice a0_0 x0_0.length c0_0, .int .i64 x0_1], Row 5 1 a0_0 x0_0.length c0_0 (encB x0_0)] F (synodref1_Writer_Bytes.f k x0_0 x0_1 x1 x2) (fun (r : List UInt8 × Int) (y : Option Addr × Nat) => .tuple #[]) (fun r y => [obj b0 138 [.slice y.1 r.1.length y.2, .int .i64 r.2], Row 5 1 y.1 r.1.length y.2 (encB r.1)]) := by
 unfold synodref1_Writer_Bytes.f
 refine fn_intro 32 Tryz.func98 rfl Tryz.ntmps98 rfl ?_
 refine sim_seq (sr ?_)
 refine vm rfl rfl ?_
 refine vn rfl rfl ?_
 refine vq (q_fa rfl rfl Tryz.underlying138 rfl rfl Tryz.sizeOf3 rfl) rfl ?_
 refine vq (q_load rfl rfl Tryz.isAgg3 (.obj 0 rfl rfl)) rfl ?_
 refine vq (q_neq rfl rfl rfl) rfl (simL_nil (nrm_then ?_))
 refine sim_condn rfl (fun h1v => ?_) (fun h2v => ?_)
 refine sim_skip ?_
 refine nrm_then (sim_seq (sr ?_))
 refine vm rfl rfl ?_
 refine vq (q_len rfl rfl rfl Tryz.underlying23) rfl ?_
 refine vm rfl rfl ?_
 refine vq (q_max rfl rfl rfl) rfl ?_
 refine vq (q_gtr rfl rfl rfl) rfl (simL_nil (nrm_then ?_))
 refine sim_cond rfl (fun h3v => ?_) (fun h4v => ?_)
 refine sr ?_
 refine vm rfl rfl ?_
 refine vn rfl rfl ?_
 refine vq (q_fa rfl rfl Tryz.underlying138 rfl rfl Tryz.sizeOf3 rfl) rfl ?_
 refine simL_do (re_store 0 rfl rfl rfl Tryz.sizeOf3 rfl rfl (one_of (by rfl)) rfl rfl) rfl rfl ?_
 intro _
 refine simL_nil (nrm_then (sim_rtn ?_))
 refine rtn_then ?_
 exact rtn_fn (a0_0, c0_0) rfl rfl rfl (.sel 0 rfl (.sel 0 rfl (.sel 0 rfl (.nil _))))
 refine sim_skip ?_
 refine nrm_then (sr ?_)
 refine vm rfl rfl ?_
 refine vm rfl rfl ?_
 refine vq (q_len rfl rfl rfl Tryz.underlying23) rfl ?_
 refine simL_bind (fun s5v hs6v => ?_)
 refine simL_eff (re_call (vs := [.pointer (some ⟨b0, 0, none⟩), .int .i64 (x1.length : Int)]) (cap := []) (A := [obj b0 138 [.slice a0_0 x0_0.length c0_0, .int .i64 x0_1], Row 5 1 a0_0 x0_0.length c0_0 (encB x0_0)]) (rst := [F]) rfl rfl rfl rfl rfl rfl Tryz.call78 (.sel 0 rfl (.sel 0 rfl (.sel 0 rfl (.nil _)))) (synodref1_Writer_Int.calls _ _ k b0 a0_0 c0_0 x0_0 x0_1 (x1.length : Int) ) hs6v) rfl rfl rfl ?_
 intro y7v
 refine ny ?_
 refine vm rfl rfl ?_
 refine vm rfl rfl ?_
 refine vn rfl rfl ?_
 refine vq (q_fa rfl rfl Tryz.underlying138 rfl rfl Tryz.sizeOf23 rfl) rfl ?_
 refine vq (q_load rfl rfl Tryz.isAgg23 (.obj 0 rfl rfl)) rfl ?_
 refine vm rfl rfl ?_
 refine simL_ask (fun hb9v => ?_)
 refine simL_eff (re_appendb 1 rfl rfl rfl Tryz.underlying23 elt5 rfl (h1.rds 1 rfl) hb9v) rfl rfl rfl ?_
 intro y8v
 refine vn rfl rfl ?_
 refine vq (q_fa rfl rfl Tryz.underlying138 rfl rfl Tryz.sizeOf23 rfl) rfl ?_
 refine simL_do (re_store 0 rfl rfl rfl Tryz.sizeOf23 rfl rfl (one_of (by rfl)) rfl rfl) rfl rfl ?_
 intro _
 refine simL_nil ?_
 exact nrm_fn (y8v.1, y8v.2) rfl rfl rfl (.sel 0 rfl (.sel 0 rfl (.sel 0 rfl (.nil _))))
 refine sim_rtn ?_
 refine rtn_then ?_
 exact rtn_fn (a0_0, c0_0) rfl rfl rfl (.sel 0 rfl (.sel 0 rfl (.sel 0 rfl (.nil _))))

def synodref1_Writer_Text.f (k : Nat) (x0_0 : List UInt8) (x0_1 : Int) (x1 : List UInt8) (x2 : Int) : Option (List UInt8 × Int) := if x1.length ≤ 140737488355328 then ((synodref1_Writer_Bytes.f k x0_0 x0_1 x1 x2).bind fun s7v => (some (s7v.1, s7v.2))) else none
theorem synodref1_Writer_Text.calls (W : World) (F : HA) (k : Nat) (b0 : Nat) (a0_0 : Option Addr) (c0_0 : Nat) (x0_0 : List UInt8) (x0_1 : Int) (x1 : List UInt8) (x2 : Int)  :
    Fn Tryz.prog W 79 [.pointer (some ⟨b0, 0, none⟩), str x1, .int .i64 x2] [obj b0 138 [.slice a0_0 x0_0.length c0_0, .int .i64 x0_1], Row 5 1 a0_0 x0_0.length c0_0 (encB x0_0)] F (synodref1_Writer_Text.f k x0_0 x0_1 x1 x2) (fun (r : List UInt8 × Int) (y : Option Addr × Nat) => .tuple #[]) (fun r y => [obj b0 138 [.slice y.1 r.1.length y.2, .int .i64 r.2], Row 5 1 y.1 r.1.length y.2 (encB r.1)]) := by
 unfold synodref1_Writer_Text.f
 refine fn_intro 11 Tryz.func79 rfl Tryz.ntmps79 rfl ?_
 refine sim_region ?_
 refine vm rfl rfl ?_
 refine vm rfl rfl ?_
 refine simL_ask (fun hb2v => ?_)
 refine simL_eff (re_tobytes rfl rfl Tryz.underlying9 Tryz.underlying23 Tryz.underlying5 hb2v) rfl rfl rfl ?_
 intro y1v
 refine vm rfl rfl ?_
 refine simL_bind (fun s7v hs8v => ?_)
 refine simL_lend 0 rfl (fun hq3v hq4v hq5v hq6v => ?_)
 refine simL_eff (re_call (vs := [.pointer (some ⟨b0, 0, none⟩), .slice (some ⟨y1v.1, 0, none⟩) x1.length y1v.2, .int .i64 x2]) (cap := []) (A := [obj b0 138 [.slice a0_0 x0_0.length c0_0, .int .i64 x0_1], Row 5 1 a0_0 x0_0.length c0_0 (encB x0_0)]) (rst := [Row 5 1 (some ⟨y1v.1, 0, none⟩) x1.length y1v.2 (encB x1), F]) rfl rfl rfl rfl rfl rfl Tryz.call98 (.sel 1 rfl (.sel 1 rfl (.sel 0 rfl (.sel 0 rfl (.nil _))))) (synodref1_Writer_Bytes.calls _ _ k b0 a0_0 c0_0 x0_0 x0_1 (some ⟨y1v.1, 0, none⟩) y1v.2 x1 x2 (hq3v.lend 0 rfl) hq4v hq5v) hs8v) rfl rfl rfl ?_
 intro y9v
 refine simL_nil ?_
 exact nrm_fn (y9v.1, y9v.2) rfl rfl rfl (.sel 0 rfl (.sel 0 rfl (.sel 1 rfl (.nil _))))

def synodref1_Writer_Done.f (x0_0 : List UInt8) (x0_1 : Int) : Option (List UInt8 × Int) := if x0_1 = (0 : Int) then (some (x0_0, 0)) else (some (([] : List UInt8), x0_1))
theorem synodref1_Writer_Done.calls (W : World) (F : HA) (G : HA) (hG : Up G F) (b0 : Nat) (a0_0 : Option Addr) (c0_0 : Nat) (x0_0 : List UInt8) (x0_1 : Int) (h0_0 : Rd G a0_0 (encB x0_0)) (hc0_0 : x0_0.length ≤ c0_0) (hm0_0 : c0_0 ≤ maxLen) :
    Fn Tryz.prog W 80 [.pointer (some ⟨b0, 0, none⟩)] [obj b0 138 [.slice a0_0 x0_0.length c0_0, .int .i64 x0_1]] F (synodref1_Writer_Done.f x0_0 x0_1) (fun (r : List UInt8 × Int) (y : Option Addr × Nat) => .tuple #[.slice y.1 r.1.length y.2, .int .i64 r.2]) (fun r y => [pr (Rd (G) y.1 (encB r.1) ∧ r.1.length ≤ y.2 ∧ y.2 ≤ maxLen), obj b0 138 [.slice a0_0 x0_0.length c0_0, .int .i64 x0_1]]) := by
 unfold synodref1_Writer_Done.f
 refine fn_intro 17 Tryz.func80 rfl Tryz.ntmps80 rfl ?_
 refine sr ?_
 refine va rfl rfl ?_
 refine va rfl rfl (simL_nil (nrm_then (sim_seq (sr ?_))))
 refine vm rfl rfl ?_
 refine vn rfl rfl ?_
 refine vq (q_fa rfl rfl Tryz.underlying138 rfl rfl Tryz.sizeOf3 rfl) rfl ?_
 refine vq (q_load rfl rfl Tryz.isAgg3 (.obj 0 rfl rfl)) rfl ?_
 refine vq (q_neq rfl rfl rfl) rfl (simL_nil (nrm_then ?_))
 refine sim_condn rfl (fun h1v => ?_) (fun h2v => ?_)
 refine sim_skip ?_
 refine nrm_then (sr ?_)
 refine vm rfl rfl ?_
 refine vn rfl rfl ?_
 refine vq (q_fa rfl rfl Tryz.underlying138 rfl rfl Tryz.sizeOf23 rfl) rfl ?_
 refine vq (q_load rfl rfl Tryz.isAgg23 (.obj 0 rfl rfl)) rfl ?_
 refine va rfl rfl ?_
 refine va rfl rfl (simL_nil (nrm_then (sim_rtn ?_)))
 exact rtn_fn (a0_0, c0_0) rfl rfl rfl (.pr_in ⟨h0_0, hc0_0, hm0_0⟩ (.sel 0 rfl (.sel 0 rfl (.nil _))))
 refine sim_seq ?_
 refine sim_draw (Γ := Unit) () [[], [0], [0, 1], [0, 1, 2], [], rL 5] [] [0, 1, 2, 3, 4, 5] (fun i => [[0], [0], [0], [0], [0], [0]].getD i []) (fun i => [[], [], [], [], [], []].getD i []) (fun γ i => [.pointer (some ⟨b0, 0, none⟩), .pointer (some ⟨b0, 0, none⟩), .pointer (some ⟨b0, 1, none⟩), .int .i64 x0_1, .slice none 0 0, .int .i64 x0_1].getD i undef) (fun j γ => [[obj b0 138 [.slice a0_0 x0_0.length c0_0, .int .i64 x0_1], F]].getD j []) (fun γ => [(2, .slice none 0 0), (3, .int .i64 x0_1)]) mixed (by decide) (by decide) (by decide) (by decide) (by decide) (by decide) (by decide) 17 rfl (by decide) (by decide) (by decide) (Ent.refl _) ?_ ?_ (fun _ => ⟨rfl, rfl, trivial⟩) ?_
 exact (aq rfl (fun γ => qm rfl (.o (s := 0) rfl (by decide) .nil) rfl) (aq rfl (fun γ => qp rfl rfl (.v 0 rfl rfl .nil) (q_nil rfl rfl) rfl) (aq rfl (fun γ => qp rfl rfl (.v 1 rfl rfl .nil) (q_fa rfl rfl Tryz.underlying138 rfl rfl Tryz.sizeOf3 rfl) rfl) (aq rfl (fun γ => qp rfl rfl (.v 2 rfl rfl .nil) (q_load rfl rfl Tryz.isAgg3 (.obj 0 rfl rfl)) rfl) (aq rfl (fun γ => qp rfl rfl .nil (q_asg rfl rfl) rfl) (aq rfl (fun γ => qp rfl rfl (.v 3 rfl rfl .nil) (q_asg rfl rfl) rfl) zA))))))
 exact zA
 intro g3v
 refine nrm_then (sim_rtn ?_)
 refine rtn_then ?_
 exact rtn_fn (none, 0) rfl rfl rfl (.pr_in ⟨Rd.nil _ _, Nat.le_refl _, Nat.zero_le _⟩ (.sel 0 rfl (.sel 0 rfl (.nil _))))

def synodref1_Writer_Done_s_c0.f (xp0_0 : List UInt8) (xp0_1 : Int) : Option (List UInt8 × Int) := if xp0_1 = (0 : Int) then (some (xp0_0, 0)) else (some (([] : List UInt8), xp0_1))
theorem synodref1_Writer_Done_s_c0.calls (W : World) (F : HA) (G : HA) (hG : Up G F) (bp0 : Nat) (ap0_0 : Option Addr) (cp0_0 : Nat) (xp0_0 : List UInt8) (xp0_1 : Int) (hp0_0 : Rd G ap0_0 (encB xp0_0)) (hcp0_0 : xp0_0.length ≤ cp0_0) (hmp0_0 : cp0_0 ≤ maxLen) :
    Fn Tryz.prog W 80 [.pointer (some ⟨bp0, 0, none⟩)] [obj bp0 138 [.slice ap0_0 xp0_0.length cp0_0, .int .i64 xp0_1]] F (synodref1_Writer_Done_s_c0.f xp0_0 xp0_1) (fun (r : List UInt8 × Int) (y : Option Addr × Nat) => .tuple #[.slice y.1 r.1.length y.2, .int .i64 r.2]) (fun r y => [pr (Rd (G) y.1 (encB r.1) ∧ r.1.length ≤ y.2 ∧ y.2 ≤ maxLen), obj bp0 138 [.slice ap0_0 xp0_0.length cp0_0, .int .i64 xp0_1]]) := by
 unfold synodref1_Writer_Done_s_c0.f
 refine fn_intro 17 Tryz.func80 rfl Tryz.ntmps80 rfl ?_
 refine sr ?_
 refine va rfl rfl ?_
 refine va rfl rfl (simL_nil (nrm_then (sim_seq (sr ?_))))
 refine vm rfl rfl ?_
 refine vn rfl rfl ?_
 refine vq (q_fa rfl rfl Tryz.underlying138 rfl rfl Tryz.sizeOf3 rfl) rfl ?_
 refine vq (q_load rfl rfl Tryz.isAgg3 (.obj 0 rfl rfl)) rfl ?_
 refine vq (q_neq rfl rfl rfl) rfl (simL_nil (nrm_then ?_))
 refine sim_condn rfl (fun h1v => ?_) (fun h2v => ?_)
 refine sim_skip ?_
 refine nrm_then (sr ?_)
 refine vm rfl rfl ?_
 refine vn rfl rfl ?_
 refine vq (q_fa rfl rfl Tryz.underlying138 rfl rfl Tryz.sizeOf23 rfl) rfl ?_
 refine vq (q_load rfl rfl Tryz.isAgg23 (.obj 0 rfl rfl)) rfl ?_
 refine va rfl rfl ?_
 refine va rfl rfl (simL_nil (nrm_then (sim_rtn ?_)))
 exact rtn_fn (ap0_0, cp0_0) rfl rfl rfl (.pr_in ⟨hp0_0, hcp0_0, hmp0_0⟩ (.sel 0 rfl (.sel 0 rfl (.nil _))))
 refine sim_seq ?_
 refine sim_draw (Γ := Unit) () [[], [0], [0, 1], [0, 1, 2], [], rL 5] [] [0, 1, 2, 3, 4, 5] (fun i => [[0], [0], [0], [0], [0], [0]].getD i []) (fun i => [[], [], [], [], [], []].getD i []) (fun γ i => [.pointer (some ⟨bp0, 0, none⟩), .pointer (some ⟨bp0, 0, none⟩), .pointer (some ⟨bp0, 1, none⟩), .int .i64 xp0_1, .slice none 0 0, .int .i64 xp0_1].getD i undef) (fun j γ => [[obj bp0 138 [.slice ap0_0 xp0_0.length cp0_0, .int .i64 xp0_1], F]].getD j []) (fun γ => [(2, .slice none 0 0), (3, .int .i64 xp0_1)]) mixed (by decide) (by decide) (by decide) (by decide) (by decide) (by decide) (by decide) 17 rfl (by decide) (by decide) (by decide) (Ent.refl _) ?_ ?_ (fun _ => ⟨rfl, rfl, trivial⟩) ?_
 exact (aq rfl (fun γ => qm rfl (.o (s := 0) rfl (by decide) .nil) rfl) (aq rfl (fun γ => qp rfl rfl (.v 0 rfl rfl .nil) (q_nil rfl rfl) rfl) (aq rfl (fun γ => qp rfl rfl (.v 1 rfl rfl .nil) (q_fa rfl rfl Tryz.underlying138 rfl rfl Tryz.sizeOf3 rfl) rfl) (aq rfl (fun γ => qp rfl rfl (.v 2 rfl rfl .nil) (q_load rfl rfl Tryz.isAgg3 (.obj 0 rfl rfl)) rfl) (aq rfl (fun γ => qp rfl rfl .nil (q_asg rfl rfl) rfl) (aq rfl (fun γ => qp rfl rfl (.v 3 rfl rfl .nil) (q_asg rfl rfl) rfl) zA))))))
 exact zA
 intro g3v
 refine nrm_then (sim_rtn ?_)
 refine rtn_then ?_
 exact rtn_fn (none, 0) rfl rfl rfl (.pr_in ⟨Rd.nil _ _, Nat.le_refl _, Nat.zero_le _⟩ (.sel 0 rfl (.sel 0 rfl (.nil _))))

def synodref1_Writer_Done_s_c0p0.f (xp0_0 : List UInt8) (xp0_1 : Int) : Option (List UInt8 × Int) := if xp0_1 = (0 : Int) then (some (xp0_0, 0)) else (some (([] : List UInt8), xp0_1))
theorem synodref1_Writer_Done_s_c0p0.calls (W : World) (F : HA) (bp0 : Nat) (ap0_0 : Option Addr) (cp0_0 : Nat) (xp0_0 : List UInt8) (xp0_1 : Int)  :
    Fn Tryz.prog W 80 [.pointer (some ⟨bp0, 0, none⟩)] [obj bp0 138 [.slice ap0_0 xp0_0.length cp0_0, .int .i64 xp0_1], Row 5 1 ap0_0 xp0_0.length cp0_0 (encB xp0_0)] F (synodref1_Writer_Done_s_c0p0.f xp0_0 xp0_1) (fun (r : List UInt8 × Int) (y : Option Addr × Nat) => .tuple #[.slice y.1 r.1.length y.2, .int .i64 r.2]) (fun r y => [Row 5 1 y.1 r.1.length y.2 (encB r.1)]) := by
 unfold synodref1_Writer_Done_s_c0p0.f
 refine fn_intro 17 Tryz.func80 rfl Tryz.ntmps80 rfl ?_
 refine sr ?_
 refine va rfl rfl ?_
 refine va rfl rfl (simL_nil (nrm_then (sim_seq (sr ?_))))
 refine vm rfl rfl ?_
 refine vn rfl rfl ?_
 refine vq (q_fa rfl rfl Tryz.underlying138 rfl rfl Tryz.sizeOf3 rfl) rfl ?_
 refine vq (q_load rfl rfl Tryz.isAgg3 (.obj 0 rfl rfl)) rfl ?_
 refine vq (q_neq rfl rfl rfl) rfl (simL_nil (nrm_then ?_))
 refine sim_condn rfl (fun h1v => ?_) (fun h2v => ?_)
 refine sim_skip ?_
 refine nrm_then (sr ?_)
 refine vm rfl rfl ?_
 refine vn rfl rfl ?_
 refine vq (q_fa rfl rfl Tryz.underlying138 rfl rfl Tryz.sizeOf23 rfl) rfl ?_
 refine vq (q_load rfl rfl Tryz.isAgg23 (.obj 0 rfl rfl)) rfl ?_
 refine va rfl rfl ?_
 refine va rfl rfl (simL_nil (nrm_then (sim_rtn ?_)))
 exact rtn_fn (ap0_0, cp0_0) rfl rfl rfl (.sel 1 rfl (.sel 1 rfl (.nil _)))
 refine sim_seq ?_
 refine sim_draw (Γ := Unit) () [[], [0], [0, 1], [0, 1, 2], [], rL 5] [] [0, 1, 2, 3, 4, 5] (fun i => [[0], [0], [0], [0], [0], [0]].getD i []) (fun i => [[], [], [], [], [], []].getD i []) (fun γ i => [.pointer (some ⟨bp0, 0, none⟩), .pointer (some ⟨bp0, 0, none⟩), .pointer (some ⟨bp0, 1, none⟩), .int .i64 xp0_1, .slice none 0 0, .int .i64 xp0_1].getD i undef) (fun j γ => [[obj bp0 138 [.slice ap0_0 xp0_0.length cp0_0, .int .i64 xp0_1], Row 5 1 ap0_0 xp0_0.length cp0_0 (encB xp0_0), F]].getD j []) (fun γ => [(2, .slice none 0 0), (3, .int .i64 xp0_1)]) mixed (by decide) (by decide) (by decide) (by decide) (by decide) (by decide) (by decide) 17 rfl (by decide) (by decide) (by decide) (Ent.refl _) ?_ ?_ (fun _ => ⟨rfl, rfl, trivial⟩) ?_
 exact (aq rfl (fun γ => qm rfl (.o (s := 0) rfl (by decide) .nil) rfl) (aq rfl (fun γ => qp rfl rfl (.v 0 rfl rfl .nil) (q_nil rfl rfl) rfl) (aq rfl (fun γ => qp rfl rfl (.v 1 rfl rfl .nil) (q_fa rfl rfl Tryz.underlying138 rfl rfl Tryz.sizeOf3 rfl) rfl) (aq rfl (fun γ => qp rfl rfl (.v 2 rfl rfl .nil) (q_load rfl rfl Tryz.isAgg3 (.obj 0 rfl rfl)) rfl) (aq rfl (fun γ => qp rfl rfl .nil (q_asg rfl rfl) rfl) (aq rfl (fun γ => qp rfl rfl (.v 3 rfl rfl .nil) (q_asg rfl rfl) rfl) zA))))))
 exact zA
 intro g3v
 refine nrm_then (sim_rtn ?_)
 refine rtn_then ?_
 exact rtn_fn (none, 0) rfl rfl rfl (.row_nil (.sel 2 rfl (.nil _)))

def synodref11_Store_Snapshot.l1 (x0_1 : List (Ty91)) : Nat → Int → List UInt8 → Int → Option (List UInt8 × Int)
  | 0, _, _, _ => none
  | k + 1, z43v, z44v, z45v => if z43v < (x0_1.length : Int) then (if 0 ≤ z43v ∧ z43v < (x0_1.length : Int) then ((synodref1_Writer_Int.f k z44v z45v ((x0_1.getD z43v.toNat dz91).1)).bind fun s56v => (if 0 ≤ z43v ∧ z43v < (x0_1.length : Int) then ((synodref1_Writer_Int.f k s56v.1 s56v.2 ((x0_1.getD z43v.toNat dz91).2.1)).bind fun s67v => (if 0 ≤ z43v ∧ z43v < (x0_1.length : Int) then ((synodref1_Writer_Int.f k s67v.1 s67v.2 ((x0_1.getD z43v.toNat dz91).2.2.1)).bind fun s78v => (if 0 ≤ z43v ∧ z43v < (x0_1.length : Int) then ((synodref1_Writer_Text.f k s78v.1 s78v.2 ((x0_1.getD z43v.toNat dz91).2.2.2) (1024 : Int)).bind fun s89v => (synodref11_Store_Snapshot.l1 x0_1 k (IntKind.i64.wrap (z43v + 1)) s89v.1 s89v.2)) else none)) else none)) else none)) else none) else (some (z44v, z45v))
def synodref11_Store_Snapshot.l0 (x0_0 : List (Ty90)) : Nat → Int → List UInt8 → Int → Option (List UInt8 × Int)
  | 0, _, _, _ => none
  | k + 1, z9v, z10v, z11v => if z9v < (x0_0.length : Int) then (if 0 ≤ z9v ∧ z9v < (x0_0.length : Int) then ((synodref1_Writer_Text.f k z10v z11v ((x0_0.getD z9v.toNat dz90).1) (64 : Int)).bind fun s22v => (if 0 ≤ z9v ∧ z9v < (x0_0.length : Int) then ((synodref1_Writer_Text.f k s22v.1 s22v.2 ((x0_0.getD z9v.toNat dz90).2) (1024 : Int)).bind fun s33v => (synodref11_Store_Snapshot.l0 x0_0 k (IntKind.i64.wrap (z9v + 1)) s33v.1 s33v.2)) else none)) else none) else (some (z10v, z11v))
def synodref11_Store_Snapshot.f (k : Nat) (x0_0 : List (Ty90)) (x0_1 : List (Ty91)) : Option (List UInt8) := (synodref1_Writer_Int.f k ([] : List UInt8) (0 : Int) (x0_0.length : Int)).bind fun s2v => ((synodref11_Store_Snapshot.l0 x0_0 k 0 s2v.1 s2v.2).bind fun s5v => ((synodref1_Writer_Int.f k s5v.1 s5v.2 (x0_1.length : Int)).bind fun s36v => ((synodref11_Store_Snapshot.l1 x0_1 k 0 s36v.1 s36v.2).bind fun s39v => ((synodref1_Writer_Done_s_c0p0.f s39v.1 s39v.2).bind fun s92v => (some s92v.1)))))
theorem synodref11_Store_Snapshot.calls (W : World) (F : HA) (k : Nat) (b0 : Nat) (a0_0 : Option Addr) (c0_0 : Nat) (x0_0 : List (Ty90)) (a0_1 : Option Addr) (c0_1 : Nat) (x0_1 : List (Ty91)) (h0_0 : RdV F 2 (V90 tt) a0_0 x0_0) (hc0_0 : x0_0.length ≤ c0_0) (hm0_0 : c0_0 ≤ maxLen) (h0_1 : RdV F 4 (V91 tt) a0_1 x0_1) (hc0_1 : x0_1.length ≤ c0_1) (hm0_1 : c0_1 ≤ maxLen) :
    Fn Tryz.prog W 44 [.pointer (some ⟨b0, 0, none⟩)] [obj b0 85 [.slice a0_0 x0_0.length c0_0, .slice a0_1 x0_1.length c0_1]] F (synodref11_Store_Snapshot.f k x0_0 x0_1) (fun (r : List UInt8) (y : Option Addr × Nat) => .slice y.1 r.length y.2) (fun r y => [Row 5 1 y.1 r.length y.2 (encB r), obj b0 85 [.slice a0_0 x0_0.length c0_0, .slice a0_1 x0_1.length c0_1]]) := by
 unfold synodref11_Store_Snapshot.f
 refine fn_intro 110 Tryz.func44 rfl Tryz.ntmps44 rfl ?_
 refine sr ?_
 refine va rfl rfl (nx ?_)
 refine vq (q_build (v := .agg #[.slice none 0 0, .int .i64 0]) rfl rfl (fun _ => by kernel_rfl)) rfl ?_
 refine simL_eff (re_box rfl rfl rfl) rfl rfl rfl ?_
 intro b1v
 refine va rfl rfl (nx ?_)
 refine vm rfl rfl ?_
 refine vm rfl rfl ?_
 refine vn rfl rfl ?_
 refine vq (q_fa rfl rfl Tryz.underlying85 rfl rfl Tryz.sizeOf82 rfl) rfl ?_
 refine vq (q_load rfl rfl Tryz.isAgg82 (.obj 1 rfl rfl)) rfl ?_
 refine vq (q_len rfl rfl rfl Tryz.underlying82) rfl ?_
 refine simL_bind (fun s2v hs3v => ?_)
 refine simL_eff (re_call (vs := [.pointer (some ⟨b1v, 0, none⟩), .int .i64 (x0_0.length : Int)]) (cap := []) (A := [obj b1v 138 [.slice none 0 0, .int .i64 0], Row 5 1 none ([] : List UInt8).length 0 (encB ([] : List UInt8))]) (rst := [obj b0 85 [.slice a0_0 x0_0.length c0_0, .slice a0_1 x0_1.length c0_1], F]) rfl rfl rfl rfl rfl rfl Tryz.call78 (.sel 0 rfl (.row_nil (.sel 0 rfl (.sel 0 rfl (.nil _))))) (synodref1_Writer_Int.calls _ _ k b1v none 0 ([] : List UInt8) (0 : Int) (x0_0.length : Int) ) hs3v) rfl rfl rfl ?_
 intro y4v
 refine simL_nil (nrm_then ?_)
 refine sim_cut (S := List UInt8 × Int) (Option Addr × Nat) (fun s y => [(0, .pointer (some ⟨b0, 0, none⟩)), (3, .pointer (some ⟨b1v, 0, none⟩))]) (fun s y => [obj b1v 138 [.slice y.1 s.1.length y.2, .int .i64 s.2], obj b0 85 [.slice a0_0 x0_0.length c0_0, .slice a0_1 x0_1.length c0_1], Row 5 1 y.1 s.1.length y.2 (encB s.1), F]) ?_ ?_
 refine sr ?_
 refine va rfl rfl (simL_nil (nrm_then ?_))
 refine sim_block ?_
 refine sim_loop (S := Int × List UInt8 × Int) (Option Addr × Nat) (fun k s => synodref11_Store_Snapshot.l0 x0_0 k s.1 s.2.1 s.2.2) (fun s y => [(0, .pointer (some ⟨b0, 0, none⟩)), (3, .pointer (some ⟨b1v, 0, none⟩)), (4, .int .i64 s.1)]) (fun s y => [obj b1v 138 [.slice y.1 s.2.1.length y.2, .int .i64 s.2.2], obj b0 85 [.slice a0_0 x0_0.length c0_0, .slice a0_1 x0_1.length c0_1], Row 5 1 y.1 s.2.1.length y.2 (encB s.2.1), F]) (fun _ => by rw [synodref11_Store_Snapshot.l0]) ?_ k (0, s2v.1, s2v.2) (y4v.1, y4v.2) ⟨rfl, rfl, rfl, trivial⟩ (.sel 0 rfl (.sel 1 rfl (.sel 0 rfl (.sel 0 rfl (.nil _)))))
 intro k s7v y8v
 refine sim_eq (by rw [synodref11_Store_Snapshot.l0]) ?_
 refine sim_seq (sr ?_)
 refine vm rfl rfl ?_
 refine vm rfl rfl ?_
 refine vn rfl rfl ?_
 refine vq (q_fa rfl rfl Tryz.underlying85 rfl rfl Tryz.sizeOf82 rfl) rfl ?_
 refine vq (q_load rfl rfl Tryz.isAgg82 (.obj 1 rfl rfl)) rfl ?_
 refine vq (q_len rfl rfl rfl Tryz.underlying82) rfl ?_
 refine vq (q_lss rfl rfl rfl) rfl (simL_nil (nrm_then ?_))
 refine sim_cond rfl (fun h12v => ?_) (fun h13v => ?_)
 refine sim_skip ?_
 refine nrm_then (sim_seq ?_)
 refine sim_block ?_
 refine sr ?_
 refine vm rfl rfl ?_
 refine vm rfl rfl ?_
 refine vn rfl rfl ?_
 refine vq (q_fa rfl rfl Tryz.underlying85 rfl rfl Tryz.sizeOf82 rfl) rfl ?_
 refine vq (q_load rfl rfl Tryz.isAgg82 (.obj 1 rfl rfl)) rfl ?_
 refine vm rfl rfl ?_
 refine simL_ask (fun hi14v => ?_)
 obtain ⟨b15v, b15vo, r18v, ha16v, hV19v, hlr20v, hcell21v⟩ := RdV.pos h0_0 (Up.refl _) rfl (i := s7v.1.toNat) (by omega) dz90
 obtain rfl := hV19v
 refine vq (q_idx rfl rfl rfl ha16v Tryz.underlying82 Tryz.sizeOf90 hi14v.1 hi14v.2) rfl ?_
 refine vq (q_fa rfl rfl Tryz.underlying90 rfl rfl Tryz.sizeOf9 rfl) rfl ?_
 refine vq (q_load rfl rfl Tryz.isAgg9 (hcell21v 3 rfl 0 _ rfl)) rfl ?_
 refine simL_bind (fun s22v hs23v => ?_)
 refine simL_eff (re_call (vs := [.pointer (some ⟨b1v, 0, none⟩), str ((x0_0.getD s7v.1.toNat dz90).1), .int .i64 64]) (cap := []) (A := [obj b1v 138 [.slice y8v.1 s7v.2.1.length y8v.2, .int .i64 s7v.2.2], Row 5 1 y8v.1 s7v.2.1.length y8v.2 (encB s7v.2.1)]) (rst := [obj b0 85 [.slice a0_0 x0_0.length c0_0, .slice a0_1 x0_1.length c0_1], F]) rfl rfl rfl rfl rfl rfl Tryz.call79 (.sel 0 rfl (.sel 1 rfl (.sel 0 rfl (.sel 0 rfl (.nil _))))) (synodref1_Writer_Text.calls _ _ k b1v y8v.1 y8v.2 s7v.2.1 s7v.2.2 ((x0_0.getD s7v.1.toNat dz90).1) (64 : Int) ) hs23v) rfl rfl rfl ?_
 intro y24v
 refine ny ?_
 refine vm rfl rfl ?_
 refine vm rfl rfl ?_
 refine vn rfl rfl ?_
 refine vq (q_fa rfl rfl Tryz.underlying85 rfl rfl Tryz.sizeOf82 rfl) rfl ?_
 refine vq (q_load rfl rfl Tryz.isAgg82 (.obj 2 rfl rfl)) rfl ?_
 refine vm rfl rfl ?_
 refine simL_ask (fun hi25v => ?_)
 obtain ⟨b26v, b26vo, r29v, ha27v, hV30v, hlr31v, hcell32v⟩ := RdV.pos h0_0 (Up.refl _) rfl (i := s7v.1.toNat) (by omega) dz90
 obtain rfl := hV30v
 refine vq (q_idx rfl rfl rfl ha27v Tryz.underlying82 Tryz.sizeOf90 hi25v.1 hi25v.2) rfl ?_
 refine vq (q_fa rfl rfl Tryz.underlying90 rfl rfl Tryz.sizeOf9 rfl) rfl ?_
 refine vq (q_load rfl rfl Tryz.isAgg9 (hcell32v 3 rfl 1 _ rfl)) rfl ?_
 refine simL_bind (fun s33v hs34v => ?_)
 refine simL_eff (re_call (vs := [.pointer (some ⟨b1v, 0, none⟩), str ((x0_0.getD s7v.1.toNat dz90).2), .int .i64 1024]) (cap := []) (A := [obj b1v 138 [.slice y24v.1 s22v.1.length y24v.2, .int .i64 s22v.2], Row 5 1 y24v.1 s22v.1.length y24v.2 (encB s22v.1)]) (rst := [obj b0 85 [.slice a0_0 x0_0.length c0_0, .slice a0_1 x0_1.length c0_1], F]) rfl rfl rfl rfl rfl rfl Tryz.call79 (.sel 0 rfl (.sel 0 rfl (.sel 0 rfl (.sel 0 rfl (.nil _))))) (synodref1_Writer_Text.calls _ _ k b1v y24v.1 y24v.2 s22v.1 s22v.2 ((x0_0.getD s7v.1.toNat dz90).2) (1024 : Int) ) hs34v) rfl rfl rfl ?_
 intro y35v
 refine simL_nil (nrm_block (nrm_then (sim_region ?_)))
 refine vm rfl rfl ?_
 refine vq (q_add rfl rfl rfl) rfl ?_
 refine va rfl rfl (simL_nil ?_)
 exact nrm_again (s := (IntKind.i64.wrap (s7v.1 + 1), s33v.1, s33v.2)) (y35v.1, y35v.2) ⟨rfl, rfl, rfl, trivial⟩ (.sel 0 rfl (.sel 1 rfl (.sel 0 rfl (.sel 0 rfl (.nil _)))))
 refine sim_exi ?_
 refine exi_then ?_
 refine exi_loop ?_
 refine exi_here ?_
 exact nrm_cut (s := (s7v.2.1, s7v.2.2)) (y8v.1, y8v.2) ⟨rfl, rfl, trivial⟩ (.sel 0 rfl (.sel 0 rfl (.sel 0 rfl (.sel 0 rfl (.nil _)))))
 intro s5v y6v
 refine sr ?_
 refine vm rfl rfl ?_
 refine vm rfl rfl ?_
 refine vn rfl rfl ?_
 refine vq (q_fa rfl rfl Tryz.underlying85 rfl rfl Tryz.sizeOf83 rfl) rfl ?_
 refine vq (q_load rfl rfl Tryz.isAgg83 (.obj 1 rfl rfl)) rfl ?_
 refine vq (q_len rfl rfl rfl Tryz.underlying83) rfl ?_
 refine simL_bind (fun s36v hs37v => ?_)
 refine simL_eff (re_call (vs := [.pointer (some ⟨b1v, 0, none⟩), .int .i64 (x0_1.length : Int)]) (cap := []) (A := [obj b1v 138 [.slice y6v.1 s5v.1.length y6v.2, .int .i64 s5v.2], Row 5 1 y6v.1 s5v.1.length y6v.2 (encB s5v.1)]) (rst := [obj b0 85 [.slice a0_0 x0_0.length c0_0, .slice a0_1 x0_1.length c0_1], F]) rfl rfl rfl rfl rfl rfl Tryz.call78 (.sel 0 rfl (.sel 1 rfl (.sel 0 rfl (.sel 0 rfl (.nil _))))) (synodref1_Writer_Int.calls _ _ k b1v y6v.1 y6v.2 s5v.1 s5v.2 (x0_1.length : Int) ) hs37v) rfl rfl rfl ?_
 intro y38v
 refine simL_nil (nrm_then ?_)
 refine sim_cut (S := List UInt8 × Int) (Option Addr × Nat) (fun s y => [(3, .pointer (some ⟨b1v, 0, none⟩))]) (fun s y => [obj b1v 138 [.slice y.1 s.1.length y.2, .int .i64 s.2], obj b0 85 [.slice a0_0 x0_0.length c0_0, .slice a0_1 x0_1.length c0_1], Row 5 1 y.1 s.1.length y.2 (encB s.1), F]) ?_ ?_
 refine sr ?_
 refine va rfl rfl (simL_nil (nrm_then ?_))
 refine sim_block ?_
 refine sim_loop (S := Int × List UInt8 × Int) (Option Addr × Nat) (fun k s => synodref11_Store_Snapshot.l1 x0_1 k s.1 s.2.1 s.2.2) (fun s y => [(0, .pointer (some ⟨b0, 0, none⟩)), (3, .pointer (some ⟨b1v, 0, none⟩)), (5, .int .i64 s.1)]) (fun s y => [obj b1v 138 [.slice y.1 s.2.1.length y.2, .int .i64 s.2.2], obj b0 85 [.slice a0_0 x0_0.length c0_0, .slice a0_1 x0_1.length c0_1], Row 5 1 y.1 s.2.1.length y.2 (encB s.2.1), F]) (fun _ => by rw [synodref11_Store_Snapshot.l1]) ?_ k (0, s36v.1, s36v.2) (y38v.1, y38v.2) ⟨rfl, rfl, rfl, trivial⟩ (.sel 0 rfl (.sel 1 rfl (.sel 0 rfl (.sel 0 rfl (.nil _)))))
 intro k s41v y42v
 refine sim_eq (by rw [synodref11_Store_Snapshot.l1]) ?_
 refine sim_seq (sr ?_)
 refine vm rfl rfl ?_
 refine vm rfl rfl ?_
 refine vn rfl rfl ?_
 refine vq (q_fa rfl rfl Tryz.underlying85 rfl rfl Tryz.sizeOf83 rfl) rfl ?_
 refine vq (q_load rfl rfl Tryz.isAgg83 (.obj 1 rfl rfl)) rfl ?_
 refine vq (q_len rfl rfl rfl Tryz.underlying83) rfl ?_
 refine vq (q_lss rfl rfl rfl) rfl (simL_nil (nrm_then ?_))
 refine sim_cond rfl (fun h46v => ?_) (fun h47v => ?_)
 refine sim_skip ?_
 refine nrm_then (sim_seq ?_)
 refine sim_block ?_
 refine sr ?_
 refine vm rfl rfl ?_
 refine vm rfl rfl ?_
 refine vn rfl rfl ?_
 refine vq (q_fa rfl rfl Tryz.underlying85 rfl rfl Tryz.sizeOf83 rfl) rfl ?_
 refine vq (q_load rfl rfl Tryz.isAgg83 (.obj 1 rfl rfl)) rfl ?_
 refine vm rfl rfl ?_
 refine simL_ask (fun hi48v => ?_)
 obtain ⟨b49v, b49vo, r52v, ha50v, hV53v, hlr54v, hcell55v⟩ := RdV.pos h0_1 (Up.refl _) rfl (i := s41v.1.toNat) (by omega) dz91
 obtain rfl := hV53v
 refine vq (q_idx rfl rfl rfl ha50v Tryz.underlying83 Tryz.sizeOf91 hi48v.1 hi48v.2) rfl ?_
 refine vq (q_fa rfl rfl Tryz.underlying91 rfl rfl Tryz.sizeOf3 rfl) rfl ?_
 refine vq (q_load rfl rfl Tryz.isAgg3 (hcell55v 3 rfl 0 _ rfl)) rfl ?_
 refine simL_bind (fun s56v hs57v => ?_)
 refine simL_eff (re_call (vs := [.pointer (some ⟨b1v, 0, none⟩), .int .i64 ((x0_1.getD s41v.1.toNat dz91).1)]) (cap := []) (A := [obj b1v 138 [.slice y42v.1 s41v.2.1.length y42v.2, .int .i64 s41v.2.2], Row 5 1 y42v.1 s41v.2.1.length y42v.2 (encB s41v.2.1)]) (rst := [obj b0 85 [.slice a0_0 x0_0.length c0_0, .slice a0_1 x0_1.length c0_1], F]) rfl rfl rfl rfl rfl rfl Tryz.call78 (.sel 0 rfl (.sel 1 rfl (.sel 0 rfl (.sel 0 rfl (.nil _))))) (synodref1_Writer_Int.calls _ _ k b1v y42v.1 y42v.2 s41v.2.1 s41v.2.2 ((x0_1.getD s41v.1.toNat dz91).1) ) hs57v) rfl rfl rfl ?_
 intro y58v
 refine nx ?_
 refine vm rfl rfl ?_
 refine vm rfl rfl ?_
 refine vn rfl rfl ?_
 refine vq (q_fa rfl rfl Tryz.underlying85 rfl rfl Tryz.sizeOf83 rfl) rfl ?_
 refine vq (q_load rfl rfl Tryz.isAgg83 (.obj 2 rfl rfl)) rfl ?_
 refine vm rfl rfl ?_
 refine simL_ask (fun hi59v => ?_)
 obtain ⟨b60v, b60vo, r63v, ha61v, hV64v, hlr65v, hcell66v⟩ := RdV.pos h0_1 (Up.refl _) rfl (i := s41v.1.toNat) (by omega) dz91
 obtain rfl := hV64v
 refine vq (q_idx rfl rfl rfl ha61v Tryz.underlying83 Tryz.sizeOf91 hi59v.1 hi59v.2) rfl ?_
 refine vq (q_fa rfl rfl Tryz.underlying91 rfl rfl Tryz.sizeOf3 rfl) rfl ?_
 refine vq (q_load rfl rfl Tryz.isAgg3 (hcell66v 3 rfl 1 _ rfl)) rfl ?_
 refine simL_bind (fun s67v hs68v => ?_)
 refine simL_eff (re_call (vs := [.pointer (some ⟨b1v, 0, none⟩), .int .i64 ((x0_1.getD s41v.1.toNat dz91).2.1)]) (cap := []) (A := [obj b1v 138 [.slice y58v.1 s56v.1.length y58v.2, .int .i64 s56v.2], Row 5 1 y58v.1 s56v.1.length y58v.2 (encB s56v.1)]) (rst := [obj b0 85 [.slice a0_0 x0_0.length c0_0, .slice a0_1 x0_1.length c0_1], F]) rfl rfl rfl rfl rfl rfl Tryz.call78 (.sel 0 rfl (.sel 0 rfl (.sel 0 rfl (.sel 0 rfl (.nil _))))) (synodref1_Writer_Int.calls _ _ k b1v y58v.1 y58v.2 s56v.1 s56v.2 ((x0_1.getD s41v.1.toNat dz91).2.1) ) hs68v) rfl rfl rfl ?_
 intro y69v
 refine nx ?_
 refine vm rfl rfl ?_
 refine vm rfl rfl ?_
 refine vn rfl rfl ?_
 refine vq (q_fa rfl rfl Tryz.underlying85 rfl rfl Tryz.sizeOf83 rfl) rfl ?_
 refine vq (q_load rfl rfl Tryz.isAgg83 (.obj 2 rfl rfl)) rfl ?_
 refine vm rfl rfl ?_
 refine simL_ask (fun hi70v => ?_)
 obtain ⟨b71v, b71vo, r74v, ha72v, hV75v, hlr76v, hcell77v⟩ := RdV.pos h0_1 (Up.refl _) rfl (i := s41v.1.toNat) (by omega) dz91
 obtain rfl := hV75v
 refine vq (q_idx rfl rfl rfl ha72v Tryz.underlying83 Tryz.sizeOf91 hi70v.1 hi70v.2) rfl ?_
 refine vq (q_fa rfl rfl Tryz.underlying91 rfl rfl Tryz.sizeOf45 rfl) rfl ?_
 refine vq (q_fa rfl rfl Tryz.underlying45 rfl rfl Tryz.sizeOf3 rfl) rfl ?_
 refine vq (q_load rfl rfl Tryz.isAgg3 (hcell77v 3 rfl 2 _ rfl)) rfl ?_
 refine simL_bind (fun s78v hs79v => ?_)
 refine simL_eff (re_call (vs := [.pointer (some ⟨b1v, 0, none⟩), .int .i64 ((x0_1.getD s41v.1.toNat dz91).2.2.1)]) (cap := []) (A := [obj b1v 138 [.slice y69v.1 s67v.1.length y69v.2, .int .i64 s67v.2], Row 5 1 y69v.1 s67v.1.length y69v.2 (encB s67v.1)]) (rst := [obj b0 85 [.slice a0_0 x0_0.length c0_0, .slice a0_1 x0_1.length c0_1], F]) rfl rfl rfl rfl rfl rfl Tryz.call78 (.sel 0 rfl (.sel 0 rfl (.sel 0 rfl (.sel 0 rfl (.nil _))))) (synodref1_Writer_Int.calls _ _ k b1v y69v.1 y69v.2 s67v.1 s67v.2 ((x0_1.getD s41v.1.toNat dz91).2.2.1) ) hs79v) rfl rfl rfl ?_
 intro y80v
 refine ny ?_
 refine vm rfl rfl ?_
 refine vm rfl rfl ?_
 refine vn rfl rfl ?_
 refine vq (q_fa rfl rfl Tryz.underlying85 rfl rfl Tryz.sizeOf83 rfl) rfl ?_
 refine vq (q_load rfl rfl Tryz.isAgg83 (.obj 2 rfl rfl)) rfl ?_
 refine vm rfl rfl ?_
 refine simL_ask (fun hi81v => ?_)
 obtain ⟨b82v, b82vo, r85v, ha83v, hV86v, hlr87v, hcell88v⟩ := RdV.pos h0_1 (Up.refl _) rfl (i := s41v.1.toNat) (by omega) dz91
 obtain rfl := hV86v
 refine vq (q_idx rfl rfl rfl ha83v Tryz.underlying83 Tryz.sizeOf91 hi81v.1 hi81v.2) rfl ?_
 refine vq (q_fa rfl rfl Tryz.underlying91 rfl rfl Tryz.sizeOf45 rfl) rfl ?_
 refine vq (q_fa rfl rfl Tryz.underlying45 rfl rfl Tryz.sizeOf9 rfl) rfl ?_
 refine vq (q_load rfl rfl Tryz.isAgg9 (hcell88v 3 rfl 3 _ rfl)) rfl ?_
 refine simL_bind (fun s89v hs90v => ?_)
 refine simL_eff (re_call (vs := [.pointer (some ⟨b1v, 0, none⟩), str ((x0_1.getD s41v.1.toNat dz91).2.2.2), .int .i64 1024]) (cap := []) (A := [obj b1v 138 [.slice y80v.1 s78v.1.length y80v.2, .int .i64 s78v.2], Row 5 1 y80v.1 s78v.1.length y80v.2 (encB s78v.1)]) (rst := [obj b0 85 [.slice a0_0 x0_0.length c0_0, .slice a0_1 x0_1.length c0_1], F]) rfl rfl rfl rfl rfl rfl Tryz.call79 (.sel 0 rfl (.sel 0 rfl (.sel 0 rfl (.sel 0 rfl (.nil _))))) (synodref1_Writer_Text.calls _ _ k b1v y80v.1 y80v.2 s78v.1 s78v.2 ((x0_1.getD s41v.1.toNat dz91).2.2.2) (1024 : Int) ) hs90v) rfl rfl rfl ?_
 intro y91v
 refine simL_nil (nrm_block (nrm_then (sim_region ?_)))
 refine vm rfl rfl ?_
 refine vq (q_add rfl rfl rfl) rfl ?_
 refine va rfl rfl (simL_nil ?_)
 exact nrm_again (s := (IntKind.i64.wrap (s41v.1 + 1), s89v.1, s89v.2)) (y91v.1, y91v.2) ⟨rfl, rfl, rfl, trivial⟩ (.sel 0 rfl (.sel 1 rfl (.sel 0 rfl (.sel 0 rfl (.nil _)))))
 refine sim_exi ?_
 refine exi_then ?_
 refine exi_loop ?_
 refine exi_here ?_
 exact nrm_cut (s := (s41v.2.1, s41v.2.2)) (y42v.1, y42v.2) ⟨rfl, trivial⟩ (.sel 0 rfl (.sel 0 rfl (.sel 0 rfl (.sel 0 rfl (.nil _)))))
 intro s39v y40v
 refine sr ?_
 refine vm rfl rfl ?_
 refine simL_bind (fun s92v hs93v => ?_)
 refine simL_eff (re_call (vs := [.pointer (some ⟨b1v, 0, none⟩)]) (cap := []) (A := [obj b1v 138 [.slice y40v.1 s39v.1.length y40v.2, .int .i64 s39v.2], Row 5 1 y40v.1 s39v.1.length y40v.2 (encB s39v.1)]) (rst := [obj b0 85 [.slice a0_0 x0_0.length c0_0, .slice a0_1 x0_1.length c0_1], F]) rfl rfl rfl rfl rfl rfl Tryz.call80 (.sel 0 rfl (.sel 1 rfl (.sel 0 rfl (.sel 0 rfl (.nil _))))) (synodref1_Writer_Done_s_c0p0.calls _ _ b1v y40v.1 y40v.2 s39v.1 s39v.2 ) hs93v) rfl rfl rfl ?_
 intro y94v
 refine vm rfl rfl ?_
 refine vq (q_ext rfl rfl rfl) rfl ?_
 refine vq (q_ext rfl rfl rfl) rfl ?_
 refine va rfl rfl ?_
 refine va rfl rfl (nx ?_)
 refine vm rfl rfl ?_
 refine va rfl rfl (simL_nil (nrm_then (sim_rtn ?_)))
 exact rtn_fn (y94v.1, y94v.2) rfl rfl rfl (.sel 0 rfl (.sel 0 rfl (.sel 0 rfl (.nil _))))
end Go.Proofs.YtdaedoklkmdhcaaGreat

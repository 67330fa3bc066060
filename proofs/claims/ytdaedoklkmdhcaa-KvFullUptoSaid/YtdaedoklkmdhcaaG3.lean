/- Printed by gen.py: pure functions and the proofs that the Go functions simulate them. Conditions: as each theorem says. -/
import Derived.Test.YtdaedoklkmdhcaaG2
namespace Go.Proofs.Ytdaedoklkmdhcaa
open Go.RowKit
set_option linter.unusedVariables false
set_option linter.unusedSimpArgs false
set_option maxRecDepth 20000
set_option maxHeartbeats 2000000
def synodlaw11_Sessions.l0 (x0 : List (Int × Int × Int × List UInt8)) (x1_1 : List (Int × Int × Int × List UInt8)) : Nat → Int → Option ((Unit) ⊕ (Bool))
  | 0, _ => none
  | k + 1, z7v => if z7v < (x0.length : Int) then ((if 0 ≤ z7v ∧ z7v < (x0.length : Int) then (if 0 ≤ z7v ∧ z7v < (x1_1.length : Int) then (if (x0.getD z7v.toNat ((0 : Int), (0 : Int), (0 : Int), ([] : List UInt8))).1 = (x1_1.getD z7v.toNat ((0 : Int), (0 : Int), (0 : Int), ([] : List UInt8))).1 then (if 0 ≤ z7v ∧ z7v < (x0.length : Int) then (if 0 ≤ z7v ∧ z7v < (x1_1.length : Int) then (if (x0.getD z7v.toNat ((0 : Int), (0 : Int), (0 : Int), ([] : List UInt8))).2.1 = (x1_1.getD z7v.toNat ((0 : Int), (0 : Int), (0 : Int), ([] : List UInt8))).2.1 then (if 0 ≤ z7v ∧ z7v < (x0.length : Int) then (if 0 ≤ z7v ∧ z7v < (x1_1.length : Int) then (some (!(decide ((x0.getD z7v.toNat ((0 : Int), (0 : Int), (0 : Int), ([] : List UInt8))).2.2.1 = (x1_1.getD z7v.toNat ((0 : Int), (0 : Int), (0 : Int), ([] : List UInt8))).2.2.1) && (decide (((x0.getD z7v.toNat ((0 : Int), (0 : Int), (0 : Int), ([] : List UInt8))).2.2.2) = ((x1_1.getD z7v.toNat ((0 : Int), (0 : Int), (0 : Int), ([] : List UInt8))).2.2.2)))))) else none) else none) else (some true)) else none) else none) else (some true)) else none) else none).bind fun s10v => (if s10v = true then (some (.inr false)) else (synodlaw11_Sessions.l0 x0 x1_1 k (IntKind.i64.wrap (z7v + 1))))) else (some (.inl ()))
def synodlaw11_Sessions.f (k : Nat) (x0 : List (Int × Int × Int × List UInt8)) (x1_0 : List (List UInt8 × List UInt8)) (x1_1 : List (Int × Int × Int × List UInt8)) : Option (Bool) := if (x0.length : Int) = (x1_1.length : Int) then (orR (synodlaw11_Sessions.l0 x0 x1_1 k 0) fun s3v => (some true)) else (some false)
theorem synodlaw11_Sessions.calls (W : World) (F : HA) (k : Nat) (a0 : Option Addr) (c0 : Nat) (x0 : List (Int × Int × Int × List UInt8)) (b1 : Nat) (a1_0 : Option Addr) (c1_0 : Nat) (x1_0 : List (List UInt8 × List UInt8)) (a1_1 : Option Addr) (c1_1 : Nat) (x1_1 : List (Int × Int × Int × List UInt8)) (h0 : RdV F 4 (V42 tt) a0 x0) (hc0 : x0.length ≤ c0) (hm0 : c0 ≤ maxLen) (h1_0 : RdV F 2 (V92 tt) a1_0 x1_0) (hc1_0 : x1_0.length ≤ c1_0) (hm1_0 : c1_0 ≤ maxLen) (h1_1 : RdV F 4 (V86 tt) a1_1 x1_1) (hc1_1 : x1_1.length ≤ c1_1) (hm1_1 : c1_1 ≤ maxLen) :
    Fn Try.prog W 39 [.slice a0 x0.length c0, .pointer (some ⟨b1, 0, none⟩)] [obj b1 47 [.slice a1_0 x1_0.length c1_0, .slice a1_1 x1_1.length c1_1]] F (synodlaw11_Sessions.f k x0 x1_0 x1_1) (fun (r : Bool) (y : Unit) => .bool r) (fun r y => [obj b1 47 [.slice a1_0 x1_0.length c1_0, .slice a1_1 x1_1.length c1_1]]) := by
 unfold synodlaw11_Sessions.f
 refine fn_intro 66 Try.func39 rfl Try.ntmps39 rfl ?_
 refine sim_seq (sim_region ?_)
 refine simL_val (q_asg rfl rfl) rfl rfl rfl (simL_nil (nrm_then (sim_seq (sim_seq (sim_region ?_)))))
 refine simL_val (q_move rfl rfl) rfl rfl rfl ?_
 refine simL_val (q_len rfl rfl rfl Try.underlying39) rfl rfl rfl ?_
 refine simL_val (q_move rfl rfl) rfl rfl rfl ?_
 refine simL_val (q_nil rfl rfl) rfl rfl rfl ?_
 refine simL_val (q_fa rfl rfl Try.underlying47 rfl rfl Try.sizeOf45 rfl) rfl rfl rfl ?_
 refine simL_val (q_load rfl rfl Try.isAgg45 (.obj 0 rfl rfl)) rfl rfl rfl ?_
 refine simL_val (q_len rfl rfl rfl Try.underlying45) rfl rfl rfl ?_
 refine simL_val (q_neq rfl rfl rfl) rfl rfl rfl (simL_nil (nrm_then ?_))
 refine sim_condn rfl (fun h1v => ?_) (fun h2v => ?_)
 refine sim_skip ?_
 refine nrm_then ?_
 refine sim_cutR (S := Unit) (Unit) (fun s y => []) (fun s y => [obj b1 47 [.slice a1_0 x1_0.length c1_0, .slice a1_1 x1_1.length c1_1], F]) ?_ ?_
 refine sim_seq (sim_region ?_)
 refine simL_val (q_asg rfl rfl) rfl rfl rfl (simL_nil (nrm_then ?_))
 refine sim_block ?_
 refine sim_loop (S := Int) (Unit) (fun k s => synodlaw11_Sessions.l0 x0 x1_1 k s) (fun s y => [(0, .slice a0 x0.length c0), (1, .pointer (some ⟨b1, 0, none⟩)), (5, .int .i64 s)]) (fun s y => [obj b1 47 [.slice a1_0 x1_0.length c1_0, .slice a1_1 x1_1.length c1_1], F]) (fun _ => by rw [synodlaw11_Sessions.l0]) ?_ k 0 () ⟨rfl, rfl, rfl, trivial⟩ (.sel 0 rfl (.sel 0 rfl (.nil _)))
 intro k s5v y6v
 refine sim_eq (by rw [synodlaw11_Sessions.l0]) ?_
 refine sim_seq (sim_seq (sim_region ?_))
 refine simL_val (q_move rfl rfl) rfl rfl rfl ?_
 refine simL_val (q_move rfl rfl) rfl rfl rfl ?_
 refine simL_val (q_len rfl rfl rfl Try.underlying39) rfl rfl rfl ?_
 refine simL_val (q_lss rfl rfl rfl) rfl rfl rfl (simL_nil (nrm_then ?_))
 refine sim_cond rfl (fun h8v => ?_) (fun h9v => ?_)
 refine sim_skip ?_
 refine nrm_then (sim_seq ?_)
 refine sim_block ?_
 refine sim_cut (S := Bool) (Unit) (fun s y => [(0, .slice a0 x0.length c0), (1, .pointer (some ⟨b1, 0, none⟩)), (5, .int .i64 s5v), (65, .bool s)]) (fun s y => [obj b1 47 [.slice a1_0 x1_0.length c1_0, .slice a1_1 x1_1.length c1_1], F]) ?_ ?_
 refine sim_ask (fun hi12v => ?_)
 obtain ⟨b13v, b13vo, r16v, ha14v, hV17v, hlr18v, hcell19v⟩ := RdV.pos h0 (Up.refl _) rfl (i := s5v.toNat) (by omega) ((0 : Int), (0 : Int), (0 : Int), ([] : List UInt8))
 obtain rfl := hV17v
 refine sim_ask (fun hi20v => ?_)
 obtain ⟨b21v, b21vo, r24v, ha22v, hV25v, hlr26v, hcell27v⟩ := RdV.pos h1_1 (Up.refl _) rfl (i := s5v.toNat) (by omega) ((0 : Int), (0 : Int), (0 : Int), ([] : List UInt8))
 obtain rfl := hV25v
 refine sim_if (fun hk28v => ?_) (fun hk28v => ?_)
 refine sim_ask (fun hi30v => ?_)
 obtain ⟨b31v, b31vo, r34v, ha32v, hV35v, hlr36v, hcell37v⟩ := RdV.pos h0 (Up.refl _) rfl (i := s5v.toNat) (by omega) ((0 : Int), (0 : Int), (0 : Int), ([] : List UInt8))
 obtain rfl := hV35v
 refine sim_ask (fun hi38v => ?_)
 obtain ⟨b39v, b39vo, r42v, ha40v, hV43v, hlr44v, hcell45v⟩ := RdV.pos h1_1 (Up.refl _) rfl (i := s5v.toNat) (by omega) ((0 : Int), (0 : Int), (0 : Int), ([] : List UInt8))
 obtain rfl := hV43v
 refine sim_if (fun hk46v => ?_) (fun hk46v => ?_)
 refine sim_ask (fun hi48v => ?_)
 obtain ⟨b49v, b49vo, r52v, ha50v, hV53v, hlr54v, hcell55v⟩ := RdV.pos h0 (Up.refl _) rfl (i := s5v.toNat) (by omega) ((0 : Int), (0 : Int), (0 : Int), ([] : List UInt8))
 obtain rfl := hV53v
 refine sim_ask (fun hi56v => ?_)
 obtain ⟨b57v, b57vo, r60v, ha58v, hV61v, hlr62v, hcell63v⟩ := RdV.pos h1_1 (Up.refl _) rfl (i := s5v.toNat) (by omega) ((0 : Int), (0 : Int), (0 : Int), ([] : List UInt8))
 obtain rfl := hV61v
 refine sim_draw (Γ := Unit) () [[], [], [0, 1], [0, 1, 2], [0, 1, 2, 3], [], [5], [5, 6], [5, 6, 7], [], [5, 6, 7, 8, 9], [5, 6, 7, 8, 9, 10], [5, 6, 7, 8, 9, 10, 11], [0, 1, 2, 3, 4, 5, 6, 7, 8, 9, 10, 11, 12], [0, 1, 2, 3, 4, 5, 6, 7, 8, 9, 10, 11, 12, 13], [0, 1, 2, 3, 4, 5, 6, 7, 8, 9, 10, 11, 12, 13, 14], [0, 1, 2, 3, 4, 5, 6, 7, 8, 9, 10, 11, 12, 13, 14], [0, 1, 2, 3, 4, 5, 6, 7, 8, 9, 10, 11, 12, 13, 14, 15, 16], [0, 1, 2, 3, 4, 5, 6, 7, 8, 9, 10, 11, 12, 13, 14, 15, 16, 17], [0, 1, 2, 3, 4, 5, 6, 7, 8, 9, 10, 11, 12, 13, 14, 15, 16, 17, 18], [0, 1, 2, 3, 4, 5, 6, 7, 8, 9, 10, 11, 12, 13, 14], [0, 1, 2, 3, 4, 5, 6, 7, 8, 9, 10, 11, 12, 13, 14, 20], [0, 1, 2, 3, 4, 5, 6, 7, 8, 9, 10, 11, 12, 13, 14, 20, 21], [0, 1, 2, 3, 4, 5, 6, 7, 8, 9, 10, 11, 12, 13, 14, 20, 21, 22], [0, 1, 2, 3, 4, 5, 6, 7, 8, 9, 10, 11, 12, 13, 14], [0, 1, 2, 3, 4, 5, 6, 7, 8, 9, 10, 11, 12, 13, 14, 20, 21, 22, 23, 24], [0, 1, 2, 3, 4, 5, 6, 7, 8, 9, 10, 11, 12, 13, 14, 20, 21, 22, 23, 24, 25], [0, 1, 2, 3, 4, 5, 6, 7, 8, 9, 10, 11, 12, 13, 14, 20, 21, 22, 23, 24, 25, 26], [0, 1, 2, 3, 4, 5, 6, 7, 8, 9, 10, 11, 12, 13, 14, 15, 16, 17, 18, 19, 20, 21, 22, 23, 24, 25, 26, 27], [0, 1, 2, 3, 4, 5, 6, 7, 8, 9, 10, 11, 12, 13, 14, 15, 16, 17, 18, 19, 20, 21, 22, 23, 24, 25, 26, 27, 28], [0, 1, 2, 3, 4, 5, 6, 7, 8, 9, 10, 11, 12, 13, 14, 15, 16, 17, 18, 19, 20, 21, 22, 23, 24, 25, 26, 27, 28, 29], [0, 1, 2, 3, 4, 5, 6, 7, 8, 9, 10, 11, 12, 13, 14, 15, 16, 17, 18, 19, 20, 21, 22, 23, 24, 25, 26, 27, 28, 29, 30], [0, 1, 2, 3, 4, 5, 6, 7, 8, 9, 10, 11, 12, 13, 14, 15, 16, 17, 18, 19, 20, 21, 22, 23, 24, 25, 26, 27, 28, 29, 30], [0, 1, 2, 3, 4, 5, 6, 7, 8, 9, 10, 11, 12, 13, 14, 15, 16, 17, 18, 19, 20, 21, 22, 23, 24, 25, 26, 27, 28, 29, 30, 31, 32], [0, 1, 2, 3, 4, 5, 6, 7, 8, 9, 10, 11, 12, 13, 14, 15, 16, 17, 18, 19, 20, 21, 22, 23, 24, 25, 26, 27, 28, 29, 30, 31, 32, 33], [0, 1, 2, 3, 4, 5, 6, 7, 8, 9, 10, 11, 12, 13, 14, 15, 16, 17, 18, 19, 20, 21, 22, 23, 24, 25, 26, 27, 28, 29, 30, 31, 32, 33, 34], [0, 1, 2, 3, 4, 5, 6, 7, 8, 9, 10, 11, 12, 13, 14, 15, 16, 17, 18, 19, 20, 21, 22, 23, 24, 25, 26, 27, 28, 29, 30], [0, 1, 2, 3, 4, 5, 6, 7, 8, 9, 10, 11, 12, 13, 14, 15, 16, 17, 18, 19, 20, 21, 22, 23, 24, 25, 26, 27, 28, 29, 30, 36], [0, 1, 2, 3, 4, 5, 6, 7, 8, 9, 10, 11, 12, 13, 14, 15, 16, 17, 18, 19, 20, 21, 22, 23, 24, 25, 26, 27, 28, 29, 30, 36, 37], [0, 1, 2, 3, 4, 5, 6, 7, 8, 9, 10, 11, 12, 13, 14, 15, 16, 17, 18, 19, 20, 21, 22, 23, 24, 25, 26, 27, 28, 29, 30, 36, 37, 38], [0, 1, 2, 3, 4, 5, 6, 7, 8, 9, 10, 11, 12, 13, 14, 15, 16, 17, 18, 19, 20, 21, 22, 23, 24, 25, 26, 27, 28, 29, 30], [0, 1, 2, 3, 4, 5, 6, 7, 8, 9, 10, 11, 12, 13, 14, 15, 16, 17, 18, 19, 20, 21, 22, 23, 24, 25, 26, 27, 28, 29, 30, 36, 37, 38, 39, 40], [0, 1, 2, 3, 4, 5, 6, 7, 8, 9, 10, 11, 12, 13, 14, 15, 16, 17, 18, 19, 20, 21, 22, 23, 24, 25, 26, 27, 28, 29, 30, 36, 37, 38, 39, 40, 41], [0, 1, 2, 3, 4, 5, 6, 7, 8, 9, 10, 11, 12, 13, 14, 15, 16, 17, 18, 19, 20, 21, 22, 23, 24, 25, 26, 27, 28, 29, 30, 36, 37, 38, 39, 40, 41, 42], [0, 1, 2, 3, 4, 5, 6, 7, 8, 9, 10, 11, 12, 13, 14, 15, 16, 17, 18, 19, 20, 21, 22, 23, 24, 25, 26, 27, 28, 29, 30, 31, 32, 33, 34, 35, 36, 37, 38, 39, 40, 41, 42, 43], [0, 1, 2, 3, 4, 5, 6, 7, 8, 9, 10, 11, 12, 13, 14, 15, 16, 17, 18, 19, 20, 21, 22, 23, 24, 25, 26, 27, 28, 29, 30, 31, 32, 33, 34, 35, 36, 37, 38, 39, 40, 41, 42, 43, 44]] [] [0, 1, 2, 3, 4, 5, 6, 7, 8, 9, 10, 11, 12, 13, 14, 15, 16, 17, 18, 19, 20, 21, 22, 23, 24, 25, 26, 27, 28, 29, 30, 31, 32, 33, 34, 35, 36, 37, 38, 39, 40, 41, 42, 43, 44, 45] (fun i => [[0], [0], [0], [0], [0], [0], [0], [0], [0], [0], [0], [0], [0], [0], [0], [0], [0], [0], [0], [0], [0], [0], [0], [0], [0], [0], [0], [0], [0], [0], [0], [0], [0], [0], [0], [0], [0], [0], [0], [0], [0], [0], [0], [0], [0], [0]].getD i []) (fun i => [[], [], [], [], [], [], [], [], [], [], [], [], [], [], [], [], [], [], [], [], [], [], [], [], [], [], [], [], [], [], [], [], [], [], [], [], [], [], [], [], [], [], [], [], [], []].getD i []) (fun γ i => [.slice a0 x0.length c0, .int .i64 s5v, .pointer (some ⟨b13v, b13vo + s5v.toNat * 4, none⟩), .pointer (some ⟨b13v, b13vo + s5v.toNat * 4 + 0, none⟩), .int .i64 ((x0.getD s5v.toNat ((0 : Int), (0 : Int), (0 : Int), ([] : List UInt8))).1), .pointer (some ⟨b1, 0, none⟩), .pointer (some ⟨b1, 0, none⟩), .pointer (some ⟨b1, 1, none⟩), .slice a1_1 x1_1.length c1_1, .int .i64 s5v, .pointer (some ⟨b21v, b21vo + s5v.toNat * 4, none⟩), .pointer (some ⟨b21v, b21vo + s5v.toNat * 4 + 0, none⟩), .int .i64 ((x1_1.getD s5v.toNat ((0 : Int), (0 : Int), (0 : Int), ([] : List UInt8))).1), .bool (!decide ((x0.getD s5v.toNat ((0 : Int), (0 : Int), (0 : Int), ([] : List UInt8))).1 = (x1_1.getD s5v.toNat ((0 : Int), (0 : Int), (0 : Int), ([] : List UInt8))).1)), .bool (!decide ((x0.getD s5v.toNat ((0 : Int), (0 : Int), (0 : Int), ([] : List UInt8))).1 = (x1_1.getD s5v.toNat ((0 : Int), (0 : Int), (0 : Int), ([] : List UInt8))).1)), .slice a0 x0.length c0, .int .i64 s5v, .pointer (some ⟨b31v, b31vo + s5v.toNat * 4, none⟩), .pointer (some ⟨b31v, b31vo + s5v.toNat * 4 + 1, none⟩), .int .i64 ((x0.getD s5v.toNat ((0 : Int), (0 : Int), (0 : Int), ([] : List UInt8))).2.1), .pointer (some ⟨b1, 0, none⟩), .pointer (some ⟨b1, 0, none⟩), .pointer (some ⟨b1, 1, none⟩), .slice a1_1 x1_1.length c1_1, .int .i64 s5v, .pointer (some ⟨b39v, b39vo + s5v.toNat * 4, none⟩), .pointer (some ⟨b39v, b39vo + s5v.toNat * 4 + 1, none⟩), .int .i64 ((x1_1.getD s5v.toNat ((0 : Int), (0 : Int), (0 : Int), ([] : List UInt8))).2.1), .bool (!decide ((x0.getD s5v.toNat ((0 : Int), (0 : Int), (0 : Int), ([] : List UInt8))).2.1 = (x1_1.getD s5v.toNat ((0 : Int), (0 : Int), (0 : Int), ([] : List UInt8))).2.1)), .bool (!decide ((x0.getD s5v.toNat ((0 : Int), (0 : Int), (0 : Int), ([] : List UInt8))).2.1 = (x1_1.getD s5v.toNat ((0 : Int), (0 : Int), (0 : Int), ([] : List UInt8))).2.1)), .bool (!decide ((x0.getD s5v.toNat ((0 : Int), (0 : Int), (0 : Int), ([] : List UInt8))).2.1 = (x1_1.getD s5v.toNat ((0 : Int), (0 : Int), (0 : Int), ([] : List UInt8))).2.1)), .slice a0 x0.length c0, .int .i64 s5v, .pointer (some ⟨b49v, b49vo + s5v.toNat * 4, none⟩), .pointer (some ⟨b49v, b49vo + s5v.toNat * 4 + 2, none⟩), .agg #[.int .i64 ((x0.getD s5v.toNat ((0 : Int), (0 : Int), (0 : Int), ([] : List UInt8))).2.2.1), str ((x0.getD s5v.toNat ((0 : Int), (0 : Int), (0 : Int), ([] : List UInt8))).2.2.2)], .pointer (some ⟨b1, 0, none⟩), .pointer (some ⟨b1, 0, none⟩), .pointer (some ⟨b1, 1, none⟩), .slice a1_1 x1_1.length c1_1, .int .i64 s5v, .pointer (some ⟨b57v, b57vo + s5v.toNat * 4, none⟩), .pointer (some ⟨b57v, b57vo + s5v.toNat * 4 + 2, none⟩), .agg #[.int .i64 ((x1_1.getD s5v.toNat ((0 : Int), (0 : Int), (0 : Int), ([] : List UInt8))).2.2.1), str ((x1_1.getD s5v.toNat ((0 : Int), (0 : Int), (0 : Int), ([] : List UInt8))).2.2.2)], .bool (!(decide ((x0.getD s5v.toNat ((0 : Int), (0 : Int), (0 : Int), ([] : List UInt8))).2.2.1 = (x1_1.getD s5v.toNat ((0 : Int), (0 : Int), (0 : Int), ([] : List UInt8))).2.2.1) && (decide (((x0.getD s5v.toNat ((0 : Int), (0 : Int), (0 : Int), ([] : List UInt8))).2.2.2) = ((x1_1.getD s5v.toNat ((0 : Int), (0 : Int), (0 : Int), ([] : List UInt8))).2.2.2))))), .bool (!(decide ((x0.getD s5v.toNat ((0 : Int), (0 : Int), (0 : Int), ([] : List UInt8))).2.2.1 = (x1_1.getD s5v.toNat ((0 : Int), (0 : Int), (0 : Int), ([] : List UInt8))).2.2.1) && (decide (((x0.getD s5v.toNat ((0 : Int), (0 : Int), (0 : Int), ([] : List UInt8))).2.2.2) = ((x1_1.getD s5v.toNat ((0 : Int), (0 : Int), (0 : Int), ([] : List UInt8))).2.2.2)))))].getD i undef) (fun j γ => [[obj b1 47 [.slice a1_0 x1_0.length c1_0, .slice a1_1 x1_1.length c1_1], F]].getD j []) (fun γ => [(0, .slice a0 x0.length c0), (1, .pointer (some ⟨b1, 0, none⟩)), (5, .int .i64 s5v), (35, .slice a0 x0.length c0), (36, .int .i64 s5v), (37, .pointer (some ⟨b31v, b31vo + s5v.toNat * 4, none⟩)), (38, .pointer (some ⟨b31v, b31vo + s5v.toNat * 4 + 1, none⟩)), (39, .int .i64 ((x0.getD s5v.toNat ((0 : Int), (0 : Int), (0 : Int), ([] : List UInt8))).2.1)), (40, .pointer (some ⟨b1, 0, none⟩)), (41, .pointer (some ⟨b1, 0, none⟩)), (42, .pointer (some ⟨b1, 1, none⟩)), (43, .slice a1_1 x1_1.length c1_1), (44, .int .i64 s5v), (45, .pointer (some ⟨b39v, b39vo + s5v.toNat * 4, none⟩)), (46, .pointer (some ⟨b39v, b39vo + s5v.toNat * 4 + 1, none⟩)), (47, .int .i64 ((x1_1.getD s5v.toNat ((0 : Int), (0 : Int), (0 : Int), ([] : List UInt8))).2.1)), (48, .bool (!decide ((x0.getD s5v.toNat ((0 : Int), (0 : Int), (0 : Int), ([] : List UInt8))).2.1 = (x1_1.getD s5v.toNat ((0 : Int), (0 : Int), (0 : Int), ([] : List UInt8))).2.1))), (51, .slice a0 x0.length c0), (52, .int .i64 s5v), (53, .pointer (some ⟨b49v, b49vo + s5v.toNat * 4, none⟩)), (54, .pointer (some ⟨b49v, b49vo + s5v.toNat * 4 + 2, none⟩)), (55, .agg #[.int .i64 ((x0.getD s5v.toNat ((0 : Int), (0 : Int), (0 : Int), ([] : List UInt8))).2.2.1), str ((x0.getD s5v.toNat ((0 : Int), (0 : Int), (0 : Int), ([] : List UInt8))).2.2.2)]), (56, .pointer (some ⟨b1, 0, none⟩)), (57, .pointer (some ⟨b1, 0, none⟩)), (58, .pointer (some ⟨b1, 1, none⟩)), (59, .slice a1_1 x1_1.length c1_1), (60, .int .i64 s5v), (61, .pointer (some ⟨b57v, b57vo + s5v.toNat * 4, none⟩)), (62, .pointer (some ⟨b57v, b57vo + s5v.toNat * 4 + 2, none⟩)), (63, .agg #[.int .i64 ((x1_1.getD s5v.toNat ((0 : Int), (0 : Int), (0 : Int), ([] : List UInt8))).2.2.1), str ((x1_1.getD s5v.toNat ((0 : Int), (0 : Int), (0 : Int), ([] : List UInt8))).2.2.2)]), (64, .bool (!(decide ((x0.getD s5v.toNat ((0 : Int), (0 : Int), (0 : Int), ([] : List UInt8))).2.2.1 = (x1_1.getD s5v.toNat ((0 : Int), (0 : Int), (0 : Int), ([] : List UInt8))).2.2.1) && (decide (((x0.getD s5v.toNat ((0 : Int), (0 : Int), (0 : Int), ([] : List UInt8))).2.2.2) = ((x1_1.getD s5v.toNat ((0 : Int), (0 : Int), (0 : Int), ([] : List UInt8))).2.2.2)))))), (65, .bool (!(decide ((x0.getD s5v.toNat ((0 : Int), (0 : Int), (0 : Int), ([] : List UInt8))).2.2.1 = (x1_1.getD s5v.toNat ((0 : Int), (0 : Int), (0 : Int), ([] : List UInt8))).2.2.1) && (decide (((x0.getD s5v.toNat ((0 : Int), (0 : Int), (0 : Int), ([] : List UInt8))).2.2.2) = ((x1_1.getD s5v.toNat ((0 : Int), (0 : Int), (0 : Int), ([] : List UInt8))).2.2.2))))))]) mixed (by decide) (by decide) (by decide) (by decide) (by decide) (by decide) (by decide) 66 rfl (by decide) (by decide) (by decide) (Ent.refl _) ?_ ?_ (fun _ => ⟨rfl, rfl, rfl, rfl, rfl, rfl, rfl, rfl, rfl, rfl, rfl, rfl, rfl, rfl, rfl, rfl, rfl, rfl, rfl, rfl, rfl, rfl, rfl, rfl, rfl, rfl, rfl, rfl, rfl, rfl, rfl, rfl, trivial⟩) ?_
 exact (All.cons (fun γ => (All.cons (QOb.plain [(0, .slice a0 x0.length c0)] rfl rfl (.o rfl (by decide) .nil) (q_move rfl rfl) rfl) All.nil)) (All.cons (fun γ => (All.cons (QOb.plain [(5, .int .i64 s5v)] rfl rfl (.o rfl (by decide) .nil) (q_move rfl rfl) rfl) All.nil)) (All.cons (fun γ => (All.cons (QOb.plain [(20, .slice a0 x0.length c0), (21, .int .i64 s5v)] rfl rfl (.w 0 rfl rfl rfl (.w 1 rfl rfl rfl .nil)) (q_idx rfl rfl rfl ha14v Try.underlying39 Try.sizeOf42 hi12v.1 hi12v.2) rfl) All.nil)) (All.cons (fun γ => (All.cons (QOb.plain [(22, .pointer (some ⟨b13v, b13vo + s5v.toNat * 4, none⟩))] rfl rfl (.w 2 rfl rfl rfl .nil) (q_fa rfl rfl Try.underlying42 rfl rfl Try.sizeOf3 rfl) rfl) All.nil)) (All.cons (fun γ => (All.cons (QOb.plain [(23, .pointer (some ⟨b13v, b13vo + s5v.toNat * 4 + 0, none⟩))] rfl rfl (.w 3 rfl rfl rfl .nil) (q_load rfl rfl Try.isAgg3 (hcell19v 1 rfl 0 _ rfl)) rfl) All.nil)) (All.cons (fun γ => (All.cons (QOb.plain [(1, .pointer (some ⟨b1, 0, none⟩))] rfl rfl (.o rfl (by decide) .nil) (q_move rfl rfl) rfl) All.nil)) (All.cons (fun γ => (All.cons (QOb.plain [(25, .pointer (some ⟨b1, 0, none⟩))] rfl rfl (.w 5 rfl rfl rfl .nil) (q_nil rfl rfl) rfl) All.nil)) (All.cons (fun γ => (All.cons (QOb.plain [(26, .pointer (some ⟨b1, 0, none⟩))] rfl rfl (.w 6 rfl rfl rfl .nil) (q_fa rfl rfl Try.underlying47 rfl rfl Try.sizeOf45 rfl) rfl) All.nil)) (All.cons (fun γ => (All.cons (QOb.plain [(27, .pointer (some ⟨b1, 1, none⟩))] rfl rfl (.w 7 rfl rfl rfl .nil) (q_load rfl rfl Try.isAgg45 (.obj 0 rfl rfl)) rfl) All.nil)) (All.cons (fun γ => (All.cons (QOb.plain [(5, .int .i64 s5v)] rfl rfl (.o rfl (by decide) .nil) (q_move rfl rfl) rfl) All.nil)) (All.cons (fun γ => (All.cons (QOb.plain [(28, .slice a1_1 x1_1.length c1_1), (29, .int .i64 s5v)] rfl rfl (.w 8 rfl rfl rfl (.w 9 rfl rfl rfl .nil)) (q_idx rfl rfl rfl ha22v Try.underlying45 Try.sizeOf86 hi20v.1 hi20v.2) rfl) All.nil)) (All.cons (fun γ => (All.cons (QOb.plain [(30, .pointer (some ⟨b21v, b21vo + s5v.toNat * 4, none⟩))] rfl rfl (.w 10 rfl rfl rfl .nil) (q_fa rfl rfl Try.underlying86 rfl rfl Try.sizeOf3 rfl) rfl) All.nil)) (All.cons (fun γ => (All.cons (QOb.plain [(31, .pointer (some ⟨b21v, b21vo + s5v.toNat * 4 + 0, none⟩))] rfl rfl (.w 11 rfl rfl rfl .nil) (q_load rfl rfl Try.isAgg3 (hcell27v 1 rfl 0 _ rfl)) rfl) All.nil)) (All.cons (fun γ => (All.cons (QOb.plain [(24, .int .i64 ((x0.getD s5v.toNat ((0 : Int), (0 : Int), (0 : Int), ([] : List UInt8))).1)), (32, .int .i64 ((x1_1.getD s5v.toNat ((0 : Int), (0 : Int), (0 : Int), ([] : List UInt8))).1))] rfl rfl (.w 4 rfl rfl rfl (.w 12 rfl rfl rfl .nil)) (q_neq rfl rfl rfl) rfl) All.nil)) (All.cons (fun γ => (All.cons (QOb.plain [(33, .bool (!decide ((x0.getD s5v.toNat ((0 : Int), (0 : Int), (0 : Int), ([] : List UInt8))).1 = (x1_1.getD s5v.toNat ((0 : Int), (0 : Int), (0 : Int), ([] : List UInt8))).1)))] rfl rfl (.w 13 rfl rfl rfl .nil) (q_move rfl rfl) rfl) All.nil)) (All.cons (fun γ => (All.cons (QOb.yes (b := !decide ((x0.getD s5v.toNat ((0 : Int), (0 : Int), (0 : Int), ([] : List UInt8))).1 = (x1_1.getD s5v.toNat ((0 : Int), (0 : Int), (0 : Int), ([] : List UInt8))).1)) [(0, .slice a0 x0.length c0), (34, .bool (!decide ((x0.getD s5v.toNat ((0 : Int), (0 : Int), (0 : Int), ([] : List UInt8))).1 = (x1_1.getD s5v.toNat ((0 : Int), (0 : Int), (0 : Int), ([] : List UInt8))).1)))] rfl rfl rfl rfl (beq_no (ndec_no hk28v)) (.o rfl (by decide) (.w 14 rfl rfl rfl .nil)) (q_move rfl rfl) rfl) All.nil)) (All.cons (fun γ => (All.cons (QOb.yes (b := !decide ((x0.getD s5v.toNat ((0 : Int), (0 : Int), (0 : Int), ([] : List UInt8))).1 = (x1_1.getD s5v.toNat ((0 : Int), (0 : Int), (0 : Int), ([] : List UInt8))).1)) [(5, .int .i64 s5v), (34, .bool (!decide ((x0.getD s5v.toNat ((0 : Int), (0 : Int), (0 : Int), ([] : List UInt8))).1 = (x1_1.getD s5v.toNat ((0 : Int), (0 : Int), (0 : Int), ([] : List UInt8))).1)))] rfl rfl rfl rfl (beq_no (ndec_no hk28v)) (.o rfl (by decide) (.w 14 rfl rfl rfl .nil)) (q_move rfl rfl) rfl) All.nil)) (All.cons (fun γ => (All.cons (QOb.yes (b := !decide ((x0.getD s5v.toNat ((0 : Int), (0 : Int), (0 : Int), ([] : List UInt8))).1 = (x1_1.getD s5v.toNat ((0 : Int), (0 : Int), (0 : Int), ([] : List UInt8))).1)) [(34, .bool (!decide ((x0.getD s5v.toNat ((0 : Int), (0 : Int), (0 : Int), ([] : List UInt8))).1 = (x1_1.getD s5v.toNat ((0 : Int), (0 : Int), (0 : Int), ([] : List UInt8))).1))), (35, .slice a0 x0.length c0), (36, .int .i64 s5v)] rfl rfl rfl rfl (beq_no (ndec_no hk28v)) (.w 14 rfl rfl rfl (.w 15 rfl rfl rfl (.w 16 rfl rfl rfl .nil))) (q_idx rfl rfl rfl ha32v Try.underlying39 Try.sizeOf42 hi30v.1 hi30v.2) rfl) All.nil)) (All.cons (fun γ => (All.cons (QOb.yes (b := !decide ((x0.getD s5v.toNat ((0 : Int), (0 : Int), (0 : Int), ([] : List UInt8))).1 = (x1_1.getD s5v.toNat ((0 : Int), (0 : Int), (0 : Int), ([] : List UInt8))).1)) [(34, .bool (!decide ((x0.getD s5v.toNat ((0 : Int), (0 : Int), (0 : Int), ([] : List UInt8))).1 = (x1_1.getD s5v.toNat ((0 : Int), (0 : Int), (0 : Int), ([] : List UInt8))).1))), (37, .pointer (some ⟨b31v, b31vo + s5v.toNat * 4, none⟩))] rfl rfl rfl rfl (beq_no (ndec_no hk28v)) (.w 14 rfl rfl rfl (.w 17 rfl rfl rfl .nil)) (q_fa rfl rfl Try.underlying42 rfl rfl Try.sizeOf3 rfl) rfl) All.nil)) (All.cons (fun γ => (All.cons (QOb.yes (b := !decide ((x0.getD s5v.toNat ((0 : Int), (0 : Int), (0 : Int), ([] : List UInt8))).1 = (x1_1.getD s5v.toNat ((0 : Int), (0 : Int), (0 : Int), ([] : List UInt8))).1)) [(34, .bool (!decide ((x0.getD s5v.toNat ((0 : Int), (0 : Int), (0 : Int), ([] : List UInt8))).1 = (x1_1.getD s5v.toNat ((0 : Int), (0 : Int), (0 : Int), ([] : List UInt8))).1))), (38, .pointer (some ⟨b31v, b31vo + s5v.toNat * 4 + 1, none⟩))] rfl rfl rfl rfl (beq_no (ndec_no hk28v)) (.w 14 rfl rfl rfl (.w 18 rfl rfl rfl .nil)) (q_load rfl rfl Try.isAgg3 (hcell37v 1 rfl 1 _ rfl)) rfl) All.nil)) (All.cons (fun γ => (All.cons (QOb.yes (b := !decide ((x0.getD s5v.toNat ((0 : Int), (0 : Int), (0 : Int), ([] : List UInt8))).1 = (x1_1.getD s5v.toNat ((0 : Int), (0 : Int), (0 : Int), ([] : List UInt8))).1)) [(1, .pointer (some ⟨b1, 0, none⟩)), (34, .bool (!decide ((x0.getD s5v.toNat ((0 : Int), (0 : Int), (0 : Int), ([] : List UInt8))).1 = (x1_1.getD s5v.toNat ((0 : Int), (0 : Int), (0 : Int), ([] : List UInt8))).1)))] rfl rfl rfl rfl (beq_no (ndec_no hk28v)) (.o rfl (by decide) (.w 14 rfl rfl rfl .nil)) (q_move rfl rfl) rfl) All.nil)) (All.cons (fun γ => (All.cons (QOb.yes (b := !decide ((x0.getD s5v.toNat ((0 : Int), (0 : Int), (0 : Int), ([] : List UInt8))).1 = (x1_1.getD s5v.toNat ((0 : Int), (0 : Int), (0 : Int), ([] : List UInt8))).1)) [(34, .bool (!decide ((x0.getD s5v.toNat ((0 : Int), (0 : Int), (0 : Int), ([] : List UInt8))).1 = (x1_1.getD s5v.toNat ((0 : Int), (0 : Int), (0 : Int), ([] : List UInt8))).1))), (40, .pointer (some ⟨b1, 0, none⟩))] rfl rfl rfl rfl (beq_no (ndec_no hk28v)) (.w 14 rfl rfl rfl (.w 20 rfl rfl rfl .nil)) (q_nil rfl rfl) rfl) All.nil)) (All.cons (fun γ => (All.cons (QOb.yes (b := !decide ((x0.getD s5v.toNat ((0 : Int), (0 : Int), (0 : Int), ([] : List UInt8))).1 = (x1_1.getD s5v.toNat ((0 : Int), (0 : Int), (0 : Int), ([] : List UInt8))).1)) [(34, .bool (!decide ((x0.getD s5v.toNat ((0 : Int), (0 : Int), (0 : Int), ([] : List UInt8))).1 = (x1_1.getD s5v.toNat ((0 : Int), (0 : Int), (0 : Int), ([] : List UInt8))).1))), (41, .pointer (some ⟨b1, 0, none⟩))] rfl rfl rfl rfl (beq_no (ndec_no hk28v)) (.w 14 rfl rfl rfl (.w 21 rfl rfl rfl .nil)) (q_fa rfl rfl Try.underlying47 rfl rfl Try.sizeOf45 rfl) rfl) All.nil)) (All.cons (fun γ => (All.cons (QOb.yes (b := !decide ((x0.getD s5v.toNat ((0 : Int), (0 : Int), (0 : Int), ([] : List UInt8))).1 = (x1_1.getD s5v.toNat ((0 : Int), (0 : Int), (0 : Int), ([] : List UInt8))).1)) [(34, .bool (!decide ((x0.getD s5v.toNat ((0 : Int), (0 : Int), (0 : Int), ([] : List UInt8))).1 = (x1_1.getD s5v.toNat ((0 : Int), (0 : Int), (0 : Int), ([] : List UInt8))).1))), (42, .pointer (some ⟨b1, 1, none⟩))] rfl rfl rfl rfl (beq_no (ndec_no hk28v)) (.w 14 rfl rfl rfl (.w 22 rfl rfl rfl .nil)) (q_load rfl rfl Try.isAgg45 (.obj 0 rfl rfl)) rfl) All.nil)) (All.cons (fun γ => (All.cons (QOb.yes (b := !decide ((x0.getD s5v.toNat ((0 : Int), (0 : Int), (0 : Int), ([] : List UInt8))).1 = (x1_1.getD s5v.toNat ((0 : Int), (0 : Int), (0 : Int), ([] : List UInt8))).1)) [(5, .int .i64 s5v), (34, .bool (!decide ((x0.getD s5v.toNat ((0 : Int), (0 : Int), (0 : Int), ([] : List UInt8))).1 = (x1_1.getD s5v.toNat ((0 : Int), (0 : Int), (0 : Int), ([] : List UInt8))).1)))] rfl rfl rfl rfl (beq_no (ndec_no hk28v)) (.o rfl (by decide) (.w 14 rfl rfl rfl .nil)) (q_move rfl rfl) rfl) All.nil)) (All.cons (fun γ => (All.cons (QOb.yes (b := !decide ((x0.getD s5v.toNat ((0 : Int), (0 : Int), (0 : Int), ([] : List UInt8))).1 = (x1_1.getD s5v.toNat ((0 : Int), (0 : Int), (0 : Int), ([] : List UInt8))).1)) [(34, .bool (!decide ((x0.getD s5v.toNat ((0 : Int), (0 : Int), (0 : Int), ([] : List UInt8))).1 = (x1_1.getD s5v.toNat ((0 : Int), (0 : Int), (0 : Int), ([] : List UInt8))).1))), (43, .slice a1_1 x1_1.length c1_1), (44, .int .i64 s5v)] rfl rfl rfl rfl (beq_no (ndec_no hk28v)) (.w 14 rfl rfl rfl (.w 23 rfl rfl rfl (.w 24 rfl rfl rfl .nil))) (q_idx rfl rfl rfl ha40v Try.underlying45 Try.sizeOf86 hi38v.1 hi38v.2) rfl) All.nil)) (All.cons (fun γ => (All.cons (QOb.yes (b := !decide ((x0.getD s5v.toNat ((0 : Int), (0 : Int), (0 : Int), ([] : List UInt8))).1 = (x1_1.getD s5v.toNat ((0 : Int), (0 : Int), (0 : Int), ([] : List UInt8))).1)) [(34, .bool (!decide ((x0.getD s5v.toNat ((0 : Int), (0 : Int), (0 : Int), ([] : List UInt8))).1 = (x1_1.getD s5v.toNat ((0 : Int), (0 : Int), (0 : Int), ([] : List UInt8))).1))), (45, .pointer (some ⟨b39v, b39vo + s5v.toNat * 4, none⟩))] rfl rfl rfl rfl (beq_no (ndec_no hk28v)) (.w 14 rfl rfl rfl (.w 25 rfl rfl rfl .nil)) (q_fa rfl rfl Try.underlying86 rfl rfl Try.sizeOf3 rfl) rfl) All.nil)) (All.cons (fun γ => (All.cons (QOb.yes (b := !decide ((x0.getD s5v.toNat ((0 : Int), (0 : Int), (0 : Int), ([] : List UInt8))).1 = (x1_1.getD s5v.toNat ((0 : Int), (0 : Int), (0 : Int), ([] : List UInt8))).1)) [(34, .bool (!decide ((x0.getD s5v.toNat ((0 : Int), (0 : Int), (0 : Int), ([] : List UInt8))).1 = (x1_1.getD s5v.toNat ((0 : Int), (0 : Int), (0 : Int), ([] : List UInt8))).1))), (46, .pointer (some ⟨b39v, b39vo + s5v.toNat * 4 + 1, none⟩))] rfl rfl rfl rfl (beq_no (ndec_no hk28v)) (.w 14 rfl rfl rfl (.w 26 rfl rfl rfl .nil)) (q_load rfl rfl Try.isAgg3 (hcell45v 1 rfl 1 _ rfl)) rfl) All.nil)) (All.cons (fun γ => (All.cons (QOb.yes (b := !decide ((x0.getD s5v.toNat ((0 : Int), (0 : Int), (0 : Int), ([] : List UInt8))).1 = (x1_1.getD s5v.toNat ((0 : Int), (0 : Int), (0 : Int), ([] : List UInt8))).1)) [(34, .bool (!decide ((x0.getD s5v.toNat ((0 : Int), (0 : Int), (0 : Int), ([] : List UInt8))).1 = (x1_1.getD s5v.toNat ((0 : Int), (0 : Int), (0 : Int), ([] : List UInt8))).1))), (39, .int .i64 ((x0.getD s5v.toNat ((0 : Int), (0 : Int), (0 : Int), ([] : List UInt8))).2.1)), (47, .int .i64 ((x1_1.getD s5v.toNat ((0 : Int), (0 : Int), (0 : Int), ([] : List UInt8))).2.1))] rfl rfl rfl rfl (beq_no (ndec_no hk28v)) (.w 14 rfl rfl rfl (.w 19 rfl rfl rfl (.w 27 rfl rfl rfl .nil))) (q_neq rfl rfl rfl) rfl) All.nil)) (All.cons (fun γ => (All.cons (QOb.plain [(34, .bool (!decide ((x0.getD s5v.toNat ((0 : Int), (0 : Int), (0 : Int), ([] : List UInt8))).1 = (x1_1.getD s5v.toNat ((0 : Int), (0 : Int), (0 : Int), ([] : List UInt8))).1))), (48, .bool (!decide ((x0.getD s5v.toNat ((0 : Int), (0 : Int), (0 : Int), ([] : List UInt8))).2.1 = (x1_1.getD s5v.toNat ((0 : Int), (0 : Int), (0 : Int), ([] : List UInt8))).2.1)))] rfl rfl (.w 14 rfl rfl rfl (.w 28 rfl rfl rfl .nil)) (q_pick rfl rfl rfl rfl (bif_no (ndec_no hk28v) _ _)) rfl) All.nil)) (All.cons (fun γ => (All.cons (QOb.plain [(49, .bool (!decide ((x0.getD s5v.toNat ((0 : Int), (0 : Int), (0 : Int), ([] : List UInt8))).2.1 = (x1_1.getD s5v.toNat ((0 : Int), (0 : Int), (0 : Int), ([] : List UInt8))).2.1)))] rfl rfl (.w 29 rfl rfl rfl .nil) (q_move rfl rfl) rfl) All.nil)) (All.cons (fun γ => (All.cons (QOb.yes (b := !decide ((x0.getD s5v.toNat ((0 : Int), (0 : Int), (0 : Int), ([] : List UInt8))).2.1 = (x1_1.getD s5v.toNat ((0 : Int), (0 : Int), (0 : Int), ([] : List UInt8))).2.1)) [(0, .slice a0 x0.length c0), (50, .bool (!decide ((x0.getD s5v.toNat ((0 : Int), (0 : Int), (0 : Int), ([] : List UInt8))).2.1 = (x1_1.getD s5v.toNat ((0 : Int), (0 : Int), (0 : Int), ([] : List UInt8))).2.1)))] rfl rfl rfl rfl (beq_no (ndec_no hk46v)) (.o rfl (by decide) (.w 30 rfl rfl rfl .nil)) (q_move rfl rfl) rfl) All.nil)) (All.cons (fun γ => (All.cons (QOb.yes (b := !decide ((x0.getD s5v.toNat ((0 : Int), (0 : Int), (0 : Int), ([] : List UInt8))).2.1 = (x1_1.getD s5v.toNat ((0 : Int), (0 : Int), (0 : Int), ([] : List UInt8))).2.1)) [(5, .int .i64 s5v), (50, .bool (!decide ((x0.getD s5v.toNat ((0 : Int), (0 : Int), (0 : Int), ([] : List UInt8))).2.1 = (x1_1.getD s5v.toNat ((0 : Int), (0 : Int), (0 : Int), ([] : List UInt8))).2.1)))] rfl rfl rfl rfl (beq_no (ndec_no hk46v)) (.o rfl (by decide) (.w 30 rfl rfl rfl .nil)) (q_move rfl rfl) rfl) All.nil)) (All.cons (fun γ => (All.cons (QOb.yes (b := !decide ((x0.getD s5v.toNat ((0 : Int), (0 : Int), (0 : Int), ([] : List UInt8))).2.1 = (x1_1.getD s5v.toNat ((0 : Int), (0 : Int), (0 : Int), ([] : List UInt8))).2.1)) [(50, .bool (!decide ((x0.getD s5v.toNat ((0 : Int), (0 : Int), (0 : Int), ([] : List UInt8))).2.1 = (x1_1.getD s5v.toNat ((0 : Int), (0 : Int), (0 : Int), ([] : List UInt8))).2.1))), (51, .slice a0 x0.length c0), (52, .int .i64 s5v)] rfl rfl rfl rfl (beq_no (ndec_no hk46v)) (.w 30 rfl rfl rfl (.w 31 rfl rfl rfl (.w 32 rfl rfl rfl .nil))) (q_idx rfl rfl rfl ha50v Try.underlying39 Try.sizeOf42 hi48v.1 hi48v.2) rfl) All.nil)) (All.cons (fun γ => (All.cons (QOb.yes (b := !decide ((x0.getD s5v.toNat ((0 : Int), (0 : Int), (0 : Int), ([] : List UInt8))).2.1 = (x1_1.getD s5v.toNat ((0 : Int), (0 : Int), (0 : Int), ([] : List UInt8))).2.1)) [(50, .bool (!decide ((x0.getD s5v.toNat ((0 : Int), (0 : Int), (0 : Int), ([] : List UInt8))).2.1 = (x1_1.getD s5v.toNat ((0 : Int), (0 : Int), (0 : Int), ([] : List UInt8))).2.1))), (53, .pointer (some ⟨b49v, b49vo + s5v.toNat * 4, none⟩))] rfl rfl rfl rfl (beq_no (ndec_no hk46v)) (.w 30 rfl rfl rfl (.w 33 rfl rfl rfl .nil)) (q_fa rfl rfl Try.underlying42 rfl rfl Try.sizeOf28 rfl) rfl) All.nil)) (All.cons (fun γ => (All.cons (QOb.yes (b := !decide ((x0.getD s5v.toNat ((0 : Int), (0 : Int), (0 : Int), ([] : List UInt8))).2.1 = (x1_1.getD s5v.toNat ((0 : Int), (0 : Int), (0 : Int), ([] : List UInt8))).2.1)) [(50, .bool (!decide ((x0.getD s5v.toNat ((0 : Int), (0 : Int), (0 : Int), ([] : List UInt8))).2.1 = (x1_1.getD s5v.toNat ((0 : Int), (0 : Int), (0 : Int), ([] : List UInt8))).2.1))), (54, .pointer (some ⟨b49v, b49vo + s5v.toNat * 4 + 2, none⟩))] rfl rfl rfl rfl (beq_no (ndec_no hk46v)) (.w 30 rfl rfl rfl (.w 34 rfl rfl rfl .nil)) (q_loads (vs := [.int .i64 ((x0.getD s5v.toNat ((0 : Int), (0 : Int), (0 : Int), ([] : List UInt8))).2.2.1), str ((x0.getD s5v.toNat ((0 : Int), (0 : Int), (0 : Int), ([] : List UInt8))).2.2.2)]) rfl rfl Try.isAgg28 Try.sizeOf28 rfl (fun j v hj => cellAt_off (hcell55v 1 rfl (2 + j) v (get_drop 2 hj)))) rfl) All.nil)) (All.cons (fun γ => (All.cons (QOb.yes (b := !decide ((x0.getD s5v.toNat ((0 : Int), (0 : Int), (0 : Int), ([] : List UInt8))).2.1 = (x1_1.getD s5v.toNat ((0 : Int), (0 : Int), (0 : Int), ([] : List UInt8))).2.1)) [(1, .pointer (some ⟨b1, 0, none⟩)), (50, .bool (!decide ((x0.getD s5v.toNat ((0 : Int), (0 : Int), (0 : Int), ([] : List UInt8))).2.1 = (x1_1.getD s5v.toNat ((0 : Int), (0 : Int), (0 : Int), ([] : List UInt8))).2.1)))] rfl rfl rfl rfl (beq_no (ndec_no hk46v)) (.o rfl (by decide) (.w 30 rfl rfl rfl .nil)) (q_move rfl rfl) rfl) All.nil)) (All.cons (fun γ => (All.cons (QOb.yes (b := !decide ((x0.getD s5v.toNat ((0 : Int), (0 : Int), (0 : Int), ([] : List UInt8))).2.1 = (x1_1.getD s5v.toNat ((0 : Int), (0 : Int), (0 : Int), ([] : List UInt8))).2.1)) [(50, .bool (!decide ((x0.getD s5v.toNat ((0 : Int), (0 : Int), (0 : Int), ([] : List UInt8))).2.1 = (x1_1.getD s5v.toNat ((0 : Int), (0 : Int), (0 : Int), ([] : List UInt8))).2.1))), (56, .pointer (some ⟨b1, 0, none⟩))] rfl rfl rfl rfl (beq_no (ndec_no hk46v)) (.w 30 rfl rfl rfl (.w 36 rfl rfl rfl .nil)) (q_nil rfl rfl) rfl) All.nil)) (All.cons (fun γ => (All.cons (QOb.yes (b := !decide ((x0.getD s5v.toNat ((0 : Int), (0 : Int), (0 : Int), ([] : List UInt8))).2.1 = (x1_1.getD s5v.toNat ((0 : Int), (0 : Int), (0 : Int), ([] : List UInt8))).2.1)) [(50, .bool (!decide ((x0.getD s5v.toNat ((0 : Int), (0 : Int), (0 : Int), ([] : List UInt8))).2.1 = (x1_1.getD s5v.toNat ((0 : Int), (0 : Int), (0 : Int), ([] : List UInt8))).2.1))), (57, .pointer (some ⟨b1, 0, none⟩))] rfl rfl rfl rfl (beq_no (ndec_no hk46v)) (.w 30 rfl rfl rfl (.w 37 rfl rfl rfl .nil)) (q_fa rfl rfl Try.underlying47 rfl rfl Try.sizeOf45 rfl) rfl) All.nil)) (All.cons (fun γ => (All.cons (QOb.yes (b := !decide ((x0.getD s5v.toNat ((0 : Int), (0 : Int), (0 : Int), ([] : List UInt8))).2.1 = (x1_1.getD s5v.toNat ((0 : Int), (0 : Int), (0 : Int), ([] : List UInt8))).2.1)) [(50, .bool (!decide ((x0.getD s5v.toNat ((0 : Int), (0 : Int), (0 : Int), ([] : List UInt8))).2.1 = (x1_1.getD s5v.toNat ((0 : Int), (0 : Int), (0 : Int), ([] : List UInt8))).2.1))), (58, .pointer (some ⟨b1, 1, none⟩))] rfl rfl rfl rfl (beq_no (ndec_no hk46v)) (.w 30 rfl rfl rfl (.w 38 rfl rfl rfl .nil)) (q_load rfl rfl Try.isAgg45 (.obj 0 rfl rfl)) rfl) All.nil)) (All.cons (fun γ => (All.cons (QOb.yes (b := !decide ((x0.getD s5v.toNat ((0 : Int), (0 : Int), (0 : Int), ([] : List UInt8))).2.1 = (x1_1.getD s5v.toNat ((0 : Int), (0 : Int), (0 : Int), ([] : List UInt8))).2.1)) [(5, .int .i64 s5v), (50, .bool (!decide ((x0.getD s5v.toNat ((0 : Int), (0 : Int), (0 : Int), ([] : List UInt8))).2.1 = (x1_1.getD s5v.toNat ((0 : Int), (0 : Int), (0 : Int), ([] : List UInt8))).2.1)))] rfl rfl rfl rfl (beq_no (ndec_no hk46v)) (.o rfl (by decide) (.w 30 rfl rfl rfl .nil)) (q_move rfl rfl) rfl) All.nil)) (All.cons (fun γ => (All.cons (QOb.yes (b := !decide ((x0.getD s5v.toNat ((0 : Int), (0 : Int), (0 : Int), ([] : List UInt8))).2.1 = (x1_1.getD s5v.toNat ((0 : Int), (0 : Int), (0 : Int), ([] : List UInt8))).2.1)) [(50, .bool (!decide ((x0.getD s5v.toNat ((0 : Int), (0 : Int), (0 : Int), ([] : List UInt8))).2.1 = (x1_1.getD s5v.toNat ((0 : Int), (0 : Int), (0 : Int), ([] : List UInt8))).2.1))), (59, .slice a1_1 x1_1.length c1_1), (60, .int .i64 s5v)] rfl rfl rfl rfl (beq_no (ndec_no hk46v)) (.w 30 rfl rfl rfl (.w 39 rfl rfl rfl (.w 40 rfl rfl rfl .nil))) (q_idx rfl rfl rfl ha58v Try.underlying45 Try.sizeOf86 hi56v.1 hi56v.2) rfl) All.nil)) (All.cons (fun γ => (All.cons (QOb.yes (b := !decide ((x0.getD s5v.toNat ((0 : Int), (0 : Int), (0 : Int), ([] : List UInt8))).2.1 = (x1_1.getD s5v.toNat ((0 : Int), (0 : Int), (0 : Int), ([] : List UInt8))).2.1)) [(50, .bool (!decide ((x0.getD s5v.toNat ((0 : Int), (0 : Int), (0 : Int), ([] : List UInt8))).2.1 = (x1_1.getD s5v.toNat ((0 : Int), (0 : Int), (0 : Int), ([] : List UInt8))).2.1))), (61, .pointer (some ⟨b57v, b57vo + s5v.toNat * 4, none⟩))] rfl rfl rfl rfl (beq_no (ndec_no hk46v)) (.w 30 rfl rfl rfl (.w 41 rfl rfl rfl .nil)) (q_fa rfl rfl Try.underlying86 rfl rfl Try.sizeOf28 rfl) rfl) All.nil)) (All.cons (fun γ => (All.cons (QOb.yes (b := !decide ((x0.getD s5v.toNat ((0 : Int), (0 : Int), (0 : Int), ([] : List UInt8))).2.1 = (x1_1.getD s5v.toNat ((0 : Int), (0 : Int), (0 : Int), ([] : List UInt8))).2.1)) [(50, .bool (!decide ((x0.getD s5v.toNat ((0 : Int), (0 : Int), (0 : Int), ([] : List UInt8))).2.1 = (x1_1.getD s5v.toNat ((0 : Int), (0 : Int), (0 : Int), ([] : List UInt8))).2.1))), (62, .pointer (some ⟨b57v, b57vo + s5v.toNat * 4 + 2, none⟩))] rfl rfl rfl rfl (beq_no (ndec_no hk46v)) (.w 30 rfl rfl rfl (.w 42 rfl rfl rfl .nil)) (q_loads (vs := [.int .i64 ((x1_1.getD s5v.toNat ((0 : Int), (0 : Int), (0 : Int), ([] : List UInt8))).2.2.1), str ((x1_1.getD s5v.toNat ((0 : Int), (0 : Int), (0 : Int), ([] : List UInt8))).2.2.2)]) rfl rfl Try.isAgg28 Try.sizeOf28 rfl (fun j v hj => cellAt_off (hcell63v 1 rfl (2 + j) v (get_drop 2 hj)))) rfl) All.nil)) (All.cons (fun γ => (All.cons (QOb.yes (b := !decide ((x0.getD s5v.toNat ((0 : Int), (0 : Int), (0 : Int), ([] : List UInt8))).2.1 = (x1_1.getD s5v.toNat ((0 : Int), (0 : Int), (0 : Int), ([] : List UInt8))).2.1)) [(50, .bool (!decide ((x0.getD s5v.toNat ((0 : Int), (0 : Int), (0 : Int), ([] : List UInt8))).2.1 = (x1_1.getD s5v.toNat ((0 : Int), (0 : Int), (0 : Int), ([] : List UInt8))).2.1))), (55, .agg #[.int .i64 ((x0.getD s5v.toNat ((0 : Int), (0 : Int), (0 : Int), ([] : List UInt8))).2.2.1), str ((x0.getD s5v.toNat ((0 : Int), (0 : Int), (0 : Int), ([] : List UInt8))).2.2.2)]), (63, .agg #[.int .i64 ((x1_1.getD s5v.toNat ((0 : Int), (0 : Int), (0 : Int), ([] : List UInt8))).2.2.1), str ((x1_1.getD s5v.toNat ((0 : Int), (0 : Int), (0 : Int), ([] : List UInt8))).2.2.2)])] rfl rfl rfl rfl (beq_no (ndec_no hk46v)) (.w 30 rfl rfl rfl (.w 35 rfl rfl rfl (.w 43 rfl rfl rfl .nil))) (q_neagg rfl rfl rfl (by kernel_rfl) (fun d w => eqi_struct Try.underlying28 (by kernel_rfl) (eqf_cons (by rfl) (part_of Try.isAgg3 rfl) (part_of Try.isAgg3 rfl) (eqi_int Try.underlying3) (eqf_last (by rfl) (part_of Try.isAgg9 rfl) (part_of Try.isAgg9 rfl) (eqi_str Try.underlying9))))) rfl) All.nil)) (All.cons (fun γ => (All.cons (QOb.plain [(50, .bool (!decide ((x0.getD s5v.toNat ((0 : Int), (0 : Int), (0 : Int), ([] : List UInt8))).2.1 = (x1_1.getD s5v.toNat ((0 : Int), (0 : Int), (0 : Int), ([] : List UInt8))).2.1))), (64, .bool (!(decide ((x0.getD s5v.toNat ((0 : Int), (0 : Int), (0 : Int), ([] : List UInt8))).2.2.1 = (x1_1.getD s5v.toNat ((0 : Int), (0 : Int), (0 : Int), ([] : List UInt8))).2.2.1) && (decide (((x0.getD s5v.toNat ((0 : Int), (0 : Int), (0 : Int), ([] : List UInt8))).2.2.2) = ((x1_1.getD s5v.toNat ((0 : Int), (0 : Int), (0 : Int), ([] : List UInt8))).2.2.2))))))] rfl rfl (.w 30 rfl rfl rfl (.w 44 rfl rfl rfl .nil)) (q_pick rfl rfl rfl rfl (bif_no (ndec_no hk46v) _ _)) rfl) All.nil)) All.nil))))))))))))))))))))))))))))))))))))))))))))))
 exact All.nil
 intro g64v
 exact nrm_cut (s := !(decide ((x0.getD s5v.toNat ((0 : Int), (0 : Int), (0 : Int), ([] : List UInt8))).2.2.1 = (x1_1.getD s5v.toNat ((0 : Int), (0 : Int), (0 : Int), ([] : List UInt8))).2.2.1) && (decide (((x0.getD s5v.toNat ((0 : Int), (0 : Int), (0 : Int), ([] : List UInt8))).2.2.2) = ((x1_1.getD s5v.toNat ((0 : Int), (0 : Int), (0 : Int), ([] : List UInt8))).2.2.2))))) () ⟨rfl, rfl, rfl, rfl, trivial⟩ (.sel 0 rfl (.sel 0 rfl (.nil _)))
 refine sim_draw (Γ := Unit) () [[], [], [0, 1], [0, 1, 2], [0, 1, 2, 3], [], [5], [5, 6], [5, 6, 7], [], [5, 6, 7, 8, 9], [5, 6, 7, 8, 9, 10], [5, 6, 7, 8, 9, 10, 11], [0, 1, 2, 3, 4, 5, 6, 7, 8, 9, 10, 11, 12], [0, 1, 2, 3, 4, 5, 6, 7, 8, 9, 10, 11, 12, 13], [0, 1, 2, 3, 4, 5, 6, 7, 8, 9, 10, 11, 12, 13, 14], [0, 1, 2, 3, 4, 5, 6, 7, 8, 9, 10, 11, 12, 13, 14], [0, 1, 2, 3, 4, 5, 6, 7, 8, 9, 10, 11, 12, 13, 14, 15, 16], [0, 1, 2, 3, 4, 5, 6, 7, 8, 9, 10, 11, 12, 13, 14, 15, 16, 17], [0, 1, 2, 3, 4, 5, 6, 7, 8, 9, 10, 11, 12, 13, 14, 15, 16, 17, 18], [0, 1, 2, 3, 4, 5, 6, 7, 8, 9, 10, 11, 12, 13, 14], [0, 1, 2, 3, 4, 5, 6, 7, 8, 9, 10, 11, 12, 13, 14, 20], [0, 1, 2, 3, 4, 5, 6, 7, 8, 9, 10, 11, 12, 13, 14, 20, 21], [0, 1, 2, 3, 4, 5, 6, 7, 8, 9, 10, 11, 12, 13, 14, 20, 21, 22], [0, 1, 2, 3, 4, 5, 6, 7, 8, 9, 10, 11, 12, 13, 14], [0, 1, 2, 3, 4, 5, 6, 7, 8, 9, 10, 11, 12, 13, 14, 20, 21, 22, 23, 24], [0, 1, 2, 3, 4, 5, 6, 7, 8, 9, 10, 11, 12, 13, 14, 20, 21, 22, 23, 24, 25], [0, 1, 2, 3, 4, 5, 6, 7, 8, 9, 10, 11, 12, 13, 14, 20, 21, 22, 23, 24, 25, 26], [0, 1, 2, 3, 4, 5, 6, 7, 8, 9, 10, 11, 12, 13, 14, 15, 16, 17, 18, 19, 20, 21, 22, 23, 24, 25, 26, 27], [0, 1, 2, 3, 4, 5, 6, 7, 8, 9, 10, 11, 12, 13, 14, 15, 16, 17, 18, 19, 20, 21, 22, 23, 24, 25, 26, 27, 28], [0, 1, 2, 3, 4, 5, 6, 7, 8, 9, 10, 11, 12, 13, 14, 15, 16, 17, 18, 19, 20, 21, 22, 23, 24, 25, 26, 27, 28, 29], [0, 1, 2, 3, 4, 5, 6, 7, 8, 9, 10, 11, 12, 13, 14, 15, 16, 17, 18, 19, 20, 21, 22, 23, 24, 25, 26, 27, 28, 29, 30], [0, 1, 2, 3, 4, 5, 6, 7, 8, 9, 10, 11, 12, 13, 14, 15, 16, 17, 18, 19, 20, 21, 22, 23, 24, 25, 26, 27, 28, 29, 30], [0, 1, 2, 3, 4, 5, 6, 7, 8, 9, 10, 11, 12, 13, 14, 15, 16, 17, 18, 19, 20, 21, 22, 23, 24, 25, 26, 27, 28, 29, 30, 31, 32], [0, 1, 2, 3, 4, 5, 6, 7, 8, 9, 10, 11, 12, 13, 14, 15, 16, 17, 18, 19, 20, 21, 22, 23, 24, 25, 26, 27, 28, 29, 30, 31, 32, 33], [0, 1, 2, 3, 4, 5, 6, 7, 8, 9, 10, 11, 12, 13, 14, 15, 16, 17, 18, 19, 20, 21, 22, 23, 24, 25, 26, 27, 28, 29, 30, 31, 32, 33, 34], [0, 1, 2, 3, 4, 5, 6, 7, 8, 9, 10, 11, 12, 13, 14, 15, 16, 17, 18, 19, 20, 21, 22, 23, 24, 25, 26, 27, 28, 29, 30], [0, 1, 2, 3, 4, 5, 6, 7, 8, 9, 10, 11, 12, 13, 14, 15, 16, 17, 18, 19, 20, 21, 22, 23, 24, 25, 26, 27, 28, 29, 30, 36], [0, 1, 2, 3, 4, 5, 6, 7, 8, 9, 10, 11, 12, 13, 14, 15, 16, 17, 18, 19, 20, 21, 22, 23, 24, 25, 26, 27, 28, 29, 30, 36, 37], [0, 1, 2, 3, 4, 5, 6, 7, 8, 9, 10, 11, 12, 13, 14, 15, 16, 17, 18, 19, 20, 21, 22, 23, 24, 25, 26, 27, 28, 29, 30, 36, 37, 38], [0, 1, 2, 3, 4, 5, 6, 7, 8, 9, 10, 11, 12, 13, 14, 15, 16, 17, 18, 19, 20, 21, 22, 23, 24, 25, 26, 27, 28, 29, 30], [0, 1, 2, 3, 4, 5, 6, 7, 8, 9, 10, 11, 12, 13, 14, 15, 16, 17, 18, 19, 20, 21, 22, 23, 24, 25, 26, 27, 28, 29, 30, 36, 37, 38, 39, 40], [0, 1, 2, 3, 4, 5, 6, 7, 8, 9, 10, 11, 12, 13, 14, 15, 16, 17, 18, 19, 20, 21, 22, 23, 24, 25, 26, 27, 28, 29, 30, 36, 37, 38, 39, 40, 41], [0, 1, 2, 3, 4, 5, 6, 7, 8, 9, 10, 11, 12, 13, 14, 15, 16, 17, 18, 19, 20, 21, 22, 23, 24, 25, 26, 27, 28, 29, 30, 36, 37, 38, 39, 40, 41, 42], [0, 1, 2, 3, 4, 5, 6, 7, 8, 9, 10, 11, 12, 13, 14, 15, 16, 17, 18, 19, 20, 21, 22, 23, 24, 25, 26, 27, 28, 29, 30, 31, 32, 33, 34, 35, 36, 37, 38, 39, 40, 41, 42, 43], [0, 1, 2, 3, 4, 5, 6, 7, 8, 9, 10, 11, 12, 13, 14, 15, 16, 17, 18, 19, 20, 21, 22, 23, 24, 25, 26, 27, 28, 29, 30, 31, 32, 33, 34, 35, 36, 37, 38, 39, 40, 41, 42, 43, 44]] [] [0, 1, 2, 3, 4, 5, 6, 7, 8, 9, 10, 11, 12, 13, 14, 15, 16, 17, 18, 19, 20, 21, 22, 23, 24, 25, 26, 27, 28, 29, 30, 31, 32, 33, 34, 35, 36, 37, 38, 39, 40, 41, 42, 43, 44, 45] (fun i => [[0], [0], [0], [0], [0], [0], [0], [0], [0], [0], [0], [0], [0], [0], [0], [0], [0], [0], [0], [0], [0], [0], [0], [0], [0], [0], [0], [0], [0], [0], [0], [0], [0], [0], [0], [0], [0], [0], [0], [0], [0], [0], [0], [0], [0], [0]].getD i []) (fun i => [[], [], [], [], [], [], [], [], [], [], [], [], [], [], [], [], [], [], [], [], [], [], [], [], [], [], [], [], [], [], [], [], [], [], [], [], [], [], [], [], [], [], [], [], [], []].getD i []) (fun γ i => [.slice a0 x0.length c0, .int .i64 s5v, .pointer (some ⟨b13v, b13vo + s5v.toNat * 4, none⟩), .pointer (some ⟨b13v, b13vo + s5v.toNat * 4 + 0, none⟩), .int .i64 ((x0.getD s5v.toNat ((0 : Int), (0 : Int), (0 : Int), ([] : List UInt8))).1), .pointer (some ⟨b1, 0, none⟩), .pointer (some ⟨b1, 0, none⟩), .pointer (some ⟨b1, 1, none⟩), .slice a1_1 x1_1.length c1_1, .int .i64 s5v, .pointer (some ⟨b21v, b21vo + s5v.toNat * 4, none⟩), .pointer (some ⟨b21v, b21vo + s5v.toNat * 4 + 0, none⟩), .int .i64 ((x1_1.getD s5v.toNat ((0 : Int), (0 : Int), (0 : Int), ([] : List UInt8))).1), .bool (!decide ((x0.getD s5v.toNat ((0 : Int), (0 : Int), (0 : Int), ([] : List UInt8))).1 = (x1_1.getD s5v.toNat ((0 : Int), (0 : Int), (0 : Int), ([] : List UInt8))).1)), .bool (!decide ((x0.getD s5v.toNat ((0 : Int), (0 : Int), (0 : Int), ([] : List UInt8))).1 = (x1_1.getD s5v.toNat ((0 : Int), (0 : Int), (0 : Int), ([] : List UInt8))).1)), .slice a0 x0.length c0, .int .i64 s5v, .pointer (some ⟨b31v, b31vo + s5v.toNat * 4, none⟩), .pointer (some ⟨b31v, b31vo + s5v.toNat * 4 + 1, none⟩), .int .i64 ((x0.getD s5v.toNat ((0 : Int), (0 : Int), (0 : Int), ([] : List UInt8))).2.1), .pointer (some ⟨b1, 0, none⟩), .pointer (some ⟨b1, 0, none⟩), .pointer (some ⟨b1, 1, none⟩), .slice a1_1 x1_1.length c1_1, .int .i64 s5v, .pointer (some ⟨b39v, b39vo + s5v.toNat * 4, none⟩), .pointer (some ⟨b39v, b39vo + s5v.toNat * 4 + 1, none⟩), .int .i64 ((x1_1.getD s5v.toNat ((0 : Int), (0 : Int), (0 : Int), ([] : List UInt8))).2.1), .bool (!decide ((x0.getD s5v.toNat ((0 : Int), (0 : Int), (0 : Int), ([] : List UInt8))).2.1 = (x1_1.getD s5v.toNat ((0 : Int), (0 : Int), (0 : Int), ([] : List UInt8))).2.1)), .bool (!decide ((x0.getD s5v.toNat ((0 : Int), (0 : Int), (0 : Int), ([] : List UInt8))).2.1 = (x1_1.getD s5v.toNat ((0 : Int), (0 : Int), (0 : Int), ([] : List UInt8))).2.1)), .bool (!decide ((x0.getD s5v.toNat ((0 : Int), (0 : Int), (0 : Int), ([] : List UInt8))).2.1 = (x1_1.getD s5v.toNat ((0 : Int), (0 : Int), (0 : Int), ([] : List UInt8))).2.1)), undef, undef, undef, undef, undef, undef, undef, undef, undef, undef, undef, undef, undef, undef, .bool true].getD i undef) (fun j γ => [[obj b1 47 [.slice a1_0 x1_0.length c1_0, .slice a1_1 x1_1.length c1_1], F]].getD j []) (fun γ => [(0, .slice a0 x0.length c0), (1, .pointer (some ⟨b1, 0, none⟩)), (5, .int .i64 s5v), (35, .slice a0 x0.length c0), (36, .int .i64 s5v), (37, .pointer (some ⟨b31v, b31vo + s5v.toNat * 4, none⟩)), (38, .pointer (some ⟨b31v, b31vo + s5v.toNat * 4 + 1, none⟩)), (39, .int .i64 ((x0.getD s5v.toNat ((0 : Int), (0 : Int), (0 : Int), ([] : List UInt8))).2.1)), (40, .pointer (some ⟨b1, 0, none⟩)), (41, .pointer (some ⟨b1, 0, none⟩)), (42, .pointer (some ⟨b1, 1, none⟩)), (43, .slice a1_1 x1_1.length c1_1), (44, .int .i64 s5v), (45, .pointer (some ⟨b39v, b39vo + s5v.toNat * 4, none⟩)), (46, .pointer (some ⟨b39v, b39vo + s5v.toNat * 4 + 1, none⟩)), (47, .int .i64 ((x1_1.getD s5v.toNat ((0 : Int), (0 : Int), (0 : Int), ([] : List UInt8))).2.1)), (48, .bool (!decide ((x0.getD s5v.toNat ((0 : Int), (0 : Int), (0 : Int), ([] : List UInt8))).2.1 = (x1_1.getD s5v.toNat ((0 : Int), (0 : Int), (0 : Int), ([] : List UInt8))).2.1))), (51, undef), (52, undef), (53, undef), (54, undef), (55, undef), (56, undef), (57, undef), (58, undef), (59, undef), (60, undef), (61, undef), (62, undef), (63, undef), (64, undef), (65, .bool true)]) mixed (by decide) (by decide) (by decide) (by decide) (by decide) (by decide) (by decide) 66 rfl (by decide) (by decide) (by decide) (Ent.refl _) ?_ ?_ (fun _ => ⟨rfl, rfl, rfl, rfl, rfl, rfl, rfl, rfl, rfl, rfl, rfl, rfl, rfl, rfl, rfl, rfl, rfl, rfl, rfl, rfl, rfl, rfl, rfl, rfl, rfl, rfl, rfl, rfl, rfl, rfl, rfl, rfl, trivial⟩) ?_
 exact (All.cons (fun γ => (All.cons (QOb.plain [(0, .slice a0 x0.length c0)] rfl rfl (.o rfl (by decide) .nil) (q_move rfl rfl) rfl) All.nil)) (All.cons (fun γ => (All.cons (QOb.plain [(5, .int .i64 s5v)] rfl rfl (.o rfl (by decide) .nil) (q_move rfl rfl) rfl) All.nil)) (All.cons (fun γ => (All.cons (QOb.plain [(20, .slice a0 x0.length c0), (21, .int .i64 s5v)] rfl rfl (.w 0 rfl rfl rfl (.w 1 rfl rfl rfl .nil)) (q_idx rfl rfl rfl ha14v Try.underlying39 Try.sizeOf42 hi12v.1 hi12v.2) rfl) All.nil)) (All.cons (fun γ => (All.cons (QOb.plain [(22, .pointer (some ⟨b13v, b13vo + s5v.toNat * 4, none⟩))] rfl rfl (.w 2 rfl rfl rfl .nil) (q_fa rfl rfl Try.underlying42 rfl rfl Try.sizeOf3 rfl) rfl) All.nil)) (All.cons (fun γ => (All.cons (QOb.plain [(23, .pointer (some ⟨b13v, b13vo + s5v.toNat * 4 + 0, none⟩))] rfl rfl (.w 3 rfl rfl rfl .nil) (q_load rfl rfl Try.isAgg3 (hcell19v 1 rfl 0 _ rfl)) rfl) All.nil)) (All.cons (fun γ => (All.cons (QOb.plain [(1, .pointer (some ⟨b1, 0, none⟩))] rfl rfl (.o rfl (by decide) .nil) (q_move rfl rfl) rfl) All.nil)) (All.cons (fun γ => (All.cons (QOb.plain [(25, .pointer (some ⟨b1, 0, none⟩))] rfl rfl (.w 5 rfl rfl rfl .nil) (q_nil rfl rfl) rfl) All.nil)) (All.cons (fun γ => (All.cons (QOb.plain [(26, .pointer (some ⟨b1, 0, none⟩))] rfl rfl (.w 6 rfl rfl rfl .nil) (q_fa rfl rfl Try.underlying47 rfl rfl Try.sizeOf45 rfl) rfl) All.nil)) (All.cons (fun γ => (All.cons (QOb.plain [(27, .pointer (some ⟨b1, 1, none⟩))] rfl rfl (.w 7 rfl rfl rfl .nil) (q_load rfl rfl Try.isAgg45 (.obj 0 rfl rfl)) rfl) All.nil)) (All.cons (fun γ => (All.cons (QOb.plain [(5, .int .i64 s5v)] rfl rfl (.o rfl (by decide) .nil) (q_move rfl rfl) rfl) All.nil)) (All.cons (fun γ => (All.cons (QOb.plain [(28, .slice a1_1 x1_1.length c1_1), (29, .int .i64 s5v)] rfl rfl (.w 8 rfl rfl rfl (.w 9 rfl rfl rfl .nil)) (q_idx rfl rfl rfl ha22v Try.underlying45 Try.sizeOf86 hi20v.1 hi20v.2) rfl) All.nil)) (All.cons (fun γ => (All.cons (QOb.plain [(30, .pointer (some ⟨b21v, b21vo + s5v.toNat * 4, none⟩))] rfl rfl (.w 10 rfl rfl rfl .nil) (q_fa rfl rfl Try.underlying86 rfl rfl Try.sizeOf3 rfl) rfl) All.nil)) (All.cons (fun γ => (All.cons (QOb.plain [(31, .pointer (some ⟨b21v, b21vo + s5v.toNat * 4 + 0, none⟩))] rfl rfl (.w 11 rfl rfl rfl .nil) (q_load rfl rfl Try.isAgg3 (hcell27v 1 rfl 0 _ rfl)) rfl) All.nil)) (All.cons (fun γ => (All.cons (QOb.plain [(24, .int .i64 ((x0.getD s5v.toNat ((0 : Int), (0 : Int), (0 : Int), ([] : List UInt8))).1)), (32, .int .i64 ((x1_1.getD s5v.toNat ((0 : Int), (0 : Int), (0 : Int), ([] : List UInt8))).1))] rfl rfl (.w 4 rfl rfl rfl (.w 12 rfl rfl rfl .nil)) (q_neq rfl rfl rfl) rfl) All.nil)) (All.cons (fun γ => (All.cons (QOb.plain [(33, .bool (!decide ((x0.getD s5v.toNat ((0 : Int), (0 : Int), (0 : Int), ([] : List UInt8))).1 = (x1_1.getD s5v.toNat ((0 : Int), (0 : Int), (0 : Int), ([] : List UInt8))).1)))] rfl rfl (.w 13 rfl rfl rfl .nil) (q_move rfl rfl) rfl) All.nil)) (All.cons (fun γ => (All.cons (QOb.yes (b := !decide ((x0.getD s5v.toNat ((0 : Int), (0 : Int), (0 : Int), ([] : List UInt8))).1 = (x1_1.getD s5v.toNat ((0 : Int), (0 : Int), (0 : Int), ([] : List UInt8))).1)) [(0, .slice a0 x0.length c0), (34, .bool (!decide ((x0.getD s5v.toNat ((0 : Int), (0 : Int), (0 : Int), ([] : List UInt8))).1 = (x1_1.getD s5v.toNat ((0 : Int), (0 : Int), (0 : Int), ([] : List UInt8))).1)))] rfl rfl rfl rfl (beq_no (ndec_no hk28v)) (.o rfl (by decide) (.w 14 rfl rfl rfl .nil)) (q_move rfl rfl) rfl) All.nil)) (All.cons (fun γ => (All.cons (QOb.yes (b := !decide ((x0.getD s5v.toNat ((0 : Int), (0 : Int), (0 : Int), ([] : List UInt8))).1 = (x1_1.getD s5v.toNat ((0 : Int), (0 : Int), (0 : Int), ([] : List UInt8))).1)) [(5, .int .i64 s5v), (34, .bool (!decide ((x0.getD s5v.toNat ((0 : Int), (0 : Int), (0 : Int), ([] : List UInt8))).1 = (x1_1.getD s5v.toNat ((0 : Int), (0 : Int), (0 : Int), ([] : List UInt8))).1)))] rfl rfl rfl rfl (beq_no (ndec_no hk28v)) (.o rfl (by decide) (.w 14 rfl rfl rfl .nil)) (q_move rfl rfl) rfl) All.nil)) (All.cons (fun γ => (All.cons (QOb.yes (b := !decide ((x0.getD s5v.toNat ((0 : Int), (0 : Int), (0 : Int), ([] : List UInt8))).1 = (x1_1.getD s5v.toNat ((0 : Int), (0 : Int), (0 : Int), ([] : List UInt8))).1)) [(34, .bool (!decide ((x0.getD s5v.toNat ((0 : Int), (0 : Int), (0 : Int), ([] : List UInt8))).1 = (x1_1.getD s5v.toNat ((0 : Int), (0 : Int), (0 : Int), ([] : List UInt8))).1))), (35, .slice a0 x0.length c0), (36, .int .i64 s5v)] rfl rfl rfl rfl (beq_no (ndec_no hk28v)) (.w 14 rfl rfl rfl (.w 15 rfl rfl rfl (.w 16 rfl rfl rfl .nil))) (q_idx rfl rfl rfl ha32v Try.underlying39 Try.sizeOf42 hi30v.1 hi30v.2) rfl) All.nil)) (All.cons (fun γ => (All.cons (QOb.yes (b := !decide ((x0.getD s5v.toNat ((0 : Int), (0 : Int), (0 : Int), ([] : List UInt8))).1 = (x1_1.getD s5v.toNat ((0 : Int), (0 : Int), (0 : Int), ([] : List UInt8))).1)) [(34, .bool (!decide ((x0.getD s5v.toNat ((0 : Int), (0 : Int), (0 : Int), ([] : List UInt8))).1 = (x1_1.getD s5v.toNat ((0 : Int), (0 : Int), (0 : Int), ([] : List UInt8))).1))), (37, .pointer (some ⟨b31v, b31vo + s5v.toNat * 4, none⟩))] rfl rfl rfl rfl (beq_no (ndec_no hk28v)) (.w 14 rfl rfl rfl (.w 17 rfl rfl rfl .nil)) (q_fa rfl rfl Try.underlying42 rfl rfl Try.sizeOf3 rfl) rfl) All.nil)) (All.cons (fun γ => (All.cons (QOb.yes (b := !decide ((x0.getD s5v.toNat ((0 : Int), (0 : Int), (0 : Int), ([] : List UInt8))).1 = (x1_1.getD s5v.toNat ((0 : Int), (0 : Int), (0 : Int), ([] : List UInt8))).1)) [(34, .bool (!decide ((x0.getD s5v.toNat ((0 : Int), (0 : Int), (0 : Int), ([] : List UInt8))).1 = (x1_1.getD s5v.toNat ((0 : Int), (0 : Int), (0 : Int), ([] : List UInt8))).1))), (38, .pointer (some ⟨b31v, b31vo + s5v.toNat * 4 + 1, none⟩))] rfl rfl rfl rfl (beq_no (ndec_no hk28v)) (.w 14 rfl rfl rfl (.w 18 rfl rfl rfl .nil)) (q_load rfl rfl Try.isAgg3 (hcell37v 1 rfl 1 _ rfl)) rfl) All.nil)) (All.cons (fun γ => (All.cons (QOb.yes (b := !decide ((x0.getD s5v.toNat ((0 : Int), (0 : Int), (0 : Int), ([] : List UInt8))).1 = (x1_1.getD s5v.toNat ((0 : Int), (0 : Int), (0 : Int), ([] : List UInt8))).1)) [(1, .pointer (some ⟨b1, 0, none⟩)), (34, .bool (!decide ((x0.getD s5v.toNat ((0 : Int), (0 : Int), (0 : Int), ([] : List UInt8))).1 = (x1_1.getD s5v.toNat ((0 : Int), (0 : Int), (0 : Int), ([] : List UInt8))).1)))] rfl rfl rfl rfl (beq_no (ndec_no hk28v)) (.o rfl (by decide) (.w 14 rfl rfl rfl .nil)) (q_move rfl rfl) rfl) All.nil)) (All.cons (fun γ => (All.cons (QOb.yes (b := !decide ((x0.getD s5v.toNat ((0 : Int), (0 : Int), (0 : Int), ([] : List UInt8))).1 = (x1_1.getD s5v.toNat ((0 : Int), (0 : Int), (0 : Int), ([] : List UInt8))).1)) [(34, .bool (!decide ((x0.getD s5v.toNat ((0 : Int), (0 : Int), (0 : Int), ([] : List UInt8))).1 = (x1_1.getD s5v.toNat ((0 : Int), (0 : Int), (0 : Int), ([] : List UInt8))).1))), (40, .pointer (some ⟨b1, 0, none⟩))] rfl rfl rfl rfl (beq_no (ndec_no hk28v)) (.w 14 rfl rfl rfl (.w 20 rfl rfl rfl .nil)) (q_nil rfl rfl) rfl) All.nil)) (All.cons (fun γ => (All.cons (QOb.yes (b := !decide ((x0.getD s5v.toNat ((0 : Int), (0 : Int), (0 : Int), ([] : List UInt8))).1 = (x1_1.getD s5v.toNat ((0 : Int), (0 : Int), (0 : Int), ([] : List UInt8))).1)) [(34, .bool (!decide ((x0.getD s5v.toNat ((0 : Int), (0 : Int), (0 : Int), ([] : List UInt8))).1 = (x1_1.getD s5v.toNat ((0 : Int), (0 : Int), (0 : Int), ([] : List UInt8))).1))), (41, .pointer (some ⟨b1, 0, none⟩))] rfl rfl rfl rfl (beq_no (ndec_no hk28v)) (.w 14 rfl rfl rfl (.w 21 rfl rfl rfl .nil)) (q_fa rfl rfl Try.underlying47 rfl rfl Try.sizeOf45 rfl) rfl) All.nil)) (All.cons (fun γ => (All.cons (QOb.yes (b := !decide ((x0.getD s5v.toNat ((0 : Int), (0 : Int), (0 : Int), ([] : List UInt8))).1 = (x1_1.getD s5v.toNat ((0 : Int), (0 : Int), (0 : Int), ([] : List UInt8))).1)) [(34, .bool (!decide ((x0.getD s5v.toNat ((0 : Int), (0 : Int), (0 : Int), ([] : List UInt8))).1 = (x1_1.getD s5v.toNat ((0 : Int), (0 : Int), (0 : Int), ([] : List UInt8))).1))), (42, .pointer (some ⟨b1, 1, none⟩))] rfl rfl rfl rfl (beq_no (ndec_no hk28v)) (.w 14 rfl rfl rfl (.w 22 rfl rfl rfl .nil)) (q_load rfl rfl Try.isAgg45 (.obj 0 rfl rfl)) rfl) All.nil)) (All.cons (fun γ => (All.cons (QOb.yes (b := !decide ((x0.getD s5v.toNat ((0 : Int), (0 : Int), (0 : Int), ([] : List UInt8))).1 = (x1_1.getD s5v.toNat ((0 : Int), (0 : Int), (0 : Int), ([] : List UInt8))).1)) [(5, .int .i64 s5v), (34, .bool (!decide ((x0.getD s5v.toNat ((0 : Int), (0 : Int), (0 : Int), ([] : List UInt8))).1 = (x1_1.getD s5v.toNat ((0 : Int), (0 : Int), (0 : Int), ([] : List UInt8))).1)))] rfl rfl rfl rfl (beq_no (ndec_no hk28v)) (.o rfl (by decide) (.w 14 rfl rfl rfl .nil)) (q_move rfl rfl) rfl) All.nil)) (All.cons (fun γ => (All.cons (QOb.yes (b := !decide ((x0.getD s5v.toNat ((0 : Int), (0 : Int), (0 : Int), ([] : List UInt8))).1 = (x1_1.getD s5v.toNat ((0 : Int), (0 : Int), (0 : Int), ([] : List UInt8))).1)) [(34, .bool (!decide ((x0.getD s5v.toNat ((0 : Int), (0 : Int), (0 : Int), ([] : List UInt8))).1 = (x1_1.getD s5v.toNat ((0 : Int), (0 : Int), (0 : Int), ([] : List UInt8))).1))), (43, .slice a1_1 x1_1.length c1_1), (44, .int .i64 s5v)] rfl rfl rfl rfl (beq_no (ndec_no hk28v)) (.w 14 rfl rfl rfl (.w 23 rfl rfl rfl (.w 24 rfl rfl rfl .nil))) (q_idx rfl rfl rfl ha40v Try.underlying45 Try.sizeOf86 hi38v.1 hi38v.2) rfl) All.nil)) (All.cons (fun γ => (All.cons (QOb.yes (b := !decide ((x0.getD s5v.toNat ((0 : Int), (0 : Int), (0 : Int), ([] : List UInt8))).1 = (x1_1.getD s5v.toNat ((0 : Int), (0 : Int), (0 : Int), ([] : List UInt8))).1)) [(34, .bool (!decide ((x0.getD s5v.toNat ((0 : Int), (0 : Int), (0 : Int), ([] : List UInt8))).1 = (x1_1.getD s5v.toNat ((0 : Int), (0 : Int), (0 : Int), ([] : List UInt8))).1))), (45, .pointer (some ⟨b39v, b39vo + s5v.toNat * 4, none⟩))] rfl rfl rfl rfl (beq_no (ndec_no hk28v)) (.w 14 rfl rfl rfl (.w 25 rfl rfl rfl .nil)) (q_fa rfl rfl Try.underlying86 rfl rfl Try.sizeOf3 rfl) rfl) All.nil)) (All.cons (fun γ => (All.cons (QOb.yes (b := !decide ((x0.getD s5v.toNat ((0 : Int), (0 : Int), (0 : Int), ([] : List UInt8))).1 = (x1_1.getD s5v.toNat ((0 : Int), (0 : Int), (0 : Int), ([] : List UInt8))).1)) [(34, .bool (!decide ((x0.getD s5v.toNat ((0 : Int), (0 : Int), (0 : Int), ([] : List UInt8))).1 = (x1_1.getD s5v.toNat ((0 : Int), (0 : Int), (0 : Int), ([] : List UInt8))).1))), (46, .pointer (some ⟨b39v, b39vo + s5v.toNat * 4 + 1, none⟩))] rfl rfl rfl rfl (beq_no (ndec_no hk28v)) (.w 14 rfl rfl rfl (.w 26 rfl rfl rfl .nil)) (q_load rfl rfl Try.isAgg3 (hcell45v 1 rfl 1 _ rfl)) rfl) All.nil)) (All.cons (fun γ => (All.cons (QOb.yes (b := !decide ((x0.getD s5v.toNat ((0 : Int), (0 : Int), (0 : Int), ([] : List UInt8))).1 = (x1_1.getD s5v.toNat ((0 : Int), (0 : Int), (0 : Int), ([] : List UInt8))).1)) [(34, .bool (!decide ((x0.getD s5v.toNat ((0 : Int), (0 : Int), (0 : Int), ([] : List UInt8))).1 = (x1_1.getD s5v.toNat ((0 : Int), (0 : Int), (0 : Int), ([] : List UInt8))).1))), (39, .int .i64 ((x0.getD s5v.toNat ((0 : Int), (0 : Int), (0 : Int), ([] : List UInt8))).2.1)), (47, .int .i64 ((x1_1.getD s5v.toNat ((0 : Int), (0 : Int), (0 : Int), ([] : List UInt8))).2.1))] rfl rfl rfl rfl (beq_no (ndec_no hk28v)) (.w 14 rfl rfl rfl (.w 19 rfl rfl rfl (.w 27 rfl rfl rfl .nil))) (q_neq rfl rfl rfl) rfl) All.nil)) (All.cons (fun γ => (All.cons (QOb.plain [(34, .bool (!decide ((x0.getD s5v.toNat ((0 : Int), (0 : Int), (0 : Int), ([] : List UInt8))).1 = (x1_1.getD s5v.toNat ((0 : Int), (0 : Int), (0 : Int), ([] : List UInt8))).1))), (48, .bool (!decide ((x0.getD s5v.toNat ((0 : Int), (0 : Int), (0 : Int), ([] : List UInt8))).2.1 = (x1_1.getD s5v.toNat ((0 : Int), (0 : Int), (0 : Int), ([] : List UInt8))).2.1)))] rfl rfl (.w 14 rfl rfl rfl (.w 28 rfl rfl rfl .nil)) (q_pick rfl rfl rfl rfl (bif_no (ndec_no hk28v) _ _)) rfl) All.nil)) (All.cons (fun γ => (All.cons (QOb.plain [(49, .bool (!decide ((x0.getD s5v.toNat ((0 : Int), (0 : Int), (0 : Int), ([] : List UInt8))).2.1 = (x1_1.getD s5v.toNat ((0 : Int), (0 : Int), (0 : Int), ([] : List UInt8))).2.1)))] rfl rfl (.w 29 rfl rfl rfl .nil) (q_move rfl rfl) rfl) All.nil)) (All.cons (fun γ => (All.cons (QOb.no (b := !decide ((x0.getD s5v.toNat ((0 : Int), (0 : Int), (0 : Int), ([] : List UInt8))).2.1 = (x1_1.getD s5v.toNat ((0 : Int), (0 : Int), (0 : Int), ([] : List UInt8))).2.1)) [(0, .slice a0 x0.length c0), (50, .bool (!decide ((x0.getD s5v.toNat ((0 : Int), (0 : Int), (0 : Int), ([] : List UInt8))).2.1 = (x1_1.getD s5v.toNat ((0 : Int), (0 : Int), (0 : Int), ([] : List UInt8))).2.1)))] rfl rfl rfl rfl (beq_yes' (ndec_yes hk46v)) (.o rfl (by decide) (.w 30 rfl rfl rfl .nil)) rfl) All.nil)) (All.cons (fun γ => (All.cons (QOb.no (b := !decide ((x0.getD s5v.toNat ((0 : Int), (0 : Int), (0 : Int), ([] : List UInt8))).2.1 = (x1_1.getD s5v.toNat ((0 : Int), (0 : Int), (0 : Int), ([] : List UInt8))).2.1)) [(5, .int .i64 s5v), (50, .bool (!decide ((x0.getD s5v.toNat ((0 : Int), (0 : Int), (0 : Int), ([] : List UInt8))).2.1 = (x1_1.getD s5v.toNat ((0 : Int), (0 : Int), (0 : Int), ([] : List UInt8))).2.1)))] rfl rfl rfl rfl (beq_yes' (ndec_yes hk46v)) (.o rfl (by decide) (.w 30 rfl rfl rfl .nil)) rfl) All.nil)) (All.cons (fun γ => (All.cons (QOb.no (b := !decide ((x0.getD s5v.toNat ((0 : Int), (0 : Int), (0 : Int), ([] : List UInt8))).2.1 = (x1_1.getD s5v.toNat ((0 : Int), (0 : Int), (0 : Int), ([] : List UInt8))).2.1)) [(50, .bool (!decide ((x0.getD s5v.toNat ((0 : Int), (0 : Int), (0 : Int), ([] : List UInt8))).2.1 = (x1_1.getD s5v.toNat ((0 : Int), (0 : Int), (0 : Int), ([] : List UInt8))).2.1))), (51, undef), (52, undef)] rfl rfl rfl rfl (beq_yes' (ndec_yes hk46v)) (.w 30 rfl rfl rfl (.w 31 rfl rfl rfl (.w 32 rfl rfl rfl .nil))) rfl) All.nil)) (All.cons (fun γ => (All.cons (QOb.no (b := !decide ((x0.getD s5v.toNat ((0 : Int), (0 : Int), (0 : Int), ([] : List UInt8))).2.1 = (x1_1.getD s5v.toNat ((0 : Int), (0 : Int), (0 : Int), ([] : List UInt8))).2.1)) [(50, .bool (!decide ((x0.getD s5v.toNat ((0 : Int), (0 : Int), (0 : Int), ([] : List UInt8))).2.1 = (x1_1.getD s5v.toNat ((0 : Int), (0 : Int), (0 : Int), ([] : List UInt8))).2.1))), (53, undef)] rfl rfl rfl rfl (beq_yes' (ndec_yes hk46v)) (.w 30 rfl rfl rfl (.w 33 rfl rfl rfl .nil)) rfl) All.nil)) (All.cons (fun γ => (All.cons (QOb.no (b := !decide ((x0.getD s5v.toNat ((0 : Int), (0 : Int), (0 : Int), ([] : List UInt8))).2.1 = (x1_1.getD s5v.toNat ((0 : Int), (0 : Int), (0 : Int), ([] : List UInt8))).2.1)) [(50, .bool (!decide ((x0.getD s5v.toNat ((0 : Int), (0 : Int), (0 : Int), ([] : List UInt8))).2.1 = (x1_1.getD s5v.toNat ((0 : Int), (0 : Int), (0 : Int), ([] : List UInt8))).2.1))), (54, undef)] rfl rfl rfl rfl (beq_yes' (ndec_yes hk46v)) (.w 30 rfl rfl rfl (.w 34 rfl rfl rfl .nil)) rfl) All.nil)) (All.cons (fun γ => (All.cons (QOb.no (b := !decide ((x0.getD s5v.toNat ((0 : Int), (0 : Int), (0 : Int), ([] : List UInt8))).2.1 = (x1_1.getD s5v.toNat ((0 : Int), (0 : Int), (0 : Int), ([] : List UInt8))).2.1)) [(1, .pointer (some ⟨b1, 0, none⟩)), (50, .bool (!decide ((x0.getD s5v.toNat ((0 : Int), (0 : Int), (0 : Int), ([] : List UInt8))).2.1 = (x1_1.getD s5v.toNat ((0 : Int), (0 : Int), (0 : Int), ([] : List UInt8))).2.1)))] rfl rfl rfl rfl (beq_yes' (ndec_yes hk46v)) (.o rfl (by decide) (.w 30 rfl rfl rfl .nil)) rfl) All.nil)) (All.cons (fun γ => (All.cons (QOb.no (b := !decide ((x0.getD s5v.toNat ((0 : Int), (0 : Int), (0 : Int), ([] : List UInt8))).2.1 = (x1_1.getD s5v.toNat ((0 : Int), (0 : Int), (0 : Int), ([] : List UInt8))).2.1)) [(50, .bool (!decide ((x0.getD s5v.toNat ((0 : Int), (0 : Int), (0 : Int), ([] : List UInt8))).2.1 = (x1_1.getD s5v.toNat ((0 : Int), (0 : Int), (0 : Int), ([] : List UInt8))).2.1))), (56, undef)] rfl rfl rfl rfl (beq_yes' (ndec_yes hk46v)) (.w 30 rfl rfl rfl (.w 36 rfl rfl rfl .nil)) rfl) All.nil)) (All.cons (fun γ => (All.cons (QOb.no (b := !decide ((x0.getD s5v.toNat ((0 : Int), (0 : Int), (0 : Int), ([] : List UInt8))).2.1 = (x1_1.getD s5v.toNat ((0 : Int), (0 : Int), (0 : Int), ([] : List UInt8))).2.1)) [(50, .bool (!decide ((x0.getD s5v.toNat ((0 : Int), (0 : Int), (0 : Int), ([] : List UInt8))).2.1 = (x1_1.getD s5v.toNat ((0 : Int), (0 : Int), (0 : Int), ([] : List UInt8))).2.1))), (57, undef)] rfl rfl rfl rfl (beq_yes' (ndec_yes hk46v)) (.w 30 rfl rfl rfl (.w 37 rfl rfl rfl .nil)) rfl) All.nil)) (All.cons (fun γ => (All.cons (QOb.no (b := !decide ((x0.getD s5v.toNat ((0 : Int), (0 : Int), (0 : Int), ([] : List UInt8))).2.1 = (x1_1.getD s5v.toNat ((0 : Int), (0 : Int), (0 : Int), ([] : List UInt8))).2.1)) [(50, .bool (!decide ((x0.getD s5v.toNat ((0 : Int), (0 : Int), (0 : Int), ([] : List UInt8))).2.1 = (x1_1.getD s5v.toNat ((0 : Int), (0 : Int), (0 : Int), ([] : List UInt8))).2.1))), (58, undef)] rfl rfl rfl rfl (beq_yes' (ndec_yes hk46v)) (.w 30 rfl rfl rfl (.w 38 rfl rfl rfl .nil)) rfl) All.nil)) (All.cons (fun γ => (All.cons (QOb.no (b := !decide ((x0.getD s5v.toNat ((0 : Int), (0 : Int), (0 : Int), ([] : List UInt8))).2.1 = (x1_1.getD s5v.toNat ((0 : Int), (0 : Int), (0 : Int), ([] : List UInt8))).2.1)) [(5, .int .i64 s5v), (50, .bool (!decide ((x0.getD s5v.toNat ((0 : Int), (0 : Int), (0 : Int), ([] : List UInt8))).2.1 = (x1_1.getD s5v.toNat ((0 : Int), (0 : Int), (0 : Int), ([] : List UInt8))).2.1)))] rfl rfl rfl rfl (beq_yes' (ndec_yes hk46v)) (.o rfl (by decide) (.w 30 rfl rfl rfl .nil)) rfl) All.nil)) (All.cons (fun γ => (All.cons (QOb.no (b := !decide ((x0.getD s5v.toNat ((0 : Int), (0 : Int), (0 : Int), ([] : List UInt8))).2.1 = (x1_1.getD s5v.toNat ((0 : Int), (0 : Int), (0 : Int), ([] : List UInt8))).2.1)) [(50, .bool (!decide ((x0.getD s5v.toNat ((0 : Int), (0 : Int), (0 : Int), ([] : List UInt8))).2.1 = (x1_1.getD s5v.toNat ((0 : Int), (0 : Int), (0 : Int), ([] : List UInt8))).2.1))), (59, undef), (60, undef)] rfl rfl rfl rfl (beq_yes' (ndec_yes hk46v)) (.w 30 rfl rfl rfl (.w 39 rfl rfl rfl (.w 40 rfl rfl rfl .nil))) rfl) All.nil)) (All.cons (fun γ => (All.cons (QOb.no (b := !decide ((x0.getD s5v.toNat ((0 : Int), (0 : Int), (0 : Int), ([] : List UInt8))).2.1 = (x1_1.getD s5v.toNat ((0 : Int), (0 : Int), (0 : Int), ([] : List UInt8))).2.1)) [(50, .bool (!decide ((x0.getD s5v.toNat ((0 : Int), (0 : Int), (0 : Int), ([] : List UInt8))).2.1 = (x1_1.getD s5v.toNat ((0 : Int), (0 : Int), (0 : Int), ([] : List UInt8))).2.1))), (61, undef)] rfl rfl rfl rfl (beq_yes' (ndec_yes hk46v)) (.w 30 rfl rfl rfl (.w 41 rfl rfl rfl .nil)) rfl) All.nil)) (All.cons (fun γ => (All.cons (QOb.no (b := !decide ((x0.getD s5v.toNat ((0 : Int), (0 : Int), (0 : Int), ([] : List UInt8))).2.1 = (x1_1.getD s5v.toNat ((0 : Int), (0 : Int), (0 : Int), ([] : List UInt8))).2.1)) [(50, .bool (!decide ((x0.getD s5v.toNat ((0 : Int), (0 : Int), (0 : Int), ([] : List UInt8))).2.1 = (x1_1.getD s5v.toNat ((0 : Int), (0 : Int), (0 : Int), ([] : List UInt8))).2.1))), (62, undef)] rfl rfl rfl rfl (beq_yes' (ndec_yes hk46v)) (.w 30 rfl rfl rfl (.w 42 rfl rfl rfl .nil)) rfl) All.nil)) (All.cons (fun γ => (All.cons (QOb.no (b := !decide ((x0.getD s5v.toNat ((0 : Int), (0 : Int), (0 : Int), ([] : List UInt8))).2.1 = (x1_1.getD s5v.toNat ((0 : Int), (0 : Int), (0 : Int), ([] : List UInt8))).2.1)) [(50, .bool (!decide ((x0.getD s5v.toNat ((0 : Int), (0 : Int), (0 : Int), ([] : List UInt8))).2.1 = (x1_1.getD s5v.toNat ((0 : Int), (0 : Int), (0 : Int), ([] : List UInt8))).2.1))), (55, undef), (63, undef)] rfl rfl rfl rfl (beq_yes' (ndec_yes hk46v)) (.w 30 rfl rfl rfl (.w 35 rfl rfl rfl (.w 43 rfl rfl rfl .nil))) rfl) All.nil)) (All.cons (fun γ => (All.cons (QOb.plain [(50, .bool (!decide ((x0.getD s5v.toNat ((0 : Int), (0 : Int), (0 : Int), ([] : List UInt8))).2.1 = (x1_1.getD s5v.toNat ((0 : Int), (0 : Int), (0 : Int), ([] : List UInt8))).2.1))), (64, undef)] rfl rfl (.w 30 rfl rfl rfl (.w 44 rfl rfl rfl .nil)) (q_pick rfl rfl rfl rfl (bif_yes (ndec_yes hk46v) _ _)) rfl) All.nil)) All.nil))))))))))))))))))))))))))))))))))))))))))))))
 exact All.nil
 intro g47v
 exact nrm_cut (s := true) () ⟨rfl, rfl, rfl, rfl, trivial⟩ (.sel 0 rfl (.sel 0 rfl (.nil _)))
 refine sim_draw (Γ := Unit) () [[], [], [0, 1], [0, 1, 2], [0, 1, 2, 3], [], [5], [5, 6], [5, 6, 7], [], [5, 6, 7, 8, 9], [5, 6, 7, 8, 9, 10], [5, 6, 7, 8, 9, 10, 11], [0, 1, 2, 3, 4, 5, 6, 7, 8, 9, 10, 11, 12], [0, 1, 2, 3, 4, 5, 6, 7, 8, 9, 10, 11, 12, 13], [0, 1, 2, 3, 4, 5, 6, 7, 8, 9, 10, 11, 12, 13, 14], [0, 1, 2, 3, 4, 5, 6, 7, 8, 9, 10, 11, 12, 13, 14], [0, 1, 2, 3, 4, 5, 6, 7, 8, 9, 10, 11, 12, 13, 14, 15, 16], [0, 1, 2, 3, 4, 5, 6, 7, 8, 9, 10, 11, 12, 13, 14, 15, 16, 17], [0, 1, 2, 3, 4, 5, 6, 7, 8, 9, 10, 11, 12, 13, 14, 15, 16, 17, 18], [0, 1, 2, 3, 4, 5, 6, 7, 8, 9, 10, 11, 12, 13, 14], [0, 1, 2, 3, 4, 5, 6, 7, 8, 9, 10, 11, 12, 13, 14, 20], [0, 1, 2, 3, 4, 5, 6, 7, 8, 9, 10, 11, 12, 13, 14, 20, 21], [0, 1, 2, 3, 4, 5, 6, 7, 8, 9, 10, 11, 12, 13, 14, 20, 21, 22], [0, 1, 2, 3, 4, 5, 6, 7, 8, 9, 10, 11, 12, 13, 14], [0, 1, 2, 3, 4, 5, 6, 7, 8, 9, 10, 11, 12, 13, 14, 20, 21, 22, 23, 24], [0, 1, 2, 3, 4, 5, 6, 7, 8, 9, 10, 11, 12, 13, 14, 20, 21, 22, 23, 24, 25], [0, 1, 2, 3, 4, 5, 6, 7, 8, 9, 10, 11, 12, 13, 14, 20, 21, 22, 23, 24, 25, 26], [0, 1, 2, 3, 4, 5, 6, 7, 8, 9, 10, 11, 12, 13, 14, 15, 16, 17, 18, 19, 20, 21, 22, 23, 24, 25, 26, 27], [0, 1, 2, 3, 4, 5, 6, 7, 8, 9, 10, 11, 12, 13, 14, 15, 16, 17, 18, 19, 20, 21, 22, 23, 24, 25, 26, 27, 28], [0, 1, 2, 3, 4, 5, 6, 7, 8, 9, 10, 11, 12, 13, 14, 15, 16, 17, 18, 19, 20, 21, 22, 23, 24, 25, 26, 27, 28, 29], [0, 1, 2, 3, 4, 5, 6, 7, 8, 9, 10, 11, 12, 13, 14, 15, 16, 17, 18, 19, 20, 21, 22, 23, 24, 25, 26, 27, 28, 29, 30], [0, 1, 2, 3, 4, 5, 6, 7, 8, 9, 10, 11, 12, 13, 14, 15, 16, 17, 18, 19, 20, 21, 22, 23, 24, 25, 26, 27, 28, 29, 30], [0, 1, 2, 3, 4, 5, 6, 7, 8, 9, 10, 11, 12, 13, 14, 15, 16, 17, 18, 19, 20, 21, 22, 23, 24, 25, 26, 27, 28, 29, 30, 31, 32], [0, 1, 2, 3, 4, 5, 6, 7, 8, 9, 10, 11, 12, 13, 14, 15, 16, 17, 18, 19, 20, 21, 22, 23, 24, 25, 26, 27, 28, 29, 30, 31, 32, 33], [0, 1, 2, 3, 4, 5, 6, 7, 8, 9, 10, 11, 12, 13, 14, 15, 16, 17, 18, 19, 20, 21, 22, 23, 24, 25, 26, 27, 28, 29, 30, 31, 32, 33, 34], [0, 1, 2, 3, 4, 5, 6, 7, 8, 9, 10, 11, 12, 13, 14, 15, 16, 17, 18, 19, 20, 21, 22, 23, 24, 25, 26, 27, 28, 29, 30], [0, 1, 2, 3, 4, 5, 6, 7, 8, 9, 10, 11, 12, 13, 14, 15, 16, 17, 18, 19, 20, 21, 22, 23, 24, 25, 26, 27, 28, 29, 30, 36], [0, 1, 2, 3, 4, 5, 6, 7, 8, 9, 10, 11, 12, 13, 14, 15, 16, 17, 18, 19, 20, 21, 22, 23, 24, 25, 26, 27, 28, 29, 30, 36, 37], [0, 1, 2, 3, 4, 5, 6, 7, 8, 9, 10, 11, 12, 13, 14, 15, 16, 17, 18, 19, 20, 21, 22, 23, 24, 25, 26, 27, 28, 29, 30, 36, 37, 38], [0, 1, 2, 3, 4, 5, 6, 7, 8, 9, 10, 11, 12, 13, 14, 15, 16, 17, 18, 19, 20, 21, 22, 23, 24, 25, 26, 27, 28, 29, 30], [0, 1, 2, 3, 4, 5, 6, 7, 8, 9, 10, 11, 12, 13, 14, 15, 16, 17, 18, 19, 20, 21, 22, 23, 24, 25, 26, 27, 28, 29, 30, 36, 37, 38, 39, 40], [0, 1, 2, 3, 4, 5, 6, 7, 8, 9, 10, 11, 12, 13, 14, 15, 16, 17, 18, 19, 20, 21, 22, 23, 24, 25, 26, 27, 28, 29, 30, 36, 37, 38, 39, 40, 41], [0, 1, 2, 3, 4, 5, 6, 7, 8, 9, 10, 11, 12, 13, 14, 15, 16, 17, 18, 19, 20, 21, 22, 23, 24, 25, 26, 27, 28, 29, 30, 36, 37, 38, 39, 40, 41, 42], [0, 1, 2, 3, 4, 5, 6, 7, 8, 9, 10, 11, 12, 13, 14, 15, 16, 17, 18, 19, 20, 21, 22, 23, 24, 25, 26, 27, 28, 29, 30, 31, 32, 33, 34, 35, 36, 37, 38, 39, 40, 41, 42, 43], [0, 1, 2, 3, 4, 5, 6, 7, 8, 9, 10, 11, 12, 13, 14, 15, 16, 17, 18, 19, 20, 21, 22, 23, 24, 25, 26, 27, 28, 29, 30, 31, 32, 33, 34, 35, 36, 37, 38, 39, 40, 41, 42, 43, 44]] [] [0, 1, 2, 3, 4, 5, 6, 7, 8, 9, 10, 11, 12, 13, 14, 15, 16, 17, 18, 19, 20, 21, 22, 23, 24, 25, 26, 27, 28, 29, 30, 31, 32, 33, 34, 35, 36, 37, 38, 39, 40, 41, 42, 43, 44, 45] (fun i => [[0], [0], [0], [0], [0], [0], [0], [0], [0], [0], [0], [0], [0], [0], [0], [0], [0], [0], [0], [0], [0], [0], [0], [0], [0], [0], [0], [0], [0], [0], [0], [0], [0], [0], [0], [0], [0], [0], [0], [0], [0], [0], [0], [0], [0], [0]].getD i []) (fun i => [[], [], [], [], [], [], [], [], [], [], [], [], [], [], [], [], [], [], [], [], [], [], [], [], [], [], [], [], [], [], [], [], [], [], [], [], [], [], [], [], [], [], [], [], [], []].getD i []) (fun γ i => [.slice a0 x0.length c0, .int .i64 s5v, .pointer (some ⟨b13v, b13vo + s5v.toNat * 4, none⟩), .pointer (some ⟨b13v, b13vo + s5v.toNat * 4 + 0, none⟩), .int .i64 ((x0.getD s5v.toNat ((0 : Int), (0 : Int), (0 : Int), ([] : List UInt8))).1), .pointer (some ⟨b1, 0, none⟩), .pointer (some ⟨b1, 0, none⟩), .pointer (some ⟨b1, 1, none⟩), .slice a1_1 x1_1.length c1_1, .int .i64 s5v, .pointer (some ⟨b21v, b21vo + s5v.toNat * 4, none⟩), .pointer (some ⟨b21v, b21vo + s5v.toNat * 4 + 0, none⟩), .int .i64 ((x1_1.getD s5v.toNat ((0 : Int), (0 : Int), (0 : Int), ([] : List UInt8))).1), .bool (!decide ((x0.getD s5v.toNat ((0 : Int), (0 : Int), (0 : Int), ([] : List UInt8))).1 = (x1_1.getD s5v.toNat ((0 : Int), (0 : Int), (0 : Int), ([] : List UInt8))).1)), .bool (!decide ((x0.getD s5v.toNat ((0 : Int), (0 : Int), (0 : Int), ([] : List UInt8))).1 = (x1_1.getD s5v.toNat ((0 : Int), (0 : Int), (0 : Int), ([] : List UInt8))).1)), undef, undef, undef, undef, undef, undef, undef, undef, undef, undef, undef, undef, undef, undef, .bool true, .bool true, undef, undef, undef, undef, undef, undef, undef, undef, undef, undef, undef, undef, undef, undef, .bool true].getD i undef) (fun j γ => [[obj b1 47 [.slice a1_0 x1_0.length c1_0, .slice a1_1 x1_1.length c1_1], F]].getD j []) (fun γ => [(0, .slice a0 x0.length c0), (1, .pointer (some ⟨b1, 0, none⟩)), (5, .int .i64 s5v), (35, undef), (36, undef), (37, undef), (38, undef), (39, undef), (40, undef), (41, undef), (42, undef), (43, undef), (44, undef), (45, undef), (46, undef), (47, undef), (48, undef), (51, undef), (52, undef), (53, undef), (54, undef), (55, undef), (56, undef), (57, undef), (58, undef), (59, undef), (60, undef), (61, undef), (62, undef), (63, undef), (64, undef), (65, .bool true)]) mixed (by decide) (by decide) (by decide) (by decide) (by decide) (by decide) (by decide) 66 rfl (by decide) (by decide) (by decide) (Ent.refl _) ?_ ?_ (fun _ => ⟨rfl, rfl, rfl, rfl, rfl, rfl, rfl, rfl, rfl, rfl, rfl, rfl, rfl, rfl, rfl, rfl, rfl, rfl, rfl, rfl, rfl, rfl, rfl, rfl, rfl, rfl, rfl, rfl, rfl, rfl, rfl, rfl, trivial⟩) ?_
 exact (All.cons (fun γ => (All.cons (QOb.plain [(0, .slice a0 x0.length c0)] rfl rfl (.o rfl (by decide) .nil) (q_move rfl rfl) rfl) All.nil)) (All.cons (fun γ => (All.cons (QOb.plain [(5, .int .i64 s5v)] rfl rfl (.o rfl (by decide) .nil) (q_move rfl rfl) rfl) All.nil)) (All.cons (fun γ => (All.cons (QOb.plain [(20, .slice a0 x0.length c0), (21, .int .i64 s5v)] rfl rfl (.w 0 rfl rfl rfl (.w 1 rfl rfl rfl .nil)) (q_idx rfl rfl rfl ha14v Try.underlying39 Try.sizeOf42 hi12v.1 hi12v.2) rfl) All.nil)) (All.cons (fun γ => (All.cons (QOb.plain [(22, .pointer (some ⟨b13v, b13vo + s5v.toNat * 4, none⟩))] rfl rfl (.w 2 rfl rfl rfl .nil) (q_fa rfl rfl Try.underlying42 rfl rfl Try.sizeOf3 rfl) rfl) All.nil)) (All.cons (fun γ => (All.cons (QOb.plain [(23, .pointer (some ⟨b13v, b13vo + s5v.toNat * 4 + 0, none⟩))] rfl rfl (.w 3 rfl rfl rfl .nil) (q_load rfl rfl Try.isAgg3 (hcell19v 1 rfl 0 _ rfl)) rfl) All.nil)) (All.cons (fun γ => (All.cons (QOb.plain [(1, .pointer (some ⟨b1, 0, none⟩))] rfl rfl (.o rfl (by decide) .nil) (q_move rfl rfl) rfl) All.nil)) (All.cons (fun γ => (All.cons (QOb.plain [(25, .pointer (some ⟨b1, 0, none⟩))] rfl rfl (.w 5 rfl rfl rfl .nil) (q_nil rfl rfl) rfl) All.nil)) (All.cons (fun γ => (All.cons (QOb.plain [(26, .pointer (some ⟨b1, 0, none⟩))] rfl rfl (.w 6 rfl rfl rfl .nil) (q_fa rfl rfl Try.underlying47 rfl rfl Try.sizeOf45 rfl) rfl) All.nil)) (All.cons (fun γ => (All.cons (QOb.plain [(27, .pointer (some ⟨b1, 1, none⟩))] rfl rfl (.w 7 rfl rfl rfl .nil) (q_load rfl rfl Try.isAgg45 (.obj 0 rfl rfl)) rfl) All.nil)) (All.cons (fun γ => (All.cons (QOb.plain [(5, .int .i64 s5v)] rfl rfl (.o rfl (by decide) .nil) (q_move rfl rfl) rfl) All.nil)) (All.cons (fun γ => (All.cons (QOb.plain [(28, .slice a1_1 x1_1.length c1_1), (29, .int .i64 s5v)] rfl rfl (.w 8 rfl rfl rfl (.w 9 rfl rfl rfl .nil)) (q_idx rfl rfl rfl ha22v Try.underlying45 Try.sizeOf86 hi20v.1 hi20v.2) rfl) All.nil)) (All.cons (fun γ => (All.cons (QOb.plain [(30, .pointer (some ⟨b21v, b21vo + s5v.toNat * 4, none⟩))] rfl rfl (.w 10 rfl rfl rfl .nil) (q_fa rfl rfl Try.underlying86 rfl rfl Try.sizeOf3 rfl) rfl) All.nil)) (All.cons (fun γ => (All.cons (QOb.plain [(31, .pointer (some ⟨b21v, b21vo + s5v.toNat * 4 + 0, none⟩))] rfl rfl (.w 11 rfl rfl rfl .nil) (q_load rfl rfl Try.isAgg3 (hcell27v 1 rfl 0 _ rfl)) rfl) All.nil)) (All.cons (fun γ => (All.cons (QOb.plain [(24, .int .i64 ((x0.getD s5v.toNat ((0 : Int), (0 : Int), (0 : Int), ([] : List UInt8))).1)), (32, .int .i64 ((x1_1.getD s5v.toNat ((0 : Int), (0 : Int), (0 : Int), ([] : List UInt8))).1))] rfl rfl (.w 4 rfl rfl rfl (.w 12 rfl rfl rfl .nil)) (q_neq rfl rfl rfl) rfl) All.nil)) (All.cons (fun γ => (All.cons (QOb.plain [(33, .bool (!decide ((x0.getD s5v.toNat ((0 : Int), (0 : Int), (0 : Int), ([] : List UInt8))).1 = (x1_1.getD s5v.toNat ((0 : Int), (0 : Int), (0 : Int), ([] : List UInt8))).1)))] rfl rfl (.w 13 rfl rfl rfl .nil) (q_move rfl rfl) rfl) All.nil)) (All.cons (fun γ => (All.cons (QOb.no (b := !decide ((x0.getD s5v.toNat ((0 : Int), (0 : Int), (0 : Int), ([] : List UInt8))).1 = (x1_1.getD s5v.toNat ((0 : Int), (0 : Int), (0 : Int), ([] : List UInt8))).1)) [(0, .slice a0 x0.length c0), (34, .bool (!decide ((x0.getD s5v.toNat ((0 : Int), (0 : Int), (0 : Int), ([] : List UInt8))).1 = (x1_1.getD s5v.toNat ((0 : Int), (0 : Int), (0 : Int), ([] : List UInt8))).1)))] rfl rfl rfl rfl (beq_yes' (ndec_yes hk28v)) (.o rfl (by decide) (.w 14 rfl rfl rfl .nil)) rfl) All.nil)) (All.cons (fun γ => (All.cons (QOb.no (b := !decide ((x0.getD s5v.toNat ((0 : Int), (0 : Int), (0 : Int), ([] : List UInt8))).1 = (x1_1.getD s5v.toNat ((0 : Int), (0 : Int), (0 : Int), ([] : List UInt8))).1)) [(5, .int .i64 s5v), (34, .bool (!decide ((x0.getD s5v.toNat ((0 : Int), (0 : Int), (0 : Int), ([] : List UInt8))).1 = (x1_1.getD s5v.toNat ((0 : Int), (0 : Int), (0 : Int), ([] : List UInt8))).1)))] rfl rfl rfl rfl (beq_yes' (ndec_yes hk28v)) (.o rfl (by decide) (.w 14 rfl rfl rfl .nil)) rfl) All.nil)) (All.cons (fun γ => (All.cons (QOb.no (b := !decide ((x0.getD s5v.toNat ((0 : Int), (0 : Int), (0 : Int), ([] : List UInt8))).1 = (x1_1.getD s5v.toNat ((0 : Int), (0 : Int), (0 : Int), ([] : List UInt8))).1)) [(34, .bool (!decide ((x0.getD s5v.toNat ((0 : Int), (0 : Int), (0 : Int), ([] : List UInt8))).1 = (x1_1.getD s5v.toNat ((0 : Int), (0 : Int), (0 : Int), ([] : List UInt8))).1))), (35, undef), (36, undef)] rfl rfl rfl rfl (beq_yes' (ndec_yes hk28v)) (.w 14 rfl rfl rfl (.w 15 rfl rfl rfl (.w 16 rfl rfl rfl .nil))) rfl) All.nil)) (All.cons (fun γ => (All.cons (QOb.no (b := !decide ((x0.getD s5v.toNat ((0 : Int), (0 : Int), (0 : Int), ([] : List UInt8))).1 = (x1_1.getD s5v.toNat ((0 : Int), (0 : Int), (0 : Int), ([] : List UInt8))).1)) [(34, .bool (!decide ((x0.getD s5v.toNat ((0 : Int), (0 : Int), (0 : Int), ([] : List UInt8))).1 = (x1_1.getD s5v.toNat ((0 : Int), (0 : Int), (0 : Int), ([] : List UInt8))).1))), (37, undef)] rfl rfl rfl rfl (beq_yes' (ndec_yes hk28v)) (.w 14 rfl rfl rfl (.w 17 rfl rfl rfl .nil)) rfl) All.nil)) (All.cons (fun γ => (All.cons (QOb.no (b := !decide ((x0.getD s5v.toNat ((0 : Int), (0 : Int), (0 : Int), ([] : List UInt8))).1 = (x1_1.getD s5v.toNat ((0 : Int), (0 : Int), (0 : Int), ([] : List UInt8))).1)) [(34, .bool (!decide ((x0.getD s5v.toNat ((0 : Int), (0 : Int), (0 : Int), ([] : List UInt8))).1 = (x1_1.getD s5v.toNat ((0 : Int), (0 : Int), (0 : Int), ([] : List UInt8))).1))), (38, undef)] rfl rfl rfl rfl (beq_yes' (ndec_yes hk28v)) (.w 14 rfl rfl rfl (.w 18 rfl rfl rfl .nil)) rfl) All.nil)) (All.cons (fun γ => (All.cons (QOb.no (b := !decide ((x0.getD s5v.toNat ((0 : Int), (0 : Int), (0 : Int), ([] : List UInt8))).1 = (x1_1.getD s5v.toNat ((0 : Int), (0 : Int), (0 : Int), ([] : List UInt8))).1)) [(1, .pointer (some ⟨b1, 0, none⟩)), (34, .bool (!decide ((x0.getD s5v.toNat ((0 : Int), (0 : Int), (0 : Int), ([] : List UInt8))).1 = (x1_1.getD s5v.toNat ((0 : Int), (0 : Int), (0 : Int), ([] : List UInt8))).1)))] rfl rfl rfl rfl (beq_yes' (ndec_yes hk28v)) (.o rfl (by decide) (.w 14 rfl rfl rfl .nil)) rfl) All.nil)) (All.cons (fun γ => (All.cons (QOb.no (b := !decide ((x0.getD s5v.toNat ((0 : Int), (0 : Int), (0 : Int), ([] : List UInt8))).1 = (x1_1.getD s5v.toNat ((0 : Int), (0 : Int), (0 : Int), ([] : List UInt8))).1)) [(34, .bool (!decide ((x0.getD s5v.toNat ((0 : Int), (0 : Int), (0 : Int), ([] : List UInt8))).1 = (x1_1.getD s5v.toNat ((0 : Int), (0 : Int), (0 : Int), ([] : List UInt8))).1))), (40, undef)] rfl rfl rfl rfl (beq_yes' (ndec_yes hk28v)) (.w 14 rfl rfl rfl (.w 20 rfl rfl rfl .nil)) rfl) All.nil)) (All.cons (fun γ => (All.cons (QOb.no (b := !decide ((x0.getD s5v.toNat ((0 : Int), (0 : Int), (0 : Int), ([] : List UInt8))).1 = (x1_1.getD s5v.toNat ((0 : Int), (0 : Int), (0 : Int), ([] : List UInt8))).1)) [(34, .bool (!decide ((x0.getD s5v.toNat ((0 : Int), (0 : Int), (0 : Int), ([] : List UInt8))).1 = (x1_1.getD s5v.toNat ((0 : Int), (0 : Int), (0 : Int), ([] : List UInt8))).1))), (41, undef)] rfl rfl rfl rfl (beq_yes' (ndec_yes hk28v)) (.w 14 rfl rfl rfl (.w 21 rfl rfl rfl .nil)) rfl) All.nil)) (All.cons (fun γ => (All.cons (QOb.no (b := !decide ((x0.getD s5v.toNat ((0 : Int), (0 : Int), (0 : Int), ([] : List UInt8))).1 = (x1_1.getD s5v.toNat ((0 : Int), (0 : Int), (0 : Int), ([] : List UInt8))).1)) [(34, .bool (!decide ((x0.getD s5v.toNat ((0 : Int), (0 : Int), (0 : Int), ([] : List UInt8))).1 = (x1_1.getD s5v.toNat ((0 : Int), (0 : Int), (0 : Int), ([] : List UInt8))).1))), (42, undef)] rfl rfl rfl rfl (beq_yes' (ndec_yes hk28v)) (.w 14 rfl rfl rfl (.w 22 rfl rfl rfl .nil)) rfl) All.nil)) (All.cons (fun γ => (All.cons (QOb.no (b := !decide ((x0.getD s5v.toNat ((0 : Int), (0 : Int), (0 : Int), ([] : List UInt8))).1 = (x1_1.getD s5v.toNat ((0 : Int), (0 : Int), (0 : Int), ([] : List UInt8))).1)) [(5, .int .i64 s5v), (34, .bool (!decide ((x0.getD s5v.toNat ((0 : Int), (0 : Int), (0 : Int), ([] : List UInt8))).1 = (x1_1.getD s5v.toNat ((0 : Int), (0 : Int), (0 : Int), ([] : List UInt8))).1)))] rfl rfl rfl rfl (beq_yes' (ndec_yes hk28v)) (.o rfl (by decide) (.w 14 rfl rfl rfl .nil)) rfl) All.nil)) (All.cons (fun γ => (All.cons (QOb.no (b := !decide ((x0.getD s5v.toNat ((0 : Int), (0 : Int), (0 : Int), ([] : List UInt8))).1 = (x1_1.getD s5v.toNat ((0 : Int), (0 : Int), (0 : Int), ([] : List UInt8))).1)) [(34, .bool (!decide ((x0.getD s5v.toNat ((0 : Int), (0 : Int), (0 : Int), ([] : List UInt8))).1 = (x1_1.getD s5v.toNat ((0 : Int), (0 : Int), (0 : Int), ([] : List UInt8))).1))), (43, undef), (44, undef)] rfl rfl rfl rfl (beq_yes' (ndec_yes hk28v)) (.w 14 rfl rfl rfl (.w 23 rfl rfl rfl (.w 24 rfl rfl rfl .nil))) rfl) All.nil)) (All.cons (fun γ => (All.cons (QOb.no (b := !decide ((x0.getD s5v.toNat ((0 : Int), (0 : Int), (0 : Int), ([] : List UInt8))).1 = (x1_1.getD s5v.toNat ((0 : Int), (0 : Int), (0 : Int), ([] : List UInt8))).1)) [(34, .bool (!decide ((x0.getD s5v.toNat ((0 : Int), (0 : Int), (0 : Int), ([] : List UInt8))).1 = (x1_1.getD s5v.toNat ((0 : Int), (0 : Int), (0 : Int), ([] : List UInt8))).1))), (45, undef)] rfl rfl rfl rfl (beq_yes' (ndec_yes hk28v)) (.w 14 rfl rfl rfl (.w 25 rfl rfl rfl .nil)) rfl) All.nil)) (All.cons (fun γ => (All.cons (QOb.no (b := !decide ((x0.getD s5v.toNat ((0 : Int), (0 : Int), (0 : Int), ([] : List UInt8))).1 = (x1_1.getD s5v.toNat ((0 : Int), (0 : Int), (0 : Int), ([] : List UInt8))).1)) [(34, .bool (!decide ((x0.getD s5v.toNat ((0 : Int), (0 : Int), (0 : Int), ([] : List UInt8))).1 = (x1_1.getD s5v.toNat ((0 : Int), (0 : Int), (0 : Int), ([] : List UInt8))).1))), (46, undef)] rfl rfl rfl rfl (beq_yes' (ndec_yes hk28v)) (.w 14 rfl rfl rfl (.w 26 rfl rfl rfl .nil)) rfl) All.nil)) (All.cons (fun γ => (All.cons (QOb.no (b := !decide ((x0.getD s5v.toNat ((0 : Int), (0 : Int), (0 : Int), ([] : List UInt8))).1 = (x1_1.getD s5v.toNat ((0 : Int), (0 : Int), (0 : Int), ([] : List UInt8))).1)) [(34, .bool (!decide ((x0.getD s5v.toNat ((0 : Int), (0 : Int), (0 : Int), ([] : List UInt8))).1 = (x1_1.getD s5v.toNat ((0 : Int), (0 : Int), (0 : Int), ([] : List UInt8))).1))), (39, undef), (47, undef)] rfl rfl rfl rfl (beq_yes' (ndec_yes hk28v)) (.w 14 rfl rfl rfl (.w 19 rfl rfl rfl (.w 27 rfl rfl rfl .nil))) rfl) All.nil)) (All.cons (fun γ => (All.cons (QOb.plain [(34, .bool (!decide ((x0.getD s5v.toNat ((0 : Int), (0 : Int), (0 : Int), ([] : List UInt8))).1 = (x1_1.getD s5v.toNat ((0 : Int), (0 : Int), (0 : Int), ([] : List UInt8))).1))), (48, undef)] rfl rfl (.w 14 rfl rfl rfl (.w 28 rfl rfl rfl .nil)) (q_pick rfl rfl rfl rfl (bif_yes (ndec_yes hk28v) _ _)) rfl) All.nil)) (All.cons (fun γ => (All.cons (QOb.plain [(49, .bool true)] rfl rfl (.w 29 rfl rfl rfl .nil) (q_move rfl rfl) rfl) All.nil)) (All.cons (fun γ => (All.cons (QOb.no (b := true) [(0, .slice a0 x0.length c0), (50, .bool true)] rfl rfl rfl rfl rfl (.o rfl (by decide) (.w 30 rfl rfl rfl .nil)) rfl) All.nil)) (All.cons (fun γ => (All.cons (QOb.no (b := true) [(5, .int .i64 s5v), (50, .bool true)] rfl rfl rfl rfl rfl (.o rfl (by decide) (.w 30 rfl rfl rfl .nil)) rfl) All.nil)) (All.cons (fun γ => (All.cons (QOb.no (b := true) [(50, .bool true), (51, undef), (52, undef)] rfl rfl rfl rfl rfl (.w 30 rfl rfl rfl (.w 31 rfl rfl rfl (.w 32 rfl rfl rfl .nil))) rfl) All.nil)) (All.cons (fun γ => (All.cons (QOb.no (b := true) [(50, .bool true), (53, undef)] rfl rfl rfl rfl rfl (.w 30 rfl rfl rfl (.w 33 rfl rfl rfl .nil)) rfl) All.nil)) (All.cons (fun γ => (All.cons (QOb.no (b := true) [(50, .bool true), (54, undef)] rfl rfl rfl rfl rfl (.w 30 rfl rfl rfl (.w 34 rfl rfl rfl .nil)) rfl) All.nil)) (All.cons (fun γ => (All.cons (QOb.no (b := true) [(1, .pointer (some ⟨b1, 0, none⟩)), (50, .bool true)] rfl rfl rfl rfl rfl (.o rfl (by decide) (.w 30 rfl rfl rfl .nil)) rfl) All.nil)) (All.cons (fun γ => (All.cons (QOb.no (b := true) [(50, .bool true), (56, undef)] rfl rfl rfl rfl rfl (.w 30 rfl rfl rfl (.w 36 rfl rfl rfl .nil)) rfl) All.nil)) (All.cons (fun γ => (All.cons (QOb.no (b := true) [(50, .bool true), (57, undef)] rfl rfl rfl rfl rfl (.w 30 rfl rfl rfl (.w 37 rfl rfl rfl .nil)) rfl) All.nil)) (All.cons (fun γ => (All.cons (QOb.no (b := true) [(50, .bool true), (58, undef)] rfl rfl rfl rfl rfl (.w 30 rfl rfl rfl (.w 38 rfl rfl rfl .nil)) rfl) All.nil)) (All.cons (fun γ => (All.cons (QOb.no (b := true) [(5, .int .i64 s5v), (50, .bool true)] rfl rfl rfl rfl rfl (.o rfl (by decide) (.w 30 rfl rfl rfl .nil)) rfl) All.nil)) (All.cons (fun γ => (All.cons (QOb.no (b := true) [(50, .bool true), (59, undef), (60, undef)] rfl rfl rfl rfl rfl (.w 30 rfl rfl rfl (.w 39 rfl rfl rfl (.w 40 rfl rfl rfl .nil))) rfl) All.nil)) (All.cons (fun γ => (All.cons (QOb.no (b := true) [(50, .bool true), (61, undef)] rfl rfl rfl rfl rfl (.w 30 rfl rfl rfl (.w 41 rfl rfl rfl .nil)) rfl) All.nil)) (All.cons (fun γ => (All.cons (QOb.no (b := true) [(50, .bool true), (62, undef)] rfl rfl rfl rfl rfl (.w 30 rfl rfl rfl (.w 42 rfl rfl rfl .nil)) rfl) All.nil)) (All.cons (fun γ => (All.cons (QOb.no (b := true) [(50, .bool true), (55, undef), (63, undef)] rfl rfl rfl rfl rfl (.w 30 rfl rfl rfl (.w 35 rfl rfl rfl (.w 43 rfl rfl rfl .nil))) rfl) All.nil)) (All.cons (fun γ => (All.cons (QOb.plain [(50, .bool true), (64, undef)] rfl rfl (.w 30 rfl rfl rfl (.w 44 rfl rfl rfl .nil)) (q_pick rfl rfl rfl rfl rfl) rfl) All.nil)) All.nil))))))))))))))))))))))))))))))))))))))))))))))
 exact All.nil
 intro g29v
 exact nrm_cut (s := true) () ⟨rfl, rfl, rfl, rfl, trivial⟩ (.sel 0 rfl (.sel 0 rfl (.nil _)))
 intro s10v y11v
 refine sim_condb rfl (fun h65v => ?_) (fun h66v => ?_)
 refine sim_seq (sim_region ?_)
 refine simL_val (q_asg rfl rfl) rfl rfl rfl (simL_nil (nrm_then (sim_rtn ?_)))
 refine rtn_block ?_
 refine rtn_then ?_
 refine rtn_loop ?_
 refine rtn_block ?_
 refine rtn_cutR ?_
 exact rtn_fn () rfl rfl rfl (.sel 0 rfl (.sel 0 rfl (.nil _)))
 refine sim_skip ?_
 refine nrm_block (nrm_then (sim_region ?_))
 refine simL_val (q_move rfl rfl) rfl rfl rfl ?_
 refine simL_val (q_add rfl rfl rfl) rfl rfl rfl ?_
 refine simL_val (q_asg rfl rfl) rfl rfl rfl (simL_nil ?_)
 exact nrm_again (s := IntKind.i64.wrap (s5v + 1)) () ⟨rfl, rfl, rfl, trivial⟩ (.sel 0 rfl (.sel 0 rfl (.nil _)))
 refine sim_exi ?_
 refine exi_then ?_
 refine exi_loop ?_
 refine exi_here ?_
 exact nrm_cutR (s := ()) () trivial (.sel 0 rfl (.sel 0 rfl (.nil _)))
 intro s3v y4v
 refine sim_seq (sim_region ?_)
 refine simL_val (q_asg rfl rfl) rfl rfl rfl (simL_nil (nrm_then (sim_rtn ?_)))
 exact rtn_fn () rfl rfl rfl (.sel 0 rfl (.sel 0 rfl (.nil _)))
 refine sim_seq (sim_region ?_)
 refine simL_val (q_asg rfl rfl) rfl rfl rfl (simL_nil (nrm_then (sim_rtn ?_)))
 refine rtn_then ?_
 exact rtn_fn () rfl rfl rfl (.sel 0 rfl (.sel 0 rfl (.nil _)))

def wire_NewWriter.f  : Option (List UInt8 × Int) := some (([] : List UInt8), 0)
theorem wire_NewWriter.calls (W : World) (F : HA)   :
    Fn Try.prog W 28 [] [] F (wire_NewWriter.f ) (fun (r : List UInt8 × Int) (y : Nat × Option Addr × Nat) => .pointer (some ⟨y.1, 0, none⟩)) (fun r y => [obj y.1 100 [.slice y.2.1 r.1.length y.2.2, .int .i64 r.2], Row 5 1 y.2.1 r.1.length y.2.2 (encB r.1)]) := by
 unfold wire_NewWriter.f
 refine fn_intro 3 Try.func28 rfl Try.ntmps28 rfl ?_
 refine sim_seq (sim_region ?_)
 refine simL_val (q_asg rfl rfl) rfl rfl rfl (simL_nil (nrm_then (sim_seq (sim_region ?_))))
 refine simL_val (q_build (v := .agg #[.slice none 0 0, .int .i64 0]) rfl rfl (fun _ => by kernel_rfl)) rfl rfl rfl ?_
 refine simL_eff (re_box rfl rfl rfl) rfl rfl rfl ?_
 intro b1v
 refine simL_val (q_asg rfl rfl) rfl rfl rfl (simL_nil (nrm_then (sim_rtn ?_)))
 exact rtn_fn (b1v, none, 0) rfl rfl rfl (.sel 0 rfl (.row_nil (.sel 0 rfl (.nil _))))
def wire_NewWriter.v  : List UInt8 × Int := (wire_NewWriter.f).getD ([], 0)
theorem wire_NewWriter.tot  : wire_NewWriter.f = some (wire_NewWriter.v ) := by
  have h : ∃ r, wire_NewWriter.f = some r := by
    unfold wire_NewWriter.f
    repeat' (first | exact ⟨_, rfl⟩ | split | simp only [Option.bind_some])
  obtain ⟨r, h⟩ := h
  unfold wire_NewWriter.v
  rw [h]; rfl

def wire_Size.l0 : Nat → Int → Int → Option (Int)
  | 0, _, _ => none
  | k + 1, z7v, z8v => if (128 : Int) ≤ z7v then (wire_Size.l0 k (Int.fdiv z7v (2 ^ (min (7 : Int).toNat IntKind.i64.bits))) (IntKind.i64.wrap (z8v + 1))) else (some z8v)
def wire_Size.f (k : Nat) (x0 : Int) : Option (Int) := if ((decide (x0 < (0 : Int))) || (decide ((4611686018427387904 : Int) < x0))) = true then (some 0) else ((wire_Size.l0 k x0 1).bind fun s3v => (some s3v))
theorem wire_Size.calls (W : World) (F : HA) (k : Nat) (x0 : Int)  :
    Fn Try.prog W 47 [.int .i64 x0] [] F (wire_Size.f k x0) (fun (r : Int) (y : Unit) => .int .i64 r) (fun r y => []) := by
 unfold wire_Size.f
 refine fn_intro 17 Try.func47 rfl Try.ntmps47 rfl ?_
 refine sim_seq (sim_region ?_)
 refine simL_val (q_asg rfl rfl) rfl rfl rfl (simL_nil (nrm_then (sim_seq (sim_seq (sim_region ?_)))))
 refine simL_val (q_move rfl rfl) rfl rfl rfl ?_
 refine simL_val (q_lss rfl rfl rfl) rfl rfl rfl ?_
 refine simL_val (q_move rfl rfl) rfl rfl rfl ?_
 refine simL_valc (b := decide (x0 < (0 : Int))) (fun hb12v => RQ.sub (E' := [(0, .int .i64 x0)]) ⟨rfl, trivial⟩ (q_move rfl rfl)) rfl rfl rfl rfl rfl ?_
 refine simL_valc (b := decide (x0 < (0 : Int))) (fun hb11v => RQ.sub (E' := [(7, .int .i64 x0)]) ⟨lk_cv rfl hb11v, trivial⟩ (q_gtr rfl rfl rfl)) rfl rfl rfl rfl rfl ?_
 refine simL_val (q_or rfl rfl rfl) rfl rfl rfl (simL_nil (nrm_then ?_))
 refine sim_condb rfl (fun h1v => ?_) (fun h2v => ?_)
 refine sim_seq (sim_region ?_)
 refine simL_val (q_asg rfl rfl) rfl rfl rfl (simL_nil (nrm_then (sim_rtn ?_)))
 refine rtn_then ?_
 exact rtn_fn () rfl rfl rfl (.sel 0 rfl (.nil _))
 refine sim_skip ?_
 refine nrm_then (sim_seq (sim_region ?_))
 refine simL_val (q_asg rfl rfl) rfl rfl rfl (simL_nil (nrm_then ?_))
 refine sim_cut (S := Int) (Unit) (fun s y => [(3, .int .i64 s)]) (fun s y => [F]) ?_ ?_
 refine sim_block ?_
 refine sim_loop (S := Int × Int) (Unit) (fun k s => wire_Size.l0 k s.1 s.2) (fun s y => [(0, .int .i64 s.1), (3, .int .i64 s.2)]) (fun s y => [F]) (fun _ => by rw [wire_Size.l0]) ?_ k (x0, 1) () ⟨rfl, rfl, trivial⟩ (.sel 0 rfl (.nil _))
 intro k s5v y6v
 refine sim_eq (by rw [wire_Size.l0]) ?_
 refine sim_seq (sim_seq (sim_region ?_))
 refine simL_val (q_move rfl rfl) rfl rfl rfl ?_
 refine simL_val (q_geq rfl rfl rfl) rfl rfl rfl (simL_nil (nrm_then ?_))
 refine sim_cond rfl (fun h9v => ?_) (fun h10v => ?_)
 refine sim_skip ?_
 refine nrm_then ?_
 refine sim_block ?_
 refine sim_seq (sim_region ?_)
 refine simL_val (q_move rfl rfl) rfl rfl rfl ?_
 refine simL_val (q_shr rfl rfl rfl (by decide)) rfl rfl rfl ?_
 refine simL_val (q_asg rfl rfl) rfl rfl rfl (simL_nil (nrm_then (sim_region ?_)))
 refine simL_val (q_move rfl rfl) rfl rfl rfl ?_
 refine simL_val (q_add rfl rfl rfl) rfl rfl rfl ?_
 refine simL_val (q_asg rfl rfl) rfl rfl rfl (simL_nil (nrm_block ?_))
 exact nrm_again (s := (Int.fdiv s5v.1 (2 ^ (min (7 : Int).toNat IntKind.i64.bits)), IntKind.i64.wrap (s5v.2 + 1))) () ⟨rfl, rfl, trivial⟩ (.sel 0 rfl (.nil _))
 refine sim_exi ?_
 refine exi_then ?_
 refine exi_loop ?_
 refine exi_here ?_
 exact nrm_cut (s := s5v.2) () ⟨rfl, trivial⟩ (.sel 0 rfl (.nil _))
 intro s3v y4v
 refine sim_seq (sim_region ?_)
 refine simL_val (q_move rfl rfl) rfl rfl rfl ?_
 refine simL_val (q_asg rfl rfl) rfl rfl rfl (simL_nil (nrm_then (sim_rtn ?_)))
 exact rtn_fn () rfl rfl rfl (.sel 0 rfl (.nil _))

def wire_sevens_1.l0 {S : Type} (step : S → Int → Option S) : Nat → Int → S → Option (Int × S)
  | 0, _, _ => none
  | k + 1, z5v, z6v => if (128 : Int) ≤ z5v then ((step z6v (IntKind.u8.wrap (bitsV .or .i64 (bitsV .and .i64 z5v 127) 128))).bind fun s9v => (wire_sevens_1.l0 step k (Int.fdiv z5v (2 ^ (min (7 : Int).toNat IntKind.i64.bits))) s9v)) else (some (z5v, z6v))
def wire_sevens_1.f {S : Type} (k : Nat) (step : S → Int → Option S) (s0 : S) (x1_0 : Int) : Option (S) := (wire_sevens_1.l0 step k x1_0 s0).bind fun s1v => ((step s1v.2 (IntKind.u8.wrap s1v.1)).bind fun s12v => (some s12v))
theorem wire_sevens_1.calls (W : World) (F : HA) (k : Nat) (S Y : Type) (l : Nat) (step : S → Int → Option S) (A : S → Y → HA) (s0 : S) (y0 : Y) (b1 : Nat) (x1_0 : Int) (hY : YieldOk Try.prog W l (fun (x : Int) => [.int .u8 x]) step A) :
    Fn Try.prog W 62 [.func (.yield l) #[] #[], .pointer (some ⟨b1, 0, none⟩)] [A s0 y0, obj b1 3 [.int .i64 x1_0]] F (wire_sevens_1.f k step s0 x1_0) (fun (r : S) (y : Y) => .tuple #[]) (fun r y => [A r y, obj b1 3 [.int .i64 x1_0]]) := by
 unfold wire_sevens_1.f
 refine fn_intro 20 Try.func62 rfl Try.ntmps62 rfl ?_
 refine sim_seq (sim_region ?_)
 refine simL_val (q_load rfl rfl Try.isAgg3 (.obj 1 rfl rfl)) rfl rfl rfl ?_
 refine simL_val (q_asg rfl rfl) rfl rfl rfl (simL_nil (nrm_then ?_))
 refine sim_cut (S := Int × S) (Y) (fun s y => [(0, .func (.yield l) #[] #[]), (3, .int .i64 s.1)]) (fun s y => [obj b1 3 [.int .i64 x1_0], A s.2 y, F]) ?_ ?_
 refine sim_block ?_
 refine sim_loop (S := Int × S) (Y) (fun k s => wire_sevens_1.l0 step k s.1 s.2) (fun s y => [(0, .func (.yield l) #[] #[]), (3, .int .i64 s.1)]) (fun s y => [obj b1 3 [.int .i64 x1_0], A s.2 y, F]) (fun _ => by rw [wire_sevens_1.l0]) ?_ k (x1_0, s0) y0 ⟨rfl, rfl, trivial⟩ (.sel 1 rfl (.sel 0 rfl (.sel 0 rfl (.nil _))))
 intro k s3v y4v
 refine sim_eq (by rw [wire_sevens_1.l0]) ?_
 refine sim_seq (sim_seq (sim_region ?_))
 refine simL_val (q_move rfl rfl) rfl rfl rfl ?_
 refine simL_val (q_geq rfl rfl rfl) rfl rfl rfl (simL_nil (nrm_then ?_))
 refine sim_cond rfl (fun h7v => ?_) (fun h8v => ?_)
 refine sim_skip ?_
 refine nrm_then ?_
 refine sim_block ?_
 refine sim_seq (sim_seq (sim_region ?_))
 refine simL_val (q_move rfl rfl) rfl rfl rfl ?_
 refine simL_val (q_move rfl rfl) rfl rfl rfl ?_
 refine simL_val (q_and_ rfl rfl rfl) rfl rfl rfl ?_
 refine simL_val (q_or_ rfl rfl rfl) rfl rfl rfl ?_
 refine simL_val (q_conv rfl rfl Try.underlying3 Try.underlying5) rfl rfl rfl ?_
 refine simL_bind (fun s9v hs11v => ?_)
 refine simL_eff (re_yield (IntKind.u8.wrap (bitsV .or .i64 (bitsV .and .i64 s3v.1 127) 128)) 1 rfl rfl rfl rfl rfl rfl hY rfl hs11v) rfl rfl rfl ?_
 intro y10v
 refine simL_val (q_not rfl rfl) rfl rfl rfl (simL_nil (nrm_then ?_))
 refine sim_false rfl ?_
 refine sim_skip ?_
 refine nrm_then (sim_region ?_)
 refine simL_val (q_move rfl rfl) rfl rfl rfl ?_
 refine simL_val (q_shr rfl rfl rfl (by decide)) rfl rfl rfl ?_
 refine simL_val (q_asg rfl rfl) rfl rfl rfl (simL_nil (nrm_block ?_))
 exact nrm_again (s := (Int.fdiv s3v.1 (2 ^ (min (7 : Int).toNat IntKind.i64.bits)), s9v)) y10v ⟨rfl, rfl, trivial⟩ (.sel 0 rfl (.sel 0 rfl (.sel 0 rfl (.nil _))))
 refine sim_exi ?_
 refine exi_then ?_
 refine exi_loop ?_
 refine exi_here ?_
 exact nrm_cut (s := (s3v.1, s3v.2)) y4v ⟨rfl, rfl, trivial⟩ (.sel 0 rfl (.sel 0 rfl (.sel 0 rfl (.nil _))))
 intro s1v y2v
 refine sim_region ?_
 refine simL_val (q_move rfl rfl) rfl rfl rfl ?_
 refine simL_val (q_move rfl rfl) rfl rfl rfl ?_
 refine simL_val (q_conv rfl rfl Try.underlying3 Try.underlying5) rfl rfl rfl ?_
 refine simL_bind (fun s12v hs14v => ?_)
 refine simL_eff (re_yield (IntKind.u8.wrap s1v.1) 1 rfl rfl rfl rfl rfl rfl hY rfl hs14v) rfl rfl rfl ?_
 intro y13v
 refine simL_nil ?_
 exact nrm_fn y13v rfl rfl rfl (.sel 1 rfl (.sel 0 rfl (.sel 0 rfl (.nil _))))

def wire_sevens.f (x0 : Int) : Option (Int) := some x0
theorem wire_sevens.calls (W : World) (F : HA) (x0 : Int)  :
    Fn Try.prog W 48 [.int .i64 x0] [] F (wire_sevens.f x0) (fun (r : Int) (y : Nat) => .func (.func 62) #[] #[.pointer (some ⟨y, 0, none⟩)]) (fun r y => [obj y 3 [.int .i64 r]]) := by
 unfold wire_sevens.f
 refine fn_intro 4 Try.func48 rfl Try.ntmps48 rfl ?_
 refine sim_seq (sim_region ?_)
 refine simL_eff (re_box rfl rfl rfl) rfl rfl rfl ?_
 intro b1v
 refine simL_val (q_asg rfl rfl) rfl rfl rfl (simL_nil (nrm_then (sim_seq (sim_region ?_))))
 refine simL_val (q_mkfn rfl rfl rfl) rfl rfl rfl ?_
 refine simL_val (q_asg rfl rfl) rfl rfl rfl (simL_nil (nrm_then (sim_rtn ?_)))
 exact rtn_fn b1v rfl rfl rfl (.sel 0 rfl (.sel 0 rfl (.nil _)))
def wire_sevens.v (x0 : Int) : Int := (wire_sevens.f x0).getD 0
theorem wire_sevens.tot (x0 : Int) : wire_sevens.f x0 = some (wire_sevens.v x0) := by
  have h : ∃ r, wire_sevens.f x0 = some r := by
    unfold wire_sevens.f
    repeat' (first | exact ⟨_, rfl⟩ | split | simp only [Option.bind_some])
  obtain ⟨r, h⟩ := h
  unfold wire_sevens.v
  rw [h]; rfl

def wire_Writer_Int.f (k : Nat) (x0_0 : List UInt8) (x0_1 : Int) (x1 : Int) : Option (List UInt8 × Int) := if x0_1 = (0 : Int) then ((wire_Size.f k x1).bind fun s4v => (if s4v = (0 : Int) then (some (x0_0, 1)) else ((wire_sevens.f x1).bind fun s9v => ((wire_sevens_1.f k (fun (s13v : List UInt8) (x12v : Int) => if 0 ≤ x12v ∧ x12v < 256 then (if (s13v.length + ([(byte x12v)] : List UInt8).length) * 1 ≤ 140737488355328 then (some (s13v ++ ([(byte x12v)] : List UInt8))) else none) else none) x0_0 s9v).bind fun s20v => (some (s20v, x0_1)))))) else (some (x0_0, x0_1))
theorem wire_Writer_Int.calls (W : World) (F : HA) (k : Nat) (b0 : Nat) (a0_0 : Option Addr) (c0_0 : Nat) (x0_0 : List UInt8) (x0_1 : Int) (x1 : Int)  :
    Fn Try.prog W 29 [.pointer (some ⟨b0, 0, none⟩), .int .i64 x1] [obj b0 100 [.slice a0_0 x0_0.length c0_0, .int .i64 x0_1], Row 5 1 a0_0 x0_0.length c0_0 (encB x0_0)] F (wire_Writer_Int.f k x0_0 x0_1 x1) (fun (r : List UInt8 × Int) (y : Option Addr × Nat) => .tuple #[]) (fun r y => [obj b0 100 [.slice y.1 r.1.length y.2, .int .i64 r.2], Row 5 1 y.1 r.1.length y.2 (encB r.1)]) := by
 unfold wire_Writer_Int.f
 refine fn_introM 29 Try.func29 rfl Try.ntmps29 rfl ?_
 refine sim_seq (sim_region ?_)
 refine simL_eff (re_box rfl rfl rfl) rfl rfl rfl ?_
 intro b1v
 refine simL_nil (nrm_then (sim_seq (sim_seq (sim_region ?_))))
 refine simL_val (q_load rfl rfl Try.isAgg71 (.obj 0 rfl rfl)) rfl rfl rfl ?_
 refine simL_val (q_nil rfl rfl) rfl rfl rfl ?_
 refine simL_val (q_fa rfl rfl Try.underlying100 rfl rfl Try.sizeOf29 rfl) rfl rfl rfl ?_
 refine simL_val (q_load rfl rfl Try.isAgg29 (.obj 1 rfl rfl)) rfl rfl rfl ?_
 refine simL_val (q_neq rfl rfl rfl) rfl rfl rfl (simL_nil (nrm_then ?_))
 refine sim_condn rfl (fun h2v => ?_) (fun h3v => ?_)
 refine sim_skip ?_
 refine nrm_then (sim_seq (sim_seq (sim_region ?_)))
 refine simL_val (q_move rfl rfl) rfl rfl rfl ?_
 refine simL_bind (fun s4v hs6v => ?_)
 refine simL_eff (re_call (vs := [.int .i64 x1]) (cap := []) (A := []) (rst := [obj b1v 71 [.pointer (some ⟨b0, 0, none⟩)], obj b0 100 [.slice a0_0 x0_0.length c0_0, .int .i64 x0_1], Row 5 1 a0_0 x0_0.length c0_0 (encB x0_0), F]) rfl rfl rfl rfl rfl rfl Try.call47 (.sel 0 rfl (.sel 0 rfl (.sel 0 rfl (.sel 0 rfl (.nil _))))) (wire_Size.calls _ _ k x1 ) hs6v) rfl rfl rfl ?_
 intro y5v
 refine simL_val (q_eql rfl rfl rfl) rfl rfl rfl (simL_nil (nrm_then ?_))
 refine sim_cond rfl (fun h7v => ?_) (fun h8v => ?_)
 refine sim_seq (sim_region ?_)
 refine simL_val (q_load rfl rfl Try.isAgg71 (.obj 0 rfl rfl)) rfl rfl rfl ?_
 refine simL_val (q_nil rfl rfl) rfl rfl rfl ?_
 refine simL_val (q_fa rfl rfl Try.underlying100 rfl rfl Try.sizeOf29 rfl) rfl rfl rfl ?_
 refine simL_do (re_store 1 rfl rfl rfl Try.sizeOf29 rfl rfl (one_of (by rfl)) rfl rfl) rfl rfl ?_
 intro _
 refine simL_nil (nrm_then (sim_rtn ?_))
 refine rtn_then ?_
 exact rtn_fnM [] (a0_0, c0_0) rfl rfl rfl (.sel 1 rfl (.sel 1 rfl (.sel 1 rfl (.nil _))))
 refine sim_skip ?_
 refine nrm_then (sim_seq (sim_region ?_))
 refine simL_val (q_move rfl rfl) rfl rfl rfl ?_
 refine simL_bind (fun s9v hs11v => ?_)
 refine simL_eff (re_call (vs := [.int .i64 x1]) (cap := []) (A := []) (rst := [obj b1v 71 [.pointer (some ⟨b0, 0, none⟩)], obj b0 100 [.slice a0_0 x0_0.length c0_0, .int .i64 x0_1], Row 5 1 a0_0 x0_0.length c0_0 (encB x0_0), F]) rfl rfl rfl rfl rfl rfl Try.call48 (.sel 0 rfl (.sel 0 rfl (.sel 0 rfl (.sel 0 rfl (.nil _))))) (wire_sevens.calls _ _ x1 ) hs11v) rfl rfl rfl ?_
 intro y10v
 refine simL_nil (nrm_then ?_)
 refine sim_block ?_
 refine sim_range (S := List UInt8) (Y := Option Addr × Nat) (R' := List UInt8) (Y' := (Option Addr × Nat)) (ps := [18]) (Cap := [obj y10v 3 [.int .i64 s9v]]) (rst := []) (CapB := fun r y => [obj y10v 3 [.int .i64 s9v]]) (enc := fun (x : Int) => [.int .u8 x]) (oN := wire_sevens_1.f k (fun (s13v : List UInt8) (x12v : Int) => if 0 ≤ x12v ∧ x12v < 256 then (if (s13v.length + ([(byte x12v)] : List UInt8).length) * 1 ≤ 140737488355328 then (some (s13v ++ ([(byte x12v)] : List UInt8))) else none) else none) x0_0 s9v) (fun s y => [obj b1v 71 [.pointer (some ⟨b0, 0, none⟩)], obj b0 100 [.slice y.1 s.length y.2, .int .i64 x0_1], Row 5 1 y.1 s.length y.2 (encB s), F]) x0_0 (a0_0, c0_0) (fun s13v x12v y14v => [(2, .pointer (some ⟨b1v, 0, none⟩)), (4, .int .u8 x12v)]) (fun r => r) (fun r y => y) rfl rfl Try.call62 (fun l A hY X => wire_sevens_1.calls _ _ k _ _ l _ A _ _ y10v s9v hY) rfl (fun _ => rfl) (.sel 1 rfl (.sel 1 rfl (.sel 1 rfl (.sel 1 rfl (.sel 0 rfl (.nil _)))))) ?_ ?_ ?_
 intro l s13v x12v y14v Fr
 refine sim_ent (H' := [obj b1v 71 [.pointer (some ⟨b0, 0, none⟩)], obj b0 100 [.slice y14v.1 s13v.length y14v.2, .int .i64 x0_1], Row 5 1 y14v.1 s13v.length y14v.2 (encB s13v), F, Fr]) (Ent.refl _) ?_
 refine sim_region ?_
 refine simL_val (q_asg rfl rfl) rfl rfl rfl (simL_nil ?_)
 exact nrm_cut () ⟨rfl, rfl, trivial⟩ (Ent.refl _)
 intro l s13v x12v y14v Fr
 refine sim_ent (H' := [obj b1v 71 [.pointer (some ⟨b0, 0, none⟩)], obj b0 100 [.slice y14v.1 s13v.length y14v.2, .int .i64 x0_1], Row 5 1 y14v.1 s13v.length y14v.2 (encB s13v), F, Fr]) (Ent.refl _) ?_
 refine sim_block ?_
 refine sim_ask (fun hb16v => ?_)
 refine sim_ask (fun hb18v => ?_)
 refine sim_draw (Γ := Nat × (Option Addr × Nat)) (0, (none, 0)) [[], [], [1], [1, 2], [1, 2, 3], [], [5], [1, 2, 3, 4, 5, 6], [0, 1, 2, 3, 4, 5, 6, 7], [0, 1, 2, 3, 4, 5, 6, 7, 8], [0, 1, 2, 3, 4, 5, 6, 7, 8, 9]] [6, 7, 10] [0, 1, 2, 3, 4, 5, 8, 9] (fun i => [[0, 1, 2], [0, 1], [0, 1], [0, 1], [0, 1], [0], [], [], [2], [2], []].getD i []) (fun i => [[], [], [], [], [], [], [0, 1, 2, 3, 4, 5], [0, 1, 2, 3, 4, 5, 6], [], [], [0, 1, 2, 3, 4, 5, 6, 7, 8, 9]].getD i []) (fun γ i => [.pointer (some ⟨b0, 0, none⟩), .pointer (some ⟨b0, 0, none⟩), .pointer (some ⟨b0, 0, none⟩), .pointer (some ⟨b0, 0, none⟩), .slice y14v.1 s13v.length y14v.2, .int .u8 x12v, .slice (some ⟨γ.1, 0, none⟩) (([(byte x12v)] : List UInt8).length) 1, .slice γ.2.1 ((s13v ++ ([(byte x12v)] : List UInt8)).length) γ.2.2, .pointer (some ⟨b0, 0, none⟩), .pointer (some ⟨b0, 0, none⟩), undef].getD i undef) (fun j γ => [[obj b1v 71 [.pointer (some ⟨b0, 0, none⟩)], obj b0 100 [.slice y14v.1 s13v.length y14v.2, .int .i64 x0_1], Row 5 1 y14v.1 s13v.length y14v.2 (encB s13v), F, Fr], [Row 5 1 (some ⟨γ.1, 0, none⟩) ([(byte x12v)] : List UInt8).length 1 (encB ([(byte x12v)] : List UInt8)), obj b1v 71 [.pointer (some ⟨b0, 0, none⟩)], obj b0 100 [.slice y14v.1 s13v.length y14v.2, .int .i64 x0_1], Row 5 1 y14v.1 s13v.length y14v.2 (encB s13v), F, Fr], [Row 5 1 (some ⟨γ.1, 0, none⟩) ([(byte x12v)] : List UInt8).length 1 (encB ([(byte x12v)] : List UInt8)), obj b1v 71 [.pointer (some ⟨b0, 0, none⟩)], obj b0 100 [.slice y14v.1 s13v.length y14v.2, .int .i64 x0_1], Row 5 1 γ.2.1 (s13v ++ ([(byte x12v)] : List UInt8)).length γ.2.2 (encB (s13v ++ ([(byte x12v)] : List UInt8))), F, Fr], [Row 5 1 (some ⟨γ.1, 0, none⟩) ([(byte x12v)] : List UInt8).length 1 (encB ([(byte x12v)] : List UInt8)), obj b1v 71 [.pointer (some ⟨b0, 0, none⟩)], obj b0 100 [.slice γ.2.1 ((s13v ++ ([(byte x12v)] : List UInt8)).length) γ.2.2, .int .i64 x0_1], Row 5 1 γ.2.1 (s13v ++ ([(byte x12v)] : List UInt8)).length γ.2.2 (encB (s13v ++ ([(byte x12v)] : List UInt8))), F, Fr]].getD j []) (fun γ => []) mixed (by decide) (by decide) (by decide) (by decide) (by decide) (by decide) (by decide) 29 rfl (by decide) (by decide) (by decide) (Ent.refl _) ?_ ?_ (fun _ => trivial) ?_
 exact (All.cons (fun γ => (All.cons (QOb.plain [(2, .pointer (some ⟨b1v, 0, none⟩))] rfl rfl (.o rfl (by decide) .nil) (q_load rfl rfl Try.isAgg71 (.obj 0 rfl rfl)) rfl) (All.cons (QOb.plain [(2, .pointer (some ⟨b1v, 0, none⟩))] rfl rfl (.o rfl (by decide) .nil) (q_load rfl rfl Try.isAgg71 (.obj 1 rfl rfl)) rfl) (All.cons (QOb.plain [(2, .pointer (some ⟨b1v, 0, none⟩))] rfl rfl (.o rfl (by decide) .nil) (q_load rfl rfl Try.isAgg71 (.obj 1 rfl rfl)) rfl) All.nil)))) (All.cons (fun γ => (All.cons (QOb.plain [(2, .pointer (some ⟨b1v, 0, none⟩))] rfl rfl (.o rfl (by decide) .nil) (q_load rfl rfl Try.isAgg71 (.obj 0 rfl rfl)) rfl) (All.cons (QOb.plain [(2, .pointer (some ⟨b1v, 0, none⟩))] rfl rfl (.o rfl (by decide) .nil) (q_load rfl rfl Try.isAgg71 (.obj 1 rfl rfl)) rfl) All.nil))) (All.cons (fun γ => (All.cons (QOb.plain [(20, .pointer (some ⟨b0, 0, none⟩))] rfl rfl (.w 1 rfl rfl rfl .nil) (q_nil rfl rfl) rfl) (All.cons (QOb.plain [(20, .pointer (some ⟨b0, 0, none⟩))] rfl rfl (.w 1 rfl rfl rfl .nil) (q_nil rfl rfl) rfl) All.nil))) (All.cons (fun γ => (All.cons (QOb.plain [(21, .pointer (some ⟨b0, 0, none⟩))] rfl rfl (.w 2 rfl rfl rfl .nil) (q_fa rfl rfl Try.underlying100 rfl rfl Try.sizeOf35 rfl) rfl) (All.cons (QOb.plain [(21, .pointer (some ⟨b0, 0, none⟩))] rfl rfl (.w 2 rfl rfl rfl .nil) (q_fa rfl rfl Try.underlying100 rfl rfl Try.sizeOf35 rfl) rfl) All.nil))) (All.cons (fun γ => (All.cons (QOb.plain [(22, .pointer (some ⟨b0, 0, none⟩))] rfl rfl (.w 3 rfl rfl rfl .nil) (q_load rfl rfl Try.isAgg35 (.obj 1 rfl rfl)) rfl) (All.cons (QOb.plain [(22, .pointer (some ⟨b0, 0, none⟩))] rfl rfl (.w 3 rfl rfl rfl .nil) (q_load rfl rfl Try.isAgg35 (.obj 2 rfl rfl)) rfl) All.nil))) (All.cons (fun γ => (All.cons (QOb.plain [(4, .int .u8 x12v)] rfl rfl (.o rfl (by decide) .nil) (q_move rfl rfl) rfl) All.nil)) (All.cons (fun γ => (All.cons (QOb.plain [(19, .pointer (some ⟨b0, 0, none⟩))] rfl rfl (.w 0 rfl rfl rfl .nil) (q_nil rfl rfl) rfl) All.nil)) (All.cons (fun γ => (All.cons (QOb.plain [(27, .pointer (some ⟨b0, 0, none⟩))] rfl rfl (.w 8 rfl rfl rfl .nil) (q_fa rfl rfl Try.underlying100 rfl rfl Try.sizeOf35 rfl) rfl) All.nil)) All.nil))))))))
 exact (All.cons (fun γ => EOb.mk (Z := Nat) [(24, .int .u8 x12v)] (fun z => (z, γ.2)) rfl rfl (.w 5 rfl rfl rfl .nil) (re_litb (cs := [.int .u8 x12v]) ([(byte x12v)] : List UInt8) rfl rfl Try.underlying35 elt5 rfl (by kernel_rfl) rfl rfl (byte_lit1 hb16v)) (fun _ => ⟨rfl, rfl, rfl, rfl, rfl, rfl, trivial⟩) (fun _ => .inr rfl) (fun z => Ent.refl _)) (All.cons (fun γ => EOb.mk (Z := Option Addr × Nat) [(23, .slice y14v.1 s13v.length y14v.2), (25, .slice (some ⟨γ.1, 0, none⟩) (([(byte x12v)] : List UInt8).length) 1)] (fun z => (γ.1, z)) rfl rfl (.w 4 rfl rfl rfl (.w 6 rfl rfl rfl .nil)) (re_appendb 3 rfl rfl rfl Try.underlying35 elt5 rfl (Rds.row 0 rfl) hb18v) (fun _ => ⟨rfl, rfl, rfl, rfl, rfl, rfl, rfl, trivial⟩) (fun _ => .inr rfl) (fun z => Ent.refl _)) (All.cons (fun γ => EOb.mk (Z := Unit) [(26, .slice γ.2.1 ((s13v ++ ([(byte x12v)] : List UInt8)).length) γ.2.2), (28, .pointer (some ⟨b0, 0, none⟩))] (fun z => (γ.1, γ.2)) rfl rfl (.w 7 rfl rfl rfl (.w 9 rfl rfl rfl .nil)) (re_store 2 rfl rfl rfl Try.sizeOf35 rfl rfl (one_of (by rfl)) rfl rfl) (fun _ => ⟨rfl, rfl, rfl, rfl, rfl, rfl, rfl, rfl, rfl, rfl, trivial⟩) (fun _ => .inl rfl) (fun z => Ent.refl _)) All.nil)))
 intro g19v
 refine nrm_block ?_
 exact nrm_cut (s := s13v ++ ([(byte x12v)] : List UInt8)) (g19v.2.1, g19v.2.2) trivial (.sel 1 rfl (.sel 1 rfl (.sel 1 rfl (.sel 1 rfl (.sel 1 rfl (.nil _))))))
 intro D22v s20v y21v
 refine nrm_ent (H' := [shutD D22v, obj b1v 71 [.pointer (some ⟨b0, 0, none⟩)], obj b0 100 [.slice y21v.1 s20v.length y21v.2, .int .i64 x0_1], Row 5 1 y21v.1 s20v.length y21v.2 (encB s20v), F, obj y10v 3 [.int .i64 s9v]]) (Ent.refl _) ?_
 refine nrm_block ?_
 exact nrm_fnM [D22v] (y21v.1, y21v.2) rfl rfl rfl (.sel 0 rfl (.sel 1 rfl (.sel 1 rfl (.sel 1 rfl (.nil _)))))
 refine sim_rtn ?_
 refine rtn_then ?_
 exact rtn_fnM [] (a0_0, c0_0) rfl rfl rfl (.sel 1 rfl (.sel 1 rfl (.sel 1 rfl (.nil _))))

def maps_Clone_map_string_string_string_string.f (x0 : List ((List UInt8) × (List UInt8))) : Option ((List ((List UInt8) × (List UInt8)))) := some x0
theorem maps_Clone_map_string_string_string_string.calls (W : World) (F : HA) (m0 : Nat) (x0 : List ((List UInt8) × (List UInt8))) :
    Fn Try.prog W 41 [.map (some m0)] [mapO m0 enc9 enc9 x0] F (maps_Clone_map_string_string_string_string.f x0) (fun (r : (List ((List UInt8) × (List UInt8)))) (y : Nat) => .map (some y)) (fun r y => [mapO y enc9 enc9 r, mapO m0 enc9 enc9 x0]) := by
  unfold maps_Clone_map_string_string_string_string.f
  exact fn_clone (fun es clock w h => AnyW.maps_Clone shClone41 _ es clock w h)

def kv_Store_Each.f  : Option (Unit) := some ()
theorem kv_Store_Each.calls (W : World) (F : HA) (b0 : Nat)  :
    Fn Try.prog W 30 [.pointer (some ⟨b0, 0, none⟩)] [] F (kv_Store_Each.f ) (fun (r : Unit) (y : Nat) => .func (.func 49) #[] #[.pointer (some ⟨y, 0, none⟩)]) (fun r y => [obj y 25 [.pointer (some ⟨b0, 0, none⟩)]]) := by
 unfold kv_Store_Each.f
 refine fn_intro 4 Try.func30 rfl Try.ntmps30 rfl ?_
 refine sim_seq (sim_region ?_)
 refine simL_eff (re_box rfl rfl rfl) rfl rfl rfl ?_
 intro b1v
 refine simL_val (q_asg rfl rfl) rfl rfl rfl (simL_nil (nrm_then (sim_seq (sim_region ?_))))
 refine simL_val (q_mkfn rfl rfl rfl) rfl rfl rfl ?_
 refine simL_val (q_asg rfl rfl) rfl rfl rfl (simL_nil (nrm_then (sim_rtn ?_)))
 exact rtn_fn b1v rfl rfl rfl (.sel 0 rfl (.sel 0 rfl (.nil _)))

def wire_Writer_Bytes.f (k : Nat) (x0_0 : List UInt8) (x0_1 : Int) (x1 : List UInt8) (x2 : Int) : Option (List UInt8 × Int) := (if ((decide (x0_1 = (0 : Int))) && (decide (max x2 (0 : Int) < (x1.length : Int)))) = true then (some 3) else (some x0_1)).bind fun s1v => (if s1v = (0 : Int) then ((wire_Writer_Int.f k x0_0 s1v (x1.length : Int)).bind fun s12v => (if (s12v.1.length + x1.length) * 1 ≤ 140737488355328 then (some (s12v.1 ++ x1, s12v.2)) else none)) else (some (x0_0, s1v)))
theorem wire_Writer_Bytes.calls (W : World) (F : HA) (k : Nat) (b0 : Nat) (a0_0 : Option Addr) (c0_0 : Nat) (x0_0 : List UInt8) (x0_1 : Int) (a1 : Option Addr) (c1 : Nat) (x1 : List UInt8) (x2 : Int) (h1 : Rd F a1 (encB x1)) (hc1 : x1.length ≤ c1) (hm1 : c1 ≤ maxLen) :
    Fn Try.prog W 52 [.pointer (some ⟨b0, 0, none⟩), .slice a1 x1.length c1, .int .i64 x2] [obj b0 100 [.slice a0_0 x0_0.length c0_0, .int .i64 x0_1], Row 5 1 a0_0 x0_0.length c0_0 (encB x0_0)] F (wire_Writer_Bytes.f k x0_0 x0_1 x1 x2) (fun (r : List UInt8 × Int) (y : Option Addr × Nat) => .tuple #[]) (fun r y => [obj b0 100 [.slice y.1 r.1.length y.2, .int .i64 r.2], Row 5 1 y.1 r.1.length y.2 (encB r.1)]) := by
 unfold wire_Writer_Bytes.f
 refine fn_intro 39 Try.func52 rfl Try.ntmps52 rfl ?_
 refine sim_cut (S := Int) (Unit) (fun s y => [(0, .pointer (some ⟨b0, 0, none⟩)), (1, .slice a1 x1.length c1)]) (fun s y => [obj b0 100 [.slice a0_0 x0_0.length c0_0, .int .i64 s], Row 5 1 a0_0 x0_0.length c0_0 (encB x0_0), F]) ?_ ?_
 refine sim_seq (sim_region ?_)
 refine simL_val (q_move rfl rfl) rfl rfl rfl ?_
 refine simL_val (q_nil rfl rfl) rfl rfl rfl ?_
 refine simL_val (q_fa rfl rfl Try.underlying100 rfl rfl Try.sizeOf29 rfl) rfl rfl rfl ?_
 refine simL_val (q_load rfl rfl Try.isAgg29 (.obj 0 rfl rfl)) rfl rfl rfl ?_
 refine simL_val (q_eql rfl rfl rfl) rfl rfl rfl ?_
 refine simL_val (q_move rfl rfl) rfl rfl rfl ?_
 refine simL_valc (b := decide (x0_1 = (0 : Int))) (fun hb9v => RQ.sub (E' := [(1, .slice a1 x1.length c1)]) ⟨rfl, trivial⟩ (q_move rfl rfl)) rfl rfl rfl rfl rfl ?_
 refine simL_valc (b := decide (x0_1 = (0 : Int))) (fun hb8v => RQ.sub (E' := [(12, .slice a1 x1.length c1)]) ⟨lk_cv rfl hb8v, trivial⟩ (q_len rfl rfl rfl Try.underlying35)) rfl rfl rfl rfl rfl ?_
 refine simL_valc (b := decide (x0_1 = (0 : Int))) (fun hb7v => RQ.sub (E' := [(2, .int .i64 x2)]) ⟨rfl, trivial⟩ (q_move rfl rfl)) rfl rfl rfl rfl rfl ?_
 refine simL_valc (b := decide (x0_1 = (0 : Int))) (fun hb6v => RQ.sub (E' := [(14, .int .i64 x2)]) ⟨lk_cv rfl hb6v, trivial⟩ (q_max rfl rfl rfl)) rfl rfl rfl rfl rfl ?_
 refine simL_valc (b := decide (x0_1 = (0 : Int))) (fun hb5v => RQ.sub (E' := [(13, .int .i64 (x1.length : Int)), (15, .int .i64 (max x2 (0 : Int)))]) ⟨lk_cv rfl hb5v, lk_cv rfl hb5v, trivial⟩ (q_gtr rfl rfl rfl)) rfl rfl rfl rfl rfl ?_
 refine simL_val (q_and rfl rfl rfl) rfl rfl rfl (simL_nil (nrm_then ?_))
 refine sim_condb rfl (fun h3v => ?_) (fun h4v => ?_)
 refine sim_region ?_
 refine simL_val (q_move rfl rfl) rfl rfl rfl ?_
 refine simL_val (q_nil rfl rfl) rfl rfl rfl ?_
 refine simL_val (q_fa rfl rfl Try.underlying100 rfl rfl Try.sizeOf29 rfl) rfl rfl rfl ?_
 refine simL_do (re_store 0 rfl rfl rfl Try.sizeOf29 rfl rfl (one_of (by rfl)) rfl rfl) rfl rfl ?_
 intro _
 refine simL_nil ?_
 exact nrm_cut (s := 3) () ⟨rfl, rfl, trivial⟩ (.sel 0 rfl (.sel 0 rfl (.sel 0 rfl (.nil _))))
 refine sim_skip ?_
 exact nrm_cut (s := x0_1) () ⟨rfl, rfl, trivial⟩ (.sel 0 rfl (.sel 0 rfl (.sel 0 rfl (.nil _))))
 intro s1v y2v
 refine sim_seq (sim_seq (sim_region ?_))
 refine simL_val (q_move rfl rfl) rfl rfl rfl ?_
 refine simL_val (q_nil rfl rfl) rfl rfl rfl ?_
 refine simL_val (q_fa rfl rfl Try.underlying100 rfl rfl Try.sizeOf29 rfl) rfl rfl rfl ?_
 refine simL_val (q_load rfl rfl Try.isAgg29 (.obj 0 rfl rfl)) rfl rfl rfl ?_
 refine simL_val (q_neq rfl rfl rfl) rfl rfl rfl (simL_nil (nrm_then ?_))
 refine sim_condn rfl (fun h10v => ?_) (fun h11v => ?_)
 refine sim_skip ?_
 refine nrm_then (sim_seq (sim_region ?_))
 refine simL_val (q_move rfl rfl) rfl rfl rfl ?_
 refine simL_val (q_move rfl rfl) rfl rfl rfl ?_
 refine simL_val (q_len rfl rfl rfl Try.underlying35) rfl rfl rfl ?_
 refine simL_bind (fun s12v hs14v => ?_)
 refine simL_eff (re_call (vs := [.pointer (some ⟨b0, 0, none⟩), .int .i64 (x1.length : Int)]) (cap := []) (A := [obj b0 100 [.slice a0_0 x0_0.length c0_0, .int .i64 s1v], Row 5 1 a0_0 x0_0.length c0_0 (encB x0_0)]) (rst := [F]) rfl rfl rfl rfl rfl rfl Try.call29 (.sel 0 rfl (.sel 0 rfl (.sel 0 rfl (.nil _)))) (wire_Writer_Int.calls _ _ k b0 a0_0 c0_0 x0_0 s1v (x1.length : Int) ) hs14v) rfl rfl rfl ?_
 intro y13v
 refine simL_nil (nrm_then (sim_region ?_))
 refine simL_val (q_move rfl rfl) rfl rfl rfl ?_
 refine simL_val (q_move rfl rfl) rfl rfl rfl ?_
 refine simL_val (q_nil rfl rfl) rfl rfl rfl ?_
 refine simL_val (q_fa rfl rfl Try.underlying100 rfl rfl Try.sizeOf35 rfl) rfl rfl rfl ?_
 refine simL_val (q_load rfl rfl Try.isAgg35 (.obj 0 rfl rfl)) rfl rfl rfl ?_
 refine simL_val (q_move rfl rfl) rfl rfl rfl ?_
 refine simL_ask (fun hb16v => ?_)
 refine simL_eff (re_appendb 1 rfl rfl rfl Try.underlying35 elt5 rfl (h1.rds 1 rfl) hb16v) rfl rfl rfl ?_
 intro y15v
 refine simL_val (q_nil rfl rfl) rfl rfl rfl ?_
 refine simL_val (q_fa rfl rfl Try.underlying100 rfl rfl Try.sizeOf35 rfl) rfl rfl rfl ?_
 refine simL_do (re_store 0 rfl rfl rfl Try.sizeOf35 rfl rfl (one_of (by rfl)) rfl rfl) rfl rfl ?_
 intro _
 refine simL_nil ?_
 exact nrm_fn (y15v.1, y15v.2) rfl rfl rfl (.sel 0 rfl (.sel 0 rfl (.sel 0 rfl (.nil _))))
 refine sim_rtn ?_
 refine rtn_then ?_
 exact rtn_fn (a0_0, c0_0) rfl rfl rfl (.sel 0 rfl (.sel 0 rfl (.sel 0 rfl (.nil _))))

def wire_Writer_Text.f (k : Nat) (x0_0 : List UInt8) (x0_1 : Int) (x1 : List UInt8) (x2 : Int) : Option (List UInt8 × Int) := if x1.length ≤ 140737488355328 then ((wire_Writer_Bytes.f k x0_0 x0_1 x1 x2).bind fun s7v => (some (s7v.1, s7v.2))) else none
theorem wire_Writer_Text.calls (W : World) (F : HA) (k : Nat) (b0 : Nat) (a0_0 : Option Addr) (c0_0 : Nat) (x0_0 : List UInt8) (x0_1 : Int) (x1 : List UInt8) (x2 : Int)  :
    Fn Try.prog W 31 [.pointer (some ⟨b0, 0, none⟩), str x1, .int .i64 x2] [obj b0 100 [.slice a0_0 x0_0.length c0_0, .int .i64 x0_1], Row 5 1 a0_0 x0_0.length c0_0 (encB x0_0)] F (wire_Writer_Text.f k x0_0 x0_1 x1 x2) (fun (r : List UInt8 × Int) (y : Option Addr × Nat) => .tuple #[]) (fun r y => [obj b0 100 [.slice y.1 r.1.length y.2, .int .i64 r.2], Row 5 1 y.1 r.1.length y.2 (encB r.1)]) := by
 unfold wire_Writer_Text.f
 refine fn_intro 11 Try.func31 rfl Try.ntmps31 rfl ?_
 refine sim_region ?_
 refine simL_val (q_move rfl rfl) rfl rfl rfl ?_
 refine simL_val (q_move rfl rfl) rfl rfl rfl ?_
 refine simL_ask (fun hb2v => ?_)
 refine simL_eff (re_tobytes rfl rfl Try.underlying9 Try.underlying35 Try.underlying5 hb2v) rfl rfl rfl ?_
 intro y1v
 refine simL_val (q_move rfl rfl) rfl rfl rfl ?_
 refine simL_bind (fun s7v hs9v => ?_)
 refine simL_lend 0 rfl (fun hq3v hq4v hq5v hq6v => ?_)
 refine simL_eff (re_call (vs := [.pointer (some ⟨b0, 0, none⟩), .slice (some ⟨y1v.1, 0, none⟩) x1.length y1v.2, .int .i64 x2]) (cap := []) (A := [obj b0 100 [.slice a0_0 x0_0.length c0_0, .int .i64 x0_1], Row 5 1 a0_0 x0_0.length c0_0 (encB x0_0)]) (rst := [Row 5 1 (some ⟨y1v.1, 0, none⟩) x1.length y1v.2 (encB x1), F]) rfl rfl rfl rfl rfl rfl Try.call52 (.sel 1 rfl (.sel 1 rfl (.sel 0 rfl (.sel 0 rfl (.nil _))))) (wire_Writer_Bytes.calls _ _ k b0 a0_0 c0_0 x0_0 x0_1 (some ⟨y1v.1, 0, none⟩) y1v.2 x1 x2 (hq3v.lend 0 rfl) hq4v hq5v) hs9v) rfl rfl rfl ?_
 intro y8v
 refine simL_nil ?_
 exact nrm_fn (y8v.1, y8v.2) rfl rfl rfl (.sel 0 rfl (.sel 0 rfl (.sel 1 rfl (.nil _))))

def wire_fresh.f (x0 : List UInt8) : Option (List UInt8) := if 0 ≤ (x0.length : Int) ∧ (x0.length : Int) ≤ (x0.length : Int) ∧ (x0.length : Int) * 1 ≤ 140737488355328 then (some (copyB (List.replicate (x0.length : Int).toNat (0 : UInt8)) x0)) else none
theorem wire_fresh.calls (W : World) (F : HA) (a0 : Option Addr) (c0 : Nat) (x0 : List UInt8) (h0 : Rd F a0 (encB x0)) (hc0 : x0.length ≤ c0) (hm0 : c0 ≤ maxLen) :
    Fn Try.prog W 53 [.slice a0 x0.length c0] [] F (wire_fresh.f x0) (fun (r : List UInt8) (y : Option Addr × Nat) => .slice y.1 r.length y.2) (fun r y => [Row 5 1 y.1 r.length y.2 (encB r)]) := by
 unfold wire_fresh.f
 refine fn_intro 11 Try.func53 rfl Try.ntmps53 rfl ?_
 refine sim_seq (sim_region ?_)
 refine simL_val (q_asg rfl rfl) rfl rfl rfl (simL_nil (nrm_then (sim_seq (sim_region ?_))))
 refine simL_val (q_move rfl rfl) rfl rfl rfl ?_
 refine simL_val (q_len rfl rfl rfl Try.underlying35) rfl rfl rfl ?_
 refine simL_ask (fun hb2v => ?_)
 refine simL_eff (re_makeb rfl rfl rfl Try.underlying35 elt5 hb2v.1 hb2v.2.1 hb2v.2.2) rfl rfl rfl ?_
 intro b1v
 refine simL_val (q_asg rfl rfl) rfl rfl rfl (simL_nil (nrm_then (sim_seq (sim_region ?_))))
 refine simL_val (q_move rfl rfl) rfl rfl rfl ?_
 refine simL_val (q_move rfl rfl) rfl rfl rfl ?_
 refine simL_eff (re_copyb 0 rfl rfl rfl Try.underlying35 elt5 rfl (h0.rds 1 rfl)) rfl rfl rfl ?_
 intro _
 refine simL_ren (.slice (some ⟨b1v, 0, none⟩) ((copyB (List.replicate (x0.length : Int).toNat (0 : UInt8)) x0).length) ((x0.length : Int).toNat)) (d := 6) rfl (slc_len (copyB_length _ _).symm) ?_
 refine simL_ren (.slice (some ⟨b1v, 0, none⟩) ((copyB (List.replicate (x0.length : Int).toNat (0 : UInt8)) x0).length) ((x0.length : Int).toNat)) (d := 3) rfl (slc_len (copyB_length _ _).symm) ?_
 refine simL_ren (.slice (some ⟨b1v, 0, none⟩) ((copyB (List.replicate (x0.length : Int).toNat (0 : UInt8)) x0).length) ((x0.length : Int).toNat)) (d := 7) rfl (slc_len (copyB_length _ _).symm) ?_
 refine simL_nil (nrm_then (sim_seq (sim_region ?_)))
 refine simL_val (q_move rfl rfl) rfl rfl rfl ?_
 refine simL_val (q_asg rfl rfl) rfl rfl rfl (simL_nil (nrm_then (sim_rtn ?_)))
 exact rtn_fn ((some ⟨b1v, 0, none⟩), (x0.length : Int).toNat) rfl rfl rfl (.sel 0 rfl (.sel 0 rfl (.nil _)))

def wire_Writer_Done.f (x0_0 : List UInt8) (x0_1 : Int) : Option (List UInt8 × Int) := if x0_1 = (0 : Int) then ((wire_fresh.f x0_0).bind fun s3v => (some (s3v, 0))) else (some (([] : List UInt8), x0_1))
theorem wire_Writer_Done.calls (W : World) (F : HA) (b0 : Nat) (a0_0 : Option Addr) (c0_0 : Nat) (x0_0 : List UInt8) (x0_1 : Int) (h0_0 : Rd F a0_0 (encB x0_0)) (hc0_0 : x0_0.length ≤ c0_0) (hm0_0 : c0_0 ≤ maxLen) :
    Fn Try.prog W 32 [.pointer (some ⟨b0, 0, none⟩)] [obj b0 100 [.slice a0_0 x0_0.length c0_0, .int .i64 x0_1]] F (wire_Writer_Done.f x0_0 x0_1) (fun (r : List UInt8 × Int) (y : Option Addr × Nat) => .tuple #[.slice y.1 r.1.length y.2, .int .i64 r.2]) (fun r y => [Row 5 1 y.1 r.1.length y.2 (encB r.1), obj b0 100 [.slice a0_0 x0_0.length c0_0, .int .i64 x0_1]]) := by
 unfold wire_Writer_Done.f
 refine fn_intro 18 Try.func32 rfl Try.ntmps32 rfl ?_
 refine sim_seq (sim_region ?_)
 refine simL_val (q_asg rfl rfl) rfl rfl rfl ?_
 refine simL_val (q_asg rfl rfl) rfl rfl rfl (simL_nil (nrm_then (sim_seq (sim_seq (sim_region ?_)))))
 refine simL_val (q_move rfl rfl) rfl rfl rfl ?_
 refine simL_val (q_nil rfl rfl) rfl rfl rfl ?_
 refine simL_val (q_fa rfl rfl Try.underlying100 rfl rfl Try.sizeOf29 rfl) rfl rfl rfl ?_
 refine simL_val (q_load rfl rfl Try.isAgg29 (.obj 0 rfl rfl)) rfl rfl rfl ?_
 refine simL_val (q_neq rfl rfl rfl) rfl rfl rfl (simL_nil (nrm_then ?_))
 refine sim_condn rfl (fun h1v => ?_) (fun h2v => ?_)
 refine sim_skip ?_
 refine nrm_then (sim_seq (sim_region ?_))
 refine simL_val (q_move rfl rfl) rfl rfl rfl ?_
 refine simL_val (q_nil rfl rfl) rfl rfl rfl ?_
 refine simL_val (q_fa rfl rfl Try.underlying100 rfl rfl Try.sizeOf35 rfl) rfl rfl rfl ?_
 refine simL_val (q_load rfl rfl Try.isAgg35 (.obj 0 rfl rfl)) rfl rfl rfl ?_
 refine simL_bind (fun s3v hs5v => ?_)
 refine simL_eff (re_call (vs := [.slice a0_0 x0_0.length c0_0]) (cap := []) (A := []) (rst := [obj b0 100 [.slice a0_0 x0_0.length c0_0, .int .i64 x0_1], F]) rfl rfl rfl rfl rfl rfl Try.call53 (.sel 0 rfl (.sel 0 rfl (.nil _))) (wire_fresh.calls _ _ a0_0 c0_0 x0_0 (h0_0.lend 1 rfl) hc0_0 hm0_0) hs5v) rfl rfl rfl ?_
 intro y4v
 refine simL_val (q_asg rfl rfl) rfl rfl rfl ?_
 refine simL_val (q_asg rfl rfl) rfl rfl rfl (simL_nil (nrm_then (sim_rtn ?_)))
 exact rtn_fn (y4v.1, y4v.2) rfl rfl rfl (.sel 0 rfl (.sel 0 rfl (.sel 0 rfl (.nil _))))
 refine sim_seq ?_
 refine sim_draw (Γ := Unit) () [[], [0], [0, 1], [0, 1, 2], [], [0, 1, 2, 3, 4]] [] [0, 1, 2, 3, 4, 5] (fun i => [[0], [0], [0], [0], [0], [0]].getD i []) (fun i => [[], [], [], [], [], []].getD i []) (fun γ i => [.pointer (some ⟨b0, 0, none⟩), .pointer (some ⟨b0, 0, none⟩), .pointer (some ⟨b0, 1, none⟩), .int .i64 x0_1, .slice none 0 0, .int .i64 x0_1].getD i undef) (fun j γ => [[obj b0 100 [.slice a0_0 x0_0.length c0_0, .int .i64 x0_1], F]].getD j []) (fun γ => [(2, .slice none 0 0), (3, .int .i64 x0_1)]) mixed (by decide) (by decide) (by decide) (by decide) (by decide) (by decide) (by decide) 18 rfl (by decide) (by decide) (by decide) (Ent.refl _) ?_ ?_ (fun _ => ⟨rfl, rfl, trivial⟩) ?_
 exact (All.cons (fun γ => (All.cons (QOb.plain [(0, .pointer (some ⟨b0, 0, none⟩))] rfl rfl (.o rfl (by decide) .nil) (q_move rfl rfl) rfl) All.nil)) (All.cons (fun γ => (All.cons (QOb.plain [(9, .pointer (some ⟨b0, 0, none⟩))] rfl rfl (.w 0 rfl rfl rfl .nil) (q_nil rfl rfl) rfl) All.nil)) (All.cons (fun γ => (All.cons (QOb.plain [(10, .pointer (some ⟨b0, 0, none⟩))] rfl rfl (.w 1 rfl rfl rfl .nil) (q_fa rfl rfl Try.underlying100 rfl rfl Try.sizeOf29 rfl) rfl) All.nil)) (All.cons (fun γ => (All.cons (QOb.plain [(11, .pointer (some ⟨b0, 1, none⟩))] rfl rfl (.w 2 rfl rfl rfl .nil) (q_load rfl rfl Try.isAgg29 (.obj 0 rfl rfl)) rfl) All.nil)) (All.cons (fun γ => (All.cons (QOb.plain [] rfl rfl .nil (q_asg rfl rfl) rfl) All.nil)) (All.cons (fun γ => (All.cons (QOb.plain [(12, .int .i64 x0_1)] rfl rfl (.w 3 rfl rfl rfl .nil) (q_asg rfl rfl) rfl) All.nil)) All.nil))))))
 exact All.nil
 intro g6v
 refine nrm_then (sim_rtn ?_)
 refine rtn_then ?_
 exact rtn_fn (none, 0) rfl rfl rfl (.row_nil (.sel 0 rfl (.sel 0 rfl (.nil _))))

def kv_Store_Each_1_s.l0 {S : Type} (step : S → (List UInt8 × List UInt8) → Option S) (s1v : List ((List UInt8) × (List UInt8))) (s7v : List (List UInt8)) : Nat → Int → S → Option (S)
  | 0, _, _ => none
  | k + 1, z12v, z13v => if z12v < (s7v.length : Int) then (if 0 ≤ z12v ∧ z12v < (s7v.length : Int) then ((step z13v ((s7v.getD z12v.toNat ([] : List UInt8)), ((mget s1v (s7v.getD z12v.toNat ([] : List UInt8))).getD ([] : List UInt8)))).bind fun s26v => (kv_Store_Each_1_s.l0 step s1v s7v k (IntKind.i64.wrap (z12v + 1)) s26v)) else none) else (some z13v)
def kv_Store_Each_1_s.f {S : Type} (k : Nat) (step : S → (List UInt8 × List UInt8) → Option S) (s0 : S) (xp1_0 : List ((List UInt8) × (List UInt8))) (xp1_1 : List ((Int) × (Int × Int × Int × List UInt8))) : Option (S) := (maps_Clone_map_string_string_string_string.f xp1_0).bind fun s1v => ((maps_Keys_map_string_string_string_string.f).bind fun s4v => ((slices_Sorted_string_maps_Keys_map_string_string_string_string_1.f s1v).bind fun s7v => (kv_Store_Each_1_s.l0 step s1v s7v k 0 s0)))
theorem kv_Store_Each_1_s.calls (W : World) (F : HA) (k : Nat) (S Y : Type) (l : Nat) (step : S → List UInt8 × List UInt8 → Option S) (A : S → Y → HA) (s0 : S) (y0 : Y) (bp0 : Nat) (bp1 : Nat) (mp1_0 : Nat) (xp1_0 : List ((List UInt8) × (List UInt8))) (mp1_1 : Nat) (xp1_1 : List ((Int) × (Int × Int × Int × List UInt8))) (hY : YieldOk Try.prog W l (fun (x : List UInt8 × List UInt8) => [str x.1, str x.2]) step A) :
    Fn Try.prog W 49 [.func (.yield l) #[] #[], .pointer (some ⟨bp0, 0, none⟩)] [A s0 y0, obj bp1 63 [.map (some mp1_0), .map (some mp1_1)], mapO mp1_0 enc9 enc9 xp1_0, mapO mp1_1 enc3 enc42 xp1_1, obj bp0 25 [.pointer (some ⟨bp1, 0, none⟩)]] F (kv_Store_Each_1_s.f k step s0 xp1_0 xp1_1) (fun (r : S) (y : Y) => .tuple #[]) (fun r y => [A r y, obj bp1 63 [.map (some mp1_0), .map (some mp1_1)], mapO mp1_0 enc9 enc9 xp1_0, mapO mp1_1 enc3 enc42 xp1_1, obj bp0 25 [.pointer (some ⟨bp1, 0, none⟩)]]) := by
 unfold kv_Store_Each_1_s.f
 refine fn_intro 27 Try.func49 rfl Try.ntmps49 rfl ?_
 refine sim_seq (sim_region ?_)
 refine simL_val (q_load rfl rfl Try.isAgg25 (.obj 4 rfl rfl)) rfl rfl rfl ?_
 refine simL_val (q_nil rfl rfl) rfl rfl rfl ?_
 refine simL_val (q_fa rfl rfl Try.underlying63 rfl rfl Try.sizeOf60 rfl) rfl rfl rfl ?_
 refine simL_val (q_load rfl rfl Try.isAgg60 (.obj 1 rfl rfl)) rfl rfl rfl ?_
 refine simL_bind (fun s1v hs3v => ?_)
 refine simL_eff (re_call (vs := [.map (some mp1_0)]) (cap := []) (A := [mapO mp1_0 enc9 enc9 xp1_0]) (rst := [A s0 y0, obj bp1 63 [.map (some mp1_0), .map (some mp1_1)], mapO mp1_1 enc3 enc42 xp1_1, obj bp0 25 [.pointer (some ⟨bp1, 0, none⟩)], F]) rfl rfl rfl rfl rfl rfl Try.call41 (.sel 2 rfl (.sel 0 rfl (.sel 0 rfl (.sel 0 rfl (.sel 0 rfl (.sel 0 rfl (.nil _))))))) (maps_Clone_map_string_string_string_string.calls _ _ mp1_0 xp1_0 ) hs3v) rfl rfl rfl ?_
 intro y2v
 refine simL_val (q_asg rfl rfl) rfl rfl rfl (simL_nil (nrm_then (sim_seq (sim_region ?_))))
 refine simL_val (q_move rfl rfl) rfl rfl rfl ?_
 refine simL_bind (fun s4v hs6v => ?_)
 refine simL_eff (re_call (vs := [.map (some y2v)]) (cap := []) (A := []) (rst := [mapO y2v enc9 enc9 s1v, mapO mp1_0 enc9 enc9 xp1_0, A s0 y0, obj bp1 63 [.map (some mp1_0), .map (some mp1_1)], mapO mp1_1 enc3 enc42 xp1_1, obj bp0 25 [.pointer (some ⟨bp1, 0, none⟩)], F]) rfl rfl rfl rfl rfl rfl Try.call51 (.sel 0 rfl (.sel 0 rfl (.sel 0 rfl (.sel 0 rfl (.sel 0 rfl (.sel 0 rfl (.sel 0 rfl (.nil _)))))))) (maps_Keys_map_string_string_string_string.calls _ _ y2v ) hs6v) rfl rfl rfl ?_
 intro y5v
 refine simL_bind (fun s7v hs9v => ?_)
 refine simL_eff (re_call (vs := [.func (.func 65) #[] #[.pointer (some ⟨y5v, 0, none⟩)]]) (cap := []) (A := [obj y5v 60 [.map (some y2v)], mapO y2v enc9 enc9 s1v]) (rst := [mapO mp1_0 enc9 enc9 xp1_0, A s0 y0, obj bp1 63 [.map (some mp1_0), .map (some mp1_1)], mapO mp1_1 enc3 enc42 xp1_1, obj bp0 25 [.pointer (some ⟨bp1, 0, none⟩)], F]) rfl rfl rfl rfl rfl rfl Try.call50 (.sel 0 rfl (.sel 0 rfl (.sel 0 rfl (.sel 0 rfl (.sel 0 rfl (.sel 0 rfl (.sel 0 rfl (.sel 0 rfl (.nil _))))))))) (slices_Sorted_string_maps_Keys_map_string_string_string_string_1.calls _ _ y5v y2v s1v ) hs9v) rfl rfl rfl ?_
 intro y8v
 refine simL_val (q_len rfl rfl rfl Try.underlying93) rfl rfl rfl ?_
 refine simL_val (q_move rfl rfl) rfl rfl rfl (simL_nil (nrm_then ?_))
 refine sim_block ?_
 refine sim_loop (S := Int × S) (Y) (fun k s => kv_Store_Each_1_s.l0 step s1v s7v k s.1 s.2) (fun s y => [(0, .func (.yield l) #[] #[]), (3, .map (some y2v)), (13, .slice y8v.1 s7v.length y8v.2), (14, .int .i64 (s7v.length : Int)), (15, .int .i64 s.1)]) (fun s y => [obj bp1 63 [.map (some mp1_0), .map (some mp1_1)], obj bp0 25 [.pointer (some ⟨bp1, 0, none⟩)], mapO y2v enc9 enc9 s1v, RowV 9 1 (V9 tt) y8v.1 s7v y8v.2, mapO mp1_0 enc9 enc9 xp1_0, mapO mp1_1 enc3 enc42 xp1_1, A s.2 y, F]) (fun _ => by rw [kv_Store_Each_1_s.l0]) ?_ k (0, s0) y0 ⟨rfl, rfl, rfl, rfl, rfl, trivial⟩ (.sel 5 rfl (.sel 6 rfl (.sel 2 rfl (.sel 0 rfl (.sel 1 rfl (.sel 2 rfl (.sel 1 rfl (.sel 1 rfl (.nil _)))))))))
 intro k s10v y11v
 refine sim_eq (by rw [kv_Store_Each_1_s.l0]) ?_
 refine sim_seq (sim_region ?_)
 refine simL_val (q_lss rfl rfl rfl) rfl rfl rfl (simL_nil (nrm_then (sim_seq ?_)))
 refine sim_cond rfl (fun h14v => ?_) (fun h15v => ?_)
 refine sim_skip ?_
 refine nrm_then (sim_seq ?_)
 refine sim_block ?_
 refine sim_seq (sim_region ?_)
 refine simL_openV 3 rfl (fun rs24v hl25v => ?_)
 refine simL_ask (fun hi16v => ?_)
 refine simL_posV 3 rfl hl25v rfl (i := s10v.1.toNat) (by omega) ([] : List UInt8) (fun b17v b17vo r20v ha18v hV21v hlr22v hcell23v => ?_)
 obtain rfl := hV21v
 refine simL_val (q_idx rfl rfl rfl ha18v Try.underlying93 Try.sizeOf9 hi16v.1 hi16v.2) rfl rfl rfl ?_
 refine simL_val (q_load rfl rfl Try.isAgg9 (hcell23v 3 rfl 0 _ rfl)) rfl rfl rfl ?_
 refine simL_val (q_asg rfl rfl) rfl rfl rfl (simL_nil (nrm_then (sim_seq (sim_region ?_))))
 refine simL_val (q_move rfl rfl) rfl rfl rfl ?_
 refine simL_val (q_move rfl rfl) rfl rfl rfl ?_
 refine simL_val (q_move rfl rfl) rfl rfl rfl ?_
 refine simL_val (q_move rfl rfl) rfl rfl rfl ?_
 refine simL_val ((q_mlook (ek := enc9) (ev := enc9) (z := ([] : List UInt8)) 2 (s7v.getD s10v.1.toNat ([] : List UInt8)) rfl rfl rfl Try.underlying60 key9 Try.zeroValue9 rfl : RQ _ _ _ _ (str ((mget s1v (s7v.getD s10v.1.toNat ([] : List UInt8))).getD ([] : List UInt8))))) rfl rfl rfl ?_
 refine simL_bind (fun s26v hs28v => ?_)
 refine simL_eff (re_yield ((s7v.getD s10v.1.toNat ([] : List UInt8)), ((mget s1v (s7v.getD s10v.1.toNat ([] : List UInt8))).getD ([] : List UInt8))) 6 rfl rfl rfl rfl rfl rfl hY rfl hs28v) rfl rfl rfl ?_
 intro y27v
 refine simL_val (q_not rfl rfl) rfl rfl rfl (simL_nil (nrm_then ?_))
 refine sim_false rfl ?_
 refine sim_skip ?_
 refine nrm_block (nrm_then (sim_region ?_))
 refine simL_val (q_add rfl rfl rfl) rfl rfl rfl ?_
 refine simL_val (q_move rfl rfl) rfl rfl rfl (simL_nil ?_)
 exact nrm_again (s := (IntKind.i64.wrap (s10v.1 + 1), s26v)) y27v ⟨rfl, rfl, rfl, rfl, rfl, trivial⟩ (.sel 0 rfl (.sel 0 rfl (.sel 0 rfl (.sel' 0 rfl (RowV.mk hl25v) (.sel 0 rfl (.sel 0 rfl (.sel 0 rfl (.sel 0 rfl (.nil _)))))))))
 refine sim_exi ?_
 refine exi_then ?_
 refine exi_loop ?_
 refine exi_here ?_
 exact nrm_fn y11v rfl rfl rfl (.sel 6 rfl (.sel 0 rfl (.sel 3 rfl (.sel 3 rfl (.sel 0 rfl (.sel 2 rfl (.nil _)))))))

def kv_Store_Snapshot.l0 (s30v : List (Int × Int × Int × List UInt8)) : Nat → Int → List UInt8 → Int → Option (List UInt8 × Int)
  | 0, _, _, _ => none
  | k + 1, z35v, z36v, z37v => if z35v < (s30v.length : Int) then (if 0 ≤ z35v ∧ z35v < (s30v.length : Int) then ((wire_Writer_Int.f k z36v z37v ((s30v.getD z35v.toNat ((0 : Int), (0 : Int), (0 : Int), ([] : List UInt8))).1)).bind fun s51v => ((wire_Writer_Int.f k s51v.1 s51v.2 ((s30v.getD z35v.toNat ((0 : Int), (0 : Int), (0 : Int), ([] : List UInt8))).2.1)).bind fun s54v => ((wire_Writer_Int.f k s54v.1 s54v.2 ((s30v.getD z35v.toNat ((0 : Int), (0 : Int), (0 : Int), ([] : List UInt8))).2.2.1)).bind fun s57v => ((wire_Writer_Text.f k s57v.1 s57v.2 ((s30v.getD z35v.toNat ((0 : Int), (0 : Int), (0 : Int), ([] : List UInt8))).2.2.2) (1024 : Int)).bind fun s60v => (kv_Store_Snapshot.l0 s30v k (IntKind.i64.wrap (z35v + 1)) s60v.1 s60v.2))))) else none) else (some (z36v, z37v))
def kv_Store_Snapshot.f (k : Nat) (x0_0 : List ((List UInt8) × (List UInt8))) (x0_1 : List ((Int) × (Int × Int × Int × List UInt8))) : Option (List UInt8) := (wire_NewWriter.f).bind fun s1v => ((wire_Writer_Int.f k s1v.1 s1v.2 (x0_0.length : Int)).bind fun s5v => ((kv_Store_Each.f).bind fun s9v => ((kv_Store_Each_1_s.f k (fun (s13v : List UInt8 × Int) (x12v : List UInt8 × List UInt8) => (wire_Writer_Text.f k s13v.1 s13v.2 x12v.1 (64 : Int)).bind fun s15v => ((wire_Writer_Text.f k s15v.1 s15v.2 x12v.2 (1024 : Int)).bind fun s18v => (some (s18v.1, s18v.2)))) (s5v.1, s5v.2) x0_0 x0_1).bind fun s21v => ((wire_Writer_Int.f k s21v.1 s21v.2 (x0_1.length : Int)).bind fun s24v => (((kv_Store_Sessions.f k x0_0 x0_1).bind fun s30v => (kv_Store_Snapshot.l0 s30v k 0 s24v.1 s24v.2)).bind fun s28v => ((wire_Writer_Done.f s28v.1 s28v.2).bind fun s67v => (some s67v.1)))))))
theorem kv_Store_Snapshot.calls (W : World) (F : HA) (k : Nat) (b0 : Nat) (m0_0 : Nat) (x0_0 : List ((List UInt8) × (List UInt8))) (m0_1 : Nat) (x0_1 : List ((Int) × (Int × Int × Int × List UInt8)))  :
    Fn Try.prog W 14 [.pointer (some ⟨b0, 0, none⟩)] [obj b0 63 [.map (some m0_0), .map (some m0_1)], mapO m0_0 enc9 enc9 x0_0, mapO m0_1 enc3 enc42 x0_1] F (kv_Store_Snapshot.f k x0_0 x0_1) (fun (r : List UInt8) (y : Option Addr × Nat) => .slice y.1 r.length y.2) (fun r y => [Row 5 1 y.1 r.length y.2 (encB r), obj b0 63 [.map (some m0_0), .map (some m0_1)], mapO m0_0 enc9 enc9 x0_0, mapO m0_1 enc3 enc42 x0_1]) := by
 unfold kv_Store_Snapshot.f
 refine fn_introM 67 Try.func14 rfl Try.ntmps14 rfl ?_
 refine sim_seq (sim_region ?_)
 refine simL_val (q_asg rfl rfl) rfl rfl rfl (simL_nil (nrm_then (sim_seq (sim_region ?_))))
 refine simL_bind (fun s1v hs3v => ?_)
 refine simL_eff (re_call (vs := []) (cap := []) (A := []) (rst := [obj b0 63 [.map (some m0_0), .map (some m0_1)], mapO m0_0 enc9 enc9 x0_0, mapO m0_1 enc3 enc42 x0_1, F]) rfl rfl rfl rfl rfl rfl Try.call28 (.sel 0 rfl (.sel 0 rfl (.sel 0 rfl (.sel 0 rfl (.nil _))))) (wire_NewWriter.calls _ _  ) hs3v) rfl rfl rfl ?_
 intro y2v
 refine simL_eff (re_alloc rfl Try.zeroValue71 rfl) rfl rfl rfl ?_
 intro b4v
 refine simL_do (re_store 0 rfl rfl rfl Try.sizeOf71 rfl rfl (one_of (by rfl)) rfl rfl) rfl rfl ?_
 intro _
 refine simL_nil (nrm_then (sim_seq ?_))
 refine sim_bind (fun s5v hs7v => ?_)
 refine sim_draw (Γ := (Option Addr × Nat)) (none, 0) [[], [], [1], [1, 2], [1, 2, 3], [1, 2, 3, 4], [0, 1, 2, 3, 4, 5]] [6] [0, 1, 2, 3, 4, 5] (fun i => [[0], [0], [0], [0], [0], [0], []].getD i []) (fun i => [[], [], [], [], [], [], [0, 1, 2, 3, 4, 5]].getD i []) (fun γ i => [.pointer (some ⟨y2v.1, 0, none⟩), .pointer (some ⟨b0, 0, none⟩), .pointer (some ⟨b0, 0, none⟩), .pointer (some ⟨b0, 0, none⟩), .map (some m0_0), .int .i64 (x0_0.length : Int), .tuple #[]].getD i undef) (fun j γ => [[obj b4v 71 [.pointer (some ⟨y2v.1, 0, none⟩)], obj y2v.1 100 [.slice y2v.2.1 s1v.1.length y2v.2.2, .int .i64 s1v.2], Row 5 1 y2v.2.1 s1v.1.length y2v.2.2 (encB s1v.1), obj b0 63 [.map (some m0_0), .map (some m0_1)], mapO m0_0 enc9 enc9 x0_0, mapO m0_1 enc3 enc42 x0_1, F], [obj y2v.1 100 [.slice γ.1 s5v.1.length γ.2, .int .i64 s5v.2], Row 5 1 γ.1 s5v.1.length γ.2 (encB s5v.1), obj b4v 71 [.pointer (some ⟨y2v.1, 0, none⟩)], obj b0 63 [.map (some m0_0), .map (some m0_1)], mapO m0_0 enc9 enc9 x0_0, mapO m0_1 enc3 enc42 x0_1, F]].getD j []) (fun γ => [(0, .pointer (some ⟨b0, 0, none⟩)), (3, .pointer (some ⟨b4v, 0, none⟩))]) mixed (by decide) (by decide) (by decide) (by decide) (by decide) (by decide) (by decide) 67 rfl (by decide) (by decide) (by decide) (Ent.refl _) ?_ ?_ (fun _ => ⟨rfl, rfl, trivial⟩) ?_
 exact (All.cons (fun γ => (All.cons (QOb.plain [(3, .pointer (some ⟨b4v, 0, none⟩))] rfl rfl (.o rfl (by decide) .nil) (q_load rfl rfl Try.isAgg71 (.obj 0 rfl rfl)) rfl) All.nil)) (All.cons (fun γ => (All.cons (QOb.plain [(0, .pointer (some ⟨b0, 0, none⟩))] rfl rfl (.o rfl (by decide) .nil) (q_move rfl rfl) rfl) All.nil)) (All.cons (fun γ => (All.cons (QOb.plain [(12, .pointer (some ⟨b0, 0, none⟩))] rfl rfl (.w 1 rfl rfl rfl .nil) (q_nil rfl rfl) rfl) All.nil)) (All.cons (fun γ => (All.cons (QOb.plain [(13, .pointer (some ⟨b0, 0, none⟩))] rfl rfl (.w 2 rfl rfl rfl .nil) (q_fa rfl rfl Try.underlying63 rfl rfl Try.sizeOf60 rfl) rfl) All.nil)) (All.cons (fun γ => (All.cons (QOb.plain [(14, .pointer (some ⟨b0, 0, none⟩))] rfl rfl (.w 3 rfl rfl rfl .nil) (q_load rfl rfl Try.isAgg60 (.obj 3 rfl rfl)) rfl) All.nil)) (All.cons (fun γ => (All.cons (QOb.plain [(15, .map (some m0_0))] rfl rfl (.w 4 rfl rfl rfl .nil) (q_mlen 4 rfl rfl rfl Try.underlying60 rfl) rfl) All.nil)) All.nil))))))
 exact (All.cons (fun γ => EOb.mk (Z := Option Addr × Nat) [(11, .pointer (some ⟨y2v.1, 0, none⟩)), (16, .int .i64 (x0_0.length : Int))] (fun z => z) rfl rfl (.w 0 rfl rfl rfl (.w 5 rfl rfl rfl .nil)) (re_call (vs := [.pointer (some ⟨y2v.1, 0, none⟩), .int .i64 (x0_0.length : Int)]) (cap := []) (A := [obj y2v.1 100 [.slice y2v.2.1 s1v.1.length y2v.2.2, .int .i64 s1v.2], Row 5 1 y2v.2.1 s1v.1.length y2v.2.2 (encB s1v.1)]) (rst := [obj b4v 71 [.pointer (some ⟨y2v.1, 0, none⟩)], obj b0 63 [.map (some m0_0), .map (some m0_1)], mapO m0_0 enc9 enc9 x0_0, mapO m0_1 enc3 enc42 x0_1, F]) rfl rfl rfl rfl rfl rfl Try.call29 (.sel 1 rfl (.sel 1 rfl (.sel 0 rfl (.sel 0 rfl (.sel 0 rfl (.sel 0 rfl (.sel 0 rfl (.nil _)))))))) (wire_Writer_Int.calls _ _ k y2v.1 y2v.2.1 y2v.2.2 s1v.1 s1v.2 (x0_0.length : Int) ) hs7v) (fun _ => ⟨rfl, rfl, rfl, rfl, rfl, rfl, trivial⟩) (fun _ => .inr rfl) (fun z => Ent.refl _)) All.nil)
 intro g8v
 refine nrm_then (sim_seq (sim_seq (sim_region ?_)))
 refine simL_val (q_move rfl rfl) rfl rfl rfl ?_
 refine simL_bind (fun s9v hs11v => ?_)
 refine simL_eff (re_call (vs := [.pointer (some ⟨b0, 0, none⟩)]) (cap := []) (A := []) (rst := [obj y2v.1 100 [.slice g8v.1 s5v.1.length g8v.2, .int .i64 s5v.2], Row 5 1 g8v.1 s5v.1.length g8v.2 (encB s5v.1), obj b4v 71 [.pointer (some ⟨y2v.1, 0, none⟩)], obj b0 63 [.map (some m0_0), .map (some m0_1)], mapO m0_0 enc9 enc9 x0_0, mapO m0_1 enc3 enc42 x0_1, F]) rfl rfl rfl rfl rfl rfl Try.call30 (.sel 0 rfl (.sel 0 rfl (.sel 0 rfl (.sel 0 rfl (.sel 0 rfl (.sel 0 rfl (.sel 0 rfl (.nil _)))))))) (kv_Store_Each.calls _ _ b0 ) hs11v) rfl rfl rfl ?_
 intro y10v
 refine simL_nil (nrm_then ?_)
 refine sim_block ?_
 refine sim_range (S := List UInt8 × Int) (Y := Option Addr × Nat) (R' := (List UInt8 × Int)) (Y' := (Option Addr × Nat)) (ps := [20, 21]) (Cap := [obj b0 63 [.map (some m0_0), .map (some m0_1)], mapO m0_0 enc9 enc9 x0_0, mapO m0_1 enc3 enc42 x0_1, obj y10v 25 [.pointer (some ⟨b0, 0, none⟩)]]) (rst := []) (CapB := fun r y => [obj b0 63 [.map (some m0_0), .map (some m0_1)], mapO m0_0 enc9 enc9 x0_0, mapO m0_1 enc3 enc42 x0_1, obj y10v 25 [.pointer (some ⟨b0, 0, none⟩)]]) (enc := fun (x : List UInt8 × List UInt8) => [str x.1, str x.2]) (oN := kv_Store_Each_1_s.f k (fun (s13v : List UInt8 × Int) (x12v : List UInt8 × List UInt8) => (wire_Writer_Text.f k s13v.1 s13v.2 x12v.1 (64 : Int)).bind fun s15v => ((wire_Writer_Text.f k s15v.1 s15v.2 x12v.2 (1024 : Int)).bind fun s18v => (some (s18v.1, s18v.2)))) (s5v.1, s5v.2) x0_0 x0_1) (fun s y => [obj y2v.1 100 [.slice y.1 s.1.length y.2, .int .i64 s.2], obj b4v 71 [.pointer (some ⟨y2v.1, 0, none⟩)], Row 5 1 y.1 s.1.length y.2 (encB s.1), F]) (s5v.1, s5v.2) (g8v.1, g8v.2) (fun s13v x12v y14v => [(3, .pointer (some ⟨b4v, 0, none⟩)), (4, str x12v.1), (5, str x12v.2)]) (fun r => r) (fun r y => y) rfl rfl Try.call49 (fun l A hY X => kv_Store_Each_1_s.calls _ _ k _ _ l _ A _ _ y10v b0 m0_0 x0_0 m0_1 x0_1 hY) rfl (fun _ => rfl) (.sel 1 rfl (.sel 2 rfl (.sel 1 rfl (.sel 4 rfl (.sel 1 rfl (.sel 1 rfl (.sel 1 rfl (.sel 0 rfl (.nil _))))))))) ?_ ?_ ?_
 intro l s13v x12v y14v Fr
 refine sim_ent (H' := [obj y2v.1 100 [.slice y14v.1 s13v.1.length y14v.2, .int .i64 s13v.2], obj b4v 71 [.pointer (some ⟨y2v.1, 0, none⟩)], Row 5 1 y14v.1 s13v.1.length y14v.2 (encB s13v.1), F, Fr]) (Ent.refl _) ?_
 refine sim_seq (sim_region ?_)
 refine simL_val (q_asg rfl rfl) rfl rfl rfl (simL_nil (nrm_then (sim_region ?_)))
 refine simL_val (q_asg rfl rfl) rfl rfl rfl (simL_nil ?_)
 exact nrm_cut () ⟨rfl, rfl, rfl, trivial⟩ (Ent.refl _)
 intro l s13v x12v y14v Fr
 refine sim_ent (H' := [obj y2v.1 100 [.slice y14v.1 s13v.1.length y14v.2, .int .i64 s13v.2], obj b4v 71 [.pointer (some ⟨y2v.1, 0, none⟩)], Row 5 1 y14v.1 s13v.1.length y14v.2 (encB s13v.1), F, Fr]) (Ent.refl _) ?_
 refine sim_block ?_
 refine sim_seq (sim_region ?_)
 refine simL_val (q_load rfl rfl Try.isAgg71 (.obj 1 rfl rfl)) rfl rfl rfl ?_
 refine simL_val (q_move rfl rfl) rfl rfl rfl ?_
 refine simL_bind (fun s15v hs17v => ?_)
 refine simL_eff (re_call (vs := [.pointer (some ⟨y2v.1, 0, none⟩), str x12v.1, .int .i64 64]) (cap := []) (A := [obj y2v.1 100 [.slice y14v.1 s13v.1.length y14v.2, .int .i64 s13v.2], Row 5 1 y14v.1 s13v.1.length y14v.2 (encB s13v.1)]) (rst := [obj b4v 71 [.pointer (some ⟨y2v.1, 0, none⟩)], F, Fr]) rfl rfl rfl rfl rfl rfl Try.call31 (.sel 0 rfl (.sel 1 rfl (.sel 0 rfl (.sel 0 rfl (.sel 0 rfl (.nil _)))))) (wire_Writer_Text.calls _ _ k y2v.1 y14v.1 y14v.2 s13v.1 s13v.2 x12v.1 (64 : Int) ) hs17v) rfl rfl rfl ?_
 intro y16v
 refine simL_nil (nrm_then (sim_region ?_))
 refine simL_val (q_load rfl rfl Try.isAgg71 (.obj 2 rfl rfl)) rfl rfl rfl ?_
 refine simL_val (q_move rfl rfl) rfl rfl rfl ?_
 refine simL_bind (fun s18v hs20v => ?_)
 refine simL_eff (re_call (vs := [.pointer (some ⟨y2v.1, 0, none⟩), str x12v.2, .int .i64 1024]) (cap := []) (A := [obj y2v.1 100 [.slice y16v.1 s15v.1.length y16v.2, .int .i64 s15v.2], Row 5 1 y16v.1 s15v.1.length y16v.2 (encB s15v.1)]) (rst := [obj b4v 71 [.pointer (some ⟨y2v.1, 0, none⟩)], F, Fr]) rfl rfl rfl rfl rfl rfl Try.call31 (.sel 0 rfl (.sel 0 rfl (.sel 0 rfl (.sel 0 rfl (.sel 0 rfl (.nil _)))))) (wire_Writer_Text.calls _ _ k y2v.1 y16v.1 y16v.2 s15v.1 s15v.2 x12v.2 (1024 : Int) ) hs20v) rfl rfl rfl ?_
 intro y19v
 refine simL_nil (nrm_block ?_)
 exact nrm_cut (s := (s18v.1, s18v.2)) (y19v.1, y19v.2) trivial (.sel 0 rfl (.sel 1 rfl (.sel 0 rfl (.sel 0 rfl (.sel 0 rfl (.nil _))))))
 intro D23v s21v y22v
 refine nrm_ent (H' := [shutD D23v, obj y2v.1 100 [.slice y22v.1 s21v.1.length y22v.2, .int .i64 s21v.2], obj b4v 71 [.pointer (some ⟨y2v.1, 0, none⟩)], Row 5 1 y22v.1 s21v.1.length y22v.2 (encB s21v.1), F, obj b0 63 [.map (some m0_0), .map (some m0_1)], mapO m0_0 enc9 enc9 x0_0, mapO m0_1 enc3 enc42 x0_1, obj y10v 25 [.pointer (some ⟨b0, 0, none⟩)]]) (Ent.refl _) ?_
 refine nrm_block (nrm_then (sim_seq ?_))
 refine sim_bind (fun s24v hs26v => ?_)
 refine sim_draw (Γ := (Option Addr × Nat)) (none, 0) [[], [], [1], [1, 2], [1, 2, 3], [1, 2, 3, 4], [0, 1, 2, 3, 4, 5]] [6] [0, 1, 2, 3, 4, 5] (fun i => [[0], [0], [0], [0], [0], [0], []].getD i []) (fun i => [[], [], [], [], [], [], [0, 1, 2, 3, 4, 5]].getD i []) (fun γ i => [.pointer (some ⟨y2v.1, 0, none⟩), .pointer (some ⟨b0, 0, none⟩), .pointer (some ⟨b0, 0, none⟩), .pointer (some ⟨b0, 1, none⟩), .map (some m0_1), .int .i64 (x0_1.length : Int), .tuple #[]].getD i undef) (fun j γ => [[shutD D23v, obj y2v.1 100 [.slice y22v.1 s21v.1.length y22v.2, .int .i64 s21v.2], obj b4v 71 [.pointer (some ⟨y2v.1, 0, none⟩)], Row 5 1 y22v.1 s21v.1.length y22v.2 (encB s21v.1), F, obj b0 63 [.map (some m0_0), .map (some m0_1)], mapO m0_0 enc9 enc9 x0_0, mapO m0_1 enc3 enc42 x0_1, obj y10v 25 [.pointer (some ⟨b0, 0, none⟩)]], [obj y2v.1 100 [.slice γ.1 s24v.1.length γ.2, .int .i64 s24v.2], Row 5 1 γ.1 s24v.1.length γ.2 (encB s24v.1), shutD D23v, obj b4v 71 [.pointer (some ⟨y2v.1, 0, none⟩)], F, obj b0 63 [.map (some m0_0), .map (some m0_1)], mapO m0_0 enc9 enc9 x0_0, mapO m0_1 enc3 enc42 x0_1, obj y10v 25 [.pointer (some ⟨b0, 0, none⟩)]]].getD j []) (fun γ => [(0, .pointer (some ⟨b0, 0, none⟩)), (3, .pointer (some ⟨b4v, 0, none⟩))]) mixed (by decide) (by decide) (by decide) (by decide) (by decide) (by decide) (by decide) 67 rfl (by decide) (by decide) (by decide) (Ent.refl _) ?_ ?_ (fun _ => ⟨rfl, rfl, trivial⟩) ?_
 exact (All.cons (fun γ => (All.cons (QOb.plain [(3, .pointer (some ⟨b4v, 0, none⟩))] rfl rfl (.o rfl (by decide) .nil) (q_load rfl rfl Try.isAgg71 (.obj 2 rfl rfl)) rfl) All.nil)) (All.cons (fun γ => (All.cons (QOb.plain [(0, .pointer (some ⟨b0, 0, none⟩))] rfl rfl (.o rfl (by decide) .nil) (q_move rfl rfl) rfl) All.nil)) (All.cons (fun γ => (All.cons (QOb.plain [(29, .pointer (some ⟨b0, 0, none⟩))] rfl rfl (.w 1 rfl rfl rfl .nil) (q_nil rfl rfl) rfl) All.nil)) (All.cons (fun γ => (All.cons (QOb.plain [(30, .pointer (some ⟨b0, 0, none⟩))] rfl rfl (.w 2 rfl rfl rfl .nil) (q_fa rfl rfl Try.underlying63 rfl rfl Try.sizeOf61 rfl) rfl) All.nil)) (All.cons (fun γ => (All.cons (QOb.plain [(31, .pointer (some ⟨b0, 1, none⟩))] rfl rfl (.w 3 rfl rfl rfl .nil) (q_load rfl rfl Try.isAgg61 (.obj 5 rfl rfl)) rfl) All.nil)) (All.cons (fun γ => (All.cons (QOb.plain [(32, .map (some m0_1))] rfl rfl (.w 4 rfl rfl rfl .nil) (q_mlen 7 rfl rfl rfl Try.underlying61 rfl) rfl) All.nil)) All.nil))))))
 exact (All.cons (fun γ => EOb.mk (Z := Option Addr × Nat) [(28, .pointer (some ⟨y2v.1, 0, none⟩)), (33, .int .i64 (x0_1.length : Int))] (fun z => z) rfl rfl (.w 0 rfl rfl rfl (.w 5 rfl rfl rfl .nil)) (re_call (vs := [.pointer (some ⟨y2v.1, 0, none⟩), .int .i64 (x0_1.length : Int)]) (cap := []) (A := [obj y2v.1 100 [.slice y22v.1 s21v.1.length y22v.2, .int .i64 s21v.2], Row 5 1 y22v.1 s21v.1.length y22v.2 (encB s21v.1)]) (rst := [shutD D23v, obj b4v 71 [.pointer (some ⟨y2v.1, 0, none⟩)], F, obj b0 63 [.map (some m0_0), .map (some m0_1)], mapO m0_0 enc9 enc9 x0_0, mapO m0_1 enc3 enc42 x0_1, obj y10v 25 [.pointer (some ⟨b0, 0, none⟩)]]) rfl rfl rfl rfl rfl rfl Try.call29 (.sel 1 rfl (.sel 2 rfl (.sel 0 rfl (.sel 0 rfl (.sel 0 rfl (.sel 0 rfl (.sel 0 rfl (.sel 0 rfl (.sel 0 rfl (.nil _)))))))))) (wire_Writer_Int.calls _ _ k y2v.1 y22v.1 y22v.2 s21v.1 s21v.2 (x0_1.length : Int) ) hs26v) (fun _ => ⟨rfl, rfl, rfl, rfl, rfl, rfl, trivial⟩) (fun _ => .inr rfl) (fun z => Ent.refl _)) All.nil)
 intro g27v
 refine nrm_then ?_
 refine sim_cut (S := List UInt8 × Int) (Option Addr × Nat) (fun s y => [(3, .pointer (some ⟨b4v, 0, none⟩))]) (fun s y => [obj b0 63 [.map (some m0_0), .map (some m0_1)], obj y2v.1 100 [.slice y.1 s.1.length y.2, .int .i64 s.2], obj b4v 71 [.pointer (some ⟨y2v.1, 0, none⟩)], mapO m0_0 enc9 enc9 x0_0, mapO m0_1 enc3 enc42 x0_1, Row 5 1 y.1 s.1.length y.2 (encB s.1), shutD D23v, F]) ?_ ?_
 refine sim_seq (sim_region ?_)
 refine simL_val (q_move rfl rfl) rfl rfl rfl ?_
 refine simL_bind (fun s30v hs32v => ?_)
 refine simL_eff (re_call (vs := [.pointer (some ⟨b0, 0, none⟩)]) (cap := []) (A := [obj b0 63 [.map (some m0_0), .map (some m0_1)], mapO m0_0 enc9 enc9 x0_0, mapO m0_1 enc3 enc42 x0_1]) (rst := [obj y2v.1 100 [.slice g27v.1 s24v.1.length g27v.2, .int .i64 s24v.2], Row 5 1 g27v.1 s24v.1.length g27v.2 (encB s24v.1), shutD D23v, obj b4v 71 [.pointer (some ⟨y2v.1, 0, none⟩)], F, obj y10v 25 [.pointer (some ⟨b0, 0, none⟩)]]) rfl rfl rfl rfl rfl rfl Try.call17 (.sel 5 rfl (.sel 5 rfl (.sel 5 rfl (.sel 0 rfl (.sel 0 rfl (.sel 0 rfl (.sel 0 rfl (.sel 0 rfl (.sel 0 rfl (.nil _)))))))))) (kv_Store_Sessions.calls _ _ k b0 m0_0 x0_0 m0_1 x0_1 ) hs32v) rfl rfl rfl ?_
 intro y31v
 refine simL_val (q_len rfl rfl rfl Try.underlying39) rfl rfl rfl ?_
 refine simL_val (q_move rfl rfl) rfl rfl rfl (simL_nil (nrm_then ?_))
 refine sim_block ?_
 refine sim_loop (S := Int × List UInt8 × Int) (Option Addr × Nat) (fun k s => kv_Store_Snapshot.l0 s30v k s.1 s.2.1 s.2.2) (fun s y => [(3, .pointer (some ⟨b4v, 0, none⟩)), (36, .slice y31v.1 s30v.length y31v.2), (37, .int .i64 (s30v.length : Int)), (38, .int .i64 s.1)]) (fun s y => [obj b0 63 [.map (some m0_0), .map (some m0_1)], obj y2v.1 100 [.slice y.1 s.2.1.length y.2, .int .i64 s.2.2], obj b4v 71 [.pointer (some ⟨y2v.1, 0, none⟩)], RowV 42 4 (V42 tt) y31v.1 s30v y31v.2, mapO m0_0 enc9 enc9 x0_0, mapO m0_1 enc3 enc42 x0_1, Row 5 1 y.1 s.2.1.length y.2 (encB s.2.1), shutD D23v, F]) (fun _ => by rw [kv_Store_Snapshot.l0]) ?_ k (0, s24v.1, s24v.2) (g27v.1, g27v.2) ⟨rfl, rfl, rfl, rfl, trivial⟩ (.sel 1 rfl (.sel 3 rfl (.sel 5 rfl (.sel 0 rfl (.sel 0 rfl (.sel 0 rfl (.sel 0 rfl (.sel 0 rfl (.sel 0 rfl (.nil _))))))))))
 intro k s33v y34v
 refine sim_eq (by rw [kv_Store_Snapshot.l0]) ?_
 refine sim_seq (sim_region ?_)
 refine simL_val (q_lss rfl rfl rfl) rfl rfl rfl (simL_nil (nrm_then (sim_seq ?_)))
 refine sim_cond rfl (fun h38v => ?_) (fun h39v => ?_)
 refine sim_skip ?_
 refine nrm_then (sim_seq ?_)
 refine sim_block ?_
 refine sim_seq (sim_region ?_)
 refine simL_openV 3 rfl (fun rs48v hl49v => ?_)
 refine simL_ask (fun hi40v => ?_)
 refine simL_posV 3 rfl hl49v rfl (i := s33v.1.toNat) (by omega) ((0 : Int), (0 : Int), (0 : Int), ([] : List UInt8)) (fun b41v b41vo r44v ha42v hV45v hlr46v hcell47v => ?_)
 obtain rfl := hV45v
 refine simL_val (q_idx rfl rfl rfl ha42v Try.underlying39 Try.sizeOf42 hi40v.1 hi40v.2) rfl rfl rfl ?_
 refine simL_val (q_loads rfl rfl Try.isAgg42 Try.sizeOf42 rfl (fun j v hj => hcell47v 3 rfl j v hj)) rfl rfl rfl ?_
 refine simL_eff (re_alloc rfl Try.zeroValue42 rfl) rfl rfl rfl ?_
 intro b50v
 refine simL_do (re_store 0 rfl rfl rfl Try.sizeOf42 rfl rfl (one_of (by rfl)) rfl rfl) rfl rfl ?_
 intro _
 refine simL_nil (nrm_then (sim_seq (sim_region ?_)))
 refine simL_val (q_load rfl rfl Try.isAgg71 (.obj 3 rfl rfl)) rfl rfl rfl ?_
 refine simL_val (q_fa rfl rfl Try.underlying42 rfl rfl Try.sizeOf3 rfl) rfl rfl rfl ?_
 refine simL_val (q_load rfl rfl Try.isAgg3 (.obj 0 rfl rfl)) rfl rfl rfl ?_
 refine simL_bind (fun s51v hs53v => ?_)
 refine simL_eff (re_call (vs := [.pointer (some ⟨y2v.1, 0, none⟩), .int .i64 ((s30v.getD s33v.1.toNat ((0 : Int), (0 : Int), (0 : Int), ([] : List UInt8))).1)]) (cap := []) (A := [obj y2v.1 100 [.slice y34v.1 s33v.2.1.length y34v.2, .int .i64 s33v.2.2], Row 5 1 y34v.1 s33v.2.1.length y34v.2 (encB s33v.2.1)]) (rst := [obj b50v 42 [.int .i64 ((s30v.getD s33v.1.toNat ((0 : Int), (0 : Int), (0 : Int), ([] : List UInt8))).1), .int .i64 ((s30v.getD s33v.1.toNat ((0 : Int), (0 : Int), (0 : Int), ([] : List UInt8))).2.1), .int .i64 ((s30v.getD s33v.1.toNat ((0 : Int), (0 : Int), (0 : Int), ([] : List UInt8))).2.2.1), str ((s30v.getD s33v.1.toNat ((0 : Int), (0 : Int), (0 : Int), ([] : List UInt8))).2.2.2)], obj b0 63 [.map (some m0_0), .map (some m0_1)], obj b4v 71 [.pointer (some ⟨y2v.1, 0, none⟩)], Row 42 4 y31v.1 s30v.length y31v.2 rs48v.flatten, mapO m0_0 enc9 enc9 x0_0, mapO m0_1 enc3 enc42 x0_1, shutD D23v, F]) rfl rfl rfl rfl rfl rfl Try.call29 (.sel 2 rfl (.sel 6 rfl (.sel 0 rfl (.sel 0 rfl (.sel 0 rfl (.sel 0 rfl (.sel 0 rfl (.sel 0 rfl (.sel 0 rfl (.sel 0 rfl (.nil _))))))))))) (wire_Writer_Int.calls _ _ k y2v.1 y34v.1 y34v.2 s33v.2.1 s33v.2.2 ((s30v.getD s33v.1.toNat ((0 : Int), (0 : Int), (0 : Int), ([] : List UInt8))).1) ) hs53v) rfl rfl rfl ?_
 intro y52v
 refine simL_nil (nrm_then (sim_seq (sim_region ?_)))
 refine simL_val (q_load rfl rfl Try.isAgg71 (.obj 4 rfl rfl)) rfl rfl rfl ?_
 refine simL_val (q_fa rfl rfl Try.underlying42 rfl rfl Try.sizeOf3 rfl) rfl rfl rfl ?_
 refine simL_val (q_load rfl rfl Try.isAgg3 (.obj 2 rfl rfl)) rfl rfl rfl ?_
 refine simL_bind (fun s54v hs56v => ?_)
 refine simL_eff (re_call (vs := [.pointer (some ⟨y2v.1, 0, none⟩), .int .i64 ((s30v.getD s33v.1.toNat ((0 : Int), (0 : Int), (0 : Int), ([] : List UInt8))).2.1)]) (cap := []) (A := [obj y2v.1 100 [.slice y52v.1 s51v.1.length y52v.2, .int .i64 s51v.2], Row 5 1 y52v.1 s51v.1.length y52v.2 (encB s51v.1)]) (rst := [obj b50v 42 [.int .i64 ((s30v.getD s33v.1.toNat ((0 : Int), (0 : Int), (0 : Int), ([] : List UInt8))).1), .int .i64 ((s30v.getD s33v.1.toNat ((0 : Int), (0 : Int), (0 : Int), ([] : List UInt8))).2.1), .int .i64 ((s30v.getD s33v.1.toNat ((0 : Int), (0 : Int), (0 : Int), ([] : List UInt8))).2.2.1), str ((s30v.getD s33v.1.toNat ((0 : Int), (0 : Int), (0 : Int), ([] : List UInt8))).2.2.2)], obj b0 63 [.map (some m0_0), .map (some m0_1)], obj b4v 71 [.pointer (some ⟨y2v.1, 0, none⟩)], Row 42 4 y31v.1 s30v.length y31v.2 rs48v.flatten, mapO m0_0 enc9 enc9 x0_0, mapO m0_1 enc3 enc42 x0_1, shutD D23v, F]) rfl rfl rfl rfl rfl rfl Try.call29 (.sel 0 rfl (.sel 0 rfl (.sel 0 rfl (.sel 0 rfl (.sel 0 rfl (.sel 0 rfl (.sel 0 rfl (.sel 0 rfl (.sel 0 rfl (.sel 0 rfl (.nil _))))))))))) (wire_Writer_Int.calls _ _ k y2v.1 y52v.1 y52v.2 s51v.1 s51v.2 ((s30v.getD s33v.1.toNat ((0 : Int), (0 : Int), (0 : Int), ([] : List UInt8))).2.1) ) hs56v) rfl rfl rfl ?_
 intro y55v
 refine simL_nil (nrm_then (sim_seq (sim_region ?_)))
 refine simL_val (q_load rfl rfl Try.isAgg71 (.obj 4 rfl rfl)) rfl rfl rfl ?_
 refine simL_val (q_fa rfl rfl Try.underlying42 rfl rfl Try.sizeOf28 rfl) rfl rfl rfl ?_
 refine simL_val (q_fa rfl rfl Try.underlying28 rfl rfl Try.sizeOf3 rfl) rfl rfl rfl ?_
 refine simL_val (q_load rfl rfl Try.isAgg3 (.obj 2 rfl rfl)) rfl rfl rfl ?_
 refine simL_bind (fun s57v hs59v => ?_)
 refine simL_eff (re_call (vs := [.pointer (some ⟨y2v.1, 0, none⟩), .int .i64 ((s30v.getD s33v.1.toNat ((0 : Int), (0 : Int), (0 : Int), ([] : List UInt8))).2.2.1)]) (cap := []) (A := [obj y2v.1 100 [.slice y55v.1 s54v.1.length y55v.2, .int .i64 s54v.2], Row 5 1 y55v.1 s54v.1.length y55v.2 (encB s54v.1)]) (rst := [obj b50v 42 [.int .i64 ((s30v.getD s33v.1.toNat ((0 : Int), (0 : Int), (0 : Int), ([] : List UInt8))).1), .int .i64 ((s30v.getD s33v.1.toNat ((0 : Int), (0 : Int), (0 : Int), ([] : List UInt8))).2.1), .int .i64 ((s30v.getD s33v.1.toNat ((0 : Int), (0 : Int), (0 : Int), ([] : List UInt8))).2.2.1), str ((s30v.getD s33v.1.toNat ((0 : Int), (0 : Int), (0 : Int), ([] : List UInt8))).2.2.2)], obj b0 63 [.map (some m0_0), .map (some m0_1)], obj b4v 71 [.pointer (some ⟨y2v.1, 0, none⟩)], Row 42 4 y31v.1 s30v.length y31v.2 rs48v.flatten, mapO m0_0 enc9 enc9 x0_0, mapO m0_1 enc3 enc42 x0_1, shutD D23v, F]) rfl rfl rfl rfl rfl rfl Try.call29 (.sel 0 rfl (.sel 0 rfl (.sel 0 rfl (.sel 0 rfl (.sel 0 rfl (.sel 0 rfl (.sel 0 rfl (.sel 0 rfl (.sel 0 rfl (.sel 0 rfl (.nil _))))))))))) (wire_Writer_Int.calls _ _ k y2v.1 y55v.1 y55v.2 s54v.1 s54v.2 ((s30v.getD s33v.1.toNat ((0 : Int), (0 : Int), (0 : Int), ([] : List UInt8))).2.2.1) ) hs59v) rfl rfl rfl ?_
 intro y58v
 refine simL_nil (nrm_then (sim_region ?_))
 refine simL_val (q_load rfl rfl Try.isAgg71 (.obj 4 rfl rfl)) rfl rfl rfl ?_
 refine simL_val (q_fa rfl rfl Try.underlying42 rfl rfl Try.sizeOf28 rfl) rfl rfl rfl ?_
 refine simL_val (q_fa rfl rfl Try.underlying28 rfl rfl Try.sizeOf9 rfl) rfl rfl rfl ?_
 refine simL_val (q_load rfl rfl Try.isAgg9 (.obj 2 rfl rfl)) rfl rfl rfl ?_
 refine simL_bind (fun s60v hs62v => ?_)
 refine simL_eff (re_call (vs := [.pointer (some ⟨y2v.1, 0, none⟩), str ((s30v.getD s33v.1.toNat ((0 : Int), (0 : Int), (0 : Int), ([] : List UInt8))).2.2.2), .int .i64 1024]) (cap := []) (A := [obj y2v.1 100 [.slice y58v.1 s57v.1.length y58v.2, .int .i64 s57v.2], Row 5 1 y58v.1 s57v.1.length y58v.2 (encB s57v.1)]) (rst := [obj b50v 42 [.int .i64 ((s30v.getD s33v.1.toNat ((0 : Int), (0 : Int), (0 : Int), ([] : List UInt8))).1), .int .i64 ((s30v.getD s33v.1.toNat ((0 : Int), (0 : Int), (0 : Int), ([] : List UInt8))).2.1), .int .i64 ((s30v.getD s33v.1.toNat ((0 : Int), (0 : Int), (0 : Int), ([] : List UInt8))).2.2.1), str ((s30v.getD s33v.1.toNat ((0 : Int), (0 : Int), (0 : Int), ([] : List UInt8))).2.2.2)], obj b0 63 [.map (some m0_0), .map (some m0_1)], obj b4v 71 [.pointer (some ⟨y2v.1, 0, none⟩)], Row 42 4 y31v.1 s30v.length y31v.2 rs48v.flatten, mapO m0_0 enc9 enc9 x0_0, mapO m0_1 enc3 enc42 x0_1, shutD D23v, F]) rfl rfl rfl rfl rfl rfl Try.call31 (.sel 0 rfl (.sel 0 rfl (.sel 0 rfl (.sel 0 rfl (.sel 0 rfl (.sel 0 rfl (.sel 0 rfl (.sel 0 rfl (.sel 0 rfl (.sel 0 rfl (.nil _))))))))))) (wire_Writer_Text.calls _ _ k y2v.1 y58v.1 y58v.2 s57v.1 s57v.2 ((s30v.getD s33v.1.toNat ((0 : Int), (0 : Int), (0 : Int), ([] : List UInt8))).2.2.2) (1024 : Int) ) hs62v) rfl rfl rfl ?_
 intro y61v
 refine simL_nil (nrm_block (nrm_then (sim_region ?_)))
 refine simL_val (q_add rfl rfl rfl) rfl rfl rfl ?_
 refine simL_val (q_move rfl rfl) rfl rfl rfl (simL_nil ?_)
 exact nrm_again (s := (IntKind.i64.wrap (s33v.1 + 1), s60v.1, s60v.2)) (y61v.1, y61v.2) ⟨rfl, rfl, rfl, rfl, trivial⟩ (.sel 3 rfl (.sel 0 rfl (.sel 2 rfl (.sel' 2 rfl (RowV.mk hl49v) (.sel 2 rfl (.sel 2 rfl (.sel 0 rfl (.sel 1 rfl (.sel 1 rfl (.nil _))))))))))
 refine sim_exi ?_
 refine exi_then ?_
 refine exi_loop ?_
 refine exi_here ?_
 exact nrm_cut (s := (s33v.2.1, s33v.2.2)) (y34v.1, y34v.2) ⟨rfl, trivial⟩ (.sel 0 rfl (.sel 0 rfl (.sel 0 rfl (.sel 1 rfl (.sel 1 rfl (.sel 1 rfl (.sel 1 rfl (.sel 1 rfl (.nil _)))))))))
 intro s28v y29v
 refine sim_seq (sim_region ?_)
 refine simL_val (q_load rfl rfl Try.isAgg71 (.obj 2 rfl rfl)) rfl rfl rfl ?_
 refine simL_bind (fun s67v hs69v => ?_)
 refine simL_lend 5 rfl (fun hq63v hq64v hq65v hq66v => ?_)
 refine simL_eff (re_call (vs := [.pointer (some ⟨y2v.1, 0, none⟩)]) (cap := []) (A := [obj y2v.1 100 [.slice y29v.1 s28v.1.length y29v.2, .int .i64 s28v.2]]) (rst := [obj b0 63 [.map (some m0_0), .map (some m0_1)], obj b4v 71 [.pointer (some ⟨y2v.1, 0, none⟩)], mapO m0_0 enc9 enc9 x0_0, mapO m0_1 enc3 enc42 x0_1, Row 5 1 y29v.1 s28v.1.length y29v.2 (encB s28v.1), shutD D23v, F]) rfl rfl rfl rfl rfl rfl Try.call32 (.sel 1 rfl (.sel 0 rfl (.sel 0 rfl (.sel 0 rfl (.sel 0 rfl (.sel 0 rfl (.sel 0 rfl (.sel 0 rfl (.nil _))))))))) (wire_Writer_Done.calls _ _ y2v.1 y29v.1 y29v.2 s28v.1 s28v.2 (hq63v.lend 4 rfl) hq64v hq65v) hs69v) rfl rfl rfl ?_
 intro y68v
 refine simL_val (q_move rfl rfl) rfl rfl rfl ?_
 refine simL_val (q_ext rfl rfl rfl) rfl rfl rfl ?_
 refine simL_val (q_ext rfl rfl rfl) rfl rfl rfl ?_
 refine simL_val (q_asg rfl rfl) rfl rfl rfl ?_
 refine simL_val (q_asg rfl rfl) rfl rfl rfl (simL_nil (nrm_then (sim_seq (sim_region ?_))))
 refine simL_val (q_move rfl rfl) rfl rfl rfl ?_
 refine simL_val (q_asg rfl rfl) rfl rfl rfl (simL_nil (nrm_then (sim_rtn ?_)))
 exact rtn_fnM [D23v] (y68v.1, y68v.2) rfl rfl rfl (.sel 7 rfl (.sel 0 rfl (.sel 1 rfl (.sel 2 rfl (.sel 2 rfl (.sel 3 rfl (.nil _)))))))

def synodref1_Size.l0 : Nat → Int → Int → Option (Int)
  | 0, _, _ => none
  | k + 1, z7v, z8v => if (128 : Int) ≤ z7v then (synodref1_Size.l0 k (IntKind.i64.wrap (Int.tdiv z7v 128)) (IntKind.i64.wrap (z8v + 1))) else (some z8v)
def synodref1_Size.f (k : Nat) (x0 : Int) : Option (Int) := if ((decide (x0 < (0 : Int))) || (decide ((4611686018427387904 : Int) < x0))) = true then (some 0) else ((synodref1_Size.l0 k x0 1).bind fun s3v => (some s3v))
theorem synodref1_Size.calls (W : World) (F : HA) (k : Nat) (x0 : Int)  :
    Fn Try.prog W 84 [.int .i64 x0] [] F (synodref1_Size.f k x0) (fun (r : Int) (y : Unit) => .int .i64 r) (fun r y => []) := by
 unfold synodref1_Size.f
 refine fn_intro 17 Try.func84 rfl Try.ntmps84 rfl ?_
 refine sim_seq (sim_region ?_)
 refine simL_val (q_asg rfl rfl) rfl rfl rfl (simL_nil (nrm_then (sim_seq (sim_seq (sim_region ?_)))))
 refine simL_val (q_move rfl rfl) rfl rfl rfl ?_
 refine simL_val (q_lss rfl rfl rfl) rfl rfl rfl ?_
 refine simL_val (q_move rfl rfl) rfl rfl rfl ?_
 refine simL_valc (b := decide (x0 < (0 : Int))) (fun hb13v => RQ.sub (E' := [(0, .int .i64 x0)]) ⟨rfl, trivial⟩ (q_move rfl rfl)) rfl rfl rfl rfl rfl ?_
 refine simL_valc (b := decide (x0 < (0 : Int))) (fun hb12v => RQ.sub (E' := [(7, .int .i64 x0)]) ⟨lk_cv rfl hb12v, trivial⟩ (q_gtr rfl rfl rfl)) rfl rfl rfl rfl rfl ?_
 refine simL_val (q_or rfl rfl rfl) rfl rfl rfl (simL_nil (nrm_then ?_))
 refine sim_condb rfl (fun h1v => ?_) (fun h2v => ?_)
 refine sim_seq (sim_region ?_)
 refine simL_val (q_asg rfl rfl) rfl rfl rfl (simL_nil (nrm_then (sim_rtn ?_)))
 refine rtn_then ?_
 exact rtn_fn () rfl rfl rfl (.sel 0 rfl (.nil _))
 refine sim_skip ?_
 refine nrm_then (sim_seq (sim_region ?_))
 refine simL_val (q_asg rfl rfl) rfl rfl rfl (simL_nil (nrm_then ?_))
 refine sim_cut (S := Int) (Unit) (fun s y => [(3, .int .i64 s)]) (fun s y => [F]) ?_ ?_
 refine sim_block ?_
 refine sim_loop (S := Int × Int) (Unit) (fun k s => synodref1_Size.l0 k s.1 s.2) (fun s y => [(0, .int .i64 s.1), (3, .int .i64 s.2)]) (fun s y => [F]) (fun _ => by rw [synodref1_Size.l0]) ?_ k (x0, 1) () ⟨rfl, rfl, trivial⟩ (.sel 0 rfl (.nil _))
 intro k s5v y6v
 refine sim_eq (by rw [synodref1_Size.l0]) ?_
 refine sim_seq (sim_seq (sim_region ?_))
 refine simL_val (q_move rfl rfl) rfl rfl rfl ?_
 refine simL_val (q_geq rfl rfl rfl) rfl rfl rfl (simL_nil (nrm_then ?_))
 refine sim_cond rfl (fun h9v => ?_) (fun h10v => ?_)
 refine sim_skip ?_
 refine nrm_then ?_
 refine sim_block ?_
 refine sim_seq (sim_region ?_)
 refine simL_val (q_move rfl rfl) rfl rfl rfl ?_
 refine simL_val (q_quo rfl rfl rfl (by decide)) rfl rfl rfl ?_
 refine simL_val (q_asg rfl rfl) rfl rfl rfl (simL_nil (nrm_then (sim_region ?_)))
 refine simL_val (q_move rfl rfl) rfl rfl rfl ?_
 refine simL_val (q_add rfl rfl rfl) rfl rfl rfl ?_
 refine simL_val (q_asg rfl rfl) rfl rfl rfl (simL_nil (nrm_block ?_))
 exact nrm_again (s := (IntKind.i64.wrap (Int.tdiv s5v.1 128), IntKind.i64.wrap (s5v.2 + 1))) () ⟨rfl, rfl, trivial⟩ (.sel 0 rfl (.nil _))
 refine sim_exi ?_
 refine exi_then ?_
 refine exi_loop ?_
 refine exi_here ?_
 exact nrm_cut (s := s5v.2) () ⟨rfl, trivial⟩ (.sel 0 rfl (.nil _))
 intro s3v y4v
 refine sim_seq (sim_region ?_)
 refine simL_val (q_move rfl rfl) rfl rfl rfl ?_
 refine simL_val (q_asg rfl rfl) rfl rfl rfl (simL_nil (nrm_then (sim_rtn ?_)))
 exact rtn_fn () rfl rfl rfl (.sel 0 rfl (.nil _))

def synodref1_PutInt.l0 : Nat → Int → List UInt8 → Option (Int × List UInt8)
  | 0, _, _ => none
  | k + 1, z10v, z11v => if (128 : Int) ≤ z10v then (if 0 ≤ IntKind.u8.wrap (IntKind.i64.wrap ((Int.tmod z10v 128) + 128)) ∧ IntKind.u8.wrap (IntKind.i64.wrap ((Int.tmod z10v 128) + 128)) < 256 then (if (z11v.length + ([(byte (IntKind.u8.wrap (IntKind.i64.wrap ((Int.tmod z10v 128) + 128))))] : List UInt8).length) * 1 ≤ 140737488355328 then (synodref1_PutInt.l0 k (IntKind.i64.wrap (Int.tdiv z10v 128)) (z11v ++ ([(byte (IntKind.u8.wrap (IntKind.i64.wrap ((Int.tmod z10v 128) + 128))))] : List UInt8))) else none) else none) else (some (z10v, z11v))
def synodref1_PutInt.f (k : Nat) (x0 : Int) : Option (List UInt8 × Int) := (synodref1_Size.f k x0).bind fun s1v => (if s1v = (0 : Int) then (some (([] : List UInt8), 1)) else ((synodref1_PutInt.l0 k x0 ([] : List UInt8)).bind fun s6v => (if 0 ≤ IntKind.u8.wrap s6v.1 ∧ IntKind.u8.wrap s6v.1 < 256 then (if (s6v.2.length + ([(byte (IntKind.u8.wrap s6v.1))] : List UInt8).length) * 1 ≤ 140737488355328 then (some (s6v.2 ++ ([(byte (IntKind.u8.wrap s6v.1))] : List UInt8), 0)) else none) else none)))
theorem synodref1_PutInt.calls (W : World) (F : HA) (k : Nat) (x0 : Int)  :
    Fn Try.prog W 69 [.int .i64 x0] [] F (synodref1_PutInt.f k x0) (fun (r : List UInt8 × Int) (y : Option Addr × Nat) => .tuple #[.slice y.1 r.1.length y.2, .int .i64 r.2]) (fun r y => [Row 5 1 y.1 r.1.length y.2 (encB r.1)]) := by
 unfold synodref1_PutInt.f
 refine fn_intro 24 Try.func69 rfl Try.ntmps69 rfl ?_
 refine sim_seq (sim_region ?_)
 refine simL_val (q_asg rfl rfl) rfl rfl rfl ?_
 refine simL_val (q_asg rfl rfl) rfl rfl rfl (simL_nil (nrm_then (sim_seq (sim_seq (sim_region ?_)))))
 refine simL_val (q_move rfl rfl) rfl rfl rfl ?_
 refine simL_bind (fun s1v hs3v => ?_)
 refine simL_eff (re_call (vs := [.int .i64 x0]) (cap := []) (A := []) (rst := [F]) rfl rfl rfl rfl rfl rfl Try.call84 (.sel 0 rfl (.nil _)) (synodref1_Size.calls _ _ k x0 ) hs3v) rfl rfl rfl ?_
 intro y2v
 refine simL_val (q_eql rfl rfl rfl) rfl rfl rfl (simL_nil (nrm_then ?_))
 refine sim_cond rfl (fun h4v => ?_) (fun h5v => ?_)
 refine sim_seq (sim_region ?_)
 refine simL_val (q_asg rfl rfl) rfl rfl rfl ?_
 refine simL_val (q_asg rfl rfl) rfl rfl rfl (simL_nil (nrm_then (sim_rtn ?_)))
 refine rtn_then ?_
 exact rtn_fn (none, 0) rfl rfl rfl (.row_nil (.sel 0 rfl (.nil _)))
 refine sim_skip ?_
 refine nrm_then (sim_seq (sim_region ?_))
 refine simL_val (q_asg rfl rfl) rfl rfl rfl (simL_nil (nrm_then ?_))
 refine sim_cut (S := Int × List UInt8) (Option Addr × Nat) (fun s y => [(0, .int .i64 s.1), (4, .slice y.1 s.2.length y.2)]) (fun s y => [Row 5 1 y.1 s.2.length y.2 (encB s.2), F]) ?_ ?_
 refine sim_block ?_
 refine sim_loop (S := Int × List UInt8) (Option Addr × Nat) (fun k s => synodref1_PutInt.l0 k s.1 s.2) (fun s y => [(0, .int .i64 s.1), (4, .slice y.1 s.2.length y.2)]) (fun s y => [Row 5 1 y.1 s.2.length y.2 (encB s.2), F]) (fun _ => by rw [synodref1_PutInt.l0]) ?_ k (x0, ([] : List UInt8)) (none, 0) ⟨rfl, rfl, trivial⟩ (.row_nil (.sel 0 rfl (.nil _)))
 intro k s8v y9v
 refine sim_eq (by rw [synodref1_PutInt.l0]) ?_
 refine sim_seq (sim_seq (sim_region ?_))
 refine simL_val (q_move rfl rfl) rfl rfl rfl ?_
 refine simL_val (q_geq rfl rfl rfl) rfl rfl rfl (simL_nil (nrm_then ?_))
 refine sim_cond rfl (fun h12v => ?_) (fun h13v => ?_)
 refine sim_skip ?_
 refine nrm_then ?_
 refine sim_block ?_
 refine sim_seq (sim_region ?_)
 refine simL_val (q_move rfl rfl) rfl rfl rfl ?_
 refine simL_val (q_move rfl rfl) rfl rfl rfl ?_
 refine simL_val (q_rem rfl rfl rfl (by decide)) rfl rfl rfl ?_
 refine simL_val (q_add rfl rfl rfl) rfl rfl rfl ?_
 refine simL_val (q_conv rfl rfl Try.underlying3 Try.underlying5) rfl rfl rfl ?_
 refine simL_ask (fun hb16v => ?_)
 refine simL_eff (re_litb (cs := [.int .u8 (IntKind.u8.wrap (IntKind.i64.wrap ((Int.tmod s8v.1 128) + 128)))]) ([(byte (IntKind.u8.wrap (IntKind.i64.wrap ((Int.tmod s8v.1 128) + 128))))] : List UInt8) rfl rfl Try.underlying35 elt5 rfl (by kernel_rfl) rfl rfl (byte_lit1 hb16v)) rfl rfl rfl ?_
 intro b15v
 refine simL_ask (fun hb18v => ?_)
 refine simL_eff (re_appendb 1 rfl rfl rfl Try.underlying35 elt5 rfl (Rds.row 0 rfl) hb18v) rfl rfl rfl ?_
 intro y17v
 refine simL_val (q_asg rfl rfl) rfl rfl rfl (simL_nil (nrm_then (sim_region ?_)))
 refine simL_val (q_move rfl rfl) rfl rfl rfl ?_
 refine simL_val (q_quo rfl rfl rfl (by decide)) rfl rfl rfl ?_
 refine simL_val (q_asg rfl rfl) rfl rfl rfl (simL_nil (nrm_block ?_))
 exact nrm_again (s := (IntKind.i64.wrap (Int.tdiv s8v.1 128), s8v.2 ++ ([(byte (IntKind.u8.wrap (IntKind.i64.wrap ((Int.tmod s8v.1 128) + 128))))] : List UInt8))) (y17v.1, y17v.2) ⟨rfl, rfl, trivial⟩ (.sel 1 rfl (.sel 1 rfl (.nil _)))
 refine sim_exi ?_
 refine exi_then ?_
 refine exi_loop ?_
 refine exi_here ?_
 exact nrm_cut (s := (s8v.1, s8v.2)) (y9v.1, y9v.2) ⟨rfl, rfl, trivial⟩ (.sel 0 rfl (.sel 0 rfl (.nil _)))
 intro s6v y7v
 refine sim_seq (sim_region ?_)
 refine simL_val (q_move rfl rfl) rfl rfl rfl ?_
 refine simL_val (q_move rfl rfl) rfl rfl rfl ?_
 refine simL_val (q_conv rfl rfl Try.underlying3 Try.underlying5) rfl rfl rfl ?_
 refine simL_ask (fun hb21v => ?_)
 refine simL_eff (re_litb (cs := [.int .u8 (IntKind.u8.wrap s6v.1)]) ([(byte (IntKind.u8.wrap s6v.1))] : List UInt8) rfl rfl Try.underlying35 elt5 rfl (by kernel_rfl) rfl rfl (byte_lit1 hb21v)) rfl rfl rfl ?_
 intro b20v
 refine simL_ask (fun hb23v => ?_)
 refine simL_eff (re_appendb 1 rfl rfl rfl Try.underlying35 elt5 rfl (Rds.row 0 rfl) hb23v) rfl rfl rfl ?_
 intro y22v
 refine simL_val (q_asg rfl rfl) rfl rfl rfl ?_
 refine simL_val (q_asg rfl rfl) rfl rfl rfl (simL_nil (nrm_then (sim_rtn ?_)))
 exact rtn_fn (y22v.1, y22v.2) rfl rfl rfl (.sel 1 rfl (.sel 1 rfl (.nil _)))

def synodref1_Writer_Int.f (k : Nat) (x0_0 : List UInt8) (x0_1 : Int) (x1 : Int) : Option (List UInt8 × Int) := if x0_1 = (0 : Int) then ((synodref1_PutInt.f k x1).bind fun s3v => (if (x0_0.length + s3v.1.length) * 1 ≤ 140737488355328 then (some (x0_0 ++ s3v.1, s3v.2)) else none)) else (some (x0_0, x0_1))
theorem synodref1_Writer_Int.calls (W : World) (F : HA) (k : Nat) (b0 : Nat) (a0_0 : Option Addr) (c0_0 : Nat) (x0_0 : List UInt8) (x0_1 : Int) (x1 : Int)  :
    Fn Try.prog W 58 [.pointer (some ⟨b0, 0, none⟩), .int .i64 x1] [obj b0 117 [.slice a0_0 x0_0.length c0_0, .int .i64 x0_1], Row 5 1 a0_0 x0_0.length c0_0 (encB x0_0)] F (synodref1_Writer_Int.f k x0_0 x0_1 x1) (fun (r : List UInt8 × Int) (y : Option Addr × Nat) => .tuple #[]) (fun r y => [obj b0 117 [.slice y.1 r.1.length y.2, .int .i64 r.2], Row 5 1 y.1 r.1.length y.2 (encB r.1)]) := by
 unfold synodref1_Writer_Int.f
 refine fn_intro 29 Try.func58 rfl Try.ntmps58 rfl ?_
 refine sim_seq (sim_seq (sim_region ?_))
 refine simL_val (q_move rfl rfl) rfl rfl rfl ?_
 refine simL_val (q_nil rfl rfl) rfl rfl rfl ?_
 refine simL_val (q_fa rfl rfl Try.underlying117 rfl rfl Try.sizeOf3 rfl) rfl rfl rfl ?_
 refine simL_val (q_load rfl rfl Try.isAgg3 (.obj 0 rfl rfl)) rfl rfl rfl ?_
 refine simL_val (q_neq rfl rfl rfl) rfl rfl rfl (simL_nil (nrm_then ?_))
 refine sim_condn rfl (fun h1v => ?_) (fun h2v => ?_)
 refine sim_skip ?_
 refine nrm_then (sim_seq (sim_region ?_))
 refine simL_val (q_move rfl rfl) rfl rfl rfl ?_
 refine simL_bind (fun s3v hs5v => ?_)
 refine simL_eff (re_call (vs := [.int .i64 x1]) (cap := []) (A := []) (rst := [obj b0 117 [.slice a0_0 x0_0.length c0_0, .int .i64 x0_1], Row 5 1 a0_0 x0_0.length c0_0 (encB x0_0), F]) rfl rfl rfl rfl rfl rfl Try.call69 (.sel 0 rfl (.sel 0 rfl (.sel 0 rfl (.nil _)))) (synodref1_PutInt.calls _ _ k x1 ) hs5v) rfl rfl rfl ?_
 intro y4v
 refine simL_val (q_move rfl rfl) rfl rfl rfl ?_
 refine simL_val (q_ext rfl rfl rfl) rfl rfl rfl ?_
 refine simL_val (q_ext rfl rfl rfl) rfl rfl rfl ?_
 refine simL_val (q_asg rfl rfl) rfl rfl rfl ?_
 refine simL_val (q_asg rfl rfl) rfl rfl rfl (simL_nil (nrm_then (sim_seq (sim_region ?_))))
 refine simL_val (q_move rfl rfl) rfl rfl rfl ?_
 refine simL_val (q_move rfl rfl) rfl rfl rfl ?_
 refine simL_val (q_nil rfl rfl) rfl rfl rfl ?_
 refine simL_val (q_fa rfl rfl Try.underlying117 rfl rfl Try.sizeOf3 rfl) rfl rfl rfl ?_
 refine simL_do (re_store 1 rfl rfl rfl Try.sizeOf3 rfl rfl (one_of (by rfl)) rfl rfl) rfl rfl ?_
 intro _
 refine simL_nil (nrm_then (sim_region ?_))
 refine simL_val (q_move rfl rfl) rfl rfl rfl ?_
 refine simL_val (q_move rfl rfl) rfl rfl rfl ?_
 refine simL_val (q_nil rfl rfl) rfl rfl rfl ?_
 refine simL_val (q_fa rfl rfl Try.underlying117 rfl rfl Try.sizeOf35 rfl) rfl rfl rfl ?_
 refine simL_val (q_load rfl rfl Try.isAgg35 (.obj 1 rfl rfl)) rfl rfl rfl ?_
 refine simL_val (q_move rfl rfl) rfl rfl rfl ?_
 refine simL_ask (fun hb7v => ?_)
 refine simL_eff (re_appendb 2 rfl rfl rfl Try.underlying35 elt5 rfl (Rds.row 0 rfl) hb7v) rfl rfl rfl ?_
 intro y6v
 refine simL_val (q_nil rfl rfl) rfl rfl rfl ?_
 refine simL_val (q_fa rfl rfl Try.underlying117 rfl rfl Try.sizeOf35 rfl) rfl rfl rfl ?_
 refine simL_do (re_store 1 rfl rfl rfl Try.sizeOf35 rfl rfl (one_of (by rfl)) rfl rfl) rfl rfl ?_
 intro _
 refine simL_nil ?_
 exact nrm_fn (y6v.1, y6v.2) rfl rfl rfl (.sel 1 rfl (.sel 1 rfl (.sel 1 rfl (.nil _))))
 refine sim_rtn ?_
 refine rtn_then ?_
 exact rtn_fn (a0_0, c0_0) rfl rfl rfl (.sel 0 rfl (.sel 0 rfl (.sel 0 rfl (.nil _))))

def synodref1_Writer_Bytes.f (k : Nat) (x0_0 : List UInt8) (x0_1 : Int) (x1 : List UInt8) (x2 : Int) : Option (List UInt8 × Int) := if x0_1 = (0 : Int) then (if max x2 (0 : Int) < (x1.length : Int) then (some (x0_0, 3)) else ((synodref1_Writer_Int.f k x0_0 x0_1 (x1.length : Int)).bind fun s5v => (if (s5v.1.length + x1.length) * 1 ≤ 140737488355328 then (some (s5v.1 ++ x1, s5v.2)) else none))) else (some (x0_0, x0_1))
theorem synodref1_Writer_Bytes.calls (W : World) (F : HA) (k : Nat) (b0 : Nat) (a0_0 : Option Addr) (c0_0 : Nat) (x0_0 : List UInt8) (x0_1 : Int) (a1 : Option Addr) (c1 : Nat) (x1 : List UInt8) (x2 : Int) (h1 : Rd F a1 (encB x1)) (hc1 : x1.length ≤ c1) (hm1 : c1 ≤ maxLen) :
    Fn Try.prog W 70 [.pointer (some ⟨b0, 0, none⟩), .slice a1 x1.length c1, .int .i64 x2] [obj b0 117 [.slice a0_0 x0_0.length c0_0, .int .i64 x0_1], Row 5 1 a0_0 x0_0.length c0_0 (encB x0_0)] F (synodref1_Writer_Bytes.f k x0_0 x0_1 x1 x2) (fun (r : List UInt8 × Int) (y : Option Addr × Nat) => .tuple #[]) (fun r y => [obj b0 117 [.slice y.1 r.1.length y.2, .int .i64 r.2], Row 5 1 y.1 r.1.length y.2 (encB r.1)]) := by
 unfold synodref1_Writer_Bytes.f
 refine fn_intro 32 Try.func70 rfl Try.ntmps70 rfl ?_
 refine sim_seq (sim_seq (sim_region ?_))
 refine simL_val (q_move rfl rfl) rfl rfl rfl ?_
 refine simL_val (q_nil rfl rfl) rfl rfl rfl ?_
 refine simL_val (q_fa rfl rfl Try.underlying117 rfl rfl Try.sizeOf3 rfl) rfl rfl rfl ?_
 refine simL_val (q_load rfl rfl Try.isAgg3 (.obj 0 rfl rfl)) rfl rfl rfl ?_
 refine simL_val (q_neq rfl rfl rfl) rfl rfl rfl (simL_nil (nrm_then ?_))
 refine sim_condn rfl (fun h1v => ?_) (fun h2v => ?_)
 refine sim_skip ?_
 refine nrm_then (sim_seq (sim_seq (sim_region ?_)))
 refine simL_val (q_move rfl rfl) rfl rfl rfl ?_
 refine simL_val (q_len rfl rfl rfl Try.underlying35) rfl rfl rfl ?_
 refine simL_val (q_move rfl rfl) rfl rfl rfl ?_
 refine simL_val (q_max rfl rfl rfl) rfl rfl rfl ?_
 refine simL_val (q_gtr rfl rfl rfl) rfl rfl rfl (simL_nil (nrm_then ?_))
 refine sim_cond rfl (fun h3v => ?_) (fun h4v => ?_)
 refine sim_seq (sim_region ?_)
 refine simL_val (q_move rfl rfl) rfl rfl rfl ?_
 refine simL_val (q_nil rfl rfl) rfl rfl rfl ?_
 refine simL_val (q_fa rfl rfl Try.underlying117 rfl rfl Try.sizeOf3 rfl) rfl rfl rfl ?_
 refine simL_do (re_store 0 rfl rfl rfl Try.sizeOf3 rfl rfl (one_of (by rfl)) rfl rfl) rfl rfl ?_
 intro _
 refine simL_nil (nrm_then (sim_rtn ?_))
 refine rtn_then ?_
 exact rtn_fn (a0_0, c0_0) rfl rfl rfl (.sel 0 rfl (.sel 0 rfl (.sel 0 rfl (.nil _))))
 refine sim_skip ?_
 refine nrm_then (sim_seq (sim_region ?_))
 refine simL_val (q_move rfl rfl) rfl rfl rfl ?_
 refine simL_val (q_move rfl rfl) rfl rfl rfl ?_
 refine simL_val (q_len rfl rfl rfl Try.underlying35) rfl rfl rfl ?_
 refine simL_bind (fun s5v hs7v => ?_)
 refine simL_eff (re_call (vs := [.pointer (some ⟨b0, 0, none⟩), .int .i64 (x1.length : Int)]) (cap := []) (A := [obj b0 117 [.slice a0_0 x0_0.length c0_0, .int .i64 x0_1], Row 5 1 a0_0 x0_0.length c0_0 (encB x0_0)]) (rst := [F]) rfl rfl rfl rfl rfl rfl Try.call58 (.sel 0 rfl (.sel 0 rfl (.sel 0 rfl (.nil _)))) (synodref1_Writer_Int.calls _ _ k b0 a0_0 c0_0 x0_0 x0_1 (x1.length : Int) ) hs7v) rfl rfl rfl ?_
 intro y6v
 refine simL_nil (nrm_then (sim_region ?_))
 refine simL_val (q_move rfl rfl) rfl rfl rfl ?_
 refine simL_val (q_move rfl rfl) rfl rfl rfl ?_
 refine simL_val (q_nil rfl rfl) rfl rfl rfl ?_
 refine simL_val (q_fa rfl rfl Try.underlying117 rfl rfl Try.sizeOf35 rfl) rfl rfl rfl ?_
 refine simL_val (q_load rfl rfl Try.isAgg35 (.obj 0 rfl rfl)) rfl rfl rfl ?_
 refine simL_val (q_move rfl rfl) rfl rfl rfl ?_
 refine simL_ask (fun hb9v => ?_)
 refine simL_eff (re_appendb 1 rfl rfl rfl Try.underlying35 elt5 rfl (h1.rds 1 rfl) hb9v) rfl rfl rfl ?_
 intro y8v
 refine simL_val (q_nil rfl rfl) rfl rfl rfl ?_
 refine simL_val (q_fa rfl rfl Try.underlying117 rfl rfl Try.sizeOf35 rfl) rfl rfl rfl ?_
 refine simL_do (re_store 0 rfl rfl rfl Try.sizeOf35 rfl rfl (one_of (by rfl)) rfl rfl) rfl rfl ?_
 intro _
 refine simL_nil ?_
 exact nrm_fn (y8v.1, y8v.2) rfl rfl rfl (.sel 0 rfl (.sel 0 rfl (.sel 0 rfl (.nil _))))
 refine sim_rtn ?_
 refine rtn_then ?_
 exact rtn_fn (a0_0, c0_0) rfl rfl rfl (.sel 0 rfl (.sel 0 rfl (.sel 0 rfl (.nil _))))

def synodref1_Writer_Text.f (k : Nat) (x0_0 : List UInt8) (x0_1 : Int) (x1 : List UInt8) (x2 : Int) : Option (List UInt8 × Int) := if x1.length ≤ 140737488355328 then ((synodref1_Writer_Bytes.f k x0_0 x0_1 x1 x2).bind fun s7v => (some (s7v.1, s7v.2))) else none
theorem synodref1_Writer_Text.calls (W : World) (F : HA) (k : Nat) (b0 : Nat) (a0_0 : Option Addr) (c0_0 : Nat) (x0_0 : List UInt8) (x0_1 : Int) (x1 : List UInt8) (x2 : Int)  :
    Fn Try.prog W 59 [.pointer (some ⟨b0, 0, none⟩), str x1, .int .i64 x2] [obj b0 117 [.slice a0_0 x0_0.length c0_0, .int .i64 x0_1], Row 5 1 a0_0 x0_0.length c0_0 (encB x0_0)] F (synodref1_Writer_Text.f k x0_0 x0_1 x1 x2) (fun (r : List UInt8 × Int) (y : Option Addr × Nat) => .tuple #[]) (fun r y => [obj b0 117 [.slice y.1 r.1.length y.2, .int .i64 r.2], Row 5 1 y.1 r.1.length y.2 (encB r.1)]) := by
 unfold synodref1_Writer_Text.f
 refine fn_intro 11 Try.func59 rfl Try.ntmps59 rfl ?_
 refine sim_region ?_
 refine simL_val (q_move rfl rfl) rfl rfl rfl ?_
 refine simL_val (q_move rfl rfl) rfl rfl rfl ?_
 refine simL_ask (fun hb2v => ?_)
 refine simL_eff (re_tobytes rfl rfl Try.underlying9 Try.underlying35 Try.underlying5 hb2v) rfl rfl rfl ?_
 intro y1v
 refine simL_val (q_move rfl rfl) rfl rfl rfl ?_
 refine simL_bind (fun s7v hs9v => ?_)
 refine simL_lend 0 rfl (fun hq3v hq4v hq5v hq6v => ?_)
 refine simL_eff (re_call (vs := [.pointer (some ⟨b0, 0, none⟩), .slice (some ⟨y1v.1, 0, none⟩) x1.length y1v.2, .int .i64 x2]) (cap := []) (A := [obj b0 117 [.slice a0_0 x0_0.length c0_0, .int .i64 x0_1], Row 5 1 a0_0 x0_0.length c0_0 (encB x0_0)]) (rst := [Row 5 1 (some ⟨y1v.1, 0, none⟩) x1.length y1v.2 (encB x1), F]) rfl rfl rfl rfl rfl rfl Try.call70 (.sel 1 rfl (.sel 1 rfl (.sel 0 rfl (.sel 0 rfl (.nil _))))) (synodref1_Writer_Bytes.calls _ _ k b0 a0_0 c0_0 x0_0 x0_1 (some ⟨y1v.1, 0, none⟩) y1v.2 x1 x2 (hq3v.lend 0 rfl) hq4v hq5v) hs9v) rfl rfl rfl ?_
 intro y8v
 refine simL_nil ?_
 exact nrm_fn (y8v.1, y8v.2) rfl rfl rfl (.sel 0 rfl (.sel 0 rfl (.sel 1 rfl (.nil _))))

def synodref1_Writer_Done.f (x0_0 : List UInt8) (x0_1 : Int) : Option (List UInt8 × Int) := if x0_1 = (0 : Int) then (some (x0_0, 0)) else (some (([] : List UInt8), x0_1))
theorem synodref1_Writer_Done.calls (W : World) (F : HA) (G : HA) (hG : Up G F) (b0 : Nat) (a0_0 : Option Addr) (c0_0 : Nat) (x0_0 : List UInt8) (x0_1 : Int) (h0_0 : Rd G a0_0 (encB x0_0)) (hc0_0 : x0_0.length ≤ c0_0) (hm0_0 : c0_0 ≤ maxLen) :
    Fn Try.prog W 60 [.pointer (some ⟨b0, 0, none⟩)] [obj b0 117 [.slice a0_0 x0_0.length c0_0, .int .i64 x0_1]] F (synodref1_Writer_Done.f x0_0 x0_1) (fun (r : List UInt8 × Int) (y : Option Addr × Nat) => .tuple #[.slice y.1 r.1.length y.2, .int .i64 r.2]) (fun r y => [pr (Rd (G) y.1 (encB r.1) ∧ r.1.length ≤ y.2 ∧ y.2 ≤ maxLen), obj b0 117 [.slice a0_0 x0_0.length c0_0, .int .i64 x0_1]]) := by
 unfold synodref1_Writer_Done.f
 refine fn_intro 17 Try.func60 rfl Try.ntmps60 rfl ?_
 refine sim_seq (sim_region ?_)
 refine simL_val (q_asg rfl rfl) rfl rfl rfl ?_
 refine simL_val (q_asg rfl rfl) rfl rfl rfl (simL_nil (nrm_then (sim_seq (sim_seq (sim_region ?_)))))
 refine simL_val (q_move rfl rfl) rfl rfl rfl ?_
 refine simL_val (q_nil rfl rfl) rfl rfl rfl ?_
 refine simL_val (q_fa rfl rfl Try.underlying117 rfl rfl Try.sizeOf3 rfl) rfl rfl rfl ?_
 refine simL_val (q_load rfl rfl Try.isAgg3 (.obj 0 rfl rfl)) rfl rfl rfl ?_
 refine simL_val (q_neq rfl rfl rfl) rfl rfl rfl (simL_nil (nrm_then ?_))
 refine sim_condn rfl (fun h1v => ?_) (fun h2v => ?_)
 refine sim_skip ?_
 refine nrm_then (sim_seq (sim_region ?_))
 refine simL_val (q_move rfl rfl) rfl rfl rfl ?_
 refine simL_val (q_nil rfl rfl) rfl rfl rfl ?_
 refine simL_val (q_fa rfl rfl Try.underlying117 rfl rfl Try.sizeOf35 rfl) rfl rfl rfl ?_
 refine simL_val (q_load rfl rfl Try.isAgg35 (.obj 0 rfl rfl)) rfl rfl rfl ?_
 refine simL_val (q_asg rfl rfl) rfl rfl rfl ?_
 refine simL_val (q_asg rfl rfl) rfl rfl rfl (simL_nil (nrm_then (sim_rtn ?_)))
 exact rtn_fn (a0_0, c0_0) rfl rfl rfl (.pr_in ⟨h0_0, hc0_0, hm0_0⟩ (.sel 0 rfl (.sel 0 rfl (.nil _))))
 refine sim_seq ?_
 refine sim_draw (Γ := Unit) () [[], [0], [0, 1], [0, 1, 2], [], [0, 1, 2, 3, 4]] [] [0, 1, 2, 3, 4, 5] (fun i => [[0], [0], [0], [0], [0], [0]].getD i []) (fun i => [[], [], [], [], [], []].getD i []) (fun γ i => [.pointer (some ⟨b0, 0, none⟩), .pointer (some ⟨b0, 0, none⟩), .pointer (some ⟨b0, 1, none⟩), .int .i64 x0_1, .slice none 0 0, .int .i64 x0_1].getD i undef) (fun j γ => [[obj b0 117 [.slice a0_0 x0_0.length c0_0, .int .i64 x0_1], F]].getD j []) (fun γ => [(2, .slice none 0 0), (3, .int .i64 x0_1)]) mixed (by decide) (by decide) (by decide) (by decide) (by decide) (by decide) (by decide) 17 rfl (by decide) (by decide) (by decide) (Ent.refl _) ?_ ?_ (fun _ => ⟨rfl, rfl, trivial⟩) ?_
 exact (All.cons (fun γ => (All.cons (QOb.plain [(0, .pointer (some ⟨b0, 0, none⟩))] rfl rfl (.o rfl (by decide) .nil) (q_move rfl rfl) rfl) All.nil)) (All.cons (fun γ => (All.cons (QOb.plain [(9, .pointer (some ⟨b0, 0, none⟩))] rfl rfl (.w 0 rfl rfl rfl .nil) (q_nil rfl rfl) rfl) All.nil)) (All.cons (fun γ => (All.cons (QOb.plain [(10, .pointer (some ⟨b0, 0, none⟩))] rfl rfl (.w 1 rfl rfl rfl .nil) (q_fa rfl rfl Try.underlying117 rfl rfl Try.sizeOf3 rfl) rfl) All.nil)) (All.cons (fun γ => (All.cons (QOb.plain [(11, .pointer (some ⟨b0, 1, none⟩))] rfl rfl (.w 2 rfl rfl rfl .nil) (q_load rfl rfl Try.isAgg3 (.obj 0 rfl rfl)) rfl) All.nil)) (All.cons (fun γ => (All.cons (QOb.plain [] rfl rfl .nil (q_asg rfl rfl) rfl) All.nil)) (All.cons (fun γ => (All.cons (QOb.plain [(12, .int .i64 x0_1)] rfl rfl (.w 3 rfl rfl rfl .nil) (q_asg rfl rfl) rfl) All.nil)) All.nil))))))
 exact All.nil
 intro g3v
 refine nrm_then (sim_rtn ?_)
 refine rtn_then ?_
 exact rtn_fn (none, 0) rfl rfl rfl (.pr_in ⟨Rd.nil _ _, Nat.le_refl _, Nat.zero_le _⟩ (.sel 0 rfl (.sel 0 rfl (.nil _))))
def synodref1_Writer_Done.v (x0_0 : List UInt8) (x0_1 : Int) : List UInt8 × Int := (synodref1_Writer_Done.f x0_0 x0_1).getD ([], 0)
theorem synodref1_Writer_Done.tot (x0_0 : List UInt8) (x0_1 : Int) : synodref1_Writer_Done.f x0_0 x0_1 = some (synodref1_Writer_Done.v x0_0 x0_1) := by
  have h : ∃ r, synodref1_Writer_Done.f x0_0 x0_1 = some r := by
    unfold synodref1_Writer_Done.f
    repeat' (first | exact ⟨_, rfl⟩ | split | simp only [Option.bind_some])
  obtain ⟨r, h⟩ := h
  unfold synodref1_Writer_Done.v
  rw [h]; rfl

def synodref1_Writer_Done_s_c0.f (xp0_0 : List UInt8) (xp0_1 : Int) : Option (List UInt8 × Int) := if xp0_1 = (0 : Int) then (some (xp0_0, 0)) else (some (([] : List UInt8), xp0_1))
theorem synodref1_Writer_Done_s_c0.calls (W : World) (F : HA) (G : HA) (hG : Up G F) (bp0 : Nat) (ap0_0 : Option Addr) (cp0_0 : Nat) (xp0_0 : List UInt8) (xp0_1 : Int) (hp0_0 : Rd G ap0_0 (encB xp0_0)) (hcp0_0 : xp0_0.length ≤ cp0_0) (hmp0_0 : cp0_0 ≤ maxLen) :
    Fn Try.prog W 60 [.pointer (some ⟨bp0, 0, none⟩)] [obj bp0 117 [.slice ap0_0 xp0_0.length cp0_0, .int .i64 xp0_1]] F (synodref1_Writer_Done_s_c0.f xp0_0 xp0_1) (fun (r : List UInt8 × Int) (y : Option Addr × Nat) => .tuple #[.slice y.1 r.1.length y.2, .int .i64 r.2]) (fun r y => [pr (Rd (G) y.1 (encB r.1) ∧ r.1.length ≤ y.2 ∧ y.2 ≤ maxLen), obj bp0 117 [.slice ap0_0 xp0_0.length cp0_0, .int .i64 xp0_1]]) := by
 unfold synodref1_Writer_Done_s_c0.f
 refine fn_intro 17 Try.func60 rfl Try.ntmps60 rfl ?_
 refine sim_seq (sim_region ?_)
 refine simL_val (q_asg rfl rfl) rfl rfl rfl ?_
 refine simL_val (q_asg rfl rfl) rfl rfl rfl (simL_nil (nrm_then (sim_seq (sim_seq (sim_region ?_)))))
 refine simL_val (q_move rfl rfl) rfl rfl rfl ?_
 refine simL_val (q_nil rfl rfl) rfl rfl rfl ?_
 refine simL_val (q_fa rfl rfl Try.underlying117 rfl rfl Try.sizeOf3 rfl) rfl rfl rfl ?_
 refine simL_val (q_load rfl rfl Try.isAgg3 (.obj 0 rfl rfl)) rfl rfl rfl ?_
 refine simL_val (q_neq rfl rfl rfl) rfl rfl rfl (simL_nil (nrm_then ?_))
 refine sim_condn rfl (fun h1v => ?_) (fun h2v => ?_)
 refine sim_skip ?_
 refine nrm_then (sim_seq (sim_region ?_))
 refine simL_val (q_move rfl rfl) rfl rfl rfl ?_
 refine simL_val (q_nil rfl rfl) rfl rfl rfl ?_
 refine simL_val (q_fa rfl rfl Try.underlying117 rfl rfl Try.sizeOf35 rfl) rfl rfl rfl ?_
 refine simL_val (q_load rfl rfl Try.isAgg35 (.obj 0 rfl rfl)) rfl rfl rfl ?_
 refine simL_val (q_asg rfl rfl) rfl rfl rfl ?_
 refine simL_val (q_asg rfl rfl) rfl rfl rfl (simL_nil (nrm_then (sim_rtn ?_)))
 exact rtn_fn (ap0_0, cp0_0) rfl rfl rfl (.pr_in ⟨hp0_0, hcp0_0, hmp0_0⟩ (.sel 0 rfl (.sel 0 rfl (.nil _))))
 refine sim_seq ?_
 refine sim_draw (Γ := Unit) () [[], [0], [0, 1], [0, 1, 2], [], [0, 1, 2, 3, 4]] [] [0, 1, 2, 3, 4, 5] (fun i => [[0], [0], [0], [0], [0], [0]].getD i []) (fun i => [[], [], [], [], [], []].getD i []) (fun γ i => [.pointer (some ⟨bp0, 0, none⟩), .pointer (some ⟨bp0, 0, none⟩), .pointer (some ⟨bp0, 1, none⟩), .int .i64 xp0_1, .slice none 0 0, .int .i64 xp0_1].getD i undef) (fun j γ => [[obj bp0 117 [.slice ap0_0 xp0_0.length cp0_0, .int .i64 xp0_1], F]].getD j []) (fun γ => [(2, .slice none 0 0), (3, .int .i64 xp0_1)]) mixed (by decide) (by decide) (by decide) (by decide) (by decide) (by decide) (by decide) 17 rfl (by decide) (by decide) (by decide) (Ent.refl _) ?_ ?_ (fun _ => ⟨rfl, rfl, trivial⟩) ?_
 exact (All.cons (fun γ => (All.cons (QOb.plain [(0, .pointer (some ⟨bp0, 0, none⟩))] rfl rfl (.o rfl (by decide) .nil) (q_move rfl rfl) rfl) All.nil)) (All.cons (fun γ => (All.cons (QOb.plain [(9, .pointer (some ⟨bp0, 0, none⟩))] rfl rfl (.w 0 rfl rfl rfl .nil) (q_nil rfl rfl) rfl) All.nil)) (All.cons (fun γ => (All.cons (QOb.plain [(10, .pointer (some ⟨bp0, 0, none⟩))] rfl rfl (.w 1 rfl rfl rfl .nil) (q_fa rfl rfl Try.underlying117 rfl rfl Try.sizeOf3 rfl) rfl) All.nil)) (All.cons (fun γ => (All.cons (QOb.plain [(11, .pointer (some ⟨bp0, 1, none⟩))] rfl rfl (.w 2 rfl rfl rfl .nil) (q_load rfl rfl Try.isAgg3 (.obj 0 rfl rfl)) rfl) All.nil)) (All.cons (fun γ => (All.cons (QOb.plain [] rfl rfl .nil (q_asg rfl rfl) rfl) All.nil)) (All.cons (fun γ => (All.cons (QOb.plain [(12, .int .i64 xp0_1)] rfl rfl (.w 3 rfl rfl rfl .nil) (q_asg rfl rfl) rfl) All.nil)) All.nil))))))
 exact All.nil
 intro g3v
 refine nrm_then (sim_rtn ?_)
 refine rtn_then ?_
 exact rtn_fn (none, 0) rfl rfl rfl (.pr_in ⟨Rd.nil _ _, Nat.le_refl _, Nat.zero_le _⟩ (.sel 0 rfl (.sel 0 rfl (.nil _))))
def synodref1_Writer_Done_s_c0.v (xp0_0 : List UInt8) (xp0_1 : Int) : List UInt8 × Int := (synodref1_Writer_Done_s_c0.f xp0_0 xp0_1).getD ([], 0)
theorem synodref1_Writer_Done_s_c0.tot (xp0_0 : List UInt8) (xp0_1 : Int) : synodref1_Writer_Done_s_c0.f xp0_0 xp0_1 = some (synodref1_Writer_Done_s_c0.v xp0_0 xp0_1) := by
  have h : ∃ r, synodref1_Writer_Done_s_c0.f xp0_0 xp0_1 = some r := by
    unfold synodref1_Writer_Done_s_c0.f
    repeat' (first | exact ⟨_, rfl⟩ | split | simp only [Option.bind_some])
  obtain ⟨r, h⟩ := h
  unfold synodref1_Writer_Done_s_c0.v
  rw [h]; rfl

def synodref1_Writer_Done_s_c0p0.f (xp0_0 : List UInt8) (xp0_1 : Int) : Option (List UInt8 × Int) := if xp0_1 = (0 : Int) then (some (xp0_0, 0)) else (some (([] : List UInt8), xp0_1))
theorem synodref1_Writer_Done_s_c0p0.calls (W : World) (F : HA) (bp0 : Nat) (ap0_0 : Option Addr) (cp0_0 : Nat) (xp0_0 : List UInt8) (xp0_1 : Int)  :
    Fn Try.prog W 60 [.pointer (some ⟨bp0, 0, none⟩)] [obj bp0 117 [.slice ap0_0 xp0_0.length cp0_0, .int .i64 xp0_1], Row 5 1 ap0_0 xp0_0.length cp0_0 (encB xp0_0)] F (synodref1_Writer_Done_s_c0p0.f xp0_0 xp0_1) (fun (r : List UInt8 × Int) (y : Option Addr × Nat) => .tuple #[.slice y.1 r.1.length y.2, .int .i64 r.2]) (fun r y => [Row 5 1 y.1 r.1.length y.2 (encB r.1)]) := by
 unfold synodref1_Writer_Done_s_c0p0.f
 refine fn_intro 17 Try.func60 rfl Try.ntmps60 rfl ?_
 refine sim_seq (sim_region ?_)
 refine simL_val (q_asg rfl rfl) rfl rfl rfl ?_
 refine simL_val (q_asg rfl rfl) rfl rfl rfl (simL_nil (nrm_then (sim_seq (sim_seq (sim_region ?_)))))
 refine simL_val (q_move rfl rfl) rfl rfl rfl ?_
 refine simL_val (q_nil rfl rfl) rfl rfl rfl ?_
 refine simL_val (q_fa rfl rfl Try.underlying117 rfl rfl Try.sizeOf3 rfl) rfl rfl rfl ?_
 refine simL_val (q_load rfl rfl Try.isAgg3 (.obj 0 rfl rfl)) rfl rfl rfl ?_
 refine simL_val (q_neq rfl rfl rfl) rfl rfl rfl (simL_nil (nrm_then ?_))
 refine sim_condn rfl (fun h1v => ?_) (fun h2v => ?_)
 refine sim_skip ?_
 refine nrm_then (sim_seq (sim_region ?_))
 refine simL_val (q_move rfl rfl) rfl rfl rfl ?_
 refine simL_val (q_nil rfl rfl) rfl rfl rfl ?_
 refine simL_val (q_fa rfl rfl Try.underlying117 rfl rfl Try.sizeOf35 rfl) rfl rfl rfl ?_
 refine simL_val (q_load rfl rfl Try.isAgg35 (.obj 0 rfl rfl)) rfl rfl rfl ?_
 refine simL_val (q_asg rfl rfl) rfl rfl rfl ?_
 refine simL_val (q_asg rfl rfl) rfl rfl rfl (simL_nil (nrm_then (sim_rtn ?_)))
 exact rtn_fn (ap0_0, cp0_0) rfl rfl rfl (.sel 1 rfl (.sel 1 rfl (.nil _)))
 refine sim_seq ?_
 refine sim_draw (Γ := Unit) () [[], [0], [0, 1], [0, 1, 2], [], [0, 1, 2, 3, 4]] [] [0, 1, 2, 3, 4, 5] (fun i => [[0], [0], [0], [0], [0], [0]].getD i []) (fun i => [[], [], [], [], [], []].getD i []) (fun γ i => [.pointer (some ⟨bp0, 0, none⟩), .pointer (some ⟨bp0, 0, none⟩), .pointer (some ⟨bp0, 1, none⟩), .int .i64 xp0_1, .slice none 0 0, .int .i64 xp0_1].getD i undef) (fun j γ => [[obj bp0 117 [.slice ap0_0 xp0_0.length cp0_0, .int .i64 xp0_1], Row 5 1 ap0_0 xp0_0.length cp0_0 (encB xp0_0), F]].getD j []) (fun γ => [(2, .slice none 0 0), (3, .int .i64 xp0_1)]) mixed (by decide) (by decide) (by decide) (by decide) (by decide) (by decide) (by decide) 17 rfl (by decide) (by decide) (by decide) (Ent.refl _) ?_ ?_ (fun _ => ⟨rfl, rfl, trivial⟩) ?_
 exact (All.cons (fun γ => (All.cons (QOb.plain [(0, .pointer (some ⟨bp0, 0, none⟩))] rfl rfl (.o rfl (by decide) .nil) (q_move rfl rfl) rfl) All.nil)) (All.cons (fun γ => (All.cons (QOb.plain [(9, .pointer (some ⟨bp0, 0, none⟩))] rfl rfl (.w 0 rfl rfl rfl .nil) (q_nil rfl rfl) rfl) All.nil)) (All.cons (fun γ => (All.cons (QOb.plain [(10, .pointer (some ⟨bp0, 0, none⟩))] rfl rfl (.w 1 rfl rfl rfl .nil) (q_fa rfl rfl Try.underlying117 rfl rfl Try.sizeOf3 rfl) rfl) All.nil)) (All.cons (fun γ => (All.cons (QOb.plain [(11, .pointer (some ⟨bp0, 1, none⟩))] rfl rfl (.w 2 rfl rfl rfl .nil) (q_load rfl rfl Try.isAgg3 (.obj 0 rfl rfl)) rfl) All.nil)) (All.cons (fun γ => (All.cons (QOb.plain [] rfl rfl .nil (q_asg rfl rfl) rfl) All.nil)) (All.cons (fun γ => (All.cons (QOb.plain [(12, .int .i64 xp0_1)] rfl rfl (.w 3 rfl rfl rfl .nil) (q_asg rfl rfl) rfl) All.nil)) All.nil))))))
 exact All.nil
 intro g3v
 refine nrm_then (sim_rtn ?_)
 refine rtn_then ?_
 exact rtn_fn (none, 0) rfl rfl rfl (.row_nil (.sel 2 rfl (.nil _)))
def synodref1_Writer_Done_s_c0p0.v (xp0_0 : List UInt8) (xp0_1 : Int) : List UInt8 × Int := (synodref1_Writer_Done_s_c0p0.f xp0_0 xp0_1).getD ([], 0)
theorem synodref1_Writer_Done_s_c0p0.tot (xp0_0 : List UInt8) (xp0_1 : Int) : synodref1_Writer_Done_s_c0p0.f xp0_0 xp0_1 = some (synodref1_Writer_Done_s_c0p0.v xp0_0 xp0_1) := by
  have h : ∃ r, synodref1_Writer_Done_s_c0p0.f xp0_0 xp0_1 = some r := by
    unfold synodref1_Writer_Done_s_c0p0.f
    repeat' (first | exact ⟨_, rfl⟩ | split | simp only [Option.bind_some])
  obtain ⟨r, h⟩ := h
  unfold synodref1_Writer_Done_s_c0p0.v
  rw [h]; rfl
end Go.Proofs.Ytdaedoklkmdhcaa

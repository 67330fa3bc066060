/- Printed by gen.py: pure functions and the proofs that the Go functions simulate them. Conditions: as each theorem says. -/
import Derived.Test.YtlblpegbgbgliaaG1
namespace Go.Proofs.Ytlblpegbgbgliaa
open Go.RowKit
set_option linter.unusedVariables false
set_option maxRecDepth 20000
set_option maxHeartbeats 2000000
def lin_search_from.l0 (x0_0 : List (Ty35)) (x1_0 : Int) (x1_1 : Bool) (x1_2 : List UInt8) (rcall : List (Ty35) → List ((Int × Bool × List UInt8) × (Int)) → List Int → Int → Bool → List UInt8 → Option (Bool × (List ((Int × Bool × List UInt8) × (Int))) × List Int)) : Nat → Int → List ((Int × Bool × List UInt8) × (Int)) → List Int → Option (((List ((Int × Bool × List UInt8) × (Int))) × List Int) ⊕ (Bool × (List ((Int × Bool × List UInt8) × (Int))) × List Int))
  | 0, _, _, _ => none
  | k + 1, z20v, z21v, z22v => if z20v < (x0_0.length : Int) then (if 0 ≤ z20v ∧ z20v < (x0_0.length : Int) then ((lin_search_may.f k x0_0 z21v z22v x1_0 z20v).bind fun s40v => (if (!s40v) = true then (lin_search_from.l0 x0_0 x1_0 x1_1 x1_2 rcall k (IntKind.i64.wrap (z20v + 1)) z21v z22v) else ((lin_Step.f x1_1 x1_2 ((x0_0.getD z20v.toNat dz35).1) ((x0_0.getD z20v.toNat dz35).2.1) ((x0_0.getD z20v.toNat dz35).2.2.1) ((x0_0.getD z20v.toNat dz35).2.2.2.1) ((x0_0.getD z20v.toNat dz35).2.2.2.2.1) ((x0_0.getD z20v.toNat dz35).2.2.2.2.2.1) ((x0_0.getD z20v.toNat dz35).2.2.2.2.2.2.1) ((x0_0.getD z20v.toNat dz35).2.2.2.2.2.2.2.1) ((x0_0.getD z20v.toNat dz35).2.2.2.2.2.2.2.2.1) ((x0_0.getD z20v.toNat dz35).2.2.2.2.2.2.2.2.2)).bind fun s45v => ((lin_open.f ((x0_0.getD z20v.toNat dz35).1) ((x0_0.getD z20v.toNat dz35).2.1) ((x0_0.getD z20v.toNat dz35).2.2.1) ((x0_0.getD z20v.toNat dz35).2.2.2.1) ((x0_0.getD z20v.toNat dz35).2.2.2.2.1) ((x0_0.getD z20v.toNat dz35).2.2.2.2.2.1) ((x0_0.getD z20v.toNat dz35).2.2.2.2.2.2.1) ((x0_0.getD z20v.toNat dz35).2.2.2.2.2.2.2.1) ((x0_0.getD z20v.toNat dz35).2.2.2.2.2.2.2.2.1) ((x0_0.getD z20v.toNat dz35).2.2.2.2.2.2.2.2.2)).bind fun s49v => (if ((!s49v) && (!(decide (s45v.2.2.1 = (x0_0.getD z20v.toNat dz35).2.2.2.2.2.2.2.2.1) && (decide (s45v.2.2.2 = ((x0_0.getD z20v.toNat dz35).2.2.2.2.2.2.2.2.2)))))) = true then (lin_search_from.l0 x0_0 x1_0 x1_1 x1_2 rcall k (IntKind.i64.wrap (z20v + 1)) z21v z22v) else (if (z22v.length + ([z20v] : List Int).length) * 8 ≤ 140737488355328 then (if 0 ≤ z20v then ((rcall x0_0 z21v (z22v ++ ([z20v] : List Int)) (bitsV .or .i64 x1_0 (IntKind.i64.wrap (1 * 2 ^ (min z20v.toNat IntKind.i64.bits)))) s45v.1 s45v.2.1).bind fun s63v => (if s63v.1 = true then (some (.inr (true, s63v.2.1, s63v.2.2))) else (if 0 ≤ (0 : Int) ∧ (0 : Int) ≤ IntKind.i64.wrap ((s63v.2.2.length : Int) - 1) ∧ IntKind.i64.wrap ((s63v.2.2.length : Int) - 1) ≤ (s63v.2.2.length : Int) then (lin_search_from.l0 x0_0 x1_0 x1_1 x1_2 rcall k (IntKind.i64.wrap (z20v + 1)) s63v.2.1 (cut s63v.2.2 (0 : Int) (IntKind.i64.wrap ((s63v.2.2.length : Int) - 1)))) else none))) else none) else none)))))) else none) else (some (.inl (z21v, z22v)))
def lin_search_from.fr (rcall : List (Ty35) → List ((Int × Bool × List UInt8) × (Int)) → List Int → Int → Bool → List UInt8 → Option (Bool × (List ((Int × Bool × List UInt8) × (Int))) × List Int)) (k : Nat) (x0_0 : List (Ty35)) (x0_1 : List ((Int × Bool × List UInt8) × (Int))) (x0_2 : List Int) (x1_0 : Int) (x1_1 : Bool) (x1_2 : List UInt8) : Option (Bool × (List ((Int × Bool × List UInt8) × (Int))) × List Int) := (lin_search_whole.f k x0_0 x0_1 x0_2 x1_0).bind fun s8v => (if s8v = true then (some (true, x0_1, x0_2)) else (if (0 : Int) < ((mget x0_1 (x1_0, x1_1, x1_2)).getD (0 : Int)) then (some (false, x0_1, x0_2)) else (orR (lin_search_from.l0 x0_0 x1_0 x1_1 x1_2 rcall k 0 x0_1 x0_2) fun s16v => (some (false, mput s16v.1 (x1_0, x1_1, x1_2) (IntKind.i64.wrap (((mget s16v.1 (x1_0, x1_1, x1_2)).getD (0 : Int)) + 1)), s16v.2)))))
def lin_search_from.f : Nat → List (Ty35) → List ((Int × Bool × List UInt8) × (Int)) → List Int → Int → Bool → List UInt8 → Option (Bool × (List ((Int × Bool × List UInt8) × (Int))) × List Int)
  | 0, _, _, _, _, _, _ => none
  | k + 1, x0_0, x0_1, x0_2, x1_0, x1_1, x1_2 => lin_search_from.fr (lin_search_from.f k) k x0_0 x0_1 x0_2 x1_0 x1_1 x1_2
theorem lin_search_from.rec (W : World) (rcall : List (Ty35) → List ((Int × Bool × List UInt8) × (Int)) → List Int → Int → Bool → List UInt8 → Option (Bool × (List ((Int × Bool × List UInt8) × (Int))) × List Int)) (hrec : ∀ (W : World) (F : HA) (b0 : Nat) (a0_0 : Option Addr) (c0_0 : Nat) (x0_0 : List (Ty35)) (m0_1 : Nat) (x0_1 : List ((Int × Bool × List UInt8) × (Int))) (a0_2 : Option Addr) (c0_2 : Nat) (x0_2 : List Int) (x1_0 : Int) (x1_1 : Bool) (x1_2 : List UInt8) (h0_0 : RdV F 10 (V35 tt) a0_0 x0_0) (hc0_0 : x0_0.length ≤ c0_0) (hm0_0 : c0_0 ≤ maxLen), Fn Try.prog W 36 [.pointer (some ⟨b0, 0, none⟩), .agg #[.int .i64 x1_0, .bool x1_1, str x1_2]] [obj b0 68 [.slice a0_0 x0_0.length c0_0, .map (some m0_1), .slice a0_2 x0_2.length c0_2], mapO m0_1 enc71 enc3 x0_1, RowV 3 1 (V3 tt) a0_2 x0_2 c0_2] F (rcall x0_0 x0_1 x0_2 x1_0 x1_1 x1_2) (fun (r : Bool × (List ((Int × Bool × List UInt8) × (Int))) × List Int) (y : Nat × Option Addr × Nat) => .bool r.1) (fun r y => [obj b0 68 [.slice a0_0 x0_0.length c0_0, .map (some y.1), .slice y.2.1 r.2.2.length y.2.2], mapO y.1 enc71 enc3 r.2.1, RowV 3 1 (V3 tt) y.2.1 r.2.2 y.2.2])) (F : HA) (k : Nat) (b0 : Nat) (a0_0 : Option Addr) (c0_0 : Nat) (x0_0 : List (Ty35)) (m0_1 : Nat) (x0_1 : List ((Int × Bool × List UInt8) × (Int))) (a0_2 : Option Addr) (c0_2 : Nat) (x0_2 : List Int) (x1_0 : Int) (x1_1 : Bool) (x1_2 : List UInt8) (h0_0 : RdV F 10 (V35 tt) a0_0 x0_0) (hc0_0 : x0_0.length ≤ c0_0) (hm0_0 : c0_0 ≤ maxLen) :
    Fn Try.prog W 36 [.pointer (some ⟨b0, 0, none⟩), .agg #[.int .i64 x1_0, .bool x1_1, str x1_2]] [obj b0 68 [.slice a0_0 x0_0.length c0_0, .map (some m0_1), .slice a0_2 x0_2.length c0_2], mapO m0_1 enc71 enc3 x0_1, RowV 3 1 (V3 tt) a0_2 x0_2 c0_2] F (lin_search_from.fr rcall k x0_0 x0_1 x0_2 x1_0 x1_1 x1_2) (fun (r : Bool × (List ((Int × Bool × List UInt8) × (Int))) × List Int) (y : Nat × Option Addr × Nat) => .bool r.1) (fun r y => [obj b0 68 [.slice a0_0 x0_0.length c0_0, .map (some y.1), .slice y.2.1 r.2.2.length y.2.2], mapO y.1 enc71 enc3 r.2.1, RowV 3 1 (V3 tt) y.2.1 r.2.2 y.2.2]) := by
 unfold lin_search_from.fr
 refine fn_intro 100 Try.func36 rfl Try.ntmps36 rfl ?_
 refine sim_seq (sim_region ?_)
 refine simL_eff (re_box rfl rfl rfl) rfl rfl rfl ?_
 intro b1v
 refine simL_val (q_asg rfl rfl) rfl rfl rfl (simL_nil (nrm_then (sim_seq (sim_seq (sim_region ?_)))))
 refine simL_val (q_move rfl rfl) rfl rfl rfl ?_
 refine simL_val (q_fa rfl rfl Try.underlying71 rfl rfl Try.sizeOf3 rfl) rfl rfl rfl ?_
 refine simL_val (q_load rfl rfl Try.isAgg3 (.obj 0 rfl rfl)) rfl rfl rfl ?_
 refine simL_openV 3 rfl (fun rs2v hl3v => ?_)
 refine simL_bind (fun s8v hs10v => ?_)
 refine simL_lend 3 rfl (fun hq4v hq5v hq6v hq7v => ?_)
 refine simL_eff (re_call (vs := [.pointer (some ⟨b0, 0, none⟩), .int .i64 x1_0]) (cap := []) (A := [obj b0 68 [.slice a0_0 x0_0.length c0_0, .map (some m0_1), .slice a0_2 x0_2.length c0_2], mapO m0_1 enc71 enc3 x0_1]) (rst := [obj b1v 71 [.int .i64 x1_0, .bool x1_1, str x1_2], Row 3 1 a0_2 x0_2.length c0_2 rs2v.flatten, F]) rfl rfl rfl rfl rfl rfl Try.call42 (.sel 1 rfl (.sel 1 rfl (.sel 0 rfl (.sel 0 rfl (.sel 0 rfl (.nil _)))))) (lin_search_whole.calls _ _ k b0 a0_0 c0_0 x0_0 m0_1 x0_1 a0_2 c0_2 x0_2 x1_0 (h0_0.up (Up.lend 2 rfl) (fun _ _ h => h)) hc0_0 hm0_0 ((Rd.asV hl3v hq4v).up (Up.lend 1 rfl) (fun _ _ h => h)) hq5v hq6v) hs10v) rfl rfl rfl ?_
 intro y9v
 refine simL_nil (nrm_then ?_)
 refine sim_condb rfl (fun h11v => ?_) (fun h12v => ?_)
 refine sim_seq (sim_region ?_)
 refine simL_val (q_asg rfl rfl) rfl rfl rfl (simL_nil (nrm_then (sim_rtn ?_)))
 refine rtn_then ?_
 exact rtn_fn (m0_1, a0_2, c0_2) rfl rfl rfl (.sel 0 rfl (.sel 0 rfl (.sel' 1 rfl (RowV.mk hl3v) (.sel 1 rfl (.nil _)))))
 refine sim_skip ?_
 refine nrm_then (sim_seq (sim_seq ?_))
 refine sim_draw (Γ := Unit) () [[], [0], [0, 1], [0, 1, 2], [], [0, 1, 2, 3, 4], [0, 1, 2, 3, 4, 5]] [] [0, 1, 2, 3, 4, 5, 6] (fun i => [[0], [0], [0], [0], [0], [0], [0]].getD i []) (fun i => [[], [], [], [], [], [], []].getD i []) (fun γ i => [.pointer (some ⟨b0, 0, none⟩), .pointer (some ⟨b0, 0, none⟩), .pointer (some ⟨b0, 1, none⟩), .map (some m0_1), .agg #[.int .i64 x1_0, .bool x1_1, str x1_2], .int .i64 ((mget x0_1 (x1_0, x1_1, x1_2)).getD (0 : Int)), .bool (decide ((0 : Int) < ((mget x0_1 (x1_0, x1_1, x1_2)).getD (0 : Int))))].getD i undef) (fun j γ => [[obj b0 68 [.slice a0_0 x0_0.length c0_0, .map (some m0_1), .slice a0_2 x0_2.length c0_2], mapO m0_1 enc71 enc3 x0_1, obj b1v 71 [.int .i64 x1_0, .bool x1_1, str x1_2], Row 3 1 a0_2 x0_2.length c0_2 rs2v.flatten, F]].getD j []) (fun γ => [(0, .pointer (some ⟨b0, 0, none⟩)), (3, .pointer (some ⟨b1v, 0, none⟩)), (20, .bool (decide ((0 : Int) < ((mget x0_1 (x1_0, x1_1, x1_2)).getD (0 : Int)))))]) mixed (by decide) (by decide) (by decide) (by decide) (by decide) (by decide) (by decide) 100 rfl (by decide) (by decide) (by decide) (Ent.refl _) ?_ ?_ (fun _ => ⟨rfl, rfl, rfl, trivial⟩) ?_
 exact (All.cons (fun γ => (All.cons (QOb.plain [(0, .pointer (some ⟨b0, 0, none⟩))] rfl rfl (.o rfl (by decide) .nil) (q_move rfl rfl) rfl) All.nil)) (All.cons (fun γ => (All.cons (QOb.plain [(14, .pointer (some ⟨b0, 0, none⟩))] rfl rfl (.w 0 rfl rfl rfl .nil) (q_nil rfl rfl) rfl) All.nil)) (All.cons (fun γ => (All.cons (QOb.plain [(15, .pointer (some ⟨b0, 0, none⟩))] rfl rfl (.w 1 rfl rfl rfl .nil) (q_fa rfl rfl Try.underlying68 rfl rfl Try.sizeOf66 rfl) rfl) All.nil)) (All.cons (fun γ => (All.cons (QOb.plain [(16, .pointer (some ⟨b0, 1, none⟩))] rfl rfl (.w 2 rfl rfl rfl .nil) (q_load rfl rfl Try.isAgg66 (.obj 0 rfl rfl)) rfl) All.nil)) (All.cons (fun γ => (All.cons (QOb.plain [(3, .pointer (some ⟨b1v, 0, none⟩))] rfl rfl (.o rfl (by decide) .nil) (q_loado 2 rfl rfl Try.isAgg71 Try.sizeOf71 rfl rfl) rfl) All.nil)) (All.cons (fun γ => (All.cons (QOb.plain [(17, .map (some m0_1)), (18, .agg #[.int .i64 x1_0, .bool x1_1, str x1_2])] rfl rfl (.w 3 rfl rfl rfl (.w 4 rfl rfl rfl .nil)) ((q_mlook (ek := enc71) (ev := enc3) (z := (0 : Int)) 1 (x1_0, x1_1, x1_2) rfl rfl rfl Try.underlying66 key71 Try.zeroValue3 rfl : RQ _ _ _ _ (.int .i64 ((mget x0_1 (x1_0, x1_1, x1_2)).getD (0 : Int))))) rfl) All.nil)) (All.cons (fun γ => (All.cons (QOb.plain [(19, .int .i64 ((mget x0_1 (x1_0, x1_1, x1_2)).getD (0 : Int)))] rfl rfl (.w 5 rfl rfl rfl .nil) (q_gtr rfl rfl rfl) rfl) All.nil)) All.nil)))))))
 exact All.nil
 intro g13v
 refine nrm_then ?_
 refine sim_cond rfl (fun h14v => ?_) (fun h15v => ?_)
 refine sim_seq (sim_region ?_)
 refine simL_val (q_asg rfl rfl) rfl rfl rfl (simL_nil (nrm_then (sim_rtn ?_)))
 refine rtn_then ?_
 exact rtn_fn (m0_1, a0_2, c0_2) rfl rfl rfl (.sel 0 rfl (.sel 0 rfl (.sel' 1 rfl (RowV.mk hl3v) (.sel 1 rfl (.nil _)))))
 refine sim_skip ?_
 refine nrm_then ?_
 refine sim_cutR (S := (List ((Int × Bool × List UInt8) × (Int))) × List Int) (Nat × Option Addr × Nat) (fun s y => [(0, .pointer (some ⟨b0, 0, none⟩)), (3, .pointer (some ⟨b1v, 0, none⟩))]) (fun s y => [obj b0 68 [.slice a0_0 x0_0.length c0_0, .map (some y.1), .slice y.2.1 s.2.length y.2.2], obj b1v 71 [.int .i64 x1_0, .bool x1_1, str x1_2], mapO y.1 enc71 enc3 s.1, RowV 3 1 (V3 tt) y.2.1 s.2 y.2.2, F]) ?_ ?_
 refine sim_seq (sim_region ?_)
 refine simL_val (q_move rfl rfl) rfl rfl rfl ?_
 refine simL_val (q_nil rfl rfl) rfl rfl rfl ?_
 refine simL_val (q_fa rfl rfl Try.underlying68 rfl rfl Try.sizeOf22 rfl) rfl rfl rfl ?_
 refine simL_val (q_load rfl rfl Try.isAgg22 (.obj 0 rfl rfl)) rfl rfl rfl ?_
 refine simL_val (q_len rfl rfl rfl Try.underlying22) rfl rfl rfl ?_
 refine simL_val (q_move rfl rfl) rfl rfl rfl (simL_nil (nrm_then ?_))
 refine sim_block ?_
 refine sim_loop (S := Int × (List ((Int × Bool × List UInt8) × (Int))) × List Int) (Nat × Option Addr × Nat) (fun k s => lin_search_from.l0 x0_0 x1_0 x1_1 x1_2 rcall k s.1 s.2.1 s.2.2) (fun s y => [(0, .pointer (some ⟨b0, 0, none⟩)), (3, .pointer (some ⟨b1v, 0, none⟩)), (24, .slice a0_0 x0_0.length c0_0), (25, .int .i64 (x0_0.length : Int)), (26, .int .i64 s.1)]) (fun s y => [obj b0 68 [.slice a0_0 x0_0.length c0_0, .map (some y.1), .slice y.2.1 s.2.2.length y.2.2], obj b1v 71 [.int .i64 x1_0, .bool x1_1, str x1_2], mapO y.1 enc71 enc3 s.2.1, RowV 3 1 (V3 tt) y.2.1 s.2.2 y.2.2, F]) (fun _ => by rw [lin_search_from.l0]) ?_ k (0, x0_1, x0_2) (m0_1, a0_2, c0_2) ⟨rfl, rfl, rfl, rfl, rfl, trivial⟩ (.sel 0 rfl (.sel 1 rfl (.sel 0 rfl (.sel' 0 rfl (RowV.mk hl3v) (.sel 0 rfl (.nil _))))))
 intro k s18v y19v
 refine sim_eq (by rw [lin_search_from.l0]) ?_
 refine sim_seq (sim_region ?_)
 refine simL_val (q_lss rfl rfl rfl) rfl rfl rfl (simL_nil (nrm_then (sim_seq ?_)))
 refine sim_cond rfl (fun h23v => ?_) (fun h24v => ?_)
 refine sim_skip ?_
 refine nrm_then (sim_seq ?_)
 refine sim_block ?_
 refine sim_seq (sim_region ?_)
 refine simL_val (q_move rfl rfl) rfl rfl rfl ?_
 refine simL_ask (fun hi25v => ?_)
 obtain ⟨b26v, b26vo, r29v, ha27v, hV30v, hlr31v, hcell32v⟩ := RdV.pos h0_0 (Up.refl _) rfl (i := s18v.1.toNat) (by omega) dz35
 obtain rfl := hV30v
 refine simL_val (q_idx rfl rfl rfl ha27v Try.underlying22 Try.sizeOf35 hi25v.1 hi25v.2) rfl rfl rfl ?_
 refine simL_val (q_loads rfl rfl Try.isAgg35 Try.sizeOf35 rfl (fun j v hj => hcell32v 4 rfl j v hj)) rfl rfl rfl ?_
 refine simL_eff (re_alloc rfl Try.zeroValue35 rfl) rfl rfl rfl ?_
 intro b33v
 refine simL_val (q_asg rfl rfl) rfl rfl rfl ?_
 refine simL_do (re_store 0 rfl rfl rfl Try.sizeOf35 rfl rfl (one_of (by rfl)) rfl rfl) rfl rfl ?_
 intro _
 refine simL_ent (H' := [obj b33v 35 [.int .i64 ((x0_0.getD s18v.1.toNat dz35).1), .int .i64 ((x0_0.getD s18v.1.toNat dz35).2.1), .int .i64 ((x0_0.getD s18v.1.toNat dz35).2.2.1), str ((x0_0.getD s18v.1.toNat dz35).2.2.2.1), str ((x0_0.getD s18v.1.toNat dz35).2.2.2.2.1), str ((x0_0.getD s18v.1.toNat dz35).2.2.2.2.2.1), .int .i64 ((x0_0.getD s18v.1.toNat dz35).2.2.2.2.2.2.1), .int .i64 ((x0_0.getD s18v.1.toNat dz35).2.2.2.2.2.2.2.1), .int .i64 ((x0_0.getD s18v.1.toNat dz35).2.2.2.2.2.2.2.2.1), str ((x0_0.getD s18v.1.toNat dz35).2.2.2.2.2.2.2.2.2)], obj b0 68 [.slice a0_0 x0_0.length c0_0, .map (some y19v.1), .slice y19v.2.1 s18v.2.2.length y19v.2.2], obj b1v 71 [.int .i64 x1_0, .bool x1_1, str x1_2], mapO y19v.1 enc71 enc3 s18v.2.1, RowV 3 1 (V3 tt) y19v.2.1 s18v.2.2 y19v.2.2, F]) (Ent.refl _) ?_
 refine simL_nil (nrm_then (sim_seq (sim_seq (sim_region ?_))))
 refine simL_val (q_move rfl rfl) rfl rfl rfl ?_
 refine simL_val (q_fa rfl rfl Try.underlying71 rfl rfl Try.sizeOf3 rfl) rfl rfl rfl ?_
 refine simL_val (q_load rfl rfl Try.isAgg3 (.obj 2 rfl rfl)) rfl rfl rfl ?_
 refine simL_val (q_move rfl rfl) rfl rfl rfl ?_
 refine simL_openV 4 rfl (fun rs34v hl35v => ?_)
 refine simL_bind (fun s40v hs42v => ?_)
 refine simL_lend 4 rfl (fun hq36v hq37v hq38v hq39v => ?_)
 refine simL_eff (re_call (vs := [.pointer (some ⟨b0, 0, none⟩), .int .i64 x1_0, .int .i64 s18v.1]) (cap := []) (A := [obj b0 68 [.slice a0_0 x0_0.length c0_0, .map (some y19v.1), .slice y19v.2.1 s18v.2.2.length y19v.2.2], mapO y19v.1 enc71 enc3 s18v.2.1]) (rst := [obj b33v 35 [.int .i64 ((x0_0.getD s18v.1.toNat dz35).1), .int .i64 ((x0_0.getD s18v.1.toNat dz35).2.1), .int .i64 ((x0_0.getD s18v.1.toNat dz35).2.2.1), str ((x0_0.getD s18v.1.toNat dz35).2.2.2.1), str ((x0_0.getD s18v.1.toNat dz35).2.2.2.2.1), str ((x0_0.getD s18v.1.toNat dz35).2.2.2.2.2.1), .int .i64 ((x0_0.getD s18v.1.toNat dz35).2.2.2.2.2.2.1), .int .i64 ((x0_0.getD s18v.1.toNat dz35).2.2.2.2.2.2.2.1), .int .i64 ((x0_0.getD s18v.1.toNat dz35).2.2.2.2.2.2.2.2.1), str ((x0_0.getD s18v.1.toNat dz35).2.2.2.2.2.2.2.2.2)], obj b1v 71 [.int .i64 x1_0, .bool x1_1, str x1_2], Row 3 1 y19v.2.1 s18v.2.2.length y19v.2.2 rs34v.flatten, F]) rfl rfl rfl rfl rfl rfl Try.call43 (.sel 1 rfl (.sel 2 rfl (.sel 0 rfl (.sel 0 rfl (.sel 0 rfl (.sel 0 rfl (.nil _))))))) (lin_search_may.calls _ _ k b0 a0_0 c0_0 x0_0 y19v.1 s18v.2.1 y19v.2.1 y19v.2.2 s18v.2.2 x1_0 s18v.1 (h0_0.up (Up.lend 3 rfl) (fun _ _ h => h)) hc0_0 hm0_0 ((Rd.asV hl35v hq36v).up (Up.lend 2 rfl) (fun _ _ h => h)) hq37v hq38v) hs42v) rfl rfl rfl ?_
 intro y41v
 refine simL_val (q_not rfl rfl) rfl rfl rfl (simL_nil (nrm_then ?_))
 refine sim_condb rfl (fun h43v => ?_) (fun h44v => ?_)
 refine sim_exi ?_
 refine exi_then ?_
 refine exi_here ?_
 refine nrm_then (sim_region ?_)
 refine simL_val (q_add rfl rfl rfl) rfl rfl rfl ?_
 refine simL_val (q_move rfl rfl) rfl rfl rfl (simL_nil ?_)
 exact nrm_again (s := (IntKind.i64.wrap (s18v.1 + 1), s18v.2.1, s18v.2.2)) (y19v.1, y19v.2.1, y19v.2.2) ⟨rfl, rfl, rfl, rfl, rfl, trivial⟩ (.sel 0 rfl (.sel 2 rfl (.sel 0 rfl (.sel' 1 rfl (RowV.mk hl35v) (.sel 1 rfl (.nil _))))))
 refine sim_skip ?_
 refine nrm_then (sim_seq (sim_region ?_))
 refine simL_val (q_fa rfl rfl Try.underlying71 rfl rfl Try.sizeOf4 rfl) rfl rfl rfl ?_
 refine simL_val (q_load rfl rfl Try.isAgg4 (.obj 3 rfl rfl)) rfl rfl rfl ?_
 refine simL_val (q_fa rfl rfl Try.underlying71 rfl rfl Try.sizeOf9 rfl) rfl rfl rfl ?_
 refine simL_val (q_load rfl rfl Try.isAgg9 (.obj 3 rfl rfl)) rfl rfl rfl ?_
 refine simL_val (q_loado 2 rfl rfl Try.isAgg35 Try.sizeOf35 rfl rfl) rfl rfl rfl ?_
 refine simL_bind (fun s45v hs47v => ?_)
 refine simL_eff (re_call (vs := [.bool x1_1, str x1_2, .agg #[.int .i64 ((x0_0.getD s18v.1.toNat dz35).1), .int .i64 ((x0_0.getD s18v.1.toNat dz35).2.1), .int .i64 ((x0_0.getD s18v.1.toNat dz35).2.2.1), str ((x0_0.getD s18v.1.toNat dz35).2.2.2.1), str ((x0_0.getD s18v.1.toNat dz35).2.2.2.2.1), str ((x0_0.getD s18v.1.toNat dz35).2.2.2.2.2.1), .int .i64 ((x0_0.getD s18v.1.toNat dz35).2.2.2.2.2.2.1), .int .i64 ((x0_0.getD s18v.1.toNat dz35).2.2.2.2.2.2.2.1), .int .i64 ((x0_0.getD s18v.1.toNat dz35).2.2.2.2.2.2.2.2.1), str ((x0_0.getD s18v.1.toNat dz35).2.2.2.2.2.2.2.2.2)]]) (cap := []) (A := []) (rst := [obj b0 68 [.slice a0_0 x0_0.length c0_0, .map (some y19v.1), .slice y19v.2.1 s18v.2.2.length y19v.2.2], mapO y19v.1 enc71 enc3 s18v.2.1, obj b33v 35 [.int .i64 ((x0_0.getD s18v.1.toNat dz35).1), .int .i64 ((x0_0.getD s18v.1.toNat dz35).2.1), .int .i64 ((x0_0.getD s18v.1.toNat dz35).2.2.1), str ((x0_0.getD s18v.1.toNat dz35).2.2.2.1), str ((x0_0.getD s18v.1.toNat dz35).2.2.2.2.1), str ((x0_0.getD s18v.1.toNat dz35).2.2.2.2.2.1), .int .i64 ((x0_0.getD s18v.1.toNat dz35).2.2.2.2.2.2.1), .int .i64 ((x0_0.getD s18v.1.toNat dz35).2.2.2.2.2.2.2.1), .int .i64 ((x0_0.getD s18v.1.toNat dz35).2.2.2.2.2.2.2.2.1), str ((x0_0.getD s18v.1.toNat dz35).2.2.2.2.2.2.2.2.2)], obj b1v 71 [.int .i64 x1_0, .bool x1_1, str x1_2], Row 3 1 y19v.2.1 s18v.2.2.length y19v.2.2 rs34v.flatten, F]) rfl rfl rfl rfl rfl rfl Try.call26 (.sel 0 rfl (.sel 0 rfl (.sel 0 rfl (.sel 0 rfl (.sel 0 rfl (.sel 0 rfl (.nil _))))))) (lin_Step.calls _ _ x1_1 x1_2 ((x0_0.getD s18v.1.toNat dz35).1) ((x0_0.getD s18v.1.toNat dz35).2.1) ((x0_0.getD s18v.1.toNat dz35).2.2.1) ((x0_0.getD s18v.1.toNat dz35).2.2.2.1) ((x0_0.getD s18v.1.toNat dz35).2.2.2.2.1) ((x0_0.getD s18v.1.toNat dz35).2.2.2.2.2.1) ((x0_0.getD s18v.1.toNat dz35).2.2.2.2.2.2.1) ((x0_0.getD s18v.1.toNat dz35).2.2.2.2.2.2.2.1) ((x0_0.getD s18v.1.toNat dz35).2.2.2.2.2.2.2.2.1) ((x0_0.getD s18v.1.toNat dz35).2.2.2.2.2.2.2.2.2) ) hs47v) rfl rfl rfl ?_
 intro y46v
 refine simL_val (q_move rfl rfl) rfl rfl rfl ?_
 refine simL_val (q_ext rfl rfl rfl) rfl rfl rfl ?_
 refine simL_val (q_ext rfl rfl rfl) rfl rfl rfl ?_
 refine simL_val (q_ext rfl rfl rfl) rfl rfl rfl ?_
 refine simL_eff (re_alloc rfl Try.zeroValue33 rfl) rfl rfl rfl ?_
 intro b48v
 refine simL_val (q_asg rfl rfl) rfl rfl rfl ?_
 refine simL_val (q_asg rfl rfl) rfl rfl rfl ?_
 refine simL_do (re_store 0 rfl rfl rfl Try.sizeOf33 rfl rfl (one_of (by rfl)) rfl rfl) rfl rfl ?_
 intro _
 refine simL_nil (nrm_then (sim_seq (sim_seq (sim_region ?_))))
 refine simL_val (q_loado 3 rfl rfl Try.isAgg35 Try.sizeOf35 rfl rfl) rfl rfl rfl ?_
 refine simL_bind (fun s49v hs51v => ?_)
 refine simL_eff (re_call (vs := [.agg #[.int .i64 ((x0_0.getD s18v.1.toNat dz35).1), .int .i64 ((x0_0.getD s18v.1.toNat dz35).2.1), .int .i64 ((x0_0.getD s18v.1.toNat dz35).2.2.1), str ((x0_0.getD s18v.1.toNat dz35).2.2.2.1), str ((x0_0.getD s18v.1.toNat dz35).2.2.2.2.1), str ((x0_0.getD s18v.1.toNat dz35).2.2.2.2.2.1), .int .i64 ((x0_0.getD s18v.1.toNat dz35).2.2.2.2.2.2.1), .int .i64 ((x0_0.getD s18v.1.toNat dz35).2.2.2.2.2.2.2.1), .int .i64 ((x0_0.getD s18v.1.toNat dz35).2.2.2.2.2.2.2.2.1), str ((x0_0.getD s18v.1.toNat dz35).2.2.2.2.2.2.2.2.2)]]) (cap := []) (A := []) (rst := [obj b48v 33 [.int .i64 s45v.2.2.1, str s45v.2.2.2], obj b0 68 [.slice a0_0 x0_0.length c0_0, .map (some y19v.1), .slice y19v.2.1 s18v.2.2.length y19v.2.2], mapO y19v.1 enc71 enc3 s18v.2.1, obj b33v 35 [.int .i64 ((x0_0.getD s18v.1.toNat dz35).1), .int .i64 ((x0_0.getD s18v.1.toNat dz35).2.1), .int .i64 ((x0_0.getD s18v.1.toNat dz35).2.2.1), str ((x0_0.getD s18v.1.toNat dz35).2.2.2.1), str ((x0_0.getD s18v.1.toNat dz35).2.2.2.2.1), str ((x0_0.getD s18v.1.toNat dz35).2.2.2.2.2.1), .int .i64 ((x0_0.getD s18v.1.toNat dz35).2.2.2.2.2.2.1), .int .i64 ((x0_0.getD s18v.1.toNat dz35).2.2.2.2.2.2.2.1), .int .i64 ((x0_0.getD s18v.1.toNat dz35).2.2.2.2.2.2.2.2.1), str ((x0_0.getD s18v.1.toNat dz35).2.2.2.2.2.2.2.2.2)], obj b1v 71 [.int .i64 x1_0, .bool x1_1, str x1_2], Row 3 1 y19v.2.1 s18v.2.2.length y19v.2.2 rs34v.flatten, F]) rfl rfl rfl rfl rfl rfl Try.call30 (.sel 0 rfl (.sel 0 rfl (.sel 0 rfl (.sel 0 rfl (.sel 0 rfl (.sel 0 rfl (.sel 0 rfl (.nil _)))))))) (lin_open.calls _ _ ((x0_0.getD s18v.1.toNat dz35).1) ((x0_0.getD s18v.1.toNat dz35).2.1) ((x0_0.getD s18v.1.toNat dz35).2.2.1) ((x0_0.getD s18v.1.toNat dz35).2.2.2.1) ((x0_0.getD s18v.1.toNat dz35).2.2.2.2.1) ((x0_0.getD s18v.1.toNat dz35).2.2.2.2.2.1) ((x0_0.getD s18v.1.toNat dz35).2.2.2.2.2.2.1) ((x0_0.getD s18v.1.toNat dz35).2.2.2.2.2.2.2.1) ((x0_0.getD s18v.1.toNat dz35).2.2.2.2.2.2.2.2.1) ((x0_0.getD s18v.1.toNat dz35).2.2.2.2.2.2.2.2.2) ) hs51v) rfl rfl rfl ?_
 intro y50v
 refine simL_val (q_not rfl rfl) rfl rfl rfl ?_
 refine simL_val (q_move rfl rfl) rfl rfl rfl ?_
 refine simL_valc (b := !s49v) (fun hb86v => RQ.sub (E' := [(9, .pointer (some ⟨b48v, 0, none⟩))]) ⟨rfl, trivial⟩ (q_loado 0 rfl rfl Try.isAgg33 Try.sizeOf33 rfl rfl)) rfl rfl rfl rfl rfl ?_
 refine simL_valc (b := !s49v) (fun hb85v => RQ.sub (E' := [(6, .pointer (some ⟨b33v, 0, none⟩))]) ⟨rfl, trivial⟩ (q_fa rfl rfl Try.underlying35 rfl rfl Try.sizeOf33 rfl)) rfl rfl rfl rfl rfl ?_
 refine simL_valc (b := !s49v) (fun hb84v => RQ.sub (E' := [(52, .pointer (some ⟨b33v, 8, none⟩))]) ⟨lk_cv rfl hb84v, trivial⟩ (q_loads (vs := [.int .i64 ((x0_0.getD s18v.1.toNat dz35).2.2.2.2.2.2.2.2.1), str ((x0_0.getD s18v.1.toNat dz35).2.2.2.2.2.2.2.2.2)]) rfl rfl Try.isAgg33 Try.sizeOf33 rfl (cells_obj 3 rfl (cells_lit rfl)))) rfl rfl rfl rfl rfl ?_
 refine simL_valc (b := !s49v) (fun hb83v => RQ.sub (E' := [(51, .agg #[.int .i64 s45v.2.2.1, str s45v.2.2.2]), (53, .agg #[.int .i64 ((x0_0.getD s18v.1.toNat dz35).2.2.2.2.2.2.2.2.1), str ((x0_0.getD s18v.1.toNat dz35).2.2.2.2.2.2.2.2.2)])]) ⟨lk_cv rfl hb83v, lk_cv rfl hb83v, trivial⟩ (q_neagg rfl rfl rfl (by kernel_rfl) (fun d w => eqi_struct Try.underlying33 (by kernel_rfl) (eqf_cons (by rfl) (part_of Try.isAgg3 rfl) (part_of Try.isAgg3 rfl) (eqi_int Try.underlying3) (eqf_last (by rfl) (part_of Try.isAgg9 rfl) (part_of Try.isAgg9 rfl) (eqi_str Try.underlying9)))))) rfl rfl rfl rfl rfl ?_
 refine simL_val (q_and rfl rfl rfl) rfl rfl rfl (simL_nil (nrm_then ?_))
 refine sim_condb rfl (fun h52v => ?_) (fun h53v => ?_)
 refine sim_exi ?_
 refine exi_then ?_
 refine exi_here ?_
 refine nrm_then (sim_region ?_)
 refine simL_val (q_add rfl rfl rfl) rfl rfl rfl ?_
 refine simL_val (q_move rfl rfl) rfl rfl rfl (simL_nil ?_)
 exact nrm_again (s := (IntKind.i64.wrap (s18v.1 + 1), s18v.2.1, s18v.2.2)) (y19v.1, y19v.2.1, y19v.2.2) ⟨rfl, rfl, rfl, rfl, rfl, trivial⟩ (.sel 1 rfl (.sel 3 rfl (.sel 1 rfl (.sel' 2 rfl (RowV.mk hl35v) (.sel 2 rfl (.nil _))))))
 refine sim_skip ?_
 refine nrm_then (sim_seq (sim_region ?_))
 refine simL_val (q_move rfl rfl) rfl rfl rfl ?_
 refine simL_val (q_move rfl rfl) rfl rfl rfl ?_
 refine simL_val (q_nil rfl rfl) rfl rfl rfl ?_
 refine simL_val (q_fa rfl rfl Try.underlying68 rfl rfl Try.sizeOf39 rfl) rfl rfl rfl ?_
 refine simL_val (q_load rfl rfl Try.isAgg39 (.obj 1 rfl rfl)) rfl rfl rfl ?_
 refine simL_val (q_move rfl rfl) rfl rfl rfl ?_
 have hlb55v : ListV 1 (V3 tt) ([s18v.1] : List Int) [[.int .i64 s18v.1]] := ⟨⟨rfl, one_of (by rfl), rfl⟩, trivial⟩
 refine simL_eff (re_litV (V := (V3 tt)) (xs := ([s18v.1] : List Int)) [[.int .i64 s18v.1]] rfl rfl Try.underlying39 elt3 rfl (by kernel_rfl) rfl hlb55v rfl rfl) rfl rfl rfl ?_
 intro b55v
 refine simL_ask (fun hb59v => ?_)
 refine simL_eff (re_appendV 6 rfl rfl rfl Try.underlying39 elt3 rfl hl35v (RdsV.row hlb55v 0 rfl) hb59v) rfl rfl rfl ?_
 intro y58v
 refine simL_val (q_nil rfl rfl) rfl rfl rfl ?_
 refine simL_val (q_fa rfl rfl Try.underlying68 rfl rfl Try.sizeOf39 rfl) rfl rfl rfl ?_
 refine simL_do (re_store 2 rfl rfl rfl Try.sizeOf39 rfl rfl (one_of (by rfl)) rfl rfl) rfl rfl ?_
 intro _
 refine simL_nil (nrm_then (sim_seq (sim_seq ?_)))
 refine sim_openV 6 rfl (fun rs60v hl61v => ?_)
 refine sim_ask (fun hb62v => ?_)
 refine sim_bind (fun s63v hs65v => ?_)
 refine sim_draw (Γ := (Nat × Option Addr × Nat)) (0, none, 0) [[], [], [1], [], [3], [1, 2, 3, 4], [], [], [1, 2, 3, 4, 5, 6, 7], [0, 1, 2, 3, 4, 5, 6, 7, 8]] [9] [0, 1, 2, 3, 4, 5, 6, 7, 8] (fun i => [[0], [0], [0], [0], [0], [0], [0], [0], [0], []].getD i []) (fun i => [[], [], [], [], [], [], [], [], [], [0, 1, 2, 3, 4, 5, 6, 7, 8]].getD i []) (fun γ i => [.pointer (some ⟨b0, 0, none⟩), .pointer (some ⟨b1v, 0, none⟩), .int .i64 x1_0, .int .i64 s18v.1, .int .i64 (IntKind.i64.wrap (1 * 2 ^ (min s18v.1.toNat IntKind.i64.bits))), .int .i64 (bitsV .or .i64 x1_0 (IntKind.i64.wrap (1 * 2 ^ (min s18v.1.toNat IntKind.i64.bits)))), .bool s45v.1, str s45v.2.1, .agg #[.int .i64 (bitsV .or .i64 x1_0 (IntKind.i64.wrap (1 * 2 ^ (min s18v.1.toNat IntKind.i64.bits)))), .bool s45v.1, str s45v.2.1], .bool s63v.1].getD i undef) (fun j γ => [[Row 3 1 (some ⟨b55v, 0, none⟩) ([s18v.1] : List Int).length 1 [[.int .i64 s18v.1]].flatten, obj b48v 33 [.int .i64 s45v.2.2.1, str s45v.2.2.2], obj b0 68 [.slice a0_0 x0_0.length c0_0, .map (some y19v.1), .slice y58v.1 ((s18v.2.2 ++ ([s18v.1] : List Int)).length) y58v.2], mapO y19v.1 enc71 enc3 s18v.2.1, obj b33v 35 [.int .i64 ((x0_0.getD s18v.1.toNat dz35).1), .int .i64 ((x0_0.getD s18v.1.toNat dz35).2.1), .int .i64 ((x0_0.getD s18v.1.toNat dz35).2.2.1), str ((x0_0.getD s18v.1.toNat dz35).2.2.2.1), str ((x0_0.getD s18v.1.toNat dz35).2.2.2.2.1), str ((x0_0.getD s18v.1.toNat dz35).2.2.2.2.2.1), .int .i64 ((x0_0.getD s18v.1.toNat dz35).2.2.2.2.2.2.1), .int .i64 ((x0_0.getD s18v.1.toNat dz35).2.2.2.2.2.2.2.1), .int .i64 ((x0_0.getD s18v.1.toNat dz35).2.2.2.2.2.2.2.2.1), str ((x0_0.getD s18v.1.toNat dz35).2.2.2.2.2.2.2.2.2)], obj b1v 71 [.int .i64 x1_0, .bool x1_1, str x1_2], Row 3 1 y58v.1 (s18v.2.2 ++ ([s18v.1] : List Int)).length y58v.2 rs60v.flatten, F], [obj b0 68 [.slice a0_0 x0_0.length c0_0, .map (some γ.1), .slice γ.2.1 s63v.2.2.length γ.2.2], mapO γ.1 enc71 enc3 s63v.2.1, RowV 3 1 (V3 tt) γ.2.1 s63v.2.2 γ.2.2, Row 3 1 (some ⟨b55v, 0, none⟩) ([s18v.1] : List Int).length 1 [[.int .i64 s18v.1]].flatten, obj b48v 33 [.int .i64 s45v.2.2.1, str s45v.2.2.2], obj b33v 35 [.int .i64 ((x0_0.getD s18v.1.toNat dz35).1), .int .i64 ((x0_0.getD s18v.1.toNat dz35).2.1), .int .i64 ((x0_0.getD s18v.1.toNat dz35).2.2.1), str ((x0_0.getD s18v.1.toNat dz35).2.2.2.1), str ((x0_0.getD s18v.1.toNat dz35).2.2.2.2.1), str ((x0_0.getD s18v.1.toNat dz35).2.2.2.2.2.1), .int .i64 ((x0_0.getD s18v.1.toNat dz35).2.2.2.2.2.2.1), .int .i64 ((x0_0.getD s18v.1.toNat dz35).2.2.2.2.2.2.2.1), .int .i64 ((x0_0.getD s18v.1.toNat dz35).2.2.2.2.2.2.2.2.1), str ((x0_0.getD s18v.1.toNat dz35).2.2.2.2.2.2.2.2.2)], obj b1v 71 [.int .i64 x1_0, .bool x1_1, str x1_2], F]].getD j []) (fun γ => [(0, .pointer (some ⟨b0, 0, none⟩)), (3, .pointer (some ⟨b1v, 0, none⟩)), (24, .slice a0_0 x0_0.length c0_0), (25, .int .i64 (x0_0.length : Int)), (26, .int .i64 s18v.1), (51, cv ((!s49v) == true) (.agg #[.int .i64 s45v.2.2.1, str s45v.2.2.2])), (52, cv ((!s49v) == true) (.pointer (some ⟨b33v, 8, none⟩))), (53, cv ((!s49v) == true) (.agg #[.int .i64 ((x0_0.getD s18v.1.toNat dz35).2.2.2.2.2.2.2.2.1), str ((x0_0.getD s18v.1.toNat dz35).2.2.2.2.2.2.2.2.2)])), (54, cv ((!s49v) == true) (.bool (!(decide (s45v.2.2.1 = (x0_0.getD s18v.1.toNat dz35).2.2.2.2.2.2.2.2.1) && (decide (s45v.2.2.2 = ((x0_0.getD s18v.1.toNat dz35).2.2.2.2.2.2.2.2.2))))))), (75, .bool s63v.1)]) mixed (by decide) (by decide) (by decide) (by decide) (by decide) (by decide) (by decide) 100 rfl (by decide) (by decide) (by decide) (Ent.refl _) ?_ ?_ (fun _ => ⟨rfl, rfl, rfl, rfl, rfl, rfl, rfl, rfl, rfl, rfl, trivial⟩) ?_
 exact (All.cons (fun γ => (All.cons (QOb.plain [(0, .pointer (some ⟨b0, 0, none⟩))] rfl rfl (.o rfl (by decide) .nil) (q_move rfl rfl) rfl) All.nil)) (All.cons (fun γ => (All.cons (QOb.plain [(3, .pointer (some ⟨b1v, 0, none⟩))] rfl rfl (.o rfl (by decide) .nil) (q_fa rfl rfl Try.underlying71 rfl rfl Try.sizeOf3 rfl) rfl) All.nil)) (All.cons (fun γ => (All.cons (QOb.plain [(67, .pointer (some ⟨b1v, 0, none⟩))] rfl rfl (.w 1 rfl rfl rfl .nil) (q_load rfl rfl Try.isAgg3 (.obj 5 rfl rfl)) rfl) All.nil)) (All.cons (fun γ => (All.cons (QOb.plain [(5, .int .i64 s18v.1)] rfl rfl (.o rfl (by decide) .nil) (q_move rfl rfl) rfl) All.nil)) (All.cons (fun γ => (All.cons (QOb.plain [(69, .int .i64 s18v.1)] rfl rfl (.w 3 rfl rfl rfl .nil) (q_shl rfl rfl rfl hb62v) rfl) All.nil)) (All.cons (fun γ => (All.cons (QOb.plain [(68, .int .i64 x1_0), (70, .int .i64 (IntKind.i64.wrap (1 * 2 ^ (min s18v.1.toNat IntKind.i64.bits))))] rfl rfl (.w 2 rfl rfl rfl (.w 4 rfl rfl rfl .nil)) (q_or_ rfl rfl rfl) rfl) All.nil)) (All.cons (fun γ => (All.cons (QOb.plain [(7, .bool s45v.1)] rfl rfl (.o rfl (by decide) .nil) (q_move rfl rfl) rfl) All.nil)) (All.cons (fun γ => (All.cons (QOb.plain [(8, str s45v.2.1)] rfl rfl (.o rfl (by decide) .nil) (q_move rfl rfl) rfl) All.nil)) (All.cons (fun γ => (All.cons (QOb.plain [(71, .int .i64 (bitsV .or .i64 x1_0 (IntKind.i64.wrap (1 * 2 ^ (min s18v.1.toNat IntKind.i64.bits))))), (72, .bool s45v.1), (73, str s45v.2.1)] rfl rfl (.w 5 rfl rfl rfl (.w 6 rfl rfl rfl (.w 7 rfl rfl rfl .nil))) (q_build (v := .agg #[.int .i64 (bitsV .or .i64 x1_0 (IntKind.i64.wrap (1 * 2 ^ (min s18v.1.toNat IntKind.i64.bits)))), .bool s45v.1, str s45v.2.1]) rfl rfl (fun _ => by kernel_rfl)) rfl) All.nil)) All.nil)))))))))
 exact (All.cons (fun γ => EOb.mk (Z := Nat × Option Addr × Nat) [(66, .pointer (some ⟨b0, 0, none⟩)), (74, .agg #[.int .i64 (bitsV .or .i64 x1_0 (IntKind.i64.wrap (1 * 2 ^ (min s18v.1.toNat IntKind.i64.bits)))), .bool s45v.1, str s45v.2.1])] (fun z => z) rfl rfl (.w 0 rfl rfl rfl (.w 8 rfl rfl rfl .nil)) (re_call (vs := [.pointer (some ⟨b0, 0, none⟩), .agg #[.int .i64 (bitsV .or .i64 x1_0 (IntKind.i64.wrap (1 * 2 ^ (min s18v.1.toNat IntKind.i64.bits)))), .bool s45v.1, str s45v.2.1]]) (cap := []) (A := [obj b0 68 [.slice a0_0 x0_0.length c0_0, .map (some y19v.1), .slice y58v.1 ((s18v.2.2 ++ ([s18v.1] : List Int)).length) y58v.2], mapO y19v.1 enc71 enc3 s18v.2.1, RowV 3 1 (V3 tt) y58v.1 (s18v.2.2 ++ ([s18v.1] : List Int)) y58v.2]) (rst := [Row 3 1 (some ⟨b55v, 0, none⟩) ([s18v.1] : List Int).length 1 [[.int .i64 s18v.1]].flatten, obj b48v 33 [.int .i64 s45v.2.2.1, str s45v.2.2.2], obj b33v 35 [.int .i64 ((x0_0.getD s18v.1.toNat dz35).1), .int .i64 ((x0_0.getD s18v.1.toNat dz35).2.1), .int .i64 ((x0_0.getD s18v.1.toNat dz35).2.2.1), str ((x0_0.getD s18v.1.toNat dz35).2.2.2.1), str ((x0_0.getD s18v.1.toNat dz35).2.2.2.2.1), str ((x0_0.getD s18v.1.toNat dz35).2.2.2.2.2.1), .int .i64 ((x0_0.getD s18v.1.toNat dz35).2.2.2.2.2.2.1), .int .i64 ((x0_0.getD s18v.1.toNat dz35).2.2.2.2.2.2.2.1), .int .i64 ((x0_0.getD s18v.1.toNat dz35).2.2.2.2.2.2.2.2.1), str ((x0_0.getD s18v.1.toNat dz35).2.2.2.2.2.2.2.2.2)], obj b1v 71 [.int .i64 x1_0, .bool x1_1, str x1_2], F]) rfl rfl rfl rfl rfl rfl Try.call36 (.sel 2 rfl (.sel 2 rfl (.sel' 4 rfl (RowV.mk hl61v) (.sel 0 rfl (.sel 0 rfl (.sel 0 rfl (.sel 0 rfl (.sel 0 rfl (.nil _))))))))) (hrec _ _ b0 a0_0 c0_0 x0_0 y19v.1 s18v.2.1 y58v.1 y58v.2 (s18v.2.2 ++ ([s18v.1] : List Int)) (bitsV .or .i64 x1_0 (IntKind.i64.wrap (1 * 2 ^ (min s18v.1.toNat IntKind.i64.bits)))) s45v.1 s45v.2.1 (h0_0.up (Up.lend 4 rfl) (fun _ _ h => h)) hc0_0 hm0_0) hs65v) (fun _ => ⟨rfl, rfl, rfl, rfl, rfl, rfl, rfl, rfl, rfl, trivial⟩) (fun _ => .inr rfl) (fun z => Ent.refl _)) All.nil)
 intro g66v
 refine nrm_then ?_
 refine sim_condb rfl (fun h67v => ?_) (fun h68v => ?_)
 refine sim_seq (sim_region ?_)
 refine simL_val (q_asg rfl rfl) rfl rfl rfl (simL_nil (nrm_then (sim_rtn ?_)))
 refine rtn_then ?_
 refine rtn_block ?_
 refine rtn_then ?_
 refine rtn_loop ?_
 refine rtn_block ?_
 refine rtn_cutR ?_
 exact rtn_fn (g66v.1, g66v.2.1, g66v.2.2) rfl rfl rfl (.sel 0 rfl (.sel 0 rfl (.sel 0 rfl (.sel 4 rfl (.nil _)))))
 refine sim_skip ?_
 refine nrm_then ?_
 refine sim_openV 2 rfl (fun rs69v hl70v => ?_)
 refine sim_lend 2 rfl (fun hq72v hq73v hq74v hq75v => ?_)
 refine sim_ask (fun hb71v => ?_)
 obtain ⟨a76v, c77v, hS78v, hr79v, hc80v, hm81v⟩ := slice_preV (lo := (0 : Int)) (hi := IntKind.i64.wrap ((s63v.2.2.length : Int) - 1)) (Rd.asV hl70v hq72v) hq73v hb71v
 refine sim_draw (Γ := Unit) () [[], [], [1], [1, 2], [1, 2, 3], [], [5], [5, 6], [5, 6, 7], [5, 6, 7, 8], [5, 6, 7, 8, 9], [1, 2, 3, 4, 5, 6, 7, 8, 9, 10], [0, 1, 2, 3, 4, 5, 6, 7, 8, 9, 10, 11], [0, 1, 2, 3, 4, 5, 6, 7, 8, 9, 10, 11, 12], [0, 1, 2, 3, 4, 5, 6, 7, 8, 9, 10, 11, 12, 13]] [14] [0, 1, 2, 3, 4, 5, 6, 7, 8, 9, 10, 11, 12, 13] (fun i => [[0], [0], [0], [0], [0], [0], [0], [0], [0], [0], [0], [0], [0], [0], []].getD i []) (fun i => [[], [], [], [], [], [], [], [], [], [], [], [], [], [], [0, 1, 2, 3, 4, 5, 6, 7, 8, 9, 10, 11, 12, 13]].getD i []) (fun γ i => [.pointer (some ⟨b0, 0, none⟩), .pointer (some ⟨b0, 0, none⟩), .pointer (some ⟨b0, 0, none⟩), .pointer (some ⟨b0, 2, none⟩), .slice g66v.2.1 s63v.2.2.length g66v.2.2, .pointer (some ⟨b0, 0, none⟩), .pointer (some ⟨b0, 0, none⟩), .pointer (some ⟨b0, 2, none⟩), .slice g66v.2.1 s63v.2.2.length g66v.2.2, .int .i64 (s63v.2.2.length : Int), .int .i64 (IntKind.i64.wrap ((s63v.2.2.length : Int) - 1)), .slice a76v ((cut s63v.2.2 (0 : Int) (IntKind.i64.wrap ((s63v.2.2.length : Int) - 1))).length) c77v, .pointer (some ⟨b0, 0, none⟩), .pointer (some ⟨b0, 2, none⟩), undef].getD i undef) (fun j γ => [[obj b0 68 [.slice a0_0 x0_0.length c0_0, .map (some g66v.1), .slice g66v.2.1 s63v.2.2.length g66v.2.2], mapO g66v.1 enc71 enc3 s63v.2.1, Row 3 1 g66v.2.1 s63v.2.2.length g66v.2.2 rs69v.flatten, Row 3 1 (some ⟨b55v, 0, none⟩) ([s18v.1] : List Int).length 1 [[.int .i64 s18v.1]].flatten, obj b48v 33 [.int .i64 s45v.2.2.1, str s45v.2.2.2], obj b33v 35 [.int .i64 ((x0_0.getD s18v.1.toNat dz35).1), .int .i64 ((x0_0.getD s18v.1.toNat dz35).2.1), .int .i64 ((x0_0.getD s18v.1.toNat dz35).2.2.1), str ((x0_0.getD s18v.1.toNat dz35).2.2.2.1), str ((x0_0.getD s18v.1.toNat dz35).2.2.2.2.1), str ((x0_0.getD s18v.1.toNat dz35).2.2.2.2.2.1), .int .i64 ((x0_0.getD s18v.1.toNat dz35).2.2.2.2.2.2.1), .int .i64 ((x0_0.getD s18v.1.toNat dz35).2.2.2.2.2.2.2.1), .int .i64 ((x0_0.getD s18v.1.toNat dz35).2.2.2.2.2.2.2.2.1), str ((x0_0.getD s18v.1.toNat dz35).2.2.2.2.2.2.2.2.2)], obj b1v 71 [.int .i64 x1_0, .bool x1_1, str x1_2], F], [obj b0 68 [.slice a0_0 x0_0.length c0_0, .map (some g66v.1), .slice a76v ((cut s63v.2.2 (0 : Int) (IntKind.i64.wrap ((s63v.2.2.length : Int) - 1))).length) c77v], mapO g66v.1 enc71 enc3 s63v.2.1, RowV 3 1 (V3 tt) a76v (cut s63v.2.2 (0 : Int) (IntKind.i64.wrap ((s63v.2.2.length : Int) - 1))) c77v, Row 3 1 (some ⟨b55v, 0, none⟩) ([s18v.1] : List Int).length 1 [[.int .i64 s18v.1]].flatten, obj b48v 33 [.int .i64 s45v.2.2.1, str s45v.2.2.2], obj b33v 35 [.int .i64 ((x0_0.getD s18v.1.toNat dz35).1), .int .i64 ((x0_0.getD s18v.1.toNat dz35).2.1), .int .i64 ((x0_0.getD s18v.1.toNat dz35).2.2.1), str ((x0_0.getD s18v.1.toNat dz35).2.2.2.1), str ((x0_0.getD s18v.1.toNat dz35).2.2.2.2.1), str ((x0_0.getD s18v.1.toNat dz35).2.2.2.2.2.1), .int .i64 ((x0_0.getD s18v.1.toNat dz35).2.2.2.2.2.2.1), .int .i64 ((x0_0.getD s18v.1.toNat dz35).2.2.2.2.2.2.2.1), .int .i64 ((x0_0.getD s18v.1.toNat dz35).2.2.2.2.2.2.2.2.1), str ((x0_0.getD s18v.1.toNat dz35).2.2.2.2.2.2.2.2.2)], obj b1v 71 [.int .i64 x1_0, .bool x1_1, str x1_2], F]].getD j []) (fun γ => [(0, .pointer (some ⟨b0, 0, none⟩)), (3, .pointer (some ⟨b1v, 0, none⟩)), (24, .slice a0_0 x0_0.length c0_0), (25, .int .i64 (x0_0.length : Int)), (26, .int .i64 s18v.1), (51, cv ((!s49v) == true) (.agg #[.int .i64 s45v.2.2.1, str s45v.2.2.2])), (52, cv ((!s49v) == true) (.pointer (some ⟨b33v, 8, none⟩))), (53, cv ((!s49v) == true) (.agg #[.int .i64 ((x0_0.getD s18v.1.toNat dz35).2.2.2.2.2.2.2.2.1), str ((x0_0.getD s18v.1.toNat dz35).2.2.2.2.2.2.2.2.2)])), (54, cv ((!s49v) == true) (.bool (!(decide (s45v.2.2.1 = (x0_0.getD s18v.1.toNat dz35).2.2.2.2.2.2.2.2.1) && (decide (s45v.2.2.2 = ((x0_0.getD s18v.1.toNat dz35).2.2.2.2.2.2.2.2.2)))))))]) mixed (by decide) (by decide) (by decide) (by decide) (by decide) (by decide) (by decide) 100 rfl (by decide) (by decide) (by decide) (Ent.refl _) ?_ ?_ (fun _ => ⟨rfl, rfl, rfl, rfl, rfl, rfl, rfl, rfl, rfl, trivial⟩) ?_
 exact (All.cons (fun γ => (All.cons (QOb.plain [(0, .pointer (some ⟨b0, 0, none⟩))] rfl rfl (.o rfl (by decide) .nil) (q_move rfl rfl) rfl) All.nil)) (All.cons (fun γ => (All.cons (QOb.plain [(0, .pointer (some ⟨b0, 0, none⟩))] rfl rfl (.o rfl (by decide) .nil) (q_move rfl rfl) rfl) All.nil)) (All.cons (fun γ => (All.cons (QOb.plain [(77, .pointer (some ⟨b0, 0, none⟩))] rfl rfl (.w 1 rfl rfl rfl .nil) (q_nil rfl rfl) rfl) All.nil)) (All.cons (fun γ => (All.cons (QOb.plain [(78, .pointer (some ⟨b0, 0, none⟩))] rfl rfl (.w 2 rfl rfl rfl .nil) (q_fa rfl rfl Try.underlying68 rfl rfl Try.sizeOf39 rfl) rfl) All.nil)) (All.cons (fun γ => (All.cons (QOb.plain [(79, .pointer (some ⟨b0, 2, none⟩))] rfl rfl (.w 3 rfl rfl rfl .nil) (q_load rfl rfl Try.isAgg39 (.obj 0 rfl rfl)) rfl) All.nil)) (All.cons (fun γ => (All.cons (QOb.plain [(0, .pointer (some ⟨b0, 0, none⟩))] rfl rfl (.o rfl (by decide) .nil) (q_move rfl rfl) rfl) All.nil)) (All.cons (fun γ => (All.cons (QOb.plain [(81, .pointer (some ⟨b0, 0, none⟩))] rfl rfl (.w 5 rfl rfl rfl .nil) (q_nil rfl rfl) rfl) All.nil)) (All.cons (fun γ => (All.cons (QOb.plain [(82, .pointer (some ⟨b0, 0, none⟩))] rfl rfl (.w 6 rfl rfl rfl .nil) (q_fa rfl rfl Try.underlying68 rfl rfl Try.sizeOf39 rfl) rfl) All.nil)) (All.cons (fun γ => (All.cons (QOb.plain [(83, .pointer (some ⟨b0, 2, none⟩))] rfl rfl (.w 7 rfl rfl rfl .nil) (q_load rfl rfl Try.isAgg39 (.obj 0 rfl rfl)) rfl) All.nil)) (All.cons (fun γ => (All.cons (QOb.plain [(84, .slice g66v.2.1 s63v.2.2.length g66v.2.2)] rfl rfl (.w 8 rfl rfl rfl .nil) (q_len rfl rfl rfl Try.underlying39) rfl) All.nil)) (All.cons (fun γ => (All.cons (QOb.plain [(85, .int .i64 (s63v.2.2.length : Int))] rfl rfl (.w 9 rfl rfl rfl .nil) (q_sub rfl rfl rfl) rfl) All.nil)) (All.cons (fun γ => (All.cons (QOb.plain [(80, .slice g66v.2.1 s63v.2.2.length g66v.2.2), (86, .int .i64 (IntKind.i64.wrap ((s63v.2.2.length : Int) - 1)))] rfl rfl (.w 4 rfl rfl rfl (.w 10 rfl rfl rfl .nil)) (q_sub_roV (l := s63v.2.2) (lo' := (0 : Int)) (hi' := IntKind.i64.wrap ((s63v.2.2.length : Int) - 1)) rfl rfl rfl rfl Try.underlying39 Try.sizeOf3 (.inr ⟨_, rfl⟩) (.inl ⟨rfl, rfl⟩) hb71v hq73v hS78v) rfl) All.nil)) (All.cons (fun γ => (All.cons (QOb.plain [(76, .pointer (some ⟨b0, 0, none⟩))] rfl rfl (.w 0 rfl rfl rfl .nil) (q_nil rfl rfl) rfl) All.nil)) (All.cons (fun γ => (All.cons (QOb.plain [(88, .pointer (some ⟨b0, 0, none⟩))] rfl rfl (.w 12 rfl rfl rfl .nil) (q_fa rfl rfl Try.underlying68 rfl rfl Try.sizeOf39 rfl) rfl) All.nil)) All.nil))))))))))))))
 exact (All.cons (fun γ => EOb.mk (Z := Unit) [(87, .slice a76v ((cut s63v.2.2 (0 : Int) (IntKind.i64.wrap ((s63v.2.2.length : Int) - 1))).length) c77v), (89, .pointer (some ⟨b0, 2, none⟩))] (fun z => ()) rfl rfl (.w 11 rfl rfl rfl (.w 13 rfl rfl rfl .nil)) (RE.ent (Ent.cutV 2 rfl hl70v hS78v hb71v hq73v) (re_store 0 rfl rfl rfl Try.sizeOf39 rfl rfl (one_of (by rfl)) rfl rfl)) (fun _ => ⟨rfl, rfl, rfl, rfl, rfl, rfl, rfl, rfl, rfl, rfl, rfl, rfl, rfl, rfl, trivial⟩) (fun _ => .inl rfl) (fun z => Ent.refl _)) All.nil)
 intro g82v
 refine nrm_block (nrm_then (sim_region ?_))
 refine simL_val (q_add rfl rfl rfl) rfl rfl rfl ?_
 refine simL_val (q_move rfl rfl) rfl rfl rfl (simL_nil ?_)
 exact nrm_again (s := (IntKind.i64.wrap (s18v.1 + 1), s63v.2.1, cut s63v.2.2 (0 : Int) (IntKind.i64.wrap ((s63v.2.2.length : Int) - 1)))) (g66v.1, a76v, c77v) ⟨rfl, rfl, rfl, rfl, rfl, trivial⟩ (.sel 0 rfl (.sel 5 rfl (.sel 0 rfl (.sel 0 rfl (.sel 3 rfl (.nil _))))))
 refine sim_exi ?_
 refine exi_then ?_
 refine exi_loop ?_
 refine exi_here ?_
 exact nrm_cutR (s := (s18v.2.1, s18v.2.2)) (y19v.1, y19v.2.1, y19v.2.2) ⟨rfl, rfl, trivial⟩ (.sel 0 rfl (.sel 0 rfl (.sel 0 rfl (.sel 0 rfl (.sel 0 rfl (.nil _))))))
 intro s16v y17v
 refine sim_seq ?_
 refine sim_openV 3 rfl (fun rs87v hl88v => ?_)
 refine sim_draw (Γ := Int) 0 [[], [0], [0, 1], [0, 1, 2], [], [0, 1, 2, 3, 4], [0, 1, 2, 3, 4, 5], [0, 1, 2, 3, 4], [0, 1, 2, 3, 4, 7], [0, 1, 2, 3, 4, 5, 6, 7, 8]] [7, 9] [0, 1, 2, 3, 4, 5, 6, 8] (fun i => [[0], [0], [0], [0], [0], [0, 1], [0, 1], [], [1], []].getD i []) (fun i => [[], [], [], [], [], [], [], [0, 1, 2, 3, 4, 5, 6], [], [0, 1, 2, 3, 4, 5, 6, 7, 8]].getD i []) (fun γ i => [.pointer (some ⟨b0, 0, none⟩), .pointer (some ⟨b0, 0, none⟩), .pointer (some ⟨b0, 1, none⟩), .map (some y17v.1), .agg #[.int .i64 x1_0, .bool x1_1, str x1_2], .int .i64 ((mget s16v.1 (x1_0, x1_1, x1_2)).getD (0 : Int)), .int .i64 (IntKind.i64.wrap (((mget s16v.1 (x1_0, x1_1, x1_2)).getD (0 : Int)) + 1)), .tuple #[.int .i64 ((mget s16v.1 (x1_0, x1_1, x1_2)).getD (0 : Int)), .int .i64 γ], .int .i64 γ, undef].getD i undef) (fun j γ => [[obj b0 68 [.slice a0_0 x0_0.length c0_0, .map (some y17v.1), .slice y17v.2.1 s16v.2.length y17v.2.2], obj b1v 71 [.int .i64 x1_0, .bool x1_1, str x1_2], mapO y17v.1 enc71 enc3 s16v.1, Row 3 1 y17v.2.1 s16v.2.length y17v.2.2 rs87v.flatten, F], [obj b0 68 [.slice a0_0 x0_0.length c0_0, .map (some y17v.1), .slice y17v.2.1 s16v.2.length y17v.2.2], obj b1v 71 [.int .i64 x1_0, .bool x1_1, str x1_2], mapP y17v.1 enc71 enc3 s16v.1 (x1_0, x1_1, x1_2) ((mget s16v.1 (x1_0, x1_1, x1_2)).getD (0 : Int)) γ, Row 3 1 y17v.2.1 s16v.2.length y17v.2.2 rs87v.flatten, F], [obj b0 68 [.slice a0_0 x0_0.length c0_0, .map (some y17v.1), .slice y17v.2.1 s16v.2.length y17v.2.2], obj b1v 71 [.int .i64 x1_0, .bool x1_1, str x1_2], mapO y17v.1 enc71 enc3 (mput s16v.1 (x1_0, x1_1, x1_2) (IntKind.i64.wrap (((mget s16v.1 (x1_0, x1_1, x1_2)).getD (0 : Int)) + 1))), Row 3 1 y17v.2.1 s16v.2.length y17v.2.2 rs87v.flatten, F]].getD j []) (fun γ => []) mixed (by decide) (by decide) (by decide) (by decide) (by decide) (by decide) (by decide) 100 rfl (by decide) (by decide) (by decide) (Ent.refl _) ?_ ?_ (fun _ => trivial) ?_
 exact (All.cons (fun γ => (All.cons (QOb.plain [(0, .pointer (some ⟨b0, 0, none⟩))] rfl rfl (.o rfl (by decide) .nil) (q_move rfl rfl) rfl) All.nil)) (All.cons (fun γ => (All.cons (QOb.plain [(91, .pointer (some ⟨b0, 0, none⟩))] rfl rfl (.w 0 rfl rfl rfl .nil) (q_nil rfl rfl) rfl) All.nil)) (All.cons (fun γ => (All.cons (QOb.plain [(92, .pointer (some ⟨b0, 0, none⟩))] rfl rfl (.w 1 rfl rfl rfl .nil) (q_fa rfl rfl Try.underlying68 rfl rfl Try.sizeOf66 rfl) rfl) All.nil)) (All.cons (fun γ => (All.cons (QOb.plain [(93, .pointer (some ⟨b0, 1, none⟩))] rfl rfl (.w 2 rfl rfl rfl .nil) (q_load rfl rfl Try.isAgg66 (.obj 0 rfl rfl)) rfl) All.nil)) (All.cons (fun γ => (All.cons (QOb.plain [(3, .pointer (some ⟨b1v, 0, none⟩))] rfl rfl (.o rfl (by decide) .nil) (q_loado 1 rfl rfl Try.isAgg71 Try.sizeOf71 rfl rfl) rfl) All.nil)) (All.cons (fun γ => (All.cons (QOb.plain [(94, .map (some y17v.1)), (95, .agg #[.int .i64 x1_0, .bool x1_1, str x1_2])] rfl rfl (.w 3 rfl rfl rfl (.w 4 rfl rfl rfl .nil)) ((q_mlook (ek := enc71) (ev := enc3) (z := (0 : Int)) 2 (x1_0, x1_1, x1_2) rfl rfl rfl Try.underlying66 key71 Try.zeroValue3 rfl : RQ _ _ _ _ (.int .i64 ((mget s16v.1 (x1_0, x1_1, x1_2)).getD (0 : Int))))) rfl) (All.cons (QOb.plain [(94, .map (some y17v.1)), (95, .agg #[.int .i64 x1_0, .bool x1_1, str x1_2])] rfl rfl (.w 3 rfl rfl rfl (.w 4 rfl rfl rfl .nil)) ((q_mlookP (ek := enc71) (ev := enc3) 2 (x1_0, x1_1, x1_2) ((mget s16v.1 (x1_0, x1_1, x1_2)).getD (0 : Int)) rfl rfl rfl Try.underlying66 key71 rfl : RQ _ _ _ _ (.int .i64 ((mget s16v.1 (x1_0, x1_1, x1_2)).getD (0 : Int))))) rfl) All.nil))) (All.cons (fun γ => (All.cons (QOb.plain [(96, .int .i64 ((mget s16v.1 (x1_0, x1_1, x1_2)).getD (0 : Int)))] rfl rfl (.w 5 rfl rfl rfl .nil) (q_add rfl rfl rfl) rfl) (All.cons (QOb.plain [(96, .int .i64 ((mget s16v.1 (x1_0, x1_1, x1_2)).getD (0 : Int)))] rfl rfl (.w 5 rfl rfl rfl .nil) (q_add rfl rfl rfl) rfl) All.nil))) (All.cons (fun γ => (All.cons (QOb.plain [(98, .tuple #[.int .i64 ((mget s16v.1 (x1_0, x1_1, x1_2)).getD (0 : Int)), .int .i64 γ])] rfl rfl (.w 7 rfl rfl rfl .nil) (q_ext rfl rfl rfl) rfl) All.nil)) All.nil))))))))
 exact (All.cons (fun γ => EOb.mk (Z := Int) [(94, .map (some y17v.1)), (95, .agg #[.int .i64 x1_0, .bool x1_1, str x1_2])] (fun z => z) rfl rfl (.w 3 rfl rfl rfl (.w 4 rfl rfl rfl .nil)) (re_mentry (ek := enc71) (ev := enc3) (z := (0 : Int)) 2 (x1_0, x1_1, x1_2) rfl rfl rfl Try.underlying66 key71 Try.zeroValue3 rfl) (fun _ => ⟨rfl, rfl, rfl, rfl, rfl, rfl, rfl, trivial⟩) (fun _ => .inr rfl) (fun z => Ent.refl _)) (All.cons (fun γ => EOb.mk (Z := Unit) [(94, .map (some y17v.1)), (97, .int .i64 (IntKind.i64.wrap (((mget s16v.1 (x1_0, x1_1, x1_2)).getD (0 : Int)) + 1))), (99, .int .i64 γ)] (fun z => γ) rfl rfl (.w 3 rfl rfl rfl (.w 6 rfl rfl rfl (.w 8 rfl rfl rfl .nil))) (re_mstore (ek := enc71) (ev := enc3) 2 (IntKind.i64.wrap (((mget s16v.1 (x1_0, x1_1, x1_2)).getD (0 : Int)) + 1)) rfl rfl rfl rfl rfl) (fun _ => ⟨rfl, rfl, rfl, rfl, rfl, rfl, rfl, rfl, rfl, trivial⟩) (fun _ => .inl rfl) (fun z => Ent.refl _)) All.nil))
 intro g90v
 refine nrm_then (sim_seq (sim_region ?_))
 refine simL_val (q_asg rfl rfl) rfl rfl rfl (simL_nil (nrm_then (sim_rtn ?_)))
 exact rtn_fn (y17v.1, y17v.2.1, y17v.2.2) rfl rfl rfl (.sel 0 rfl (.sel 1 rfl (.sel' 1 rfl (RowV.mk hl88v) (.sel 1 rfl (.nil _)))))
theorem lin_search_from.callsK : ∀ (k : Nat) (W : World) (F : HA) (b0 : Nat) (a0_0 : Option Addr) (c0_0 : Nat) (x0_0 : List (Ty35)) (m0_1 : Nat) (x0_1 : List ((Int × Bool × List UInt8) × (Int))) (a0_2 : Option Addr) (c0_2 : Nat) (x0_2 : List Int) (x1_0 : Int) (x1_1 : Bool) (x1_2 : List UInt8) (h0_0 : RdV F 10 (V35 tt) a0_0 x0_0) (hc0_0 : x0_0.length ≤ c0_0) (hm0_0 : c0_0 ≤ maxLen), Fn Try.prog W 36 [.pointer (some ⟨b0, 0, none⟩), .agg #[.int .i64 x1_0, .bool x1_1, str x1_2]] [obj b0 68 [.slice a0_0 x0_0.length c0_0, .map (some m0_1), .slice a0_2 x0_2.length c0_2], mapO m0_1 enc71 enc3 x0_1, RowV 3 1 (V3 tt) a0_2 x0_2 c0_2] F (lin_search_from.f k x0_0 x0_1 x0_2 x1_0 x1_1 x1_2) (fun (r : Bool × (List ((Int × Bool × List UInt8) × (Int))) × List Int) (y : Nat × Option Addr × Nat) => .bool r.1) (fun r y => [obj b0 68 [.slice a0_0 x0_0.length c0_0, .map (some y.1), .slice y.2.1 r.2.2.length y.2.2], mapO y.1 enc71 enc3 r.2.1, RowV 3 1 (V3 tt) y.2.1 r.2.2 y.2.2]) := by
  intro k
  induction k with
  | zero => intro W F b0 a0_0 c0_0 x0_0 m0_1 x0_1 a0_2 c0_2 x0_2 x1_0 x1_1 x1_2 h0_0 hc0_0 hm0_0; exact fn_none (by rw [lin_search_from.f])
  | succ k ih => intro W F b0 a0_0 c0_0 x0_0 m0_1 x0_1 a0_2 c0_2 x0_2 x1_0 x1_1 x1_2 h0_0 hc0_0 hm0_0; rw [lin_search_from.f]; exact lin_search_from.rec W (lin_search_from.f k) ih F k b0 a0_0 c0_0 x0_0 m0_1 x0_1 a0_2 c0_2 x0_2 x1_0 x1_1 x1_2 h0_0 hc0_0 hm0_0
theorem lin_search_from.calls (W : World) (F : HA) (k : Nat) (b0 : Nat) (a0_0 : Option Addr) (c0_0 : Nat) (x0_0 : List (Ty35)) (m0_1 : Nat) (x0_1 : List ((Int × Bool × List UInt8) × (Int))) (a0_2 : Option Addr) (c0_2 : Nat) (x0_2 : List Int) (x1_0 : Int) (x1_1 : Bool) (x1_2 : List UInt8) (h0_0 : RdV F 10 (V35 tt) a0_0 x0_0) (hc0_0 : x0_0.length ≤ c0_0) (hm0_0 : c0_0 ≤ maxLen) :
    Fn Try.prog W 36 [.pointer (some ⟨b0, 0, none⟩), .agg #[.int .i64 x1_0, .bool x1_1, str x1_2]] [obj b0 68 [.slice a0_0 x0_0.length c0_0, .map (some m0_1), .slice a0_2 x0_2.length c0_2], mapO m0_1 enc71 enc3 x0_1, RowV 3 1 (V3 tt) a0_2 x0_2 c0_2] F (lin_search_from.f k x0_0 x0_1 x0_2 x1_0 x1_1 x1_2) (fun (r : Bool × (List ((Int × Bool × List UInt8) × (Int))) × List Int) (y : Nat × Option Addr × Nat) => .bool r.1) (fun r y => [obj b0 68 [.slice a0_0 x0_0.length c0_0, .map (some y.1), .slice y.2.1 r.2.2.length y.2.2], mapO y.1 enc71 enc3 r.2.1, RowV 3 1 (V3 tt) y.2.1 r.2.2 y.2.2]) := lin_search_from.callsK k W F b0 a0_0 c0_0 x0_0 m0_1 x0_1 a0_2 c0_2 x0_2 x1_0 x1_1 x1_2 h0_0 hc0_0 hm0_0

def lin_explain.l1 (s1v : List Int) (s47v : Bool × (List ((Int × Bool × List UInt8) × (Int))) × List Int) : Nat → List Int → Int → Option (List Int)
  | 0, _, _ => none
  | k + 1, z56v, z57v => if z57v < (s47v.2.2.length : Int) then (if 0 ≤ z57v ∧ z57v < (s47v.2.2.length : Int) then (if 0 ≤ (s47v.2.2.getD z57v.toNat (0 : Int)) ∧ (s47v.2.2.getD z57v.toNat (0 : Int)) < (s1v.length : Int) then (if (z56v.length + ([(s1v.getD (s47v.2.2.getD z57v.toNat (0 : Int)).toNat (0 : Int))] : List Int).length) * 8 ≤ 140737488355328 then (lin_explain.l1 s1v s47v k (z56v ++ ([(s1v.getD (s47v.2.2.getD z57v.toNat (0 : Int)).toNat (0 : Int))] : List Int)) (IntKind.i64.wrap (z57v + 1))) else none) else none) else none) else (some z56v)
def lin_explain.l0 (x0 : List (Ty35)) (s1v : List Int) : Nat → Int → List (Ty35) → Option ((List (Ty35)))
  | 0, _, _ => none
  | k + 1, z10v, z11v => if z10v < (s1v.length : Int) then (if 0 ≤ z10v ∧ z10v < (s1v.length : Int) then (if 0 ≤ (s1v.getD z10v.toNat (0 : Int)) ∧ (s1v.getD z10v.toNat (0 : Int)) < (x0.length : Int) then (if (z11v.length + ([((x0.getD (s1v.getD z10v.toNat (0 : Int)).toNat dz35).1, (x0.getD (s1v.getD z10v.toNat (0 : Int)).toNat dz35).2.1, (x0.getD (s1v.getD z10v.toNat (0 : Int)).toNat dz35).2.2.1, (x0.getD (s1v.getD z10v.toNat (0 : Int)).toNat dz35).2.2.2.1, (x0.getD (s1v.getD z10v.toNat (0 : Int)).toNat dz35).2.2.2.2.1, (x0.getD (s1v.getD z10v.toNat (0 : Int)).toNat dz35).2.2.2.2.2.1, (x0.getD (s1v.getD z10v.toNat (0 : Int)).toNat dz35).2.2.2.2.2.2.1, (x0.getD (s1v.getD z10v.toNat (0 : Int)).toNat dz35).2.2.2.2.2.2.2.1, (x0.getD (s1v.getD z10v.toNat (0 : Int)).toNat dz35).2.2.2.2.2.2.2.2.1, (x0.getD (s1v.getD z10v.toNat (0 : Int)).toNat dz35).2.2.2.2.2.2.2.2.2)] : List (Ty35)).length) * 112 ≤ 140737488355328 then (lin_explain.l0 x0 s1v k (IntKind.i64.wrap (z10v + 1)) (z11v ++ ([((x0.getD (s1v.getD z10v.toNat (0 : Int)).toNat dz35).1, (x0.getD (s1v.getD z10v.toNat (0 : Int)).toNat dz35).2.1, (x0.getD (s1v.getD z10v.toNat (0 : Int)).toNat dz35).2.2.1, (x0.getD (s1v.getD z10v.toNat (0 : Int)).toNat dz35).2.2.2.1, (x0.getD (s1v.getD z10v.toNat (0 : Int)).toNat dz35).2.2.2.2.1, (x0.getD (s1v.getD z10v.toNat (0 : Int)).toNat dz35).2.2.2.2.2.1, (x0.getD (s1v.getD z10v.toNat (0 : Int)).toNat dz35).2.2.2.2.2.2.1, (x0.getD (s1v.getD z10v.toNat (0 : Int)).toNat dz35).2.2.2.2.2.2.2.1, (x0.getD (s1v.getD z10v.toNat (0 : Int)).toNat dz35).2.2.2.2.2.2.2.2.1, (x0.getD (s1v.getD z10v.toNat (0 : Int)).toNat dz35).2.2.2.2.2.2.2.2.2)] : List (Ty35)))) else none) else none) else none) else (some z11v)
def lin_explain.f (k : Nat) (x0 : List (Ty35)) (x1 : List UInt8) : Option (List Int × Bool) := (lin_of.f k x0 x1).bind fun s1v => ((lin_explain.l0 x0 s1v k 0 ([] : List (Ty35))).bind fun s6v => ((lin_search_from.f k s6v ([] : List ((Int × Bool × List UInt8) × (Int))) ([] : List Int) (0 : Int) false ([] : List UInt8)).bind fun s47v => (if (!s47v.1) = true then (some (([] : List Int), false)) else ((lin_explain.l1 s1v s47v k ([] : List Int) 0).bind fun s52v => (some (s52v, true))))))
theorem lin_explain.calls (W : World) (F : HA) (k : Nat) (a0 : Option Addr) (c0 : Nat) (x0 : List (Ty35)) (x1 : List UInt8) (h0 : RdV F 10 (V35 tt) a0 x0) (hc0 : x0.length ≤ c0) (hm0 : c0 ≤ maxLen) :
    Fn Try.prog W 32 [.slice a0 x0.length c0, str x1] [] F (lin_explain.f k x0 x1) (fun (r : List Int × Bool) (y : Option Addr × Nat) => .tuple #[.slice y.1 r.1.length y.2, .bool r.2]) (fun r y => [RowV 3 1 (V3 tt) y.1 r.1 y.2]) := by
 unfold lin_explain.f
 refine fn_intro 61 Try.func32 rfl Try.ntmps32 rfl ?_
 refine sim_seq (sim_region ?_)
 refine simL_val (q_asg rfl rfl) rfl rfl rfl ?_
 refine simL_val (q_asg rfl rfl) rfl rfl rfl (simL_nil (nrm_then (sim_seq (sim_region ?_))))
 refine simL_val (q_move rfl rfl) rfl rfl rfl ?_
 refine simL_val (q_move rfl rfl) rfl rfl rfl ?_
 refine simL_bind (fun s1v hs3v => ?_)
 refine simL_eff (re_call (vs := [.slice a0 x0.length c0, str x1]) (cap := []) (A := []) (rst := [F]) rfl rfl rfl rfl rfl rfl Try.call31 (.sel 0 rfl (.nil _)) (lin_of.calls _ _ k a0 c0 x0 x1 (h0.up (Up.lend 0 rfl) (fun _ _ h => h)) hc0 hm0) hs3v) rfl rfl rfl ?_
 intro y2v
 refine simL_val (q_asg rfl rfl) rfl rfl rfl (simL_nil (nrm_then (sim_seq (sim_region ?_))))
 refine simL_eff (re_mkmap (ek := enc71) (ev := enc3) rfl) rfl rfl rfl ?_
 intro b4v
 refine simL_val (q_build (v := .agg #[.slice none 0 0, .map (some b4v), .slice none 0 0]) rfl rfl (fun _ => by kernel_rfl)) rfl rfl rfl ?_
 refine simL_eff (re_box rfl rfl rfl) rfl rfl rfl ?_
 intro b5v
 refine simL_val (q_asg rfl rfl) rfl rfl rfl (simL_nil (nrm_then ?_))
 refine sim_cut (S := (List (Ty35))) (Option Addr × Nat) (fun s y => [(6, .slice y2v.1 s1v.length y2v.2), (7, .pointer (some ⟨b5v, 0, none⟩))]) (fun s y => [obj b5v 68 [.slice y.1 s.length y.2, .map (some b4v), .slice none 0 0], RowV 3 1 (V3 tt) y2v.1 s1v y2v.2, RowV 35 10 (V35 tt) y.1 s y.2, mapO b4v enc71 enc3 ([] : List ((Int × Bool × List UInt8) × (Int))), F]) ?_ ?_
 refine sim_seq (sim_region ?_)
 refine simL_val (q_move rfl rfl) rfl rfl rfl ?_
 refine simL_val (q_len rfl rfl rfl Try.underlying39) rfl rfl rfl ?_
 refine simL_val (q_move rfl rfl) rfl rfl rfl (simL_nil (nrm_then ?_))
 refine sim_block ?_
 refine sim_loop (S := Int × (List (Ty35))) (Option Addr × Nat) (fun k s => lin_explain.l0 x0 s1v k s.1 s.2) (fun s y => [(0, .slice a0 x0.length c0), (6, .slice y2v.1 s1v.length y2v.2), (7, .pointer (some ⟨b5v, 0, none⟩)), (19, .slice y2v.1 s1v.length y2v.2), (20, .int .i64 (s1v.length : Int)), (21, .int .i64 s.1)]) (fun s y => [obj b5v 68 [.slice y.1 s.2.length y.2, .map (some b4v), .slice none 0 0], RowV 3 1 (V3 tt) y2v.1 s1v y2v.2, RowV 35 10 (V35 tt) y.1 s.2 y.2, mapO b4v enc71 enc3 ([] : List ((Int × Bool × List UInt8) × (Int))), F]) (fun _ => by rw [lin_explain.l0]) ?_ k (0, ([] : List (Ty35))) (none, 0) ⟨rfl, rfl, rfl, rfl, rfl, rfl, trivial⟩ (.sel 0 rfl (.sel 1 rfl (.rowV_nil (.sel 0 rfl (.sel 0 rfl (.nil _))))))
 intro k s8v y9v
 refine sim_eq (by rw [lin_explain.l0]) ?_
 refine sim_seq (sim_region ?_)
 refine simL_val (q_lss rfl rfl rfl) rfl rfl rfl (simL_nil (nrm_then (sim_seq ?_)))
 refine sim_cond rfl (fun h12v => ?_) (fun h13v => ?_)
 refine sim_skip ?_
 refine nrm_then (sim_seq ?_)
 refine sim_block ?_
 refine sim_seq (sim_region ?_)
 refine simL_openV 1 rfl (fun rs22v hl23v => ?_)
 refine simL_ask (fun hi14v => ?_)
 refine simL_posV 1 rfl hl23v rfl (i := s8v.1.toNat) (by omega) (0 : Int) (fun b15v b15vo r18v ha16v hV19v hlr20v hcell21v => ?_)
 obtain rfl := hV19v
 refine simL_val (q_idx rfl rfl rfl ha16v Try.underlying39 Try.sizeOf3 hi14v.1 hi14v.2) rfl rfl rfl ?_
 refine simL_val (q_load rfl rfl Try.isAgg3 (hcell21v 1 rfl 0 _ rfl)) rfl rfl rfl ?_
 refine simL_val (q_asg rfl rfl) rfl rfl rfl (simL_nil (nrm_then ?_))
 refine sim_openV 2 rfl (fun rs24v hl25v => ?_)
 refine sim_ask (fun hi26v => ?_)
 obtain ⟨b27v, b27vo, r30v, ha28v, hV31v, hlr32v, hcell33v⟩ := RdV.pos h0 (Up.refl _) rfl (i := (s1v.getD s8v.1.toNat (0 : Int)).toNat) (by omega) dz35
 obtain rfl := hV31v
 have hlb35v : ListV 10 (V35 tt) ([((x0.getD (s1v.getD s8v.1.toNat (0 : Int)).toNat dz35).1, (x0.getD (s1v.getD s8v.1.toNat (0 : Int)).toNat dz35).2.1, (x0.getD (s1v.getD s8v.1.toNat (0 : Int)).toNat dz35).2.2.1, (x0.getD (s1v.getD s8v.1.toNat (0 : Int)).toNat dz35).2.2.2.1, (x0.getD (s1v.getD s8v.1.toNat (0 : Int)).toNat dz35).2.2.2.2.1, (x0.getD (s1v.getD s8v.1.toNat (0 : Int)).toNat dz35).2.2.2.2.2.1, (x0.getD (s1v.getD s8v.1.toNat (0 : Int)).toNat dz35).2.2.2.2.2.2.1, (x0.getD (s1v.getD s8v.1.toNat (0 : Int)).toNat dz35).2.2.2.2.2.2.2.1, (x0.getD (s1v.getD s8v.1.toNat (0 : Int)).toNat dz35).2.2.2.2.2.2.2.2.1, (x0.getD (s1v.getD s8v.1.toNat (0 : Int)).toNat dz35).2.2.2.2.2.2.2.2.2)] : List (Ty35)) [[.int .i64 ((x0.getD (s1v.getD s8v.1.toNat (0 : Int)).toNat dz35).1), .int .i64 ((x0.getD (s1v.getD s8v.1.toNat (0 : Int)).toNat dz35).2.1), .int .i64 ((x0.getD (s1v.getD s8v.1.toNat (0 : Int)).toNat dz35).2.2.1), str ((x0.getD (s1v.getD s8v.1.toNat (0 : Int)).toNat dz35).2.2.2.1), str ((x0.getD (s1v.getD s8v.1.toNat (0 : Int)).toNat dz35).2.2.2.2.1), str ((x0.getD (s1v.getD s8v.1.toNat (0 : Int)).toNat dz35).2.2.2.2.2.1), .int .i64 ((x0.getD (s1v.getD s8v.1.toNat (0 : Int)).toNat dz35).2.2.2.2.2.2.1), .int .i64 ((x0.getD (s1v.getD s8v.1.toNat (0 : Int)).toNat dz35).2.2.2.2.2.2.2.1), .int .i64 ((x0.getD (s1v.getD s8v.1.toNat (0 : Int)).toNat dz35).2.2.2.2.2.2.2.2.1), str ((x0.getD (s1v.getD s8v.1.toNat (0 : Int)).toNat dz35).2.2.2.2.2.2.2.2.2)]] := ⟨⟨rfl, one_of (by rfl), rfl⟩, trivial⟩
 refine sim_ask (fun hb39v => ?_)
 refine sim_draw (Γ := Nat × (Option Addr × Nat)) (0, (none, 0)) [[], [], [1], [1, 2], [1, 2, 3], [], [], [5, 6], [5, 6, 7], [5, 6, 7, 8], [1, 2, 3, 4, 5, 6, 7, 8, 9], [0, 1, 2, 3, 4, 5, 6, 7, 8, 9, 10], [0, 1, 2, 3, 4, 5, 6, 7, 8, 9, 10, 11], [0, 1, 2, 3, 4, 5, 6, 7, 8, 9, 10, 11, 12]] [9, 10, 13] [0, 1, 2, 3, 4, 5, 6, 7, 8, 11, 12] (fun i => [[0, 1, 2], [0, 1], [0, 1], [0, 1], [0, 1], [0], [0], [0], [0], [], [], [2], [2], []].getD i []) (fun i => [[], [], [], [], [], [], [], [], [], [0, 1, 2, 3, 4, 5, 6, 7, 8], [0, 1, 2, 3, 4, 5, 6, 7, 8, 9], [], [], [0, 1, 2, 3, 4, 5, 6, 7, 8, 9, 10, 11, 12]].getD i []) (fun γ i => [.pointer (some ⟨b5v, 0, none⟩), .pointer (some ⟨b5v, 0, none⟩), .pointer (some ⟨b5v, 0, none⟩), .pointer (some ⟨b5v, 0, none⟩), .slice y9v.1 s8v.2.length y9v.2, .slice a0 x0.length c0, .int .i64 (s1v.getD s8v.1.toNat (0 : Int)), .pointer (some ⟨b27v, b27vo + (s1v.getD s8v.1.toNat (0 : Int)).toNat * 10, none⟩), .agg #[.int .i64 ((x0.getD (s1v.getD s8v.1.toNat (0 : Int)).toNat dz35).1), .int .i64 ((x0.getD (s1v.getD s8v.1.toNat (0 : Int)).toNat dz35).2.1), .int .i64 ((x0.getD (s1v.getD s8v.1.toNat (0 : Int)).toNat dz35).2.2.1), str ((x0.getD (s1v.getD s8v.1.toNat (0 : Int)).toNat dz35).2.2.2.1), str ((x0.getD (s1v.getD s8v.1.toNat (0 : Int)).toNat dz35).2.2.2.2.1), str ((x0.getD (s1v.getD s8v.1.toNat (0 : Int)).toNat dz35).2.2.2.2.2.1), .int .i64 ((x0.getD (s1v.getD s8v.1.toNat (0 : Int)).toNat dz35).2.2.2.2.2.2.1), .int .i64 ((x0.getD (s1v.getD s8v.1.toNat (0 : Int)).toNat dz35).2.2.2.2.2.2.2.1), .int .i64 ((x0.getD (s1v.getD s8v.1.toNat (0 : Int)).toNat dz35).2.2.2.2.2.2.2.2.1), str ((x0.getD (s1v.getD s8v.1.toNat (0 : Int)).toNat dz35).2.2.2.2.2.2.2.2.2)], .slice (some ⟨γ.1, 0, none⟩) (([((x0.getD (s1v.getD s8v.1.toNat (0 : Int)).toNat dz35).1, (x0.getD (s1v.getD s8v.1.toNat (0 : Int)).toNat dz35).2.1, (x0.getD (s1v.getD s8v.1.toNat (0 : Int)).toNat dz35).2.2.1, (x0.getD (s1v.getD s8v.1.toNat (0 : Int)).toNat dz35).2.2.2.1, (x0.getD (s1v.getD s8v.1.toNat (0 : Int)).toNat dz35).2.2.2.2.1, (x0.getD (s1v.getD s8v.1.toNat (0 : Int)).toNat dz35).2.2.2.2.2.1, (x0.getD (s1v.getD s8v.1.toNat (0 : Int)).toNat dz35).2.2.2.2.2.2.1, (x0.getD (s1v.getD s8v.1.toNat (0 : Int)).toNat dz35).2.2.2.2.2.2.2.1, (x0.getD (s1v.getD s8v.1.toNat (0 : Int)).toNat dz35).2.2.2.2.2.2.2.2.1, (x0.getD (s1v.getD s8v.1.toNat (0 : Int)).toNat dz35).2.2.2.2.2.2.2.2.2)] : List (Ty35)).length) 1, .slice γ.2.1 ((s8v.2 ++ ([((x0.getD (s1v.getD s8v.1.toNat (0 : Int)).toNat dz35).1, (x0.getD (s1v.getD s8v.1.toNat (0 : Int)).toNat dz35).2.1, (x0.getD (s1v.getD s8v.1.toNat (0 : Int)).toNat dz35).2.2.1, (x0.getD (s1v.getD s8v.1.toNat (0 : Int)).toNat dz35).2.2.2.1, (x0.getD (s1v.getD s8v.1.toNat (0 : Int)).toNat dz35).2.2.2.2.1, (x0.getD (s1v.getD s8v.1.toNat (0 : Int)).toNat dz35).2.2.2.2.2.1, (x0.getD (s1v.getD s8v.1.toNat (0 : Int)).toNat dz35).2.2.2.2.2.2.1, (x0.getD (s1v.getD s8v.1.toNat (0 : Int)).toNat dz35).2.2.2.2.2.2.2.1, (x0.getD (s1v.getD s8v.1.toNat (0 : Int)).toNat dz35).2.2.2.2.2.2.2.2.1, (x0.getD (s1v.getD s8v.1.toNat (0 : Int)).toNat dz35).2.2.2.2.2.2.2.2.2)] : List (Ty35))).length) γ.2.2, .pointer (some ⟨b5v, 0, none⟩), .pointer (some ⟨b5v, 0, none⟩), undef].getD i undef) (fun j γ => [[obj b5v 68 [.slice y9v.1 s8v.2.length y9v.2, .map (some b4v), .slice none 0 0], Row 3 1 y2v.1 s1v.length y2v.2 rs22v.flatten, Row 35 10 y9v.1 s8v.2.length y9v.2 rs24v.flatten, mapO b4v enc71 enc3 ([] : List ((Int × Bool × List UInt8) × (Int))), F], [Row 35 10 (some ⟨γ.1, 0, none⟩) ([((x0.getD (s1v.getD s8v.1.toNat (0 : Int)).toNat dz35).1, (x0.getD (s1v.getD s8v.1.toNat (0 : Int)).toNat dz35).2.1, (x0.getD (s1v.getD s8v.1.toNat (0 : Int)).toNat dz35).2.2.1, (x0.getD (s1v.getD s8v.1.toNat (0 : Int)).toNat dz35).2.2.2.1, (x0.getD (s1v.getD s8v.1.toNat (0 : Int)).toNat dz35).2.2.2.2.1, (x0.getD (s1v.getD s8v.1.toNat (0 : Int)).toNat dz35).2.2.2.2.2.1, (x0.getD (s1v.getD s8v.1.toNat (0 : Int)).toNat dz35).2.2.2.2.2.2.1, (x0.getD (s1v.getD s8v.1.toNat (0 : Int)).toNat dz35).2.2.2.2.2.2.2.1, (x0.getD (s1v.getD s8v.1.toNat (0 : Int)).toNat dz35).2.2.2.2.2.2.2.2.1, (x0.getD (s1v.getD s8v.1.toNat (0 : Int)).toNat dz35).2.2.2.2.2.2.2.2.2)] : List (Ty35)).length 1 [[.int .i64 ((x0.getD (s1v.getD s8v.1.toNat (0 : Int)).toNat dz35).1), .int .i64 ((x0.getD (s1v.getD s8v.1.toNat (0 : Int)).toNat dz35).2.1), .int .i64 ((x0.getD (s1v.getD s8v.1.toNat (0 : Int)).toNat dz35).2.2.1), str ((x0.getD (s1v.getD s8v.1.toNat (0 : Int)).toNat dz35).2.2.2.1), str ((x0.getD (s1v.getD s8v.1.toNat (0 : Int)).toNat dz35).2.2.2.2.1), str ((x0.getD (s1v.getD s8v.1.toNat (0 : Int)).toNat dz35).2.2.2.2.2.1), .int .i64 ((x0.getD (s1v.getD s8v.1.toNat (0 : Int)).toNat dz35).2.2.2.2.2.2.1), .int .i64 ((x0.getD (s1v.getD s8v.1.toNat (0 : Int)).toNat dz35).2.2.2.2.2.2.2.1), .int .i64 ((x0.getD (s1v.getD s8v.1.toNat (0 : Int)).toNat dz35).2.2.2.2.2.2.2.2.1), str ((x0.getD (s1v.getD s8v.1.toNat (0 : Int)).toNat dz35).2.2.2.2.2.2.2.2.2)]].flatten, obj b5v 68 [.slice y9v.1 s8v.2.length y9v.2, .map (some b4v), .slice none 0 0], Row 3 1 y2v.1 s1v.length y2v.2 rs22v.flatten, Row 35 10 y9v.1 s8v.2.length y9v.2 rs24v.flatten, mapO b4v enc71 enc3 ([] : List ((Int × Bool × List UInt8) × (Int))), F], [Row 35 10 (some ⟨γ.1, 0, none⟩) ([((x0.getD (s1v.getD s8v.1.toNat (0 : Int)).toNat dz35).1, (x0.getD (s1v.getD s8v.1.toNat (0 : Int)).toNat dz35).2.1, (x0.getD (s1v.getD s8v.1.toNat (0 : Int)).toNat dz35).2.2.1, (x0.getD (s1v.getD s8v.1.toNat (0 : Int)).toNat dz35).2.2.2.1, (x0.getD (s1v.getD s8v.1.toNat (0 : Int)).toNat dz35).2.2.2.2.1, (x0.getD (s1v.getD s8v.1.toNat (0 : Int)).toNat dz35).2.2.2.2.2.1, (x0.getD (s1v.getD s8v.1.toNat (0 : Int)).toNat dz35).2.2.2.2.2.2.1, (x0.getD (s1v.getD s8v.1.toNat (0 : Int)).toNat dz35).2.2.2.2.2.2.2.1, (x0.getD (s1v.getD s8v.1.toNat (0 : Int)).toNat dz35).2.2.2.2.2.2.2.2.1, (x0.getD (s1v.getD s8v.1.toNat (0 : Int)).toNat dz35).2.2.2.2.2.2.2.2.2)] : List (Ty35)).length 1 [[.int .i64 ((x0.getD (s1v.getD s8v.1.toNat (0 : Int)).toNat dz35).1), .int .i64 ((x0.getD (s1v.getD s8v.1.toNat (0 : Int)).toNat dz35).2.1), .int .i64 ((x0.getD (s1v.getD s8v.1.toNat (0 : Int)).toNat dz35).2.2.1), str ((x0.getD (s1v.getD s8v.1.toNat (0 : Int)).toNat dz35).2.2.2.1), str ((x0.getD (s1v.getD s8v.1.toNat (0 : Int)).toNat dz35).2.2.2.2.1), str ((x0.getD (s1v.getD s8v.1.toNat (0 : Int)).toNat dz35).2.2.2.2.2.1), .int .i64 ((x0.getD (s1v.getD s8v.1.toNat (0 : Int)).toNat dz35).2.2.2.2.2.2.1), .int .i64 ((x0.getD (s1v.getD s8v.1.toNat (0 : Int)).toNat dz35).2.2.2.2.2.2.2.1), .int .i64 ((x0.getD (s1v.getD s8v.1.toNat (0 : Int)).toNat dz35).2.2.2.2.2.2.2.2.1), str ((x0.getD (s1v.getD s8v.1.toNat (0 : Int)).toNat dz35).2.2.2.2.2.2.2.2.2)]].flatten, obj b5v 68 [.slice y9v.1 s8v.2.length y9v.2, .map (some b4v), .slice none 0 0], Row 3 1 y2v.1 s1v.length y2v.2 rs22v.flatten, RowV 35 10 (V35 tt) γ.2.1 (s8v.2 ++ ([((x0.getD (s1v.getD s8v.1.toNat (0 : Int)).toNat dz35).1, (x0.getD (s1v.getD s8v.1.toNat (0 : Int)).toNat dz35).2.1, (x0.getD (s1v.getD s8v.1.toNat (0 : Int)).toNat dz35).2.2.1, (x0.getD (s1v.getD s8v.1.toNat (0 : Int)).toNat dz35).2.2.2.1, (x0.getD (s1v.getD s8v.1.toNat (0 : Int)).toNat dz35).2.2.2.2.1, (x0.getD (s1v.getD s8v.1.toNat (0 : Int)).toNat dz35).2.2.2.2.2.1, (x0.getD (s1v.getD s8v.1.toNat (0 : Int)).toNat dz35).2.2.2.2.2.2.1, (x0.getD (s1v.getD s8v.1.toNat (0 : Int)).toNat dz35).2.2.2.2.2.2.2.1, (x0.getD (s1v.getD s8v.1.toNat (0 : Int)).toNat dz35).2.2.2.2.2.2.2.2.1, (x0.getD (s1v.getD s8v.1.toNat (0 : Int)).toNat dz35).2.2.2.2.2.2.2.2.2)] : List (Ty35))) γ.2.2, mapO b4v enc71 enc3 ([] : List ((Int × Bool × List UInt8) × (Int))), F], [Row 35 10 (some ⟨γ.1, 0, none⟩) ([((x0.getD (s1v.getD s8v.1.toNat (0 : Int)).toNat dz35).1, (x0.getD (s1v.getD s8v.1.toNat (0 : Int)).toNat dz35).2.1, (x0.getD (s1v.getD s8v.1.toNat (0 : Int)).toNat dz35).2.2.1, (x0.getD (s1v.getD s8v.1.toNat (0 : Int)).toNat dz35).2.2.2.1, (x0.getD (s1v.getD s8v.1.toNat (0 : Int)).toNat dz35).2.2.2.2.1, (x0.getD (s1v.getD s8v.1.toNat (0 : Int)).toNat dz35).2.2.2.2.2.1, (x0.getD (s1v.getD s8v.1.toNat (0 : Int)).toNat dz35).2.2.2.2.2.2.1, (x0.getD (s1v.getD s8v.1.toNat (0 : Int)).toNat dz35).2.2.2.2.2.2.2.1, (x0.getD (s1v.getD s8v.1.toNat (0 : Int)).toNat dz35).2.2.2.2.2.2.2.2.1, (x0.getD (s1v.getD s8v.1.toNat (0 : Int)).toNat dz35).2.2.2.2.2.2.2.2.2)] : List (Ty35)).length 1 [[.int .i64 ((x0.getD (s1v.getD s8v.1.toNat (0 : Int)).toNat dz35).1), .int .i64 ((x0.getD (s1v.getD s8v.1.toNat (0 : Int)).toNat dz35).2.1), .int .i64 ((x0.getD (s1v.getD s8v.1.toNat (0 : Int)).toNat dz35).2.2.1), str ((x0.getD (s1v.getD s8v.1.toNat (0 : Int)).toNat dz35).2.2.2.1), str ((x0.getD (s1v.getD s8v.1.toNat (0 : Int)).toNat dz35).2.2.2.2.1), str ((x0.getD (s1v.getD s8v.1.toNat (0 : Int)).toNat dz35).2.2.2.2.2.1), .int .i64 ((x0.getD (s1v.getD s8v.1.toNat (0 : Int)).toNat dz35).2.2.2.2.2.2.1), .int .i64 ((x0.getD (s1v.getD s8v.1.toNat (0 : Int)).toNat dz35).2.2.2.2.2.2.2.1), .int .i64 ((x0.getD (s1v.getD s8v.1.toNat (0 : Int)).toNat dz35).2.2.2.2.2.2.2.2.1), str ((x0.getD (s1v.getD s8v.1.toNat (0 : Int)).toNat dz35).2.2.2.2.2.2.2.2.2)]].flatten, obj b5v 68 [.slice γ.2.1 ((s8v.2 ++ ([((x0.getD (s1v.getD s8v.1.toNat (0 : Int)).toNat dz35).1, (x0.getD (s1v.getD s8v.1.toNat (0 : Int)).toNat dz35).2.1, (x0.getD (s1v.getD s8v.1.toNat (0 : Int)).toNat dz35).2.2.1, (x0.getD (s1v.getD s8v.1.toNat (0 : Int)).toNat dz35).2.2.2.1, (x0.getD (s1v.getD s8v.1.toNat (0 : Int)).toNat dz35).2.2.2.2.1, (x0.getD (s1v.getD s8v.1.toNat (0 : Int)).toNat dz35).2.2.2.2.2.1, (x0.getD (s1v.getD s8v.1.toNat (0 : Int)).toNat dz35).2.2.2.2.2.2.1, (x0.getD (s1v.getD s8v.1.toNat (0 : Int)).toNat dz35).2.2.2.2.2.2.2.1, (x0.getD (s1v.getD s8v.1.toNat (0 : Int)).toNat dz35).2.2.2.2.2.2.2.2.1, (x0.getD (s1v.getD s8v.1.toNat (0 : Int)).toNat dz35).2.2.2.2.2.2.2.2.2)] : List (Ty35))).length) γ.2.2, .map (some b4v), .slice none 0 0], Row 3 1 y2v.1 s1v.length y2v.2 rs22v.flatten, RowV 35 10 (V35 tt) γ.2.1 (s8v.2 ++ ([((x0.getD (s1v.getD s8v.1.toNat (0 : Int)).toNat dz35).1, (x0.getD (s1v.getD s8v.1.toNat (0 : Int)).toNat dz35).2.1, (x0.getD (s1v.getD s8v.1.toNat (0 : Int)).toNat dz35).2.2.1, (x0.getD (s1v.getD s8v.1.toNat (0 : Int)).toNat dz35).2.2.2.1, (x0.getD (s1v.getD s8v.1.toNat (0 : Int)).toNat dz35).2.2.2.2.1, (x0.getD (s1v.getD s8v.1.toNat (0 : Int)).toNat dz35).2.2.2.2.2.1, (x0.getD (s1v.getD s8v.1.toNat (0 : Int)).toNat dz35).2.2.2.2.2.2.1, (x0.getD (s1v.getD s8v.1.toNat (0 : Int)).toNat dz35).2.2.2.2.2.2.2.1, (x0.getD (s1v.getD s8v.1.toNat (0 : Int)).toNat dz35).2.2.2.2.2.2.2.2.1, (x0.getD (s1v.getD s8v.1.toNat (0 : Int)).toNat dz35).2.2.2.2.2.2.2.2.2)] : List (Ty35))) γ.2.2, mapO b4v enc71 enc3 ([] : List ((Int × Bool × List UInt8) × (Int))), F]].getD j []) (fun γ => [(0, .slice a0 x0.length c0), (6, .slice y2v.1 s1v.length y2v.2), (7, .pointer (some ⟨b5v, 0, none⟩)), (19, .slice y2v.1 s1v.length y2v.2), (20, .int .i64 (s1v.length : Int)), (21, .int .i64 s8v.1)]) mixed (by decide) (by decide) (by decide) (by decide) (by decide) (by decide) (by decide) 61 rfl (by decide) (by decide) (by decide) (Ent.refl _) ?_ ?_ (fun _ => ⟨rfl, rfl, rfl, rfl, rfl, rfl, trivial⟩) ?_
 exact (All.cons (fun γ => (All.cons (QOb.plain [(7, .pointer (some ⟨b5v, 0, none⟩))] rfl rfl (.o rfl (by decide) .nil) (q_move rfl rfl) rfl) (All.cons (QOb.plain [(7, .pointer (some ⟨b5v, 0, none⟩))] rfl rfl (.o rfl (by decide) .nil) (q_move rfl rfl) rfl) (All.cons (QOb.plain [(7, .pointer (some ⟨b5v, 0, none⟩))] rfl rfl (.o rfl (by decide) .nil) (q_move rfl rfl) rfl) All.nil)))) (All.cons (fun γ => (All.cons (QOb.plain [(7, .pointer (some ⟨b5v, 0, none⟩))] rfl rfl (.o rfl (by decide) .nil) (q_move rfl rfl) rfl) (All.cons (QOb.plain [(7, .pointer (some ⟨b5v, 0, none⟩))] rfl rfl (.o rfl (by decide) .nil) (q_move rfl rfl) rfl) All.nil))) (All.cons (fun γ => (All.cons (QOb.plain [(26, .pointer (some ⟨b5v, 0, none⟩))] rfl rfl (.w 1 rfl rfl rfl .nil) (q_nil rfl rfl) rfl) (All.cons (QOb.plain [(26, .pointer (some ⟨b5v, 0, none⟩))] rfl rfl (.w 1 rfl rfl rfl .nil) (q_nil rfl rfl) rfl) All.nil))) (All.cons (fun γ => (All.cons (QOb.plain [(27, .pointer (some ⟨b5v, 0, none⟩))] rfl rfl (.w 2 rfl rfl rfl .nil) (q_fa rfl rfl Try.underlying68 rfl rfl Try.sizeOf22 rfl) rfl) (All.cons (QOb.plain [(27, .pointer (some ⟨b5v, 0, none⟩))] rfl rfl (.w 2 rfl rfl rfl .nil) (q_fa rfl rfl Try.underlying68 rfl rfl Try.sizeOf22 rfl) rfl) All.nil))) (All.cons (fun γ => (All.cons (QOb.plain [(28, .pointer (some ⟨b5v, 0, none⟩))] rfl rfl (.w 3 rfl rfl rfl .nil) (q_load rfl rfl Try.isAgg22 (.obj 0 rfl rfl)) rfl) (All.cons (QOb.plain [(28, .pointer (some ⟨b5v, 0, none⟩))] rfl rfl (.w 3 rfl rfl rfl .nil) (q_load rfl rfl Try.isAgg22 (.obj 1 rfl rfl)) rfl) All.nil))) (All.cons (fun γ => (All.cons (QOb.plain [(0, .slice a0 x0.length c0)] rfl rfl (.o rfl (by decide) .nil) (q_move rfl rfl) rfl) All.nil)) (All.cons (fun γ => (All.cons (QOb.plain [(9, .int .i64 (s1v.getD s8v.1.toNat (0 : Int)))] rfl rfl (.o rfl (by decide) .nil) (q_move rfl rfl) rfl) All.nil)) (All.cons (fun γ => (All.cons (QOb.plain [(30, .slice a0 x0.length c0), (31, .int .i64 (s1v.getD s8v.1.toNat (0 : Int)))] rfl rfl (.w 5 rfl rfl rfl (.w 6 rfl rfl rfl .nil)) (q_idx rfl rfl rfl ha28v Try.underlying22 Try.sizeOf35 hi26v.1 hi26v.2) rfl) All.nil)) (All.cons (fun γ => (All.cons (QOb.plain [(32, .pointer (some ⟨b27v, b27vo + (s1v.getD s8v.1.toNat (0 : Int)).toNat * 10, none⟩))] rfl rfl (.w 7 rfl rfl rfl .nil) (q_loads rfl rfl Try.isAgg35 Try.sizeOf35 rfl (fun j v hj => hcell33v 4 rfl j v hj)) rfl) All.nil)) (All.cons (fun γ => (All.cons (QOb.plain [(25, .pointer (some ⟨b5v, 0, none⟩))] rfl rfl (.w 0 rfl rfl rfl .nil) (q_nil rfl rfl) rfl) All.nil)) (All.cons (fun γ => (All.cons (QOb.plain [(36, .pointer (some ⟨b5v, 0, none⟩))] rfl rfl (.w 11 rfl rfl rfl .nil) (q_fa rfl rfl Try.underlying68 rfl rfl Try.sizeOf22 rfl) rfl) All.nil)) All.nil)))))))))))
 exact (All.cons (fun γ => EOb.mk (Z := Nat) [(33, .agg #[.int .i64 ((x0.getD (s1v.getD s8v.1.toNat (0 : Int)).toNat dz35).1), .int .i64 ((x0.getD (s1v.getD s8v.1.toNat (0 : Int)).toNat dz35).2.1), .int .i64 ((x0.getD (s1v.getD s8v.1.toNat (0 : Int)).toNat dz35).2.2.1), str ((x0.getD (s1v.getD s8v.1.toNat (0 : Int)).toNat dz35).2.2.2.1), str ((x0.getD (s1v.getD s8v.1.toNat (0 : Int)).toNat dz35).2.2.2.2.1), str ((x0.getD (s1v.getD s8v.1.toNat (0 : Int)).toNat dz35).2.2.2.2.2.1), .int .i64 ((x0.getD (s1v.getD s8v.1.toNat (0 : Int)).toNat dz35).2.2.2.2.2.2.1), .int .i64 ((x0.getD (s1v.getD s8v.1.toNat (0 : Int)).toNat dz35).2.2.2.2.2.2.2.1), .int .i64 ((x0.getD (s1v.getD s8v.1.toNat (0 : Int)).toNat dz35).2.2.2.2.2.2.2.2.1), str ((x0.getD (s1v.getD s8v.1.toNat (0 : Int)).toNat dz35).2.2.2.2.2.2.2.2.2)])] (fun z => (z, γ.2)) rfl rfl (.w 8 rfl rfl rfl .nil) (re_litV (V := (V35 tt)) (xs := ([((x0.getD (s1v.getD s8v.1.toNat (0 : Int)).toNat dz35).1, (x0.getD (s1v.getD s8v.1.toNat (0 : Int)).toNat dz35).2.1, (x0.getD (s1v.getD s8v.1.toNat (0 : Int)).toNat dz35).2.2.1, (x0.getD (s1v.getD s8v.1.toNat (0 : Int)).toNat dz35).2.2.2.1, (x0.getD (s1v.getD s8v.1.toNat (0 : Int)).toNat dz35).2.2.2.2.1, (x0.getD (s1v.getD s8v.1.toNat (0 : Int)).toNat dz35).2.2.2.2.2.1, (x0.getD (s1v.getD s8v.1.toNat (0 : Int)).toNat dz35).2.2.2.2.2.2.1, (x0.getD (s1v.getD s8v.1.toNat (0 : Int)).toNat dz35).2.2.2.2.2.2.2.1, (x0.getD (s1v.getD s8v.1.toNat (0 : Int)).toNat dz35).2.2.2.2.2.2.2.2.1, (x0.getD (s1v.getD s8v.1.toNat (0 : Int)).toNat dz35).2.2.2.2.2.2.2.2.2)] : List (Ty35))) [[.int .i64 ((x0.getD (s1v.getD s8v.1.toNat (0 : Int)).toNat dz35).1), .int .i64 ((x0.getD (s1v.getD s8v.1.toNat (0 : Int)).toNat dz35).2.1), .int .i64 ((x0.getD (s1v.getD s8v.1.toNat (0 : Int)).toNat dz35).2.2.1), str ((x0.getD (s1v.getD s8v.1.toNat (0 : Int)).toNat dz35).2.2.2.1), str ((x0.getD (s1v.getD s8v.1.toNat (0 : Int)).toNat dz35).2.2.2.2.1), str ((x0.getD (s1v.getD s8v.1.toNat (0 : Int)).toNat dz35).2.2.2.2.2.1), .int .i64 ((x0.getD (s1v.getD s8v.1.toNat (0 : Int)).toNat dz35).2.2.2.2.2.2.1), .int .i64 ((x0.getD (s1v.getD s8v.1.toNat (0 : Int)).toNat dz35).2.2.2.2.2.2.2.1), .int .i64 ((x0.getD (s1v.getD s8v.1.toNat (0 : Int)).toNat dz35).2.2.2.2.2.2.2.2.1), str ((x0.getD (s1v.getD s8v.1.toNat (0 : Int)).toNat dz35).2.2.2.2.2.2.2.2.2)]] rfl rfl Try.underlying22 elt35 rfl (by kernel_rfl) rfl hlb35v rfl rfl) (fun _ => ⟨rfl, rfl, rfl, rfl, rfl, rfl, rfl, rfl, rfl, trivial⟩) (fun _ => .inr rfl) (fun z => Ent.refl _)) (All.cons (fun γ => EOb.mk (Z := Option Addr × Nat) [(29, .slice y9v.1 s8v.2.length y9v.2), (34, .slice (some ⟨γ.1, 0, none⟩) (([((x0.getD (s1v.getD s8v.1.toNat (0 : Int)).toNat dz35).1, (x0.getD (s1v.getD s8v.1.toNat (0 : Int)).toNat dz35).2.1, (x0.getD (s1v.getD s8v.1.toNat (0 : Int)).toNat dz35).2.2.1, (x0.getD (s1v.getD s8v.1.toNat (0 : Int)).toNat dz35).2.2.2.1, (x0.getD (s1v.getD s8v.1.toNat (0 : Int)).toNat dz35).2.2.2.2.1, (x0.getD (s1v.getD s8v.1.toNat (0 : Int)).toNat dz35).2.2.2.2.2.1, (x0.getD (s1v.getD s8v.1.toNat (0 : Int)).toNat dz35).2.2.2.2.2.2.1, (x0.getD (s1v.getD s8v.1.toNat (0 : Int)).toNat dz35).2.2.2.2.2.2.2.1, (x0.getD (s1v.getD s8v.1.toNat (0 : Int)).toNat dz35).2.2.2.2.2.2.2.2.1, (x0.getD (s1v.getD s8v.1.toNat (0 : Int)).toNat dz35).2.2.2.2.2.2.2.2.2)] : List (Ty35)).length) 1)] (fun z => (γ.1, z)) rfl rfl (.w 4 rfl rfl rfl (.w 9 rfl rfl rfl .nil)) (re_appendV 3 rfl rfl rfl Try.underlying22 elt35 rfl hl25v (RdsV.row hlb35v 0 rfl) hb39v) (fun _ => ⟨rfl, rfl, rfl, rfl, rfl, rfl, rfl, rfl, rfl, rfl, trivial⟩) (fun _ => .inr rfl) (fun z => Ent.refl _)) (All.cons (fun γ => EOb.mk (Z := Unit) [(35, .slice γ.2.1 ((s8v.2 ++ ([((x0.getD (s1v.getD s8v.1.toNat (0 : Int)).toNat dz35).1, (x0.getD (s1v.getD s8v.1.toNat (0 : Int)).toNat dz35).2.1, (x0.getD (s1v.getD s8v.1.toNat (0 : Int)).toNat dz35).2.2.1, (x0.getD (s1v.getD s8v.1.toNat (0 : Int)).toNat dz35).2.2.2.1, (x0.getD (s1v.getD s8v.1.toNat (0 : Int)).toNat dz35).2.2.2.2.1, (x0.getD (s1v.getD s8v.1.toNat (0 : Int)).toNat dz35).2.2.2.2.2.1, (x0.getD (s1v.getD s8v.1.toNat (0 : Int)).toNat dz35).2.2.2.2.2.2.1, (x0.getD (s1v.getD s8v.1.toNat (0 : Int)).toNat dz35).2.2.2.2.2.2.2.1, (x0.getD (s1v.getD s8v.1.toNat (0 : Int)).toNat dz35).2.2.2.2.2.2.2.2.1, (x0.getD (s1v.getD s8v.1.toNat (0 : Int)).toNat dz35).2.2.2.2.2.2.2.2.2)] : List (Ty35))).length) γ.2.2), (37, .pointer (some ⟨b5v, 0, none⟩))] (fun z => (γ.1, γ.2)) rfl rfl (.w 10 rfl rfl rfl (.w 12 rfl rfl rfl .nil)) (re_store 1 rfl rfl rfl Try.sizeOf22 rfl rfl (one_of (by rfl)) rfl rfl) (fun _ => ⟨rfl, rfl, rfl, rfl, rfl, rfl, rfl, rfl, rfl, rfl, rfl, rfl, rfl, trivial⟩) (fun _ => .inl rfl) (fun z => Ent.refl _)) All.nil)))
 intro g40v
 refine nrm_block (nrm_then (sim_region ?_))
 refine simL_val (q_add rfl rfl rfl) rfl rfl rfl ?_
 refine simL_val (q_move rfl rfl) rfl rfl rfl (simL_nil ?_)
 exact nrm_again (s := (IntKind.i64.wrap (s8v.1 + 1), s8v.2 ++ ([((x0.getD (s1v.getD s8v.1.toNat (0 : Int)).toNat dz35).1, (x0.getD (s1v.getD s8v.1.toNat (0 : Int)).toNat dz35).2.1, (x0.getD (s1v.getD s8v.1.toNat (0 : Int)).toNat dz35).2.2.1, (x0.getD (s1v.getD s8v.1.toNat (0 : Int)).toNat dz35).2.2.2.1, (x0.getD (s1v.getD s8v.1.toNat (0 : Int)).toNat dz35).2.2.2.2.1, (x0.getD (s1v.getD s8v.1.toNat (0 : Int)).toNat dz35).2.2.2.2.2.1, (x0.getD (s1v.getD s8v.1.toNat (0 : Int)).toNat dz35).2.2.2.2.2.2.1, (x0.getD (s1v.getD s8v.1.toNat (0 : Int)).toNat dz35).2.2.2.2.2.2.2.1, (x0.getD (s1v.getD s8v.1.toNat (0 : Int)).toNat dz35).2.2.2.2.2.2.2.2.1, (x0.getD (s1v.getD s8v.1.toNat (0 : Int)).toNat dz35).2.2.2.2.2.2.2.2.2)] : List (Ty35)))) (g40v.2.1, g40v.2.2) ⟨rfl, rfl, rfl, rfl, rfl, rfl, trivial⟩ (.sel 1 rfl (.sel' 1 rfl (RowV.mk hl23v) (.sel 1 rfl (.sel 1 rfl (.sel 1 rfl (.nil _))))))
 refine sim_exi ?_
 refine exi_then ?_
 refine exi_loop ?_
 refine exi_here ?_
 exact nrm_cut (s := s8v.2) (y9v.1, y9v.2) ⟨rfl, rfl, trivial⟩ (.sel 0 rfl (.sel 0 rfl (.sel 0 rfl (.sel 0 rfl (.sel 0 rfl (.nil _))))))
 intro s6v y7v
 refine sim_seq (sim_seq (sim_region ?_))
 refine simL_val (q_move rfl rfl) rfl rfl rfl ?_
 refine simL_val (q_build (v := .agg #[.int .i64 0, .bool false, str ([] : List UInt8)]) rfl rfl (fun _ => by kernel_rfl)) rfl rfl rfl ?_
 refine simL_openV 2 rfl (fun rs41v hl42v => ?_)
 refine simL_bind (fun s47v hs49v => ?_)
 refine simL_lend 2 rfl (fun hq43v hq44v hq45v hq46v => ?_)
 refine simL_eff (re_call (vs := [.pointer (some ⟨b5v, 0, none⟩), .agg #[.int .i64 0, .bool false, str ([] : List UInt8)]]) (cap := []) (A := [obj b5v 68 [.slice y7v.1 s6v.length y7v.2, .map (some b4v), .slice none 0 0], mapO b4v enc71 enc3 ([] : List ((Int × Bool × List UInt8) × (Int))), RowV 3 1 (V3 tt) none ([] : List Int) 0]) (rst := [RowV 3 1 (V3 tt) y2v.1 s1v y2v.2, Row 35 10 y7v.1 s6v.length y7v.2 rs41v.flatten, F]) rfl rfl rfl rfl rfl rfl Try.call36 (.sel 0 rfl (.sel 2 rfl (.rowV_nil (.sel 0 rfl (.sel 0 rfl (.sel 0 rfl (.nil _))))))) (lin_search_from.calls _ _ k b5v y7v.1 y7v.2 s6v b4v ([] : List ((Int × Bool × List UInt8) × (Int))) none 0 ([] : List Int) (0 : Int) false ([] : List UInt8) ((Rd.asV hl42v hq43v).up (Up.lend 1 rfl) (fun _ _ h => h)) hq44v hq45v) hs49v) rfl rfl rfl ?_
 intro y48v
 refine simL_val (q_not rfl rfl) rfl rfl rfl (simL_nil (nrm_then ?_))
 refine sim_condb rfl (fun h50v => ?_) (fun h51v => ?_)
 refine sim_seq (sim_region ?_)
 refine simL_val (q_asg rfl rfl) rfl rfl rfl ?_
 refine simL_val (q_asg rfl rfl) rfl rfl rfl (simL_nil (nrm_then (sim_rtn ?_)))
 refine rtn_then ?_
 exact rtn_fn (none, 0) rfl rfl rfl (.rowV_nil (.sel 5 rfl (.nil _)))
 refine sim_skip ?_
 refine nrm_then (sim_seq (sim_region ?_))
 refine simL_val (q_asg rfl rfl) rfl rfl rfl (simL_nil (nrm_then ?_))
 refine sim_cut (S := List Int) (Option Addr × Nat) (fun s y => [(10, .slice y.1 s.length y.2)]) (fun s y => [RowV 3 1 (V3 tt) y.1 s y.2, F]) ?_ ?_
 refine sim_seq (sim_region ?_)
 refine simL_val (q_move rfl rfl) rfl rfl rfl ?_
 refine simL_val (q_nil rfl rfl) rfl rfl rfl ?_
 refine simL_val (q_fa rfl rfl Try.underlying68 rfl rfl Try.sizeOf39 rfl) rfl rfl rfl ?_
 refine simL_val (q_load rfl rfl Try.isAgg39 (.obj 0 rfl rfl)) rfl rfl rfl ?_
 refine simL_val (q_len rfl rfl rfl Try.underlying39) rfl rfl rfl ?_
 refine simL_val (q_move rfl rfl) rfl rfl rfl (simL_nil (nrm_then ?_))
 refine sim_block ?_
 refine sim_loop (S := List Int × Int) (Option Addr × Nat) (fun k s => lin_explain.l1 s1v s47v k s.1 s.2) (fun s y => [(6, .slice y2v.1 s1v.length y2v.2), (10, .slice y.1 s.1.length y.2), (46, .slice y48v.2.1 s47v.2.2.length y48v.2.2), (47, .int .i64 (s47v.2.2.length : Int)), (48, .int .i64 s.2)]) (fun s y => [RowV 3 1 (V3 tt) y2v.1 s1v y2v.2, RowV 3 1 (V3 tt) y.1 s.1 y.2, RowV 3 1 (V3 tt) y48v.2.1 s47v.2.2 y48v.2.2, F]) (fun _ => by rw [lin_explain.l1]) ?_ k (([] : List Int), 0) (none, 0) ⟨rfl, rfl, rfl, rfl, rfl, trivial⟩ (.sel 3 rfl (.rowV_nil (.sel 2 rfl (.sel 3 rfl (.nil _)))))
 intro k s54v y55v
 refine sim_eq (by rw [lin_explain.l1]) ?_
 refine sim_seq (sim_region ?_)
 refine simL_val (q_lss rfl rfl rfl) rfl rfl rfl (simL_nil (nrm_then (sim_seq ?_)))
 refine sim_cond rfl (fun h58v => ?_) (fun h59v => ?_)
 refine sim_skip ?_
 refine nrm_then (sim_seq ?_)
 refine sim_block ?_
 refine sim_seq (sim_region ?_)
 refine simL_openV 2 rfl (fun rs68v hl69v => ?_)
 refine simL_ask (fun hi60v => ?_)
 refine simL_posV 2 rfl hl69v rfl (i := s54v.2.toNat) (by omega) (0 : Int) (fun b61v b61vo r64v ha62v hV65v hlr66v hcell67v => ?_)
 obtain rfl := hV65v
 refine simL_val (q_idx rfl rfl rfl ha62v Try.underlying39 Try.sizeOf3 hi60v.1 hi60v.2) rfl rfl rfl ?_
 refine simL_val (q_load rfl rfl Try.isAgg3 (hcell67v 2 rfl 0 _ rfl)) rfl rfl rfl ?_
 refine simL_val (q_asg rfl rfl) rfl rfl rfl (simL_nil (nrm_then (sim_region ?_)))
 refine simL_val (q_move rfl rfl) rfl rfl rfl ?_
 refine simL_val (q_move rfl rfl) rfl rfl rfl ?_
 refine simL_val (q_move rfl rfl) rfl rfl rfl ?_
 refine simL_openV 0 rfl (fun rs78v hl79v => ?_)
 refine simL_ask (fun hi70v => ?_)
 refine simL_posV 0 rfl hl79v rfl (i := (s47v.2.2.getD s54v.2.toNat (0 : Int)).toNat) (by omega) (0 : Int) (fun b71v b71vo r74v ha72v hV75v hlr76v hcell77v => ?_)
 obtain rfl := hV75v
 refine simL_val (q_idx rfl rfl rfl ha72v Try.underlying39 Try.sizeOf3 hi70v.1 hi70v.2) rfl rfl rfl ?_
 refine simL_val (q_load rfl rfl Try.isAgg3 (hcell77v 0 rfl 0 _ rfl)) rfl rfl rfl ?_
 have hlb81v : ListV 1 (V3 tt) ([(s1v.getD (s47v.2.2.getD s54v.2.toNat (0 : Int)).toNat (0 : Int))] : List Int) [[.int .i64 (s1v.getD (s47v.2.2.getD s54v.2.toNat (0 : Int)).toNat (0 : Int))]] := ⟨⟨rfl, one_of (by rfl), rfl⟩, trivial⟩
 refine simL_eff (re_litV (V := (V3 tt)) (xs := ([(s1v.getD (s47v.2.2.getD s54v.2.toNat (0 : Int)).toNat (0 : Int))] : List Int)) [[.int .i64 (s1v.getD (s47v.2.2.getD s54v.2.toNat (0 : Int)).toNat (0 : Int))]] rfl rfl Try.underlying39 elt3 rfl (by kernel_rfl) rfl hlb81v rfl rfl) rfl rfl rfl ?_
 intro b81v
 refine simL_openV 2 rfl (fun rs86v hl87v => ?_)
 refine simL_ask (fun hb85v => ?_)
 refine simL_eff (re_appendV 2 rfl rfl rfl Try.underlying39 elt3 rfl hl87v (RdsV.row hlb81v 0 rfl) hb85v) rfl rfl rfl ?_
 intro y84v
 refine simL_val (q_asg rfl rfl) rfl rfl rfl (simL_nil (nrm_block (nrm_then (sim_region ?_))))
 refine simL_val (q_add rfl rfl rfl) rfl rfl rfl ?_
 refine simL_val (q_move rfl rfl) rfl rfl rfl (simL_nil ?_)
 exact nrm_again (s := (s54v.1 ++ ([(s1v.getD (s47v.2.2.getD s54v.2.toNat (0 : Int)).toNat (0 : Int))] : List Int), IntKind.i64.wrap (s54v.2 + 1))) (y84v.1, y84v.2) ⟨rfl, rfl, rfl, rfl, rfl, trivial⟩ (.sel' 1 rfl (RowV.mk hl79v) (.sel 1 rfl (.sel' 1 rfl (RowV.mk hl69v) (.sel 1 rfl (.nil _)))))
 refine sim_exi ?_
 refine exi_then ?_
 refine exi_loop ?_
 refine exi_here ?_
 exact nrm_cut (s := s54v.1) (y55v.1, y55v.2) ⟨rfl, trivial⟩ (.sel 1 rfl (.sel 2 rfl (.nil _)))
 intro s52v y53v
 refine sim_seq (sim_region ?_)
 refine simL_val (q_move rfl rfl) rfl rfl rfl ?_
 refine simL_val (q_asg rfl rfl) rfl rfl rfl ?_
 refine simL_val (q_asg rfl rfl) rfl rfl rfl (simL_nil (nrm_then (sim_rtn ?_)))
 exact rtn_fn (y53v.1, y53v.2) rfl rfl rfl (.sel 0 rfl (.sel 0 rfl (.nil _)))

def lin_Explain.f (k : Nat) (x0 : List (Ty35)) (x1 : List UInt8) : Option (List Int × Bool × Int) := (lin_Valid.f k x0).bind fun s1v => (if s1v = (0 : Int) then ((lin_explain.f k x0 x1).bind fun s6v => (some (s6v.1, s6v.2, 0))) else (some (([] : List Int), false, s1v)))
theorem lin_Explain.calls (W : World) (F : HA) (k : Nat) (a0 : Option Addr) (c0 : Nat) (x0 : List (Ty35)) (x1 : List UInt8) (h0 : RdV F 10 (V35 tt) a0 x0) (hc0 : x0.length ≤ c0) (hm0 : c0 ≤ maxLen) :
    Fn Try.prog W 23 [.slice a0 x0.length c0, str x1] [] F (lin_Explain.f k x0 x1) (fun (r : List Int × Bool × Int) (y : Option Addr × Nat) => .tuple #[.slice y.1 r.1.length y.2, .bool r.2.1, .int .i64 r.2.2]) (fun r y => [RowV 3 1 (V3 tt) y.1 r.1 y.2]) := by
 unfold lin_Explain.f
 refine fn_intro 23 Try.func23 rfl Try.ntmps23 rfl ?_
 refine sim_seq (sim_region ?_)
 refine simL_val (q_asg rfl rfl) rfl rfl rfl ?_
 refine simL_val (q_asg rfl rfl) rfl rfl rfl ?_
 refine simL_val (q_asg rfl rfl) rfl rfl rfl (simL_nil (nrm_then (sim_seq (sim_seq (sim_region ?_)))))
 refine simL_val (q_move rfl rfl) rfl rfl rfl ?_
 refine simL_bind (fun s1v hs3v => ?_)
 refine simL_eff (re_call (vs := [.slice a0 x0.length c0]) (cap := []) (A := []) (rst := [F]) rfl rfl rfl rfl rfl rfl Try.call13 (.sel 0 rfl (.nil _)) (lin_Valid.calls _ _ k a0 c0 x0 (h0.up (Up.lend 0 rfl) (fun _ _ h => h)) hc0 hm0) hs3v) rfl rfl rfl ?_
 intro y2v
 refine simL_val (q_asg rfl rfl) rfl rfl rfl (simL_nil (nrm_then (sim_seq (sim_region ?_))))
 refine simL_val (q_move rfl rfl) rfl rfl rfl ?_
 refine simL_val (q_neq rfl rfl rfl) rfl rfl rfl (simL_nil (nrm_then ?_))
 refine sim_condn rfl (fun h4v => ?_) (fun h5v => ?_)
 refine sim_skip ?_
 refine nrm_then (sim_seq (sim_region ?_))
 refine simL_val (q_move rfl rfl) rfl rfl rfl ?_
 refine simL_val (q_move rfl rfl) rfl rfl rfl ?_
 refine simL_bind (fun s6v hs8v => ?_)
 refine simL_eff (re_call (vs := [.slice a0 x0.length c0, str x1]) (cap := []) (A := []) (rst := [F]) rfl rfl rfl rfl rfl rfl Try.call32 (.sel 0 rfl (.nil _)) (lin_explain.calls _ _ k a0 c0 x0 x1 (h0.up (Up.lend 0 rfl) (fun _ _ h => h)) hc0 hm0) hs8v) rfl rfl rfl ?_
 intro y7v
 refine simL_val (q_move rfl rfl) rfl rfl rfl ?_
 refine simL_val (q_ext rfl rfl rfl) rfl rfl rfl ?_
 refine simL_val (q_ext rfl rfl rfl) rfl rfl rfl ?_
 refine simL_val (q_asg rfl rfl) rfl rfl rfl ?_
 refine simL_val (q_asg rfl rfl) rfl rfl rfl (simL_nil (nrm_then (sim_seq (sim_region ?_))))
 refine simL_val (q_move rfl rfl) rfl rfl rfl ?_
 refine simL_val (q_move rfl rfl) rfl rfl rfl ?_
 refine simL_val (q_asg rfl rfl) rfl rfl rfl ?_
 refine simL_val (q_asg rfl rfl) rfl rfl rfl ?_
 refine simL_val (q_asg rfl rfl) rfl rfl rfl (simL_nil (nrm_then (sim_rtn ?_)))
 exact rtn_fn (y7v.1, y7v.2) rfl rfl rfl (.sel 0 rfl (.sel 0 rfl (.nil _)))
 refine sim_seq (sim_region ?_)
 refine simL_val (q_move rfl rfl) rfl rfl rfl ?_
 refine simL_val (q_asg rfl rfl) rfl rfl rfl ?_
 refine simL_val (q_asg rfl rfl) rfl rfl rfl ?_
 refine simL_val (q_asg rfl rfl) rfl rfl rfl (simL_nil (nrm_then (sim_rtn ?_)))
 refine rtn_then ?_
 exact rtn_fn (none, 0) rfl rfl rfl (.rowV_nil (.sel 0 rfl (.nil _)))

def lin_Check.l0 (x0 : List (Ty35)) (s8v : List (List UInt8)) : Nat → Int → Option ((Unit) ⊕ (Bool × Int))
  | 0, _ => none
  | k + 1, z13v => if z13v < (s8v.length : Int) then (if 0 ≤ z13v ∧ z13v < (s8v.length : Int) then ((lin_explain.f k x0 (s8v.getD z13v.toNat ([] : List UInt8))).bind fun s26v => (if (!s26v.2) = true then (some (.inr (false, 0))) else (lin_Check.l0 x0 s8v k (IntKind.i64.wrap (z13v + 1))))) else none) else (some (.inl ()))
def lin_Check.f (k : Nat) (x0 : List (Ty35)) : Option (Bool × Int) := (lin_Valid.f k x0).bind fun s1v => (if s1v = (0 : Int) then (orR ((lin_Keys.f k x0).bind fun s8v => (lin_Check.l0 x0 s8v k 0)) fun s6v => (some (true, 0))) else (some (false, s1v)))
theorem lin_Check.calls (W : World) (F : HA) (k : Nat) (a0 : Option Addr) (c0 : Nat) (x0 : List (Ty35)) (h0 : RdV F 10 (V35 tt) a0 x0) (hc0 : x0.length ≤ c0) (hm0 : c0 ≤ maxLen) :
    Fn Try.prog W 14 [.slice a0 x0.length c0] [] F (lin_Check.f k x0) (fun (r : Bool × Int) (y : Unit) => .tuple #[.bool r.1, .int .i64 r.2]) (fun r y => []) := by
 unfold lin_Check.f
 refine fn_intro 30 Try.func14 rfl Try.ntmps14 rfl ?_
 refine sim_seq (sim_region ?_)
 refine simL_val (q_asg rfl rfl) rfl rfl rfl ?_
 refine simL_val (q_asg rfl rfl) rfl rfl rfl (simL_nil (nrm_then (sim_seq (sim_seq (sim_region ?_)))))
 refine simL_val (q_move rfl rfl) rfl rfl rfl ?_
 refine simL_bind (fun s1v hs3v => ?_)
 refine simL_eff (re_call (vs := [.slice a0 x0.length c0]) (cap := []) (A := []) (rst := [F]) rfl rfl rfl rfl rfl rfl Try.call13 (.sel 0 rfl (.nil _)) (lin_Valid.calls _ _ k a0 c0 x0 (h0.up (Up.lend 0 rfl) (fun _ _ h => h)) hc0 hm0) hs3v) rfl rfl rfl ?_
 intro y2v
 refine simL_val (q_asg rfl rfl) rfl rfl rfl (simL_nil (nrm_then (sim_seq (sim_region ?_))))
 refine simL_val (q_move rfl rfl) rfl rfl rfl ?_
 refine simL_val (q_neq rfl rfl rfl) rfl rfl rfl (simL_nil (nrm_then ?_))
 refine sim_condn rfl (fun h4v => ?_) (fun h5v => ?_)
 refine sim_skip ?_
 refine nrm_then ?_
 refine sim_cutR (S := Unit) (Unit) (fun s y => []) (fun s y => [F]) ?_ ?_
 refine sim_seq (sim_region ?_)
 refine simL_val (q_move rfl rfl) rfl rfl rfl ?_
 refine simL_bind (fun s8v hs10v => ?_)
 refine simL_eff (re_call (vs := [.slice a0 x0.length c0]) (cap := []) (A := []) (rst := [F]) rfl rfl rfl rfl rfl rfl Try.call15 (.sel 0 rfl (.nil _)) (lin_Keys.calls _ _ k a0 c0 x0 (h0.up (Up.lend 0 rfl) (fun _ _ h => h)) hc0 hm0) hs10v) rfl rfl rfl ?_
 intro y9v
 refine simL_val (q_len rfl rfl rfl Try.underlying29) rfl rfl rfl ?_
 refine simL_val (q_move rfl rfl) rfl rfl rfl (simL_nil (nrm_then ?_))
 refine sim_block ?_
 refine sim_loop (S := Int) (Unit) (fun k s => lin_Check.l0 x0 s8v k s) (fun s y => [(0, .slice a0 x0.length c0), (15, .slice y9v.1 s8v.length y9v.2), (16, .int .i64 (s8v.length : Int)), (17, .int .i64 s)]) (fun s y => [RowV 9 1 (V9 tt) y9v.1 s8v y9v.2, F]) (fun _ => by rw [lin_Check.l0]) ?_ k 0 () ⟨rfl, rfl, rfl, rfl, trivial⟩ (.sel 0 rfl (.sel 0 rfl (.nil _)))
 intro k s11v y12v
 refine sim_eq (by rw [lin_Check.l0]) ?_
 refine sim_seq (sim_region ?_)
 refine simL_val (q_lss rfl rfl rfl) rfl rfl rfl (simL_nil (nrm_then (sim_seq ?_)))
 refine sim_cond rfl (fun h14v => ?_) (fun h15v => ?_)
 refine sim_skip ?_
 refine nrm_then (sim_seq ?_)
 refine sim_block ?_
 refine sim_seq (sim_region ?_)
 refine simL_openV 0 rfl (fun rs24v hl25v => ?_)
 refine simL_ask (fun hi16v => ?_)
 refine simL_posV 0 rfl hl25v rfl (i := s11v.toNat) (by omega) ([] : List UInt8) (fun b17v b17vo r20v ha18v hV21v hlr22v hcell23v => ?_)
 obtain rfl := hV21v
 refine simL_val (q_idx rfl rfl rfl ha18v Try.underlying29 Try.sizeOf9 hi16v.1 hi16v.2) rfl rfl rfl ?_
 refine simL_val (q_load rfl rfl Try.isAgg9 (hcell23v 0 rfl 0 _ rfl)) rfl rfl rfl ?_
 refine simL_val (q_asg rfl rfl) rfl rfl rfl (simL_nil (nrm_then (sim_seq (sim_region ?_))))
 refine simL_val (q_move rfl rfl) rfl rfl rfl ?_
 refine simL_val (q_move rfl rfl) rfl rfl rfl ?_
 refine simL_bind (fun s26v hs28v => ?_)
 refine simL_eff (re_call (vs := [.slice a0 x0.length c0, str (s8v.getD s11v.toNat ([] : List UInt8))]) (cap := []) (A := []) (rst := [Row 9 1 y9v.1 s8v.length y9v.2 rs24v.flatten, F]) rfl rfl rfl rfl rfl rfl Try.call32 (.sel 0 rfl (.sel 0 rfl (.nil _))) (lin_explain.calls _ _ k a0 c0 x0 (s8v.getD s11v.toNat ([] : List UInt8)) (h0.up (Up.lend 1 rfl) (fun _ _ h => h)) hc0 hm0) hs28v) rfl rfl rfl ?_
 intro y27v
 refine simL_val (q_move rfl rfl) rfl rfl rfl ?_
 refine simL_val (q_ext rfl rfl rfl) rfl rfl rfl ?_
 refine simL_val (q_ext rfl rfl rfl) rfl rfl rfl ?_
 refine simL_val (q_asg rfl rfl) rfl rfl rfl ?_
 refine simL_val (q_asg rfl rfl) rfl rfl rfl (simL_nil (nrm_then (sim_seq (sim_region ?_))))
 refine simL_val (q_move rfl rfl) rfl rfl rfl ?_
 refine simL_val (q_not rfl rfl) rfl rfl rfl (simL_nil (nrm_then ?_))
 refine sim_condb rfl (fun h29v => ?_) (fun h30v => ?_)
 refine sim_seq (sim_region ?_)
 refine simL_val (q_asg rfl rfl) rfl rfl rfl ?_
 refine simL_val (q_asg rfl rfl) rfl rfl rfl (simL_nil (nrm_then (sim_rtn ?_)))
 refine rtn_block ?_
 refine rtn_then ?_
 refine rtn_loop ?_
 refine rtn_block ?_
 refine rtn_cutR ?_
 exact rtn_fn () rfl rfl rfl (.sel 2 rfl (.nil _))
 refine sim_skip ?_
 refine nrm_block (nrm_then (sim_region ?_))
 refine simL_val (q_add rfl rfl rfl) rfl rfl rfl ?_
 refine simL_val (q_move rfl rfl) rfl rfl rfl (simL_nil ?_)
 exact nrm_again (s := IntKind.i64.wrap (s11v + 1)) () ⟨rfl, rfl, rfl, rfl, trivial⟩ (.sel' 1 rfl (RowV.mk hl25v) (.sel 1 rfl (.nil _)))
 refine sim_exi ?_
 refine exi_then ?_
 refine exi_loop ?_
 refine exi_here ?_
 exact nrm_cutR (s := ()) () trivial (.sel 1 rfl (.nil _))
 intro s6v y7v
 refine sim_seq (sim_region ?_)
 refine simL_val (q_asg rfl rfl) rfl rfl rfl ?_
 refine simL_val (q_asg rfl rfl) rfl rfl rfl (simL_nil (nrm_then (sim_rtn ?_)))
 exact rtn_fn () rfl rfl rfl (.sel 0 rfl (.nil _))
 refine sim_seq (sim_region ?_)
 refine simL_val (q_move rfl rfl) rfl rfl rfl ?_
 refine simL_val (q_asg rfl rfl) rfl rfl rfl ?_
 refine simL_val (q_asg rfl rfl) rfl rfl rfl (simL_nil (nrm_then (sim_rtn ?_)))
 refine rtn_then ?_
 exact rtn_fn () rfl rfl rfl (.sel 0 rfl (.nil _))

def synodref_Num.f (x0 : Int) : Option (Int) := some x0
theorem synodref_Num.calls (W : World) (F : HA) (x0 : Int)  :
    Fn Try.prog W 21 [.int .i64 x0] [] F (synodref_Num.f x0) (fun (r : Int) (y : Unit) => .int .i64 r) (fun r y => []) := by
 unfold synodref_Num.f
 refine fn_intro 4 Try.func21 rfl Try.ntmps21 rfl ?_
 refine sim_seq (sim_region ?_)
 refine simL_val (q_asg rfl rfl) rfl rfl rfl (simL_nil (nrm_then (sim_seq (sim_region ?_))))
 refine simL_val (q_move rfl rfl) rfl rfl rfl ?_
 refine simL_val (q_asg rfl rfl) rfl rfl rfl (simL_nil (nrm_then (sim_rtn ?_)))
 exact rtn_fn () rfl rfl rfl (.sel 0 rfl (.nil _))
def synodref_Num.v (x0 : Int) : Int := (synodref_Num.f x0).getD 0
theorem synodref_Num.tot (x0 : Int) : synodref_Num.f x0 = some (synodref_Num.v x0) := by
  have h : ∃ r, synodref_Num.f x0 = some r := by
    unfold synodref_Num.f
    repeat' (first | exact ⟨_, rfl⟩ | split | simp only [Option.bind_some])
  obtain ⟨r, h⟩ := h
  unfold synodref_Num.v
  rw [h]; rfl

def synodref_SameInts.l0 (x0 : List Int) (x1 : List Int) : Nat → Int → Option ((Unit) ⊕ (Bool))
  | 0, _ => none
  | k + 1, z7v => if z7v < (x0.length : Int) then (if 0 ≤ z7v ∧ z7v < (x0.length : Int) then (if 0 ≤ z7v ∧ z7v < (x1.length : Int) then (if (x0.getD z7v.toNat (0 : Int)) = (x1.getD z7v.toNat (0 : Int)) then (synodref_SameInts.l0 x0 x1 k (IntKind.i64.wrap (z7v + 1))) else (some (.inr false))) else none) else none) else (some (.inl ()))
def synodref_SameInts.f (k : Nat) (x0 : List Int) (x1 : List Int) : Option (Bool) := if (x0.length : Int) = (x1.length : Int) then (orR (synodref_SameInts.l0 x0 x1 k 0) fun s3v => (some true)) else (some false)
theorem synodref_SameInts.calls (W : World) (F : HA) (k : Nat) (a0 : Option Addr) (c0 : Nat) (x0 : List Int) (a1 : Option Addr) (c1 : Nat) (x1 : List Int) (h0 : RdV F 1 (V3 tt) a0 x0) (hc0 : x0.length ≤ c0) (hm0 : c0 ≤ maxLen) (h1 : RdV F 1 (V3 tt) a1 x1) (hc1 : x1.length ≤ c1) (hm1 : c1 ≤ maxLen) :
    Fn Try.prog W 25 [.slice a0 x0.length c0, .slice a1 x1.length c1] [] F (synodref_SameInts.f k x0 x1) (fun (r : Bool) (y : Unit) => .bool r) (fun r y => []) := by
 unfold synodref_SameInts.f
 refine fn_intro 26 Try.func25 rfl Try.ntmps25 rfl ?_
 refine sim_seq (sim_region ?_)
 refine simL_val (q_asg rfl rfl) rfl rfl rfl (simL_nil (nrm_then (sim_seq (sim_seq (sim_region ?_)))))
 refine simL_val (q_move rfl rfl) rfl rfl rfl ?_
 refine simL_val (q_len rfl rfl rfl Try.underlying39) rfl rfl rfl ?_
 refine simL_val (q_move rfl rfl) rfl rfl rfl ?_
 refine simL_val (q_len rfl rfl rfl Try.underlying39) rfl rfl rfl ?_
 refine simL_val (q_neq rfl rfl rfl) rfl rfl rfl (simL_nil (nrm_then ?_))
 refine sim_condn rfl (fun h1v => ?_) (fun h2v => ?_)
 refine sim_skip ?_
 refine nrm_then ?_
 refine sim_cutR (S := Unit) (Unit) (fun s y => []) (fun s y => [F]) ?_ ?_
 refine sim_seq (sim_region ?_)
 refine simL_val (q_asg rfl rfl) rfl rfl rfl (simL_nil (nrm_then ?_))
 refine sim_block ?_
 refine sim_loop (S := Int) (Unit) (fun k s => synodref_SameInts.l0 x0 x1 k s) (fun s y => [(0, .slice a0 x0.length c0), (1, .slice a1 x1.length c1), (5, .int .i64 s)]) (fun s y => [F]) (fun _ => by rw [synodref_SameInts.l0]) ?_ k 0 () ⟨rfl, rfl, rfl, trivial⟩ (.sel 0 rfl (.nil _))
 intro k s5v y6v
 refine sim_eq (by rw [synodref_SameInts.l0]) ?_
 refine sim_seq (sim_seq (sim_region ?_))
 refine simL_val (q_move rfl rfl) rfl rfl rfl ?_
 refine simL_val (q_move rfl rfl) rfl rfl rfl ?_
 refine simL_val (q_len rfl rfl rfl Try.underlying39) rfl rfl rfl ?_
 refine simL_val (q_lss rfl rfl rfl) rfl rfl rfl (simL_nil (nrm_then ?_))
 refine sim_cond rfl (fun h8v => ?_) (fun h9v => ?_)
 refine sim_skip ?_
 refine nrm_then (sim_seq ?_)
 refine sim_block ?_
 refine sim_seq ?_
 refine sim_ask (fun hi10v => ?_)
 obtain ⟨b11v, b11vo, r14v, ha12v, hV15v, hlr16v, hcell17v⟩ := RdV.pos h0 (Up.refl _) rfl (i := s5v.toNat) (by omega) (0 : Int)
 obtain rfl := hV15v
 refine sim_ask (fun hi18v => ?_)
 obtain ⟨b19v, b19vo, r22v, ha20v, hV23v, hlr24v, hcell25v⟩ := RdV.pos h1 (Up.refl _) rfl (i := s5v.toNat) (by omega) (0 : Int)
 obtain rfl := hV23v
 refine sim_draw (Γ := Unit) () [[], [], [0, 1], [0, 1, 2], [], [], [4, 5], [4, 5, 6], [0, 1, 2, 3, 4, 5, 6, 7]] [] [0, 1, 2, 3, 4, 5, 6, 7, 8] (fun i => [[0], [0], [0], [0], [0], [0], [0], [0], [0]].getD i []) (fun i => [[], [], [], [], [], [], [], [], []].getD i []) (fun γ i => [.slice a0 x0.length c0, .int .i64 s5v, .pointer (some ⟨b11v, b11vo + s5v.toNat * 1, none⟩), .int .i64 (x0.getD s5v.toNat (0 : Int)), .slice a1 x1.length c1, .int .i64 s5v, .pointer (some ⟨b19v, b19vo + s5v.toNat * 1, none⟩), .int .i64 (x1.getD s5v.toNat (0 : Int)), .bool (!decide ((x0.getD s5v.toNat (0 : Int)) = (x1.getD s5v.toNat (0 : Int))))].getD i undef) (fun j γ => [[F]].getD j []) (fun γ => [(0, .slice a0 x0.length c0), (1, .slice a1 x1.length c1), (5, .int .i64 s5v), (25, .bool (!decide ((x0.getD s5v.toNat (0 : Int)) = (x1.getD s5v.toNat (0 : Int)))))]) mixed (by decide) (by decide) (by decide) (by decide) (by decide) (by decide) (by decide) 26 rfl (by decide) (by decide) (by decide) (Ent.refl _) ?_ ?_ (fun _ => ⟨rfl, rfl, rfl, rfl, trivial⟩) ?_
 exact (All.cons (fun γ => (All.cons (QOb.plain [(0, .slice a0 x0.length c0)] rfl rfl (.o rfl (by decide) .nil) (q_move rfl rfl) rfl) All.nil)) (All.cons (fun γ => (All.cons (QOb.plain [(5, .int .i64 s5v)] rfl rfl (.o rfl (by decide) .nil) (q_move rfl rfl) rfl) All.nil)) (All.cons (fun γ => (All.cons (QOb.plain [(17, .slice a0 x0.length c0), (18, .int .i64 s5v)] rfl rfl (.w 0 rfl rfl rfl (.w 1 rfl rfl rfl .nil)) (q_idx rfl rfl rfl ha12v Try.underlying39 Try.sizeOf3 hi10v.1 hi10v.2) rfl) All.nil)) (All.cons (fun γ => (All.cons (QOb.plain [(19, .pointer (some ⟨b11v, b11vo + s5v.toNat * 1, none⟩))] rfl rfl (.w 2 rfl rfl rfl .nil) (q_load rfl rfl Try.isAgg3 (hcell17v 0 rfl 0 _ rfl)) rfl) All.nil)) (All.cons (fun γ => (All.cons (QOb.plain [(1, .slice a1 x1.length c1)] rfl rfl (.o rfl (by decide) .nil) (q_move rfl rfl) rfl) All.nil)) (All.cons (fun γ => (All.cons (QOb.plain [(5, .int .i64 s5v)] rfl rfl (.o rfl (by decide) .nil) (q_move rfl rfl) rfl) All.nil)) (All.cons (fun γ => (All.cons (QOb.plain [(21, .slice a1 x1.length c1), (22, .int .i64 s5v)] rfl rfl (.w 4 rfl rfl rfl (.w 5 rfl rfl rfl .nil)) (q_idx rfl rfl rfl ha20v Try.underlying39 Try.sizeOf3 hi18v.1 hi18v.2) rfl) All.nil)) (All.cons (fun γ => (All.cons (QOb.plain [(23, .pointer (some ⟨b19v, b19vo + s5v.toNat * 1, none⟩))] rfl rfl (.w 6 rfl rfl rfl .nil) (q_load rfl rfl Try.isAgg3 (hcell25v 0 rfl 0 _ rfl)) rfl) All.nil)) (All.cons (fun γ => (All.cons (QOb.plain [(20, .int .i64 (x0.getD s5v.toNat (0 : Int))), (24, .int .i64 (x1.getD s5v.toNat (0 : Int)))] rfl rfl (.w 3 rfl rfl rfl (.w 7 rfl rfl rfl .nil)) (q_neq rfl rfl rfl) rfl) All.nil)) All.nil)))))))))
 exact All.nil
 intro g26v
 refine nrm_then ?_
 refine sim_condn rfl (fun h27v => ?_) (fun h28v => ?_)
 refine sim_skip ?_
 refine nrm_block (nrm_then (sim_region ?_))
 refine simL_val (q_move rfl rfl) rfl rfl rfl ?_
 refine simL_val (q_add rfl rfl rfl) rfl rfl rfl ?_
 refine simL_val (q_asg rfl rfl) rfl rfl rfl (simL_nil ?_)
 exact nrm_again (s := IntKind.i64.wrap (s5v + 1)) () ⟨rfl, rfl, rfl, trivial⟩ (.sel 0 rfl (.nil _))
 refine sim_seq (sim_region ?_)
 refine simL_val (q_asg rfl rfl) rfl rfl rfl (simL_nil (nrm_then (sim_rtn ?_)))
 refine rtn_block ?_
 refine rtn_then ?_
 refine rtn_loop ?_
 refine rtn_block ?_
 refine rtn_cutR ?_
 exact rtn_fn () rfl rfl rfl (.sel 0 rfl (.nil _))
 refine sim_exi ?_
 refine exi_then ?_
 refine exi_loop ?_
 refine exi_here ?_
 exact nrm_cutR (s := ()) () trivial (.sel 0 rfl (.nil _))
 intro s3v y4v
 refine sim_seq (sim_region ?_)
 refine simL_val (q_asg rfl rfl) rfl rfl rfl (simL_nil (nrm_then (sim_rtn ?_)))
 exact rtn_fn () rfl rfl rfl (.sel 0 rfl (.nil _))
 refine sim_seq (sim_region ?_)
 refine simL_val (q_asg rfl rfl) rfl rfl rfl (simL_nil (nrm_then (sim_rtn ?_)))
 refine rtn_then ?_
 exact rtn_fn () rfl rfl rfl (.sel 0 rfl (.nil _))

def synodlaw16_first.f (k : Nat)  : Option (Bool) := (lin_Explain.f k ([((0 : Int), (0 : Int), (2 : Int), ([97] : List UInt8), ([120] : List UInt8), ([] : List UInt8), (1 : Int), (5 : Int), (1 : Int), ([] : List UInt8)), ((0 : Int), (0 : Int), (1 : Int), ([97] : List UInt8), ([] : List UInt8), ([] : List UInt8), (2 : Int), (3 : Int), (2 : Int), ([] : List UInt8)), ((0 : Int), (0 : Int), (1 : Int), ([97] : List UInt8), ([] : List UInt8), ([] : List UInt8), (4 : Int), (6 : Int), (1 : Int), ([120] : List UInt8))] : List (Ty35)) ([97] : List UInt8)).bind fun s10v => ((lin_Check.f k ([((0 : Int), (0 : Int), (2 : Int), ([97] : List UInt8), ([120] : List UInt8), ([] : List UInt8), (1 : Int), (5 : Int), (1 : Int), ([] : List UInt8)), ((0 : Int), (0 : Int), (1 : Int), ([97] : List UInt8), ([] : List UInt8), ([] : List UInt8), (6 : Int), (7 : Int), (2 : Int), ([] : List UInt8))] : List (Ty35))).bind fun s19v => ((if s10v.2.1 = true then ((synodref_Num.f s10v.2.2).bind fun s24v => (some (decide (s24v = (0 : Int))))) else (some false)).bind fun s22v => ((if s22v = true then ((synodref_SameInts.f k s10v.1 ([(1 : Int), (0 : Int), (2 : Int)] : List Int)).bind fun s43v => (some s43v)) else (some false)).bind fun s29v => ((if (s29v && (!s19v.1)) = true then ((synodref_Num.f s19v.2).bind fun s50v => (some (decide (s50v = (0 : Int))))) else (some false)).bind fun s48v => (some s48v)))))
theorem synodlaw16_first.calls (W : World) (F : HA) (k : Nat)   :
    Fn Try.prog W 11 [] [] F (synodlaw16_first.f k ) (fun (r : Bool) (y : Unit) => .bool r) (fun r y => []) := by
 unfold synodlaw16_first.f
 refine fn_intro 52 Try.func11 rfl Try.ntmps11 rfl ?_
 refine sim_seq (sim_region ?_)
 refine simL_val (q_asg rfl rfl) rfl rfl rfl (simL_nil (nrm_then (sim_seq (sim_region ?_))))
 refine simL_val (q_build (v := .agg #[.int .i64 1, str ([] : List UInt8)]) rfl rfl (fun _ => by kernel_rfl)) rfl rfl rfl ?_
 refine simL_val (q_build (v := .agg #[.int .i64 0, .int .i64 0, .int .i64 2, str ([97] : List UInt8), str ([120] : List UInt8), str ([] : List UInt8), .int .i64 1, .int .i64 5, .int .i64 1, str ([] : List UInt8)]) rfl rfl (fun _ => by kernel_rfl)) rfl rfl rfl ?_
 refine simL_eff (re_alloc rfl Try.zeroValue35 rfl) rfl rfl rfl ?_
 intro b1v
 refine simL_do (re_store 0 rfl rfl rfl Try.sizeOf35 rfl rfl (one_of (by rfl)) rfl rfl) rfl rfl ?_
 intro _
 refine simL_ent (H' := [obj b1v 35 [.int .i64 0, .int .i64 0, .int .i64 2, str ([97] : List UInt8), str ([120] : List UInt8), str ([] : List UInt8), .int .i64 1, .int .i64 5, .int .i64 1, str ([] : List UInt8)], F]) (Ent.refl _) ?_
 refine simL_nil (nrm_then (sim_seq (sim_region ?_)))
 refine simL_val (q_build (v := .agg #[.int .i64 2, str ([] : List UInt8)]) rfl rfl (fun _ => by kernel_rfl)) rfl rfl rfl ?_
 refine simL_val (q_build (v := .agg #[.int .i64 0, .int .i64 0, .int .i64 1, str ([97] : List UInt8), str ([] : List UInt8), str ([] : List UInt8), .int .i64 2, .int .i64 3, .int .i64 2, str ([] : List UInt8)]) rfl rfl (fun _ => by kernel_rfl)) rfl rfl rfl ?_
 refine simL_eff (re_alloc rfl Try.zeroValue35 rfl) rfl rfl rfl ?_
 intro b2v
 refine simL_do (re_store 0 rfl rfl rfl Try.sizeOf35 rfl rfl (one_of (by rfl)) rfl rfl) rfl rfl ?_
 intro _
 refine simL_ent (H' := [obj b2v 35 [.int .i64 0, .int .i64 0, .int .i64 1, str ([97] : List UInt8), str ([] : List UInt8), str ([] : List UInt8), .int .i64 2, .int .i64 3, .int .i64 2, str ([] : List UInt8)], obj b1v 35 [.int .i64 0, .int .i64 0, .int .i64 2, str ([97] : List UInt8), str ([120] : List UInt8), str ([] : List UInt8), .int .i64 1, .int .i64 5, .int .i64 1, str ([] : List UInt8)], F]) (Ent.refl _) ?_
 refine simL_nil (nrm_then (sim_seq (sim_region ?_)))
 refine simL_val (q_build (v := .agg #[.int .i64 1, str ([120] : List UInt8)]) rfl rfl (fun _ => by kernel_rfl)) rfl rfl rfl ?_
 refine simL_val (q_build (v := .agg #[.int .i64 0, .int .i64 0, .int .i64 1, str ([97] : List UInt8), str ([] : List UInt8), str ([] : List UInt8), .int .i64 4, .int .i64 6, .int .i64 1, str ([120] : List UInt8)]) rfl rfl (fun _ => by kernel_rfl)) rfl rfl rfl ?_
 refine simL_eff (re_alloc rfl Try.zeroValue35 rfl) rfl rfl rfl ?_
 intro b3v
 refine simL_do (re_store 0 rfl rfl rfl Try.sizeOf35 rfl rfl (one_of (by rfl)) rfl rfl) rfl rfl ?_
 intro _
 refine simL_ent (H' := [obj b3v 35 [.int .i64 0, .int .i64 0, .int .i64 1, str ([97] : List UInt8), str ([] : List UInt8), str ([] : List UInt8), .int .i64 4, .int .i64 6, .int .i64 1, str ([120] : List UInt8)], obj b2v 35 [.int .i64 0, .int .i64 0, .int .i64 1, str ([97] : List UInt8), str ([] : List UInt8), str ([] : List UInt8), .int .i64 2, .int .i64 3, .int .i64 2, str ([] : List UInt8)], obj b1v 35 [.int .i64 0, .int .i64 0, .int .i64 2, str ([97] : List UInt8), str ([120] : List UInt8), str ([] : List UInt8), .int .i64 1, .int .i64 5, .int .i64 1, str ([] : List UInt8)], F]) (Ent.refl _) ?_
 refine simL_nil (nrm_then (sim_seq (sim_region ?_)))
 refine simL_val (q_loado 2 rfl rfl Try.isAgg35 Try.sizeOf35 rfl rfl) rfl rfl rfl ?_
 refine simL_val (q_loado 1 rfl rfl Try.isAgg35 Try.sizeOf35 rfl rfl) rfl rfl rfl ?_
 refine simL_val (q_loado 0 rfl rfl Try.isAgg35 Try.sizeOf35 rfl rfl) rfl rfl rfl ?_
 have hlb5v : ListV 10 (V35 tt) ([((0 : Int), (0 : Int), (2 : Int), ([97] : List UInt8), ([120] : List UInt8), ([] : List UInt8), (1 : Int), (5 : Int), (1 : Int), ([] : List UInt8)), ((0 : Int), (0 : Int), (1 : Int), ([97] : List UInt8), ([] : List UInt8), ([] : List UInt8), (2 : Int), (3 : Int), (2 : Int), ([] : List UInt8)), ((0 : Int), (0 : Int), (1 : Int), ([97] : List UInt8), ([] : List UInt8), ([] : List UInt8), (4 : Int), (6 : Int), (1 : Int), ([120] : List UInt8))] : List (Ty35)) [[.int .i64 0, .int .i64 0, .int .i64 2, str ([97] : List UInt8), str ([120] : List UInt8), str ([] : List UInt8), .int .i64 1, .int .i64 5, .int .i64 1, str ([] : List UInt8)], [.int .i64 0, .int .i64 0, .int .i64 1, str ([97] : List UInt8), str ([] : List UInt8), str ([] : List UInt8), .int .i64 2, .int .i64 3, .int .i64 2, str ([] : List UInt8)], [.int .i64 0, .int .i64 0, .int .i64 1, str ([97] : List UInt8), str ([] : List UInt8), str ([] : List UInt8), .int .i64 4, .int .i64 6, .int .i64 1, str ([120] : List UInt8)]] := ⟨⟨rfl, one_of (by rfl), rfl⟩, ⟨rfl, one_of (by rfl), rfl⟩, ⟨rfl, one_of (by rfl), rfl⟩, trivial⟩
 refine simL_eff (re_litV (V := (V35 tt)) (xs := ([((0 : Int), (0 : Int), (2 : Int), ([97] : List UInt8), ([120] : List UInt8), ([] : List UInt8), (1 : Int), (5 : Int), (1 : Int), ([] : List UInt8)), ((0 : Int), (0 : Int), (1 : Int), ([97] : List UInt8), ([] : List UInt8), ([] : List UInt8), (2 : Int), (3 : Int), (2 : Int), ([] : List UInt8)), ((0 : Int), (0 : Int), (1 : Int), ([97] : List UInt8), ([] : List UInt8), ([] : List UInt8), (4 : Int), (6 : Int), (1 : Int), ([120] : List UInt8))] : List (Ty35))) [[.int .i64 0, .int .i64 0, .int .i64 2, str ([97] : List UInt8), str ([120] : List UInt8), str ([] : List UInt8), .int .i64 1, .int .i64 5, .int .i64 1, str ([] : List UInt8)], [.int .i64 0, .int .i64 0, .int .i64 1, str ([97] : List UInt8), str ([] : List UInt8), str ([] : List UInt8), .int .i64 2, .int .i64 3, .int .i64 2, str ([] : List UInt8)], [.int .i64 0, .int .i64 0, .int .i64 1, str ([97] : List UInt8), str ([] : List UInt8), str ([] : List UInt8), .int .i64 4, .int .i64 6, .int .i64 1, str ([120] : List UInt8)]] rfl rfl Try.underlying22 elt35 rfl (by kernel_rfl) rfl hlb5v rfl rfl) rfl rfl rfl ?_
 intro b5v
 refine simL_bind (fun s10v hs12v => ?_)
 refine simL_lend 0 rfl (fun hq6v hq7v hq8v hq9v => ?_)
 refine simL_eff (re_call (vs := [.slice (some ⟨b5v, 0, none⟩) (([((0 : Int), (0 : Int), (2 : Int), ([97] : List UInt8), ([120] : List UInt8), ([] : List UInt8), (1 : Int), (5 : Int), (1 : Int), ([] : List UInt8)), ((0 : Int), (0 : Int), (1 : Int), ([97] : List UInt8), ([] : List UInt8), ([] : List UInt8), (2 : Int), (3 : Int), (2 : Int), ([] : List UInt8)), ((0 : Int), (0 : Int), (1 : Int), ([97] : List UInt8), ([] : List UInt8), ([] : List UInt8), (4 : Int), (6 : Int), (1 : Int), ([120] : List UInt8))] : List (Ty35)).length) 3, str ([97] : List UInt8)]) (cap := []) (A := []) (rst := [Row 35 10 (some ⟨b5v, 0, none⟩) ([((0 : Int), (0 : Int), (2 : Int), ([97] : List UInt8), ([120] : List UInt8), ([] : List UInt8), (1 : Int), (5 : Int), (1 : Int), ([] : List UInt8)), ((0 : Int), (0 : Int), (1 : Int), ([97] : List UInt8), ([] : List UInt8), ([] : List UInt8), (2 : Int), (3 : Int), (2 : Int), ([] : List UInt8)), ((0 : Int), (0 : Int), (1 : Int), ([97] : List UInt8), ([] : List UInt8), ([] : List UInt8), (4 : Int), (6 : Int), (1 : Int), ([120] : List UInt8))] : List (Ty35)).length 3 [[.int .i64 0, .int .i64 0, .int .i64 2, str ([97] : List UInt8), str ([120] : List UInt8), str ([] : List UInt8), .int .i64 1, .int .i64 5, .int .i64 1, str ([] : List UInt8)], [.int .i64 0, .int .i64 0, .int .i64 1, str ([97] : List UInt8), str ([] : List UInt8), str ([] : List UInt8), .int .i64 2, .int .i64 3, .int .i64 2, str ([] : List UInt8)], [.int .i64 0, .int .i64 0, .int .i64 1, str ([97] : List UInt8), str ([] : List UInt8), str ([] : List UInt8), .int .i64 4, .int .i64 6, .int .i64 1, str ([120] : List UInt8)]].flatten, obj b3v 35 [.int .i64 0, .int .i64 0, .int .i64 1, str ([97] : List UInt8), str ([] : List UInt8), str ([] : List UInt8), .int .i64 4, .int .i64 6, .int .i64 1, str ([120] : List UInt8)], obj b2v 35 [.int .i64 0, .int .i64 0, .int .i64 1, str ([97] : List UInt8), str ([] : List UInt8), str ([] : List UInt8), .int .i64 2, .int .i64 3, .int .i64 2, str ([] : List UInt8)], obj b1v 35 [.int .i64 0, .int .i64 0, .int .i64 2, str ([97] : List UInt8), str ([120] : List UInt8), str ([] : List UInt8), .int .i64 1, .int .i64 5, .int .i64 1, str ([] : List UInt8)], F]) rfl rfl rfl rfl rfl rfl Try.call23 (.sel 0 rfl (.sel 0 rfl (.sel 0 rfl (.sel 0 rfl (.sel 0 rfl (.nil _)))))) (lin_Explain.calls _ _ k (some ⟨b5v, 0, none⟩) 3 ([((0 : Int), (0 : Int), (2 : Int), ([97] : List UInt8), ([120] : List UInt8), ([] : List UInt8), (1 : Int), (5 : Int), (1 : Int), ([] : List UInt8)), ((0 : Int), (0 : Int), (1 : Int), ([97] : List UInt8), ([] : List UInt8), ([] : List UInt8), (2 : Int), (3 : Int), (2 : Int), ([] : List UInt8)), ((0 : Int), (0 : Int), (1 : Int), ([97] : List UInt8), ([] : List UInt8), ([] : List UInt8), (4 : Int), (6 : Int), (1 : Int), ([120] : List UInt8))] : List (Ty35)) ([97] : List UInt8) ((Rd.asV hlb5v hq6v).up (Up.lend 0 rfl) (fun _ _ h => h)) hq7v hq8v) hs12v) rfl rfl rfl ?_
 intro y11v
 refine simL_val (q_move rfl rfl) rfl rfl rfl ?_
 refine simL_val (q_ext rfl rfl rfl) rfl rfl rfl ?_
 refine simL_val (q_ext rfl rfl rfl) rfl rfl rfl ?_
 refine simL_val (q_ext rfl rfl rfl) rfl rfl rfl ?_
 refine simL_val (q_asg rfl rfl) rfl rfl rfl ?_
 refine simL_val (q_asg rfl rfl) rfl rfl rfl ?_
 refine simL_val (q_asg rfl rfl) rfl rfl rfl (simL_nil (nrm_then (sim_seq (sim_region ?_))))
 refine simL_val (q_loado 4 rfl rfl Try.isAgg35 Try.sizeOf35 rfl rfl) rfl rfl rfl ?_
 refine simL_val (q_build (v := .agg #[.int .i64 2, str ([] : List UInt8)]) rfl rfl (fun _ => by kernel_rfl)) rfl rfl rfl ?_
 refine simL_val (q_build (v := .agg #[.int .i64 0, .int .i64 0, .int .i64 1, str ([97] : List UInt8), str ([] : List UInt8), str ([] : List UInt8), .int .i64 6, .int .i64 7, .int .i64 2, str ([] : List UInt8)]) rfl rfl (fun _ => by kernel_rfl)) rfl rfl rfl ?_
 have hlb14v : ListV 10 (V35 tt) ([((0 : Int), (0 : Int), (2 : Int), ([97] : List UInt8), ([120] : List UInt8), ([] : List UInt8), (1 : Int), (5 : Int), (1 : Int), ([] : List UInt8)), ((0 : Int), (0 : Int), (1 : Int), ([97] : List UInt8), ([] : List UInt8), ([] : List UInt8), (6 : Int), (7 : Int), (2 : Int), ([] : List UInt8))] : List (Ty35)) [[.int .i64 0, .int .i64 0, .int .i64 2, str ([97] : List UInt8), str ([120] : List UInt8), str ([] : List UInt8), .int .i64 1, .int .i64 5, .int .i64 1, str ([] : List UInt8)], [.int .i64 0, .int .i64 0, .int .i64 1, str ([97] : List UInt8), str ([] : List UInt8), str ([] : List UInt8), .int .i64 6, .int .i64 7, .int .i64 2, str ([] : List UInt8)]] := ⟨⟨rfl, one_of (by rfl), rfl⟩, ⟨rfl, one_of (by rfl), rfl⟩, trivial⟩
 refine simL_eff (re_litV (V := (V35 tt)) (xs := ([((0 : Int), (0 : Int), (2 : Int), ([97] : List UInt8), ([120] : List UInt8), ([] : List UInt8), (1 : Int), (5 : Int), (1 : Int), ([] : List UInt8)), ((0 : Int), (0 : Int), (1 : Int), ([97] : List UInt8), ([] : List UInt8), ([] : List UInt8), (6 : Int), (7 : Int), (2 : Int), ([] : List UInt8))] : List (Ty35))) [[.int .i64 0, .int .i64 0, .int .i64 2, str ([97] : List UInt8), str ([120] : List UInt8), str ([] : List UInt8), .int .i64 1, .int .i64 5, .int .i64 1, str ([] : List UInt8)], [.int .i64 0, .int .i64 0, .int .i64 1, str ([97] : List UInt8), str ([] : List UInt8), str ([] : List UInt8), .int .i64 6, .int .i64 7, .int .i64 2, str ([] : List UInt8)]] rfl rfl Try.underlying22 elt35 rfl (by kernel_rfl) rfl hlb14v rfl rfl) rfl rfl rfl ?_
 intro b14v
 refine simL_bind (fun s19v hs21v => ?_)
 refine simL_lend 0 rfl (fun hq15v hq16v hq17v hq18v => ?_)
 refine simL_eff (re_call (vs := [.slice (some ⟨b14v, 0, none⟩) (([((0 : Int), (0 : Int), (2 : Int), ([97] : List UInt8), ([120] : List UInt8), ([] : List UInt8), (1 : Int), (5 : Int), (1 : Int), ([] : List UInt8)), ((0 : Int), (0 : Int), (1 : Int), ([97] : List UInt8), ([] : List UInt8), ([] : List UInt8), (6 : Int), (7 : Int), (2 : Int), ([] : List UInt8))] : List (Ty35)).length) 2]) (cap := []) (A := []) (rst := [Row 35 10 (some ⟨b14v, 0, none⟩) ([((0 : Int), (0 : Int), (2 : Int), ([97] : List UInt8), ([120] : List UInt8), ([] : List UInt8), (1 : Int), (5 : Int), (1 : Int), ([] : List UInt8)), ((0 : Int), (0 : Int), (1 : Int), ([97] : List UInt8), ([] : List UInt8), ([] : List UInt8), (6 : Int), (7 : Int), (2 : Int), ([] : List UInt8))] : List (Ty35)).length 2 [[.int .i64 0, .int .i64 0, .int .i64 2, str ([97] : List UInt8), str ([120] : List UInt8), str ([] : List UInt8), .int .i64 1, .int .i64 5, .int .i64 1, str ([] : List UInt8)], [.int .i64 0, .int .i64 0, .int .i64 1, str ([97] : List UInt8), str ([] : List UInt8), str ([] : List UInt8), .int .i64 6, .int .i64 7, .int .i64 2, str ([] : List UInt8)]].flatten, RowV 3 1 (V3 tt) y11v.1 s10v.1 y11v.2, Row 35 10 (some ⟨b5v, 0, none⟩) ([((0 : Int), (0 : Int), (2 : Int), ([97] : List UInt8), ([120] : List UInt8), ([] : List UInt8), (1 : Int), (5 : Int), (1 : Int), ([] : List UInt8)), ((0 : Int), (0 : Int), (1 : Int), ([97] : List UInt8), ([] : List UInt8), ([] : List UInt8), (2 : Int), (3 : Int), (2 : Int), ([] : List UInt8)), ((0 : Int), (0 : Int), (1 : Int), ([97] : List UInt8), ([] : List UInt8), ([] : List UInt8), (4 : Int), (6 : Int), (1 : Int), ([120] : List UInt8))] : List (Ty35)).length 3 [[.int .i64 0, .int .i64 0, .int .i64 2, str ([97] : List UInt8), str ([120] : List UInt8), str ([] : List UInt8), .int .i64 1, .int .i64 5, .int .i64 1, str ([] : List UInt8)], [.int .i64 0, .int .i64 0, .int .i64 1, str ([97] : List UInt8), str ([] : List UInt8), str ([] : List UInt8), .int .i64 2, .int .i64 3, .int .i64 2, str ([] : List UInt8)], [.int .i64 0, .int .i64 0, .int .i64 1, str ([97] : List UInt8), str ([] : List UInt8), str ([] : List UInt8), .int .i64 4, .int .i64 6, .int .i64 1, str ([120] : List UInt8)]].flatten, obj b3v 35 [.int .i64 0, .int .i64 0, .int .i64 1, str ([97] : List UInt8), str ([] : List UInt8), str ([] : List UInt8), .int .i64 4, .int .i64 6, .int .i64 1, str ([120] : List UInt8)], obj b2v 35 [.int .i64 0, .int .i64 0, .int .i64 1, str ([97] : List UInt8), str ([] : List UInt8), str ([] : List UInt8), .int .i64 2, .int .i64 3, .int .i64 2, str ([] : List UInt8)], obj b1v 35 [.int .i64 0, .int .i64 0, .int .i64 2, str ([97] : List UInt8), str ([120] : List UInt8), str ([] : List UInt8), .int .i64 1, .int .i64 5, .int .i64 1, str ([] : List UInt8)], F]) rfl rfl rfl rfl rfl rfl Try.call14 (.sel 0 rfl (.sel 0 rfl (.sel 0 rfl (.sel 0 rfl (.sel 0 rfl (.sel 0 rfl (.sel 0 rfl (.nil _)))))))) (lin_Check.calls _ _ k (some ⟨b14v, 0, none⟩) 2 ([((0 : Int), (0 : Int), (2 : Int), ([97] : List UInt8), ([120] : List UInt8), ([] : List UInt8), (1 : Int), (5 : Int), (1 : Int), ([] : List UInt8)), ((0 : Int), (0 : Int), (1 : Int), ([97] : List UInt8), ([] : List UInt8), ([] : List UInt8), (6 : Int), (7 : Int), (2 : Int), ([] : List UInt8))] : List (Ty35)) ((Rd.asV hlb14v hq15v).up (Up.lend 0 rfl) (fun _ _ h => h)) hq16v hq17v) hs21v) rfl rfl rfl ?_
 intro y20v
 refine simL_val (q_move rfl rfl) rfl rfl rfl ?_
 refine simL_val (q_ext rfl rfl rfl) rfl rfl rfl ?_
 refine simL_val (q_ext rfl rfl rfl) rfl rfl rfl ?_
 refine simL_val (q_asg rfl rfl) rfl rfl rfl ?_
 refine simL_val (q_asg rfl rfl) rfl rfl rfl (simL_nil (nrm_then (sim_seq (sim_region ?_))))
 refine simL_val (q_move rfl rfl) rfl rfl rfl ?_
 refine simL_val (q_move rfl rfl) rfl rfl rfl ?_
 refine simL_cut' 4 (S := Bool) (Unit) (fun s y => [(4, .slice y11v.1 s10v.1.length y11v.2), (7, .bool s19v.1), (8, .int .i64 s19v.2), (37, .bool s)]) (fun s y => [RowV 3 1 (V3 tt) y11v.1 s10v.1 y11v.2, F]) ?_ ?_
 refine simL_caseb (fun hb27v => ?_) (fun hb28v => ?_)
 rw [hb27v]
 refine simL_valg (q_move rfl rfl) rfl rfl rfl rfl rfl rfl ?_
 refine simL_bind (fun s24v hs26v => ?_)
 refine simL_effg (re_call (vs := [.int .i64 s10v.2.2]) (cap := []) (A := []) (rst := [Row 35 10 (some ⟨b14v, 0, none⟩) ([((0 : Int), (0 : Int), (2 : Int), ([97] : List UInt8), ([120] : List UInt8), ([] : List UInt8), (1 : Int), (5 : Int), (1 : Int), ([] : List UInt8)), ((0 : Int), (0 : Int), (1 : Int), ([97] : List UInt8), ([] : List UInt8), ([] : List UInt8), (6 : Int), (7 : Int), (2 : Int), ([] : List UInt8))] : List (Ty35)).length 2 [[.int .i64 0, .int .i64 0, .int .i64 2, str ([97] : List UInt8), str ([120] : List UInt8), str ([] : List UInt8), .int .i64 1, .int .i64 5, .int .i64 1, str ([] : List UInt8)], [.int .i64 0, .int .i64 0, .int .i64 1, str ([97] : List UInt8), str ([] : List UInt8), str ([] : List UInt8), .int .i64 6, .int .i64 7, .int .i64 2, str ([] : List UInt8)]].flatten, RowV 3 1 (V3 tt) y11v.1 s10v.1 y11v.2, Row 35 10 (some ⟨b5v, 0, none⟩) ([((0 : Int), (0 : Int), (2 : Int), ([97] : List UInt8), ([120] : List UInt8), ([] : List UInt8), (1 : Int), (5 : Int), (1 : Int), ([] : List UInt8)), ((0 : Int), (0 : Int), (1 : Int), ([97] : List UInt8), ([] : List UInt8), ([] : List UInt8), (2 : Int), (3 : Int), (2 : Int), ([] : List UInt8)), ((0 : Int), (0 : Int), (1 : Int), ([97] : List UInt8), ([] : List UInt8), ([] : List UInt8), (4 : Int), (6 : Int), (1 : Int), ([120] : List UInt8))] : List (Ty35)).length 3 [[.int .i64 0, .int .i64 0, .int .i64 2, str ([97] : List UInt8), str ([120] : List UInt8), str ([] : List UInt8), .int .i64 1, .int .i64 5, .int .i64 1, str ([] : List UInt8)], [.int .i64 0, .int .i64 0, .int .i64 1, str ([97] : List UInt8), str ([] : List UInt8), str ([] : List UInt8), .int .i64 2, .int .i64 3, .int .i64 2, str ([] : List UInt8)], [.int .i64 0, .int .i64 0, .int .i64 1, str ([97] : List UInt8), str ([] : List UInt8), str ([] : List UInt8), .int .i64 4, .int .i64 6, .int .i64 1, str ([120] : List UInt8)]].flatten, obj b3v 35 [.int .i64 0, .int .i64 0, .int .i64 1, str ([97] : List UInt8), str ([] : List UInt8), str ([] : List UInt8), .int .i64 4, .int .i64 6, .int .i64 1, str ([120] : List UInt8)], obj b2v 35 [.int .i64 0, .int .i64 0, .int .i64 1, str ([97] : List UInt8), str ([] : List UInt8), str ([] : List UInt8), .int .i64 2, .int .i64 3, .int .i64 2, str ([] : List UInt8)], obj b1v 35 [.int .i64 0, .int .i64 0, .int .i64 2, str ([97] : List UInt8), str ([120] : List UInt8), str ([] : List UInt8), .int .i64 1, .int .i64 5, .int .i64 1, str ([] : List UInt8)], F]) rfl rfl rfl rfl rfl rfl Try.call21 (.sel 0 rfl (.sel 0 rfl (.sel 0 rfl (.sel 0 rfl (.sel 0 rfl (.sel 0 rfl (.sel 0 rfl (.nil _)))))))) (synodref_Num.calls _ _ s10v.2.2 ) hs26v) rfl rfl rfl rfl rfl rfl ?_
 intro y25v
 refine simL_valg (q_eql rfl rfl rfl) rfl rfl rfl rfl rfl rfl ?_
 refine simL_val (q_pick rfl rfl rfl rfl rfl) rfl rfl rfl (simL_nil ?_)
 exact nrm_cut (s := decide (s24v = (0 : Int))) () ⟨rfl, rfl, rfl, rfl, trivial⟩ (.sel 1 rfl (.sel 5 rfl (.nil _)))
 rw [hb28v]
 refine simL_skipd rfl rfl rfl rfl rfl rfl ?_
 refine simL_skipd rfl rfl rfl rfl rfl rfl ?_
 refine simL_skipd rfl rfl rfl rfl rfl rfl ?_
 refine simL_val (q_pick rfl rfl rfl rfl rfl) rfl rfl rfl (simL_nil ?_)
 exact nrm_cut (s := false) () ⟨rfl, rfl, rfl, rfl, trivial⟩ (.sel 1 rfl (.sel 5 rfl (.nil _)))
 intro s22v y23v
 refine simL_val (q_move rfl rfl) rfl rfl rfl ?_
 refine simL_cut' 4 (S := Bool) (Unit) (fun s y => [(7, .bool s19v.1), (8, .int .i64 s19v.2), (42, .bool s)]) (fun s y => [F]) ?_ ?_
 refine simL_caseb (fun hb46v => ?_) (fun hb47v => ?_)
 rw [hb46v]
 refine simL_valg (q_move rfl rfl) rfl rfl rfl rfl rfl rfl ?_
 have hlb32v : ListV 1 (V3 tt) ([(1 : Int), (0 : Int), (2 : Int)] : List Int) [[.int .i64 1], [.int .i64 0], [.int .i64 2]] := ⟨⟨rfl, one_of (by rfl), rfl⟩, ⟨rfl, one_of (by rfl), rfl⟩, ⟨rfl, one_of (by rfl), rfl⟩, trivial⟩
 refine simL_effg (re_litV (V := (V3 tt)) (xs := ([(1 : Int), (0 : Int), (2 : Int)] : List Int)) [[.int .i64 1], [.int .i64 0], [.int .i64 2]] rfl rfl Try.underlying39 elt3 rfl (by kernel_rfl) rfl hlb32v rfl rfl) rfl rfl rfl rfl rfl rfl ?_
 intro b32v
 refine simL_openV 1 rfl (fun rs33v hl34v => ?_)
 refine simL_bind (fun s43v hs45v => ?_)
 refine simL_lend 1 rfl (fun hq35v hq36v hq37v hq38v => ?_)
 refine simL_lend 0 rfl (fun hq39v hq40v hq41v hq42v => ?_)
 refine simL_effg (re_call (vs := [.slice y11v.1 s10v.1.length y11v.2, .slice (some ⟨b32v, 0, none⟩) (([(1 : Int), (0 : Int), (2 : Int)] : List Int).length) 3]) (cap := []) (A := []) (rst := [Row 3 1 (some ⟨b32v, 0, none⟩) ([(1 : Int), (0 : Int), (2 : Int)] : List Int).length 3 [[.int .i64 1], [.int .i64 0], [.int .i64 2]].flatten, Row 3 1 y11v.1 s10v.1.length y11v.2 rs33v.flatten, F]) rfl rfl rfl rfl rfl rfl Try.call25 (.sel 0 rfl (.sel 0 rfl (.sel 0 rfl (.nil _)))) (synodref_SameInts.calls _ _ k y11v.1 y11v.2 s10v.1 (some ⟨b32v, 0, none⟩) 3 ([(1 : Int), (0 : Int), (2 : Int)] : List Int) ((Rd.asV hl34v hq35v).up (Up.lend 1 rfl) (fun _ _ h => h)) hq36v hq37v ((Rd.asV hlb32v hq39v).up (Up.lend 0 rfl) (fun _ _ h => h)) hq40v hq41v) hs45v) rfl rfl rfl rfl rfl rfl ?_
 intro y44v
 refine simL_val (q_pick rfl rfl rfl rfl rfl) rfl rfl rfl (simL_nil ?_)
 exact nrm_cut (s := s43v) () ⟨rfl, rfl, rfl, trivial⟩ (.sel 2 rfl (.nil _))
 rw [hb47v]
 refine simL_skipd rfl rfl rfl rfl rfl rfl ?_
 refine simL_skipd rfl rfl rfl rfl rfl rfl ?_
 refine simL_skipd rfl rfl rfl rfl rfl rfl ?_
 refine simL_val (q_pick rfl rfl rfl rfl rfl) rfl rfl rfl (simL_nil ?_)
 exact nrm_cut (s := false) () ⟨rfl, rfl, rfl, trivial⟩ (.sel 1 rfl (.nil _))
 intro s29v y30v
 refine simL_val (q_move rfl rfl) rfl rfl rfl ?_
 refine simL_valc (b := s29v) (fun hb56v => RQ.sub (E' := [(7, .bool s19v.1)]) ⟨rfl, trivial⟩ (q_move rfl rfl)) rfl rfl rfl rfl rfl ?_
 refine simL_valc (b := s29v) (fun hb55v => RQ.sub (E' := [(44, .bool s19v.1)]) ⟨lk_cv rfl hb55v, trivial⟩ (q_not rfl rfl)) rfl rfl rfl rfl rfl ?_
 refine simL_val (q_and rfl rfl rfl) rfl rfl rfl ?_
 refine simL_val (q_move rfl rfl) rfl rfl rfl ?_
 refine simL_cut' 4 (S := Bool) (Unit) (fun s y => [(51, .bool s)]) (fun s y => [F]) ?_ ?_
 refine simL_caseb (fun hb53v => ?_) (fun hb54v => ?_)
 rw [hb53v]
 refine simL_valg (q_move rfl rfl) rfl rfl rfl rfl rfl rfl ?_
 refine simL_bind (fun s50v hs52v => ?_)
 refine simL_effg (re_call (vs := [.int .i64 s19v.2]) (cap := []) (A := []) (rst := [F]) rfl rfl rfl rfl rfl rfl Try.call21 (.sel 0 rfl (.nil _)) (synodref_Num.calls _ _ s19v.2 ) hs52v) rfl rfl rfl rfl rfl rfl ?_
 intro y51v
 refine simL_valg (q_eql rfl rfl rfl) rfl rfl rfl rfl rfl rfl ?_
 refine simL_val (q_pick rfl rfl rfl rfl rfl) rfl rfl rfl (simL_nil ?_)
 exact nrm_cut (s := decide (s50v = (0 : Int))) () ⟨rfl, trivial⟩ (.sel 0 rfl (.nil _))
 rw [hb54v]
 refine simL_skipd rfl rfl rfl rfl rfl rfl ?_
 refine simL_skipd rfl rfl rfl rfl rfl rfl ?_
 refine simL_skipd rfl rfl rfl rfl rfl rfl ?_
 refine simL_val (q_pick rfl rfl rfl rfl rfl) rfl rfl rfl (simL_nil ?_)
 exact nrm_cut (s := false) () ⟨rfl, trivial⟩ (.sel 0 rfl (.nil _))
 intro s48v y49v
 refine simL_val (q_asg rfl rfl) rfl rfl rfl (simL_nil (nrm_then (sim_rtn ?_)))
 exact rtn_fn () rfl rfl rfl (.sel 0 rfl (.nil _))

def synodlaw16_few.l0 (x0 : List (Ty35)) : Nat → Int → Int → Option (Int)
  | 0, _, _ => none
  | k + 1, z5v, z6v => if ((decide (z6v < (x0.length : Int))) && (decide (z6v ≤ (400 : Int)))) = true then (if 0 ≤ z6v ∧ z6v < (x0.length : Int) then (if 0 ≤ z6v ∧ z6v < (x0.length : Int) then (if 0 ≤ z6v ∧ z6v < (x0.length : Int) then (if 0 ≤ z6v ∧ z6v < (x0.length : Int) then (synodlaw16_few.l0 x0 k (min (IntKind.i64.wrap ((IntKind.i64.wrap ((IntKind.i64.wrap ((IntKind.i64.wrap (z5v + (min (((x0.getD z6v.toNat dz35).2.2.2.1).length : Int) (9000 : Int)))) + (min (((x0.getD z6v.toNat dz35).2.2.2.2.1).length : Int) (9000 : Int)))) + (min (((x0.getD z6v.toNat dz35).2.2.2.2.2.1).length : Int) (9000 : Int)))) + (min (((x0.getD z6v.toNat dz35).2.2.2.2.2.2.2.2.2).length : Int) (9000 : Int)))) (90000 : Int)) (IntKind.i64.wrap (z6v + 1))) else none) else none) else none) else none) else (some z5v)
def synodlaw16_few.f (k : Nat) (x0 : List (Ty35)) : Option (Bool) := (synodlaw16_few.l0 x0 k 0 0).bind fun s1v => (some ((decide (s1v ≤ (40000 : Int))) && (decide ((x0.length : Int) ≤ (600 : Int)))))
theorem synodlaw16_few.calls (W : World) (F : HA) (k : Nat) (a0 : Option Addr) (c0 : Nat) (x0 : List (Ty35)) (h0 : RdV F 10 (V35 tt) a0 x0) (hc0 : x0.length ≤ c0) (hm0 : c0 ≤ maxLen) :
    Fn Try.prog W 12 [.slice a0 x0.length c0] [] F (synodlaw16_few.f k x0) (fun (r : Bool) (y : Unit) => .bool r) (fun r y => []) := by
 unfold synodlaw16_few.f
 refine fn_intro 57 Try.func12 rfl Try.ntmps12 rfl ?_
 refine sim_seq (sim_region ?_)
 refine simL_val (q_asg rfl rfl) rfl rfl rfl (simL_nil (nrm_then (sim_seq (sim_region ?_))))
 refine simL_val (q_asg rfl rfl) rfl rfl rfl (simL_nil (nrm_then ?_))
 refine sim_cut (S := Int) (Unit) (fun s y => [(0, .slice a0 x0.length c0), (3, .int .i64 s)]) (fun s y => [F]) ?_ ?_
 refine sim_seq (sim_region ?_)
 refine simL_val (q_asg rfl rfl) rfl rfl rfl (simL_nil (nrm_then ?_))
 refine sim_block ?_
 refine sim_loop (S := Int × Int) (Unit) (fun k s => synodlaw16_few.l0 x0 k s.1 s.2) (fun s y => [(0, .slice a0 x0.length c0), (3, .int .i64 s.1), (4, .int .i64 s.2)]) (fun s y => [F]) (fun _ => by rw [synodlaw16_few.l0]) ?_ k (0, 0) () ⟨rfl, rfl, rfl, trivial⟩ (.sel 0 rfl (.nil _))
 intro k s3v y4v
 refine sim_eq (by rw [synodlaw16_few.l0]) ?_
 refine sim_seq (sim_seq (sim_region ?_))
 refine simL_val (q_move rfl rfl) rfl rfl rfl ?_
 refine simL_val (q_move rfl rfl) rfl rfl rfl ?_
 refine simL_val (q_len rfl rfl rfl Try.underlying22) rfl rfl rfl ?_
 refine simL_val (q_lss rfl rfl rfl) rfl rfl rfl ?_
 refine simL_val (q_move rfl rfl) rfl rfl rfl ?_
 refine simL_valc (b := decide (s3v.2 < (x0.length : Int))) (fun hb43v => RQ.sub (E' := [(4, .int .i64 s3v.2)]) ⟨rfl, trivial⟩ (q_move rfl rfl)) rfl rfl rfl rfl rfl ?_
 refine simL_valc (b := decide (s3v.2 < (x0.length : Int))) (fun hb42v => RQ.sub (E' := [(10, .int .i64 s3v.2)]) ⟨lk_cv rfl hb42v, trivial⟩ (q_leq rfl rfl rfl)) rfl rfl rfl rfl rfl ?_
 refine simL_val (q_and rfl rfl rfl) rfl rfl rfl (simL_nil (nrm_then ?_))
 refine sim_condb rfl (fun h7v => ?_) (fun h8v => ?_)
 refine sim_skip ?_
 refine nrm_then (sim_seq ?_)
 refine sim_block ?_
 refine sim_ask (fun hi9v => ?_)
 obtain ⟨b10v, b10vo, r13v, ha11v, hV14v, hlr15v, hcell16v⟩ := RdV.pos h0 (Up.refl _) rfl (i := s3v.2.toNat) (by omega) dz35
 obtain rfl := hV14v
 refine sim_ask (fun hi17v => ?_)
 obtain ⟨b18v, b18vo, r21v, ha19v, hV22v, hlr23v, hcell24v⟩ := RdV.pos h0 (Up.refl _) rfl (i := s3v.2.toNat) (by omega) dz35
 obtain rfl := hV22v
 refine sim_ask (fun hi25v => ?_)
 obtain ⟨b26v, b26vo, r29v, ha27v, hV30v, hlr31v, hcell32v⟩ := RdV.pos h0 (Up.refl _) rfl (i := s3v.2.toNat) (by omega) dz35
 obtain rfl := hV30v
 refine sim_ask (fun hi33v => ?_)
 obtain ⟨b34v, b34vo, r37v, ha35v, hV38v, hlr39v, hcell40v⟩ := RdV.pos h0 (Up.refl _) rfl (i := s3v.2.toNat) (by omega) dz35
 obtain rfl := hV38v
 refine sim_draw (Γ := Unit) () [[], [], [], [1, 2], [1, 2, 3], [1, 2, 3, 4], [1, 2, 3, 4, 5], [1, 2, 3, 4, 5, 6], [0, 1, 2, 3, 4, 5, 6, 7], [], [], [9, 10], [9, 10, 11], [9, 10, 11, 12], [9, 10, 11, 12, 13], [9, 10, 11, 12, 13, 14], [0, 1, 2, 3, 4, 5, 6, 7, 8, 9, 10, 11, 12, 13, 14, 15], [], [], [17, 18], [17, 18, 19], [17, 18, 19, 20], [17, 18, 19, 20, 21], [17, 18, 19, 20, 21, 22], [0, 1, 2, 3, 4, 5, 6, 7, 8, 9, 10, 11, 12, 13, 14, 15, 16, 17, 18, 19, 20, 21, 22, 23], [], [], [25, 26], [25, 26, 27], [25, 26, 27, 28], [25, 26, 27, 28, 29], [25, 26, 27, 28, 29, 30], [25, 26, 27, 28, 29, 30, 31], [0, 1, 2, 3, 4, 5, 6, 7, 8, 9, 10, 11, 12, 13, 14, 15, 16, 17, 18, 19, 20, 21, 22, 23, 24, 25, 26, 27, 28, 29, 30, 31, 32], [0, 1, 2, 3, 4, 5, 6, 7, 8, 9, 10, 11, 12, 13, 14, 15, 16, 17, 18, 19, 20, 21, 22, 23, 24, 25, 26, 27, 28, 29, 30, 31, 32, 33], [0, 1, 2, 3, 4, 5, 6, 7, 8, 9, 10, 11, 12, 13, 14, 15, 16, 17, 18, 19, 20, 21, 22, 23, 24, 25, 26, 27, 28, 29, 30, 31, 32, 33, 34]] [] [0, 1, 2, 3, 4, 5, 6, 7, 8, 9, 10, 11, 12, 13, 14, 15, 16, 17, 18, 19, 20, 21, 22, 23, 24, 25, 26, 27, 28, 29, 30, 31, 32, 33, 34, 35] (fun i => [[0], [0], [0], [0], [0], [0], [0], [0], [0], [0], [0], [0], [0], [0], [0], [0], [0], [0], [0], [0], [0], [0], [0], [0], [0], [0], [0], [0], [0], [0], [0], [0], [0], [0], [0], [0]].getD i []) (fun i => [[], [], [], [], [], [], [], [], [], [], [], [], [], [], [], [], [], [], [], [], [], [], [], [], [], [], [], [], [], [], [], [], [], [], [], []].getD i []) (fun γ i => [.int .i64 s3v.1, .slice a0 x0.length c0, .int .i64 s3v.2, .pointer (some ⟨b10v, b10vo + s3v.2.toNat * 10, none⟩), .pointer (some ⟨b10v, b10vo + s3v.2.toNat * 10 + 3, none⟩), str ((x0.getD s3v.2.toNat dz35).2.2.2.1), .int .i64 (((x0.getD s3v.2.toNat dz35).2.2.2.1).length : Int), .int .i64 (min (((x0.getD s3v.2.toNat dz35).2.2.2.1).length : Int) (9000 : Int)), .int .i64 (IntKind.i64.wrap (s3v.1 + (min (((x0.getD s3v.2.toNat dz35).2.2.2.1).length : Int) (9000 : Int)))), .slice a0 x0.length c0, .int .i64 s3v.2, .pointer (some ⟨b18v, b18vo + s3v.2.toNat * 10, none⟩), .pointer (some ⟨b18v, b18vo + s3v.2.toNat * 10 + 4, none⟩), str ((x0.getD s3v.2.toNat dz35).2.2.2.2.1), .int .i64 (((x0.getD s3v.2.toNat dz35).2.2.2.2.1).length : Int), .int .i64 (min (((x0.getD s3v.2.toNat dz35).2.2.2.2.1).length : Int) (9000 : Int)), .int .i64 (IntKind.i64.wrap ((IntKind.i64.wrap (s3v.1 + (min (((x0.getD s3v.2.toNat dz35).2.2.2.1).length : Int) (9000 : Int)))) + (min (((x0.getD s3v.2.toNat dz35).2.2.2.2.1).length : Int) (9000 : Int)))), .slice a0 x0.length c0, .int .i64 s3v.2, .pointer (some ⟨b26v, b26vo + s3v.2.toNat * 10, none⟩), .pointer (some ⟨b26v, b26vo + s3v.2.toNat * 10 + 5, none⟩), str ((x0.getD s3v.2.toNat dz35).2.2.2.2.2.1), .int .i64 (((x0.getD s3v.2.toNat dz35).2.2.2.2.2.1).length : Int), .int .i64 (min (((x0.getD s3v.2.toNat dz35).2.2.2.2.2.1).length : Int) (9000 : Int)), .int .i64 (IntKind.i64.wrap ((IntKind.i64.wrap ((IntKind.i64.wrap (s3v.1 + (min (((x0.getD s3v.2.toNat dz35).2.2.2.1).length : Int) (9000 : Int)))) + (min (((x0.getD s3v.2.toNat dz35).2.2.2.2.1).length : Int) (9000 : Int)))) + (min (((x0.getD s3v.2.toNat dz35).2.2.2.2.2.1).length : Int) (9000 : Int)))), .slice a0 x0.length c0, .int .i64 s3v.2, .pointer (some ⟨b34v, b34vo + s3v.2.toNat * 10, none⟩), .pointer (some ⟨b34v, b34vo + s3v.2.toNat * 10 + 8, none⟩), .pointer (some ⟨b34v, b34vo + s3v.2.toNat * 10 + 8 + 1, none⟩), str ((x0.getD s3v.2.toNat dz35).2.2.2.2.2.2.2.2.2), .int .i64 (((x0.getD s3v.2.toNat dz35).2.2.2.2.2.2.2.2.2).length : Int), .int .i64 (min (((x0.getD s3v.2.toNat dz35).2.2.2.2.2.2.2.2.2).length : Int) (9000 : Int)), .int .i64 (IntKind.i64.wrap ((IntKind.i64.wrap ((IntKind.i64.wrap ((IntKind.i64.wrap (s3v.1 + (min (((x0.getD s3v.2.toNat dz35).2.2.2.1).length : Int) (9000 : Int)))) + (min (((x0.getD s3v.2.toNat dz35).2.2.2.2.1).length : Int) (9000 : Int)))) + (min (((x0.getD s3v.2.toNat dz35).2.2.2.2.2.1).length : Int) (9000 : Int)))) + (min (((x0.getD s3v.2.toNat dz35).2.2.2.2.2.2.2.2.2).length : Int) (9000 : Int)))), .int .i64 (min (IntKind.i64.wrap ((IntKind.i64.wrap ((IntKind.i64.wrap ((IntKind.i64.wrap (s3v.1 + (min (((x0.getD s3v.2.toNat dz35).2.2.2.1).length : Int) (9000 : Int)))) + (min (((x0.getD s3v.2.toNat dz35).2.2.2.2.1).length : Int) (9000 : Int)))) + (min (((x0.getD s3v.2.toNat dz35).2.2.2.2.2.1).length : Int) (9000 : Int)))) + (min (((x0.getD s3v.2.toNat dz35).2.2.2.2.2.2.2.2.2).length : Int) (9000 : Int)))) (90000 : Int)), .int .i64 (min (IntKind.i64.wrap ((IntKind.i64.wrap ((IntKind.i64.wrap ((IntKind.i64.wrap (s3v.1 + (min (((x0.getD s3v.2.toNat dz35).2.2.2.1).length : Int) (9000 : Int)))) + (min (((x0.getD s3v.2.toNat dz35).2.2.2.2.1).length : Int) (9000 : Int)))) + (min (((x0.getD s3v.2.toNat dz35).2.2.2.2.2.1).length : Int) (9000 : Int)))) + (min (((x0.getD s3v.2.toNat dz35).2.2.2.2.2.2.2.2.2).length : Int) (9000 : Int)))) (90000 : Int))].getD i undef) (fun j γ => [[F]].getD j []) (fun γ => [(0, .slice a0 x0.length c0), (3, .int .i64 (min (IntKind.i64.wrap ((IntKind.i64.wrap ((IntKind.i64.wrap ((IntKind.i64.wrap (s3v.1 + (min (((x0.getD s3v.2.toNat dz35).2.2.2.1).length : Int) (9000 : Int)))) + (min (((x0.getD s3v.2.toNat dz35).2.2.2.2.1).length : Int) (9000 : Int)))) + (min (((x0.getD s3v.2.toNat dz35).2.2.2.2.2.1).length : Int) (9000 : Int)))) + (min (((x0.getD s3v.2.toNat dz35).2.2.2.2.2.2.2.2.2).length : Int) (9000 : Int)))) (90000 : Int))), (4, .int .i64 s3v.2), (10, cv ((decide (s3v.2 < (x0.length : Int))) == true) (.int .i64 s3v.2)), (11, cv ((decide (s3v.2 < (x0.length : Int))) == true) (.bool (decide (s3v.2 ≤ (400 : Int)))))]) mixed (by decide) (by decide) (by decide) (by decide) (by decide) (by decide) (by decide) 57 rfl (by decide) (by decide) (by decide) (Ent.refl _) ?_ ?_ (fun _ => ⟨rfl, rfl, rfl, rfl, rfl, trivial⟩) ?_
 exact (All.cons (fun γ => (All.cons (QOb.plain [(3, .int .i64 s3v.1)] rfl rfl (.o rfl (by decide) .nil) (q_move rfl rfl) rfl) All.nil)) (All.cons (fun γ => (All.cons (QOb.plain [(0, .slice a0 x0.length c0)] rfl rfl (.o rfl (by decide) .nil) (q_move rfl rfl) rfl) All.nil)) (All.cons (fun γ => (All.cons (QOb.plain [(4, .int .i64 s3v.2)] rfl rfl (.o rfl (by decide) .nil) (q_move rfl rfl) rfl) All.nil)) (All.cons (fun γ => (All.cons (QOb.plain [(16, .slice a0 x0.length c0), (17, .int .i64 s3v.2)] rfl rfl (.w 1 rfl rfl rfl (.w 2 rfl rfl rfl .nil)) (q_idx rfl rfl rfl ha11v Try.underlying22 Try.sizeOf35 hi9v.1 hi9v.2) rfl) All.nil)) (All.cons (fun γ => (All.cons (QOb.plain [(18, .pointer (some ⟨b10v, b10vo + s3v.2.toNat * 10, none⟩))] rfl rfl (.w 3 rfl rfl rfl .nil) (q_fa rfl rfl Try.underlying35 rfl rfl Try.sizeOf9 rfl) rfl) All.nil)) (All.cons (fun γ => (All.cons (QOb.plain [(19, .pointer (some ⟨b10v, b10vo + s3v.2.toNat * 10 + 3, none⟩))] rfl rfl (.w 4 rfl rfl rfl .nil) (q_load rfl rfl Try.isAgg9 (hcell16v 0 rfl 3 _ rfl)) rfl) All.nil)) (All.cons (fun γ => (All.cons (QOb.plain [(20, str ((x0.getD s3v.2.toNat dz35).2.2.2.1))] rfl rfl (.w 5 rfl rfl rfl .nil) (q_lens rfl rfl rfl Try.underlying9) rfl) All.nil)) (All.cons (fun γ => (All.cons (QOb.plain [(21, .int .i64 (((x0.getD s3v.2.toNat dz35).2.2.2.1).length : Int))] rfl rfl (.w 6 rfl rfl rfl .nil) (q_min rfl rfl rfl) rfl) All.nil)) (All.cons (fun γ => (All.cons (QOb.plain [(15, .int .i64 s3v.1), (22, .int .i64 (min (((x0.getD s3v.2.toNat dz35).2.2.2.1).length : Int) (9000 : Int)))] rfl rfl (.w 0 rfl rfl rfl (.w 7 rfl rfl rfl .nil)) (q_add rfl rfl rfl) rfl) All.nil)) (All.cons (fun γ => (All.cons (QOb.plain [(0, .slice a0 x0.length c0)] rfl rfl (.o rfl (by decide) .nil) (q_move rfl rfl) rfl) All.nil)) (All.cons (fun γ => (All.cons (QOb.plain [(4, .int .i64 s3v.2)] rfl rfl (.o rfl (by decide) .nil) (q_move rfl rfl) rfl) All.nil)) (All.cons (fun γ => (All.cons (QOb.plain [(24, .slice a0 x0.length c0), (25, .int .i64 s3v.2)] rfl rfl (.w 9 rfl rfl rfl (.w 10 rfl rfl rfl .nil)) (q_idx rfl rfl rfl ha19v Try.underlying22 Try.sizeOf35 hi17v.1 hi17v.2) rfl) All.nil)) (All.cons (fun γ => (All.cons (QOb.plain [(26, .pointer (some ⟨b18v, b18vo + s3v.2.toNat * 10, none⟩))] rfl rfl (.w 11 rfl rfl rfl .nil) (q_fa rfl rfl Try.underlying35 rfl rfl Try.sizeOf9 rfl) rfl) All.nil)) (All.cons (fun γ => (All.cons (QOb.plain [(27, .pointer (some ⟨b18v, b18vo + s3v.2.toNat * 10 + 4, none⟩))] rfl rfl (.w 12 rfl rfl rfl .nil) (q_load rfl rfl Try.isAgg9 (hcell24v 0 rfl 4 _ rfl)) rfl) All.nil)) (All.cons (fun γ => (All.cons (QOb.plain [(28, str ((x0.getD s3v.2.toNat dz35).2.2.2.2.1))] rfl rfl (.w 13 rfl rfl rfl .nil) (q_lens rfl rfl rfl Try.underlying9) rfl) All.nil)) (All.cons (fun γ => (All.cons (QOb.plain [(29, .int .i64 (((x0.getD s3v.2.toNat dz35).2.2.2.2.1).length : Int))] rfl rfl (.w 14 rfl rfl rfl .nil) (q_min rfl rfl rfl) rfl) All.nil)) (All.cons (fun γ => (All.cons (QOb.plain [(23, .int .i64 (IntKind.i64.wrap (s3v.1 + (min (((x0.getD s3v.2.toNat dz35).2.2.2.1).length : Int) (9000 : Int))))), (30, .int .i64 (min (((x0.getD s3v.2.toNat dz35).2.2.2.2.1).length : Int) (9000 : Int)))] rfl rfl (.w 8 rfl rfl rfl (.w 15 rfl rfl rfl .nil)) (q_add rfl rfl rfl) rfl) All.nil)) (All.cons (fun γ => (All.cons (QOb.plain [(0, .slice a0 x0.length c0)] rfl rfl (.o rfl (by decide) .nil) (q_move rfl rfl) rfl) All.nil)) (All.cons (fun γ => (All.cons (QOb.plain [(4, .int .i64 s3v.2)] rfl rfl (.o rfl (by decide) .nil) (q_move rfl rfl) rfl) All.nil)) (All.cons (fun γ => (All.cons (QOb.plain [(32, .slice a0 x0.length c0), (33, .int .i64 s3v.2)] rfl rfl (.w 17 rfl rfl rfl (.w 18 rfl rfl rfl .nil)) (q_idx rfl rfl rfl ha27v Try.underlying22 Try.sizeOf35 hi25v.1 hi25v.2) rfl) All.nil)) (All.cons (fun γ => (All.cons (QOb.plain [(34, .pointer (some ⟨b26v, b26vo + s3v.2.toNat * 10, none⟩))] rfl rfl (.w 19 rfl rfl rfl .nil) (q_fa rfl rfl Try.underlying35 rfl rfl Try.sizeOf9 rfl) rfl) All.nil)) (All.cons (fun γ => (All.cons (QOb.plain [(35, .pointer (some ⟨b26v, b26vo + s3v.2.toNat * 10 + 5, none⟩))] rfl rfl (.w 20 rfl rfl rfl .nil) (q_load rfl rfl Try.isAgg9 (hcell32v 0 rfl 5 _ rfl)) rfl) All.nil)) (All.cons (fun γ => (All.cons (QOb.plain [(36, str ((x0.getD s3v.2.toNat dz35).2.2.2.2.2.1))] rfl rfl (.w 21 rfl rfl rfl .nil) (q_lens rfl rfl rfl Try.underlying9) rfl) All.nil)) (All.cons (fun γ => (All.cons (QOb.plain [(37, .int .i64 (((x0.getD s3v.2.toNat dz35).2.2.2.2.2.1).length : Int))] rfl rfl (.w 22 rfl rfl rfl .nil) (q_min rfl rfl rfl) rfl) All.nil)) (All.cons (fun γ => (All.cons (QOb.plain [(31, .int .i64 (IntKind.i64.wrap ((IntKind.i64.wrap (s3v.1 + (min (((x0.getD s3v.2.toNat dz35).2.2.2.1).length : Int) (9000 : Int)))) + (min (((x0.getD s3v.2.toNat dz35).2.2.2.2.1).length : Int) (9000 : Int))))), (38, .int .i64 (min (((x0.getD s3v.2.toNat dz35).2.2.2.2.2.1).length : Int) (9000 : Int)))] rfl rfl (.w 16 rfl rfl rfl (.w 23 rfl rfl rfl .nil)) (q_add rfl rfl rfl) rfl) All.nil)) (All.cons (fun γ => (All.cons (QOb.plain [(0, .slice a0 x0.length c0)] rfl rfl (.o rfl (by decide) .nil) (q_move rfl rfl) rfl) All.nil)) (All.cons (fun γ => (All.cons (QOb.plain [(4, .int .i64 s3v.2)] rfl rfl (.o rfl (by decide) .nil) (q_move rfl rfl) rfl) All.nil)) (All.cons (fun γ => (All.cons (QOb.plain [(40, .slice a0 x0.length c0), (41, .int .i64 s3v.2)] rfl rfl (.w 25 rfl rfl rfl (.w 26 rfl rfl rfl .nil)) (q_idx rfl rfl rfl ha35v Try.underlying22 Try.sizeOf35 hi33v.1 hi33v.2) rfl) All.nil)) (All.cons (fun γ => (All.cons (QOb.plain [(42, .pointer (some ⟨b34v, b34vo + s3v.2.toNat * 10, none⟩))] rfl rfl (.w 27 rfl rfl rfl .nil) (q_fa rfl rfl Try.underlying35 rfl rfl Try.sizeOf33 rfl) rfl) All.nil)) (All.cons (fun γ => (All.cons (QOb.plain [(43, .pointer (some ⟨b34v, b34vo + s3v.2.toNat * 10 + 8, none⟩))] rfl rfl (.w 28 rfl rfl rfl .nil) (q_fa rfl rfl Try.underlying33 rfl rfl Try.sizeOf9 rfl) rfl) All.nil)) (All.cons (fun γ => (All.cons (QOb.plain [(44, .pointer (some ⟨b34v, b34vo + s3v.2.toNat * 10 + 8 + 1, none⟩))] rfl rfl (.w 29 rfl rfl rfl .nil) (q_load rfl rfl Try.isAgg9 (hcell40v 0 rfl 9 _ rfl)) rfl) All.nil)) (All.cons (fun γ => (All.cons (QOb.plain [(45, str ((x0.getD s3v.2.toNat dz35).2.2.2.2.2.2.2.2.2))] rfl rfl (.w 30 rfl rfl rfl .nil) (q_lens rfl rfl rfl Try.underlying9) rfl) All.nil)) (All.cons (fun γ => (All.cons (QOb.plain [(46, .int .i64 (((x0.getD s3v.2.toNat dz35).2.2.2.2.2.2.2.2.2).length : Int))] rfl rfl (.w 31 rfl rfl rfl .nil) (q_min rfl rfl rfl) rfl) All.nil)) (All.cons (fun γ => (All.cons (QOb.plain [(39, .int .i64 (IntKind.i64.wrap ((IntKind.i64.wrap ((IntKind.i64.wrap (s3v.1 + (min (((x0.getD s3v.2.toNat dz35).2.2.2.1).length : Int) (9000 : Int)))) + (min (((x0.getD s3v.2.toNat dz35).2.2.2.2.1).length : Int) (9000 : Int)))) + (min (((x0.getD s3v.2.toNat dz35).2.2.2.2.2.1).length : Int) (9000 : Int))))), (47, .int .i64 (min (((x0.getD s3v.2.toNat dz35).2.2.2.2.2.2.2.2.2).length : Int) (9000 : Int)))] rfl rfl (.w 24 rfl rfl rfl (.w 32 rfl rfl rfl .nil)) (q_add rfl rfl rfl) rfl) All.nil)) (All.cons (fun γ => (All.cons (QOb.plain [(48, .int .i64 (IntKind.i64.wrap ((IntKind.i64.wrap ((IntKind.i64.wrap ((IntKind.i64.wrap (s3v.1 + (min (((x0.getD s3v.2.toNat dz35).2.2.2.1).length : Int) (9000 : Int)))) + (min (((x0.getD s3v.2.toNat dz35).2.2.2.2.1).length : Int) (9000 : Int)))) + (min (((x0.getD s3v.2.toNat dz35).2.2.2.2.2.1).length : Int) (9000 : Int)))) + (min (((x0.getD s3v.2.toNat dz35).2.2.2.2.2.2.2.2.2).length : Int) (9000 : Int)))))] rfl rfl (.w 33 rfl rfl rfl .nil) (q_min rfl rfl rfl) rfl) All.nil)) (All.cons (fun γ => (All.cons (QOb.plain [(49, .int .i64 (min (IntKind.i64.wrap ((IntKind.i64.wrap ((IntKind.i64.wrap ((IntKind.i64.wrap (s3v.1 + (min (((x0.getD s3v.2.toNat dz35).2.2.2.1).length : Int) (9000 : Int)))) + (min (((x0.getD s3v.2.toNat dz35).2.2.2.2.1).length : Int) (9000 : Int)))) + (min (((x0.getD s3v.2.toNat dz35).2.2.2.2.2.1).length : Int) (9000 : Int)))) + (min (((x0.getD s3v.2.toNat dz35).2.2.2.2.2.2.2.2.2).length : Int) (9000 : Int)))) (90000 : Int)))] rfl rfl (.w 34 rfl rfl rfl .nil) (q_asg rfl rfl) rfl) All.nil)) All.nil))))))))))))))))))))))))))))))))))))
 exact All.nil
 intro g41v
 refine nrm_block (nrm_then (sim_region ?_))
 refine simL_val (q_move rfl rfl) rfl rfl rfl ?_
 refine simL_val (q_add rfl rfl rfl) rfl rfl rfl ?_
 refine simL_val (q_asg rfl rfl) rfl rfl rfl (simL_nil ?_)
 exact nrm_again (s := (min (IntKind.i64.wrap ((IntKind.i64.wrap ((IntKind.i64.wrap ((IntKind.i64.wrap (s3v.1 + (min (((x0.getD s3v.2.toNat dz35).2.2.2.1).length : Int) (9000 : Int)))) + (min (((x0.getD s3v.2.toNat dz35).2.2.2.2.1).length : Int) (9000 : Int)))) + (min (((x0.getD s3v.2.toNat dz35).2.2.2.2.2.1).length : Int) (9000 : Int)))) + (min (((x0.getD s3v.2.toNat dz35).2.2.2.2.2.2.2.2.2).length : Int) (9000 : Int)))) (90000 : Int), IntKind.i64.wrap (s3v.2 + 1))) () ⟨rfl, rfl, rfl, trivial⟩ (.sel 0 rfl (.nil _))
 refine sim_exi ?_
 refine exi_then ?_
 refine exi_loop ?_
 refine exi_here ?_
 exact nrm_cut (s := s3v.1) () ⟨rfl, rfl, trivial⟩ (.sel 0 rfl (.nil _))
 intro s1v y2v
 refine sim_seq (sim_region ?_)
 refine simL_val (q_move rfl rfl) rfl rfl rfl ?_
 refine simL_val (q_leq rfl rfl rfl) rfl rfl rfl ?_
 refine simL_val (q_move rfl rfl) rfl rfl rfl ?_
 refine simL_valc (b := decide (s1v ≤ (40000 : Int))) (fun hb46v => RQ.sub (E' := [(0, .slice a0 x0.length c0)]) ⟨rfl, trivial⟩ (q_move rfl rfl)) rfl rfl rfl rfl rfl ?_
 refine simL_valc (b := decide (s1v ≤ (40000 : Int))) (fun hb45v => RQ.sub (E' := [(53, .slice a0 x0.length c0)]) ⟨lk_cv rfl hb45v, trivial⟩ (q_len rfl rfl rfl Try.underlying22)) rfl rfl rfl rfl rfl ?_
 refine simL_valc (b := decide (s1v ≤ (40000 : Int))) (fun hb44v => RQ.sub (E' := [(54, .int .i64 (x0.length : Int))]) ⟨lk_cv rfl hb44v, trivial⟩ (q_leq rfl rfl rfl)) rfl rfl rfl rfl rfl ?_
 refine simL_val (q_and rfl rfl rfl) rfl rfl rfl ?_
 refine simL_val (q_asg rfl rfl) rfl rfl rfl (simL_nil (nrm_then (sim_rtn ?_)))
 exact rtn_fn () rfl rfl rfl (.sel 0 rfl (.nil _))
end Go.Proofs.Ytlblpegbgbgliaa

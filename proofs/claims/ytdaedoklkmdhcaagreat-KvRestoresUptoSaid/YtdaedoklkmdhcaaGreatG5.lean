/- Printed by gen.py: pure functions and the proofs that the Go functions simulate them. Conditions: as each theorem says. -/
import Derived.Test.YtdaedoklkmdhcaaGreatG4
namespace Go.Proofs.YtdaedoklkmdhcaaGreat
open Go.RowKit
set_option linter.unusedVariables false
set_option linter.unusedSimpArgs false
set_option maxRecDepth 20000
set_option maxHeartbeats 20000000
def synodlaw11_Same.l3 : Nat → List UInt8 → Int → Option (Unit)
  | 0, _, _ => none
  | k + 1, z146v, z147v => if z147v < (z146v.length : Int) then (if 0 ≤ z147v ∧ z147v < (z146v.length : Int) then (synodlaw11_Same.l3 k (z146v.set z147v.toNat 55) (IntKind.i64.wrap (z147v + 1))) else none) else (some ())
def synodlaw11_Same.l2 : Nat → List (List UInt8) → Int → Option (Unit)
  | 0, _, _ => none
  | k + 1, z111v, z112v => if z112v < (z111v.length : Int) then (if 0 ≤ z112v ∧ z112v < (z111v.length : Int) then (synodlaw11_Same.l2 k (z111v.set z112v.toNat ([111, 118, 101, 114] : List UInt8)) (IntKind.i64.wrap (z112v + 1))) else none) else (some ())
def synodlaw11_Same.l1 : Nat → List (Ty91) → Int → Option (Unit)
  | 0, _, _ => none
  | k + 1, z93v, z94v => if z94v < (z93v.length : Int) then (if 0 ≤ z94v ∧ z94v < (z93v.length : Int) then (synodlaw11_Same.l1 k (z93v.set z94v.toNat dz91) (IntKind.i64.wrap (z94v + 1))) else none) else (some ())
def synodlaw11_Same.l0 (x0_0 : List ((List UInt8) × (List UInt8))) (x0_1 : List ((Int) × (Ty91))) (x1_0 : List (Ty90)) (s1v : List (List UInt8)) : Nat → Int → Option ((Unit) ⊕ (Bool))
  | 0, _ => none
  | k + 1, z27v => if z27v < (s1v.length : Int) then ((if 0 ≤ z27v ∧ z27v < (s1v.length : Int) then (if 0 ≤ z27v ∧ z27v < (x1_0.length : Int) then (if (s1v.getD z27v.toNat ([] : List UInt8)) = ((x1_0.getD z27v.toNat dz90).1) then (if 0 ≤ z27v ∧ z27v < (s1v.length : Int) then (if 0 ≤ z27v ∧ z27v < (x1_0.length : Int) then (some (!(decide ((kv_Store_Get.v x0_0 x0_1 (s1v.getD z27v.toNat ([] : List UInt8))).1 = (1 : Int)) && (decide (((kv_Store_Get.v x0_0 x0_1 (s1v.getD z27v.toNat ([] : List UInt8))).2) = ((x1_0.getD z27v.toNat dz90).2)))))) else none) else none) else (some true)) else none) else none).bind fun s30v => (if s30v = true then (some (.inr false)) else (synodlaw11_Same.l0 x0_0 x0_1 x1_0 s1v k (IntKind.i64.wrap (z27v + 1))))) else (some (.inl ()))
def synodlaw11_Same.f (k : Nat) (x0_0 : List ((List UInt8) × (List UInt8))) (x0_1 : List ((Int) × (Ty91))) (x1_0 : List (Ty90)) (x1_1 : List (Ty91)) : Option (Bool) := (kv_Store_Keys.f x0_0 x0_1).bind fun s1v => (if ((!decide ((s1v.length : Int) = (x1_0.length : Int))) || (!decide ((kv_Store_Len.v x0_0 x0_1) = (x1_0.length : Int)))) = true then (some false) else (orR (synodlaw11_Same.l0 x0_0 x0_1 x1_0 s1v k 0) fun s23v => ((kv_Store_Sessions.f k x0_0 x0_1).bind fun s77v => ((synodlaw11_Sessions.f k s77v x1_0 x1_1).bind fun s86v => ((synodlaw11_Same.l1 k s77v 0).bind fun s89v => ((synodlaw11_Same.l2 k s1v 0).bind fun s107v => ((kv_Store_Snapshot.f k x0_0 x0_1).bind fun s125v => ((synodref11_Store_Snapshot.f k x1_0 x1_1).bind fun s128v => ((synodref_SameBytes.f k s125v s128v).bind fun s139v => ((synodlaw11_Same.l3 k s125v 0).bind fun s142v => ((if (s86v && s139v) = true then ((kv_Store_Sessions.f k x0_0 x0_1).bind fun s157v => ((synodlaw11_Sessions.f k s157v x1_0 x1_1).bind fun s166v => (some s166v))) else (some false)).bind fun s155v => (some s155v))))))))))))
theorem synodlaw11_Same.calls (W : World) (F : HA) (k : Nat) (b0 : Nat) (m0_0 : Nat) (x0_0 : List ((List UInt8) × (List UInt8))) (m0_1 : Nat) (x0_1 : List ((Int) × (Ty91))) (b1 : Nat) (a1_0 : Option Addr) (c1_0 : Nat) (x1_0 : List (Ty90)) (a1_1 : Option Addr) (c1_1 : Nat) (x1_1 : List (Ty91)) (h1_0 : RdV F 2 (V90 tt) a1_0 x1_0) (hc1_0 : x1_0.length ≤ c1_0) (hm1_0 : c1_0 ≤ maxLen) (h1_1 : RdV F 4 (V91 tt) a1_1 x1_1) (hc1_1 : x1_1.length ≤ c1_1) (hm1_1 : c1_1 ≤ maxLen) :
    Fn Tryz.prog W 19 [.pointer (some ⟨b0, 0, none⟩), .pointer (some ⟨b1, 0, none⟩)] [obj b0 58 [.map (some m0_0), .map (some m0_1)], mapO m0_0 enc9 enc9 x0_0, mapO m0_1 enc3 enc69 x0_1, obj b1 85 [.slice a1_0 x1_0.length c1_0, .slice a1_1 x1_1.length c1_1]] F (synodlaw11_Same.f k x0_0 x0_1 x1_0 x1_1) (fun (r : Bool) (y : Unit) => .bool r) (fun r y => [obj b0 58 [.map (some m0_0), .map (some m0_1)], mapO m0_0 enc9 enc9 x0_0, mapO m0_1 enc3 enc69 x0_1, obj b1 85 [.slice a1_0 x1_0.length c1_0, .slice a1_1 x1_1.length c1_1]]) := by
 unfold synodlaw11_Same.f
 refine fn_intro 120 Tryz.func19 rfl Tryz.ntmps19 rfl ?_
 refine sr ?_
 refine va rfl rfl (nx ?_)
 refine vm rfl rfl ?_
 refine simL_bind (fun s1v hs2v => ?_)
 refine simL_eff (re_call (vs := [.pointer (some ⟨b0, 0, none⟩)]) (cap := []) (A := [obj b0 58 [.map (some m0_0), .map (some m0_1)], mapO m0_0 enc9 enc9 x0_0, mapO m0_1 enc3 enc69 x0_1]) (rst := [obj b1 85 [.slice a1_0 x1_0.length c1_0, .slice a1_1 x1_1.length c1_1], F]) rfl rfl rfl rfl rfl rfl Tryz.call42 (.sel 0 rfl (.sel 0 rfl (.sel 0 rfl (.sel 0 rfl (.sel 0 rfl (.nil _)))))) (kv_Store_Keys.calls _ _ b0 m0_0 x0_0 m0_1 x0_1 ) hs2v) rfl rfl rfl ?_
 intro y3v
 refine va rfl rfl (simL_nil (nrm_then (sim_seq (sim_seq ?_))))
 refine sim_openV 0 rfl (fun rs4v hl5v => ?_)
 refine sim_draw (Γ := Unit) () [[], [0], [], [2], [2, 3], [2, 3, 4], [2, 3, 4, 5], rL 7, rL 8, rL 9, rL 10, rL 9, [0, 1, 2, 3, 4, 5, 6, 7, 8, 11], [0, 1, 2, 3, 4, 5, 6, 7, 8, 11, 12], [0, 1, 2, 3, 4, 5, 6, 7, 8, 11, 12, 13], [0, 1, 2, 3, 4, 5, 6, 7, 8, 11, 12, 13, 14], rL 16, rL 17] [] [0, 1, 2, 3, 4, 5, 6, 7, 8, 9, 10, 11, 12, 13, 14, 15, 16, 17] (fun i => [[0], [0], [0], [0], [0], [0], [0], [0], [0], [0], [0], [0], [0], [0], [0], [0], [0], [0]].getD i []) (fun i => [[], [], [], [], [], [], [], [], [], [], [], [], [], [], [], [], [], []].getD i []) (fun γ i => [.slice y3v.1 s1v.length y3v.2, .int .i64 (s1v.length : Int), .pointer (some ⟨b1, 0, none⟩), .pointer (some ⟨b1, 0, none⟩), .pointer (some ⟨b1, 0, none⟩), .slice a1_0 x1_0.length c1_0, .int .i64 (x1_0.length : Int), .bool (!decide ((s1v.length : Int) = (x1_0.length : Int))), .bool (!decide ((s1v.length : Int) = (x1_0.length : Int))), cv ((!decide ((s1v.length : Int) = (x1_0.length : Int))) == false) (.pointer (some ⟨b0, 0, none⟩)), cv ((!decide ((s1v.length : Int) = (x1_0.length : Int))) == false) (.int .i64 (kv_Store_Len.v x0_0 x0_1)), cv ((!decide ((s1v.length : Int) = (x1_0.length : Int))) == false) (.pointer (some ⟨b1, 0, none⟩)), cv ((!decide ((s1v.length : Int) = (x1_0.length : Int))) == false) (.pointer (some ⟨b1, 0, none⟩)), cv ((!decide ((s1v.length : Int) = (x1_0.length : Int))) == false) (.pointer (some ⟨b1, 0, none⟩)), cv ((!decide ((s1v.length : Int) = (x1_0.length : Int))) == false) (.slice a1_0 x1_0.length c1_0), cv ((!decide ((s1v.length : Int) = (x1_0.length : Int))) == false) (.int .i64 (x1_0.length : Int)), cv ((!decide ((s1v.length : Int) = (x1_0.length : Int))) == false) (.bool (!decide ((kv_Store_Len.v x0_0 x0_1) = (x1_0.length : Int)))), .bool ((!decide ((s1v.length : Int) = (x1_0.length : Int))) || (!decide ((kv_Store_Len.v x0_0 x0_1) = (x1_0.length : Int))))].getD i undef) (fun j γ => [[Row 9 1 y3v.1 s1v.length y3v.2 rs4v.flatten, obj b0 58 [.map (some m0_0), .map (some m0_1)], mapO m0_0 enc9 enc9 x0_0, mapO m0_1 enc3 enc69 x0_1, obj b1 85 [.slice a1_0 x1_0.length c1_0, .slice a1_1 x1_1.length c1_1], F]].getD j []) (fun γ => [(0, .pointer (some ⟨b0, 0, none⟩)), (1, .pointer (some ⟨b1, 0, none⟩)), (5, .slice y3v.1 s1v.length y3v.2), (33, .bool ((!decide ((s1v.length : Int) = (x1_0.length : Int))) || (!decide ((kv_Store_Len.v x0_0 x0_1) = (x1_0.length : Int)))))]) mixed (by decide) (by decide) (by decide) (by decide) (by decide) (by decide) (by decide) 120 rfl (by decide) (by decide) (by decide) (Ent.refl _) ?_ ?_ (fun _ => ⟨rfl, rfl, rfl, rfl, trivial⟩) ?_
 exact (aq rfl (fun γ => qm rfl (.o (s := 5) rfl (by decide) .nil) rfl) (aq rfl (fun γ => qp rfl rfl (.v 0 rfl rfl .nil) (q_len rfl rfl rfl Tryz.underlying94) rfl) (aq rfl (fun γ => qm rfl (.o (s := 1) rfl (by decide) .nil) rfl) (aq rfl (fun γ => qp rfl rfl (.v 2 rfl rfl .nil) (q_nil rfl rfl) rfl) (aq rfl (fun γ => qp rfl rfl (.v 3 rfl rfl .nil) (q_fa rfl rfl Tryz.underlying85 rfl rfl Tryz.sizeOf82 rfl) rfl) (aq rfl (fun γ => qp rfl rfl (.v 4 rfl rfl .nil) (q_load rfl rfl Tryz.isAgg82 (.obj 4 rfl rfl)) rfl) (aq rfl (fun γ => qp rfl rfl (.v 5 rfl rfl .nil) (q_len rfl rfl rfl Tryz.underlying82) rfl) (aq rfl (fun γ => qp rfl rfl (.v 1 rfl rfl (.v 6 rfl rfl .nil)) (q_neq rfl rfl rfl) rfl) (aq rfl (fun γ => qm rfl (.v 7 rfl rfl .nil) rfl) (aq rfl (fun γ => QOb.grd (b := !decide ((s1v.length : Int) = (x1_0.length : Int))) [(0, .pointer (some ⟨b0, 0, none⟩)), (24, .bool (!decide ((s1v.length : Int) = (x1_0.length : Int))))] rfl rfl rfl rfl (.o (s := 0) rfl (by decide) (.v 8 rfl rfl .nil)) (fun hb9v => RQ.sub (E' := [(0, .pointer (some ⟨b0, 0, none⟩))]) ⟨rfl, trivial⟩ (q_move rfl rfl)) rfl) (aq rfl (fun γ => QOb.grd (b := !decide ((s1v.length : Int) = (x1_0.length : Int))) [(24, .bool (!decide ((s1v.length : Int) = (x1_0.length : Int)))), (25, cv ((!decide ((s1v.length : Int) = (x1_0.length : Int))) == false) (.pointer (some ⟨b0, 0, none⟩)))] rfl rfl rfl rfl (.v 8 rfl rfl (.v 9 rfl rfl .nil)) (fun hb13v => RQ.sub (E' := [(25, .pointer (some ⟨b0, 0, none⟩))]) ⟨lk_cv rfl hb13v, trivial⟩ (RE.rq (re_call (vs := [.pointer (some ⟨b0, 0, none⟩)]) (cap := []) (A := [obj b0 58 [.map (some m0_0), .map (some m0_1)], mapO m0_0 enc9 enc9 x0_0, mapO m0_1 enc3 enc69 x0_1]) (rst := [Row 9 1 y3v.1 s1v.length y3v.2 rs4v.flatten, obj b1 85 [.slice a1_0 x1_0.length c1_0, .slice a1_1 x1_1.length c1_1], F]) rfl rfl rfl rfl rfl rfl Tryz.call23 (.sel 1 rfl (.sel 1 rfl (.sel 1 rfl (.sel 0 rfl (.sel 0 rfl (.sel 0 rfl (.nil _))))))) (kv_Store_Len.calls _ _ b0 m0_0 x0_0 m0_1 x0_1 ) (kv_Store_Len.tot x0_0 x0_1)) (fun _ => rfl) (fun _ => (.sel 3 rfl (.sel 0 rfl (.sel 0 rfl (.sel 0 rfl (.sel 0 rfl (.sel 0 rfl (.nil _)))))))))) rfl) (aq rfl (fun γ => QOb.grd (b := !decide ((s1v.length : Int) = (x1_0.length : Int))) [(1, .pointer (some ⟨b1, 0, none⟩)), (24, .bool (!decide ((s1v.length : Int) = (x1_0.length : Int))))] rfl rfl rfl rfl (.o (s := 1) rfl (by decide) (.v 8 rfl rfl .nil)) (fun hb14v => RQ.sub (E' := [(1, .pointer (some ⟨b1, 0, none⟩))]) ⟨rfl, trivial⟩ (q_move rfl rfl)) rfl) (aq rfl (fun γ => QOb.grd (b := !decide ((s1v.length : Int) = (x1_0.length : Int))) [(24, .bool (!decide ((s1v.length : Int) = (x1_0.length : Int)))), (27, cv ((!decide ((s1v.length : Int) = (x1_0.length : Int))) == false) (.pointer (some ⟨b1, 0, none⟩)))] rfl rfl rfl rfl (.v 8 rfl rfl (.v 11 rfl rfl .nil)) (fun hb15v => RQ.sub (E' := [(27, .pointer (some ⟨b1, 0, none⟩))]) ⟨lk_cv rfl hb15v, trivial⟩ (q_nil rfl rfl)) rfl) (aq rfl (fun γ => QOb.grd (b := !decide ((s1v.length : Int) = (x1_0.length : Int))) [(24, .bool (!decide ((s1v.length : Int) = (x1_0.length : Int)))), (28, cv ((!decide ((s1v.length : Int) = (x1_0.length : Int))) == false) (.pointer (some ⟨b1, 0, none⟩)))] rfl rfl rfl rfl (.v 8 rfl rfl (.v 12 rfl rfl .nil)) (fun hb16v => RQ.sub (E' := [(28, .pointer (some ⟨b1, 0, none⟩))]) ⟨lk_cv rfl hb16v, trivial⟩ (q_fa rfl rfl Tryz.underlying85 rfl rfl Tryz.sizeOf82 rfl)) rfl) (aq rfl (fun γ => QOb.grd (b := !decide ((s1v.length : Int) = (x1_0.length : Int))) [(24, .bool (!decide ((s1v.length : Int) = (x1_0.length : Int)))), (29, cv ((!decide ((s1v.length : Int) = (x1_0.length : Int))) == false) (.pointer (some ⟨b1, 0, none⟩)))] rfl rfl rfl rfl (.v 8 rfl rfl (.v 13 rfl rfl .nil)) (fun hb17v => RQ.sub (E' := [(29, .pointer (some ⟨b1, 0, none⟩))]) ⟨lk_cv rfl hb17v, trivial⟩ (q_load rfl rfl Tryz.isAgg82 (.obj 4 rfl rfl))) rfl) (aq rfl (fun γ => QOb.grd (b := !decide ((s1v.length : Int) = (x1_0.length : Int))) [(24, .bool (!decide ((s1v.length : Int) = (x1_0.length : Int)))), (30, cv ((!decide ((s1v.length : Int) = (x1_0.length : Int))) == false) (.slice a1_0 x1_0.length c1_0))] rfl rfl rfl rfl (.v 8 rfl rfl (.v 14 rfl rfl .nil)) (fun hb18v => RQ.sub (E' := [(30, .slice a1_0 x1_0.length c1_0)]) ⟨lk_cv rfl hb18v, trivial⟩ (q_len rfl rfl rfl Tryz.underlying82)) rfl) (aq rfl (fun γ => QOb.grd (b := !decide ((s1v.length : Int) = (x1_0.length : Int))) [(24, .bool (!decide ((s1v.length : Int) = (x1_0.length : Int)))), (26, cv ((!decide ((s1v.length : Int) = (x1_0.length : Int))) == false) (.int .i64 (kv_Store_Len.v x0_0 x0_1))), (31, cv ((!decide ((s1v.length : Int) = (x1_0.length : Int))) == false) (.int .i64 (x1_0.length : Int)))] rfl rfl rfl rfl (.v 8 rfl rfl (.v 10 rfl rfl (.v 15 rfl rfl .nil))) (fun hb19v => RQ.sub (E' := [(26, .int .i64 (kv_Store_Len.v x0_0 x0_1)), (31, .int .i64 (x1_0.length : Int))]) ⟨lk_cv rfl hb19v, lk_cv rfl hb19v, trivial⟩ (q_neq rfl rfl rfl)) rfl) (aq rfl (fun γ => qp rfl rfl (.v 8 rfl rfl (.v 16 rfl rfl .nil)) (q_or rfl rfl rfl) rfl) zA))))))))))))))))))
 exact zA
 intro g20v
 refine nrm_then ?_
 refine sim_condb rfl (fun h21v => ?_) (fun h22v => ?_)
 refine sr ?_
 refine va rfl rfl (simL_nil (nrm_then (sim_rtn ?_)))
 refine rtn_then ?_
 exact rtn_fn () rfl rfl rfl (.sel 1 rfl (.sel 1 rfl (.sel 1 rfl (.sel 1 rfl (.sel 1 rfl (.nil _))))))
 refine sim_skip ?_
 refine nrm_then ?_
 refine sim_cutR (S := Unit) (Unit) (fun s y => [(0, .pointer (some ⟨b0, 0, none⟩)), (1, .pointer (some ⟨b1, 0, none⟩)), (5, .slice y3v.1 s1v.length y3v.2)]) (fun s y => [obj b0 58 [.map (some m0_0), .map (some m0_1)], obj b1 85 [.slice a1_0 x1_0.length c1_0, .slice a1_1 x1_1.length c1_1], RowV 9 1 (V9 tt) y3v.1 s1v y3v.2, mapO m0_0 enc9 enc9 x0_0, mapO m0_1 enc3 enc69 x0_1, F]) ?_ ?_
 refine sr ?_
 refine va rfl rfl (simL_nil (nrm_then ?_))
 refine sim_block ?_
 refine sim_loop (S := Int) (Unit) (fun k s => synodlaw11_Same.l0 x0_0 x0_1 x1_0 s1v k s) (fun s y => [(0, .pointer (some ⟨b0, 0, none⟩)), (1, .pointer (some ⟨b1, 0, none⟩)), (5, .slice y3v.1 s1v.length y3v.2), (6, .int .i64 s)]) (fun s y => [obj b0 58 [.map (some m0_0), .map (some m0_1)], obj b1 85 [.slice a1_0 x1_0.length c1_0, .slice a1_1 x1_1.length c1_1], RowV 9 1 (V9 tt) y3v.1 s1v y3v.2, mapO m0_0 enc9 enc9 x0_0, mapO m0_1 enc3 enc69 x0_1, F]) (fun _ => by rw [synodlaw11_Same.l0]) ?_ k 0 () ⟨rfl, rfl, rfl, rfl, trivial⟩ (.sel 1 rfl (.sel 3 rfl (.sel' 0 rfl (RowV.mk hl5v) (.sel 0 rfl (.sel 0 rfl (.sel 0 rfl (.nil _)))))))
 intro k s25v y26v
 refine sim_eq (by rw [synodlaw11_Same.l0]) ?_
 refine sim_seq (sr ?_)
 refine vm rfl rfl ?_
 refine vm rfl rfl ?_
 refine vq (q_len rfl rfl rfl Tryz.underlying94) rfl ?_
 refine vq (q_lss rfl rfl rfl) rfl (simL_nil (nrm_then ?_))
 refine sim_cond rfl (fun h28v => ?_) (fun h29v => ?_)
 refine sim_skip ?_
 refine nrm_then (sim_seq ?_)
 refine sim_block ?_
 refine sim_cut (S := Bool) (Unit) (fun s y => [(0, .pointer (some ⟨b0, 0, none⟩)), (1, .pointer (some ⟨b1, 0, none⟩)), (5, .slice y3v.1 s1v.length y3v.2), (6, .int .i64 s25v), (70, .bool s)]) (fun s y => [obj b0 58 [.map (some m0_0), .map (some m0_1)], obj b1 85 [.slice a1_0 x1_0.length c1_0, .slice a1_1 x1_1.length c1_1], RowV 9 1 (V9 tt) y3v.1 s1v y3v.2, mapO m0_0 enc9 enc9 x0_0, mapO m0_1 enc3 enc69 x0_1, F]) ?_ ?_
 refine sim_openV 2 rfl (fun rs32v hl33v => ?_)
 refine sim_ask (fun hi34v => ?_)
 refine sim_posV 2 rfl hl33v rfl (i := s25v.toNat) (by omega) ([] : List UInt8) (fun b35v b35vo r38v ha36v hV39v hlr40v hcell41v => ?_)
 obtain rfl := hV39v
 refine sim_ask (fun hi42v => ?_)
 obtain ⟨b43v, b43vo, r46v, ha44v, hV47v, hlr48v, hcell49v⟩ := RdV.pos h1_0 (Up.refl _) rfl (i := s25v.toNat) (by omega) dz90
 obtain rfl := hV47v
 refine sim_if (fun hk50v => ?_) (fun hk50v => ?_)
 refine sim_ask (fun hi52v => ?_)
 refine sim_posV 2 rfl hl33v rfl (i := s25v.toNat) (by omega) ([] : List UInt8) (fun b53v b53vo r56v ha54v hV57v hlr58v hcell59v => ?_)
 obtain rfl := hV57v
 refine sim_ask (fun hi63v => ?_)
 obtain ⟨b64v, b64vo, r67v, ha65v, hV68v, hlr69v, hcell70v⟩ := RdV.pos h1_0 (Up.refl _) rfl (i := s25v.toNat) (by omega) dz90
 obtain rfl := hV68v
 refine sim_draw (Γ := Unit) () [[], [], [0, 1], [0, 1, 2], [], [4], [4, 5], [4, 5, 6], [], [4, 5, 6, 7, 8], [4, 5, 6, 7, 8, 9], [4, 5, 6, 7, 8, 9, 10], rL 12, rL 13, rL 14, rL 14, rL 14, [0, 1, 2, 3, 4, 5, 6, 7, 8, 9, 10, 11, 12, 13, 15, 16], [0, 1, 2, 3, 4, 5, 6, 7, 8, 9, 10, 11, 12, 13, 15, 16, 17], rL 19, rL 14, [0, 1, 2, 3, 4, 5, 6, 7, 8, 9, 10, 11, 12, 13, 20], [0, 1, 2, 3, 4, 5, 6, 7, 8, 9, 10, 11, 12, 13, 20, 21], [0, 1, 2, 3, 4, 5, 6, 7, 8, 9, 10, 11, 12, 13, 20, 21, 22], rL 14, [0, 1, 2, 3, 4, 5, 6, 7, 8, 9, 10, 11, 12, 13, 20, 21, 22, 23, 24], [0, 1, 2, 3, 4, 5, 6, 7, 8, 9, 10, 11, 12, 13, 20, 21, 22, 23, 24, 25], [0, 1, 2, 3, 4, 5, 6, 7, 8, 9, 10, 11, 12, 13, 20, 21, 22, 23, 24, 25, 26], [0, 1, 2, 3, 4, 5, 6, 7, 8, 9, 10, 11, 12, 13, 20, 21, 22, 23, 24, 25, 26, 27], rL 29, rL 30] [] [0, 1, 2, 3, 4, 5, 6, 7, 8, 9, 10, 11, 12, 13, 14, 15, 16, 17, 18, 19, 20, 21, 22, 23, 24, 25, 26, 27, 28, 29, 30] (fun i => [[0], [0], [0], [0], [0], [0], [0], [0], [0], [0], [0], [0], [0], [0], [0], [0], [0], [0], [0], [0], [0], [0], [0], [0], [0], [0], [0], [0], [0], [0], [0]].getD i []) (fun i => [[], [], [], [], [], [], [], [], [], [], [], [], [], [], [], [], [], [], [], [], [], [], [], [], [], [], [], [], [], [], []].getD i []) (fun γ i => [.slice y3v.1 s1v.length y3v.2, .int .i64 s25v, .pointer (some ⟨b35v, b35vo + s25v.toNat * 1, none⟩), str (s1v.getD s25v.toNat ([] : List UInt8)), .pointer (some ⟨b1, 0, none⟩), .pointer (some ⟨b1, 0, none⟩), .pointer (some ⟨b1, 0, none⟩), .slice a1_0 x1_0.length c1_0, .int .i64 s25v, .pointer (some ⟨b43v, b43vo + s25v.toNat * 2, none⟩), .pointer (some ⟨b43v, b43vo + s25v.toNat * 2 + 0, none⟩), str ((x1_0.getD s25v.toNat dz90).1), .bool (!decide ((s1v.getD s25v.toNat ([] : List UInt8)) = ((x1_0.getD s25v.toNat dz90).1))), .bool (!decide ((s1v.getD s25v.toNat ([] : List UInt8)) = ((x1_0.getD s25v.toNat dz90).1))), .pointer (some ⟨b0, 0, none⟩), .slice y3v.1 s1v.length y3v.2, .int .i64 s25v, .pointer (some ⟨b53v, b53vo + s25v.toNat * 1, none⟩), str (s1v.getD s25v.toNat ([] : List UInt8)), .agg #[.int .i64 ((kv_Store_Get.v x0_0 x0_1 (s1v.getD s25v.toNat ([] : List UInt8))).1), str ((kv_Store_Get.v x0_0 x0_1 (s1v.getD s25v.toNat ([] : List UInt8))).2)], .pointer (some ⟨b1, 0, none⟩), .pointer (some ⟨b1, 0, none⟩), .pointer (some ⟨b1, 0, none⟩), .slice a1_0 x1_0.length c1_0, .int .i64 s25v, .pointer (some ⟨b64v, b64vo + s25v.toNat * 2, none⟩), .pointer (some ⟨b64v, b64vo + s25v.toNat * 2 + 1, none⟩), str ((x1_0.getD s25v.toNat dz90).2), .agg #[.int .i64 1, str ((x1_0.getD s25v.toNat dz90).2)], .bool (!(decide ((kv_Store_Get.v x0_0 x0_1 (s1v.getD s25v.toNat ([] : List UInt8))).1 = (1 : Int)) && (decide (((kv_Store_Get.v x0_0 x0_1 (s1v.getD s25v.toNat ([] : List UInt8))).2) = ((x1_0.getD s25v.toNat dz90).2))))), .bool (!(decide ((kv_Store_Get.v x0_0 x0_1 (s1v.getD s25v.toNat ([] : List UInt8))).1 = (1 : Int)) && (decide (((kv_Store_Get.v x0_0 x0_1 (s1v.getD s25v.toNat ([] : List UInt8))).2) = ((x1_0.getD s25v.toNat dz90).2)))))].getD i undef) (fun j γ => [[obj b0 58 [.map (some m0_0), .map (some m0_1)], obj b1 85 [.slice a1_0 x1_0.length c1_0, .slice a1_1 x1_1.length c1_1], Row 9 1 y3v.1 s1v.length y3v.2 rs32v.flatten, mapO m0_0 enc9 enc9 x0_0, mapO m0_1 enc3 enc69 x0_1, F]].getD j []) (fun γ => [(0, .pointer (some ⟨b0, 0, none⟩)), (1, .pointer (some ⟨b1, 0, none⟩)), (5, .slice y3v.1 s1v.length y3v.2), (6, .int .i64 s25v), (54, .pointer (some ⟨b0, 0, none⟩)), (55, .slice y3v.1 s1v.length y3v.2), (56, .int .i64 s25v), (57, .pointer (some ⟨b53v, b53vo + s25v.toNat * 1, none⟩)), (58, str (s1v.getD s25v.toNat ([] : List UInt8))), (59, .agg #[.int .i64 ((kv_Store_Get.v x0_0 x0_1 (s1v.getD s25v.toNat ([] : List UInt8))).1), str ((kv_Store_Get.v x0_0 x0_1 (s1v.getD s25v.toNat ([] : List UInt8))).2)]), (60, .pointer (some ⟨b1, 0, none⟩)), (61, .pointer (some ⟨b1, 0, none⟩)), (62, .pointer (some ⟨b1, 0, none⟩)), (63, .slice a1_0 x1_0.length c1_0), (64, .int .i64 s25v), (65, .pointer (some ⟨b64v, b64vo + s25v.toNat * 2, none⟩)), (66, .pointer (some ⟨b64v, b64vo + s25v.toNat * 2 + 1, none⟩)), (67, str ((x1_0.getD s25v.toNat dz90).2)), (68, .agg #[.int .i64 1, str ((x1_0.getD s25v.toNat dz90).2)]), (69, .bool (!(decide ((kv_Store_Get.v x0_0 x0_1 (s1v.getD s25v.toNat ([] : List UInt8))).1 = (1 : Int)) && (decide (((kv_Store_Get.v x0_0 x0_1 (s1v.getD s25v.toNat ([] : List UInt8))).2) = ((x1_0.getD s25v.toNat dz90).2)))))), (70, .bool (!(decide ((kv_Store_Get.v x0_0 x0_1 (s1v.getD s25v.toNat ([] : List UInt8))).1 = (1 : Int)) && (decide (((kv_Store_Get.v x0_0 x0_1 (s1v.getD s25v.toNat ([] : List UInt8))).2) = ((x1_0.getD s25v.toNat dz90).2))))))]) mixed (by decide) (by decide) (by decide) (by decide) (by decide) (by decide) (by decide) 120 rfl (by decide) (by decide) (by decide) (Ent.refl _) ?_ ?_ (fun _ => ⟨rfl, rfl, rfl, rfl, rfl, rfl, rfl, rfl, rfl, rfl, rfl, rfl, rfl, rfl, rfl, rfl, rfl, rfl, rfl, rfl, rfl, trivial⟩) ?_
 exact (aq rfl (fun γ => qm rfl (.o (s := 5) rfl (by decide) .nil) rfl) (aq rfl (fun γ => qm rfl (.o (s := 6) rfl (by decide) .nil) rfl) (aq rfl (fun γ => qp rfl rfl (.v 0 rfl rfl (.v 1 rfl rfl .nil)) (q_idx rfl rfl rfl ha36v Tryz.underlying94 Tryz.sizeOf9 hi34v.1 hi34v.2) rfl) (aq rfl (fun γ => qp rfl rfl (.v 2 rfl rfl .nil) (q_load rfl rfl Tryz.isAgg9 (hcell41v 2 rfl 0 _ rfl)) rfl) (aq rfl (fun γ => qm rfl (.o (s := 1) rfl (by decide) .nil) rfl) (aq rfl (fun γ => qp rfl rfl (.v 4 rfl rfl .nil) (q_nil rfl rfl) rfl) (aq rfl (fun γ => qp rfl rfl (.v 5 rfl rfl .nil) (q_fa rfl rfl Tryz.underlying85 rfl rfl Tryz.sizeOf82 rfl) rfl) (aq rfl (fun γ => qp rfl rfl (.v 6 rfl rfl .nil) (q_load rfl rfl Tryz.isAgg82 (.obj 1 rfl rfl)) rfl) (aq rfl (fun γ => qm rfl (.o (s := 6) rfl (by decide) .nil) rfl) (aq rfl (fun γ => qp rfl rfl (.v 7 rfl rfl (.v 8 rfl rfl .nil)) (q_idx rfl rfl rfl ha44v Tryz.underlying82 Tryz.sizeOf90 hi42v.1 hi42v.2) rfl) (aq rfl (fun γ => qp rfl rfl (.v 9 rfl rfl .nil) (q_fa rfl rfl Tryz.underlying90 rfl rfl Tryz.sizeOf9 rfl) rfl) (aq rfl (fun γ => qp rfl rfl (.v 10 rfl rfl .nil) (q_load rfl rfl Tryz.isAgg9 (hcell49v 5 rfl 0 _ rfl)) rfl) (aq rfl (fun γ => qp rfl rfl (.v 3 rfl rfl (.v 11 rfl rfl .nil)) (q_nes rfl rfl rfl) rfl) (aq rfl (fun γ => qm rfl (.v 12 rfl rfl .nil) rfl) (aq rfl (fun γ => qy rfl rfl (.o (s := 0) rfl (by decide) (.v 13 rfl rfl .nil)) rfl rfl (beq_no (ndec_no hk50v)) (q_move rfl rfl) rfl) (aq rfl (fun γ => qy rfl rfl (.o (s := 5) rfl (by decide) (.v 13 rfl rfl .nil)) rfl rfl (beq_no (ndec_no hk50v)) (q_move rfl rfl) rfl) (aq rfl (fun γ => qy rfl rfl (.o (s := 6) rfl (by decide) (.v 13 rfl rfl .nil)) rfl rfl (beq_no (ndec_no hk50v)) (q_move rfl rfl) rfl) (aq rfl (fun γ => qy rfl rfl (.v 13 rfl rfl (.v 15 rfl rfl (.v 16 rfl rfl .nil))) rfl rfl (beq_no (ndec_no hk50v)) (q_idx rfl rfl rfl ha54v Tryz.underlying94 Tryz.sizeOf9 hi52v.1 hi52v.2) rfl) (aq rfl (fun γ => qy rfl rfl (.v 13 rfl rfl (.v 17 rfl rfl .nil)) rfl rfl (beq_no (ndec_no hk50v)) (q_load rfl rfl Tryz.isAgg9 (hcell59v 2 rfl 0 _ rfl)) rfl) (aq rfl (fun γ => qy rfl rfl (.v 13 rfl rfl (.v 14 rfl rfl (.v 18 rfl rfl .nil))) rfl rfl (beq_no (ndec_no hk50v)) (RE.rq (re_call (vs := [.pointer (some ⟨b0, 0, none⟩), str (s1v.getD s25v.toNat ([] : List UInt8))]) (cap := []) (A := [obj b0 58 [.map (some m0_0), .map (some m0_1)], mapO m0_0 enc9 enc9 x0_0, mapO m0_1 enc3 enc69 x0_1]) (rst := [obj b1 85 [.slice a1_0 x1_0.length c1_0, .slice a1_1 x1_1.length c1_1], Row 9 1 y3v.1 s1v.length y3v.2 rs32v.flatten, F]) rfl rfl rfl rfl rfl rfl Tryz.call22 (.sel 0 rfl (.sel 2 rfl (.sel 2 rfl (.sel 0 rfl (.sel 0 rfl (.sel 0 rfl (.nil _))))))) (kv_Store_Get.calls _ _ b0 m0_0 x0_0 m0_1 x0_1 (s1v.getD s25v.toNat ([] : List UInt8)) ) (kv_Store_Get.tot x0_0 x0_1 (s1v.getD s25v.toNat ([] : List UInt8)))) (fun _ => rfl) (fun _ => (.sel 0 rfl (.sel 2 rfl (.sel 2 rfl (.sel 0 rfl (.sel 0 rfl (.sel 0 rfl (.nil _))))))))) rfl) (aq rfl (fun γ => qy rfl rfl (.o (s := 1) rfl (by decide) (.v 13 rfl rfl .nil)) rfl rfl (beq_no (ndec_no hk50v)) (q_move rfl rfl) rfl) (aq rfl (fun γ => qy rfl rfl (.v 13 rfl rfl (.v 20 rfl rfl .nil)) rfl rfl (beq_no (ndec_no hk50v)) (q_nil rfl rfl) rfl) (aq rfl (fun γ => qy rfl rfl (.v 13 rfl rfl (.v 21 rfl rfl .nil)) rfl rfl (beq_no (ndec_no hk50v)) (q_fa rfl rfl Tryz.underlying85 rfl rfl Tryz.sizeOf82 rfl) rfl) (aq rfl (fun γ => qy rfl rfl (.v 13 rfl rfl (.v 22 rfl rfl .nil)) rfl rfl (beq_no (ndec_no hk50v)) (q_load rfl rfl Tryz.isAgg82 (.obj 1 rfl rfl)) rfl) (aq rfl (fun γ => qy rfl rfl (.o (s := 6) rfl (by decide) (.v 13 rfl rfl .nil)) rfl rfl (beq_no (ndec_no hk50v)) (q_move rfl rfl) rfl) (aq rfl (fun γ => qy rfl rfl (.v 13 rfl rfl (.v 23 rfl rfl (.v 24 rfl rfl .nil))) rfl rfl (beq_no (ndec_no hk50v)) (q_idx rfl rfl rfl ha65v Tryz.underlying82 Tryz.sizeOf90 hi63v.1 hi63v.2) rfl) (aq rfl (fun γ => qy rfl rfl (.v 13 rfl rfl (.v 25 rfl rfl .nil)) rfl rfl (beq_no (ndec_no hk50v)) (q_fa rfl rfl Tryz.underlying90 rfl rfl Tryz.sizeOf9 rfl) rfl) (aq rfl (fun γ => qy rfl rfl (.v 13 rfl rfl (.v 26 rfl rfl .nil)) rfl rfl (beq_no (ndec_no hk50v)) (q_load rfl rfl Tryz.isAgg9 (hcell70v 5 rfl 1 _ rfl)) rfl) (aq rfl (fun γ => qy rfl rfl (.v 13 rfl rfl (.v 27 rfl rfl .nil)) rfl rfl (beq_no (ndec_no hk50v)) (q_build (v := .agg #[.int .i64 1, str ((x1_0.getD s25v.toNat dz90).2)]) rfl rfl (fun _ => by kernel_rfl)) rfl) (aq rfl (fun γ => qy rfl rfl (.v 13 rfl rfl (.v 19 rfl rfl (.v 28 rfl rfl .nil))) rfl rfl (beq_no (ndec_no hk50v)) (q_neagg rfl rfl rfl (by kernel_rfl) (fun d w => eqi_struct Tryz.underlying45 (by kernel_rfl) (eqf_cons (by rfl) (part_of Tryz.isAgg3 rfl) (part_of Tryz.isAgg3 rfl) (eqi_int Tryz.underlying3) (eqf_last (by rfl) (part_of Tryz.isAgg9 rfl) (part_of Tryz.isAgg9 rfl) (eqi_str Tryz.underlying9))))) rfl) (aq rfl (fun γ => qp rfl rfl (.v 13 rfl rfl (.v 29 rfl rfl .nil)) (q_pick rfl rfl rfl rfl (bif_no (ndec_no hk50v) _ _)) rfl) zA)))))))))))))))))))))))))))))))
 exact zA
 intro g74v
 exact nrm_cut (s := !(decide ((kv_Store_Get.v x0_0 x0_1 (s1v.getD s25v.toNat ([] : List UInt8))).1 = (1 : Int)) && (decide (((kv_Store_Get.v x0_0 x0_1 (s1v.getD s25v.toNat ([] : List UInt8))).2) = ((x1_0.getD s25v.toNat dz90).2))))) () ⟨rfl, rfl, rfl, rfl, rfl, trivial⟩ (.sel 0 rfl (.sel 0 rfl (.sel' 0 rfl (RowV.mk hl33v) (.sel 0 rfl (.sel 0 rfl (.sel 0 rfl (.nil _)))))))
 refine sim_draw (Γ := Unit) () [[], [], [0, 1], [0, 1, 2], [], [4], [4, 5], [4, 5, 6], [], [4, 5, 6, 7, 8], [4, 5, 6, 7, 8, 9], [4, 5, 6, 7, 8, 9, 10], rL 12, rL 13, rL 14, rL 14, rL 14, [0, 1, 2, 3, 4, 5, 6, 7, 8, 9, 10, 11, 12, 13, 15, 16], [0, 1, 2, 3, 4, 5, 6, 7, 8, 9, 10, 11, 12, 13, 15, 16, 17], rL 19, rL 14, [0, 1, 2, 3, 4, 5, 6, 7, 8, 9, 10, 11, 12, 13, 20], [0, 1, 2, 3, 4, 5, 6, 7, 8, 9, 10, 11, 12, 13, 20, 21], [0, 1, 2, 3, 4, 5, 6, 7, 8, 9, 10, 11, 12, 13, 20, 21, 22], rL 14, [0, 1, 2, 3, 4, 5, 6, 7, 8, 9, 10, 11, 12, 13, 20, 21, 22, 23, 24], [0, 1, 2, 3, 4, 5, 6, 7, 8, 9, 10, 11, 12, 13, 20, 21, 22, 23, 24, 25], [0, 1, 2, 3, 4, 5, 6, 7, 8, 9, 10, 11, 12, 13, 20, 21, 22, 23, 24, 25, 26], [0, 1, 2, 3, 4, 5, 6, 7, 8, 9, 10, 11, 12, 13, 20, 21, 22, 23, 24, 25, 26, 27], rL 29, rL 30] [] [0, 1, 2, 3, 4, 5, 6, 7, 8, 9, 10, 11, 12, 13, 14, 15, 16, 17, 18, 19, 20, 21, 22, 23, 24, 25, 26, 27, 28, 29, 30] (fun i => [[0], [0], [0], [0], [0], [0], [0], [0], [0], [0], [0], [0], [0], [0], [0], [0], [0], [0], [0], [0], [0], [0], [0], [0], [0], [0], [0], [0], [0], [0], [0]].getD i []) (fun i => [[], [], [], [], [], [], [], [], [], [], [], [], [], [], [], [], [], [], [], [], [], [], [], [], [], [], [], [], [], [], []].getD i []) (fun γ i => [.slice y3v.1 s1v.length y3v.2, .int .i64 s25v, .pointer (some ⟨b35v, b35vo + s25v.toNat * 1, none⟩), str (s1v.getD s25v.toNat ([] : List UInt8)), .pointer (some ⟨b1, 0, none⟩), .pointer (some ⟨b1, 0, none⟩), .pointer (some ⟨b1, 0, none⟩), .slice a1_0 x1_0.length c1_0, .int .i64 s25v, .pointer (some ⟨b43v, b43vo + s25v.toNat * 2, none⟩), .pointer (some ⟨b43v, b43vo + s25v.toNat * 2 + 0, none⟩), str ((x1_0.getD s25v.toNat dz90).1), .bool (!decide ((s1v.getD s25v.toNat ([] : List UInt8)) = ((x1_0.getD s25v.toNat dz90).1))), .bool (!decide ((s1v.getD s25v.toNat ([] : List UInt8)) = ((x1_0.getD s25v.toNat dz90).1))), undef, undef, undef, undef, undef, undef, undef, undef, undef, undef, undef, undef, undef, undef, undef, undef, .bool true].getD i undef) (fun j γ => [[obj b0 58 [.map (some m0_0), .map (some m0_1)], obj b1 85 [.slice a1_0 x1_0.length c1_0, .slice a1_1 x1_1.length c1_1], Row 9 1 y3v.1 s1v.length y3v.2 rs32v.flatten, mapO m0_0 enc9 enc9 x0_0, mapO m0_1 enc3 enc69 x0_1, F]].getD j []) (fun γ => [(0, .pointer (some ⟨b0, 0, none⟩)), (1, .pointer (some ⟨b1, 0, none⟩)), (5, .slice y3v.1 s1v.length y3v.2), (6, .int .i64 s25v), (54, undef), (55, undef), (56, undef), (57, undef), (58, undef), (59, undef), (60, undef), (61, undef), (62, undef), (63, undef), (64, undef), (65, undef), (66, undef), (67, undef), (68, undef), (69, undef), (70, .bool true)]) mixed (by decide) (by decide) (by decide) (by decide) (by decide) (by decide) (by decide) 120 rfl (by decide) (by decide) (by decide) (Ent.refl _) ?_ ?_ (fun _ => ⟨rfl, rfl, rfl, rfl, rfl, rfl, rfl, rfl, rfl, rfl, rfl, rfl, rfl, rfl, rfl, rfl, rfl, rfl, rfl, rfl, rfl, trivial⟩) ?_
 exact (aq rfl (fun γ => qm rfl (.o (s := 5) rfl (by decide) .nil) rfl) (aq rfl (fun γ => qm rfl (.o (s := 6) rfl (by decide) .nil) rfl) (aq rfl (fun γ => qp rfl rfl (.v 0 rfl rfl (.v 1 rfl rfl .nil)) (q_idx rfl rfl rfl ha36v Tryz.underlying94 Tryz.sizeOf9 hi34v.1 hi34v.2) rfl) (aq rfl (fun γ => qp rfl rfl (.v 2 rfl rfl .nil) (q_load rfl rfl Tryz.isAgg9 (hcell41v 2 rfl 0 _ rfl)) rfl) (aq rfl (fun γ => qm rfl (.o (s := 1) rfl (by decide) .nil) rfl) (aq rfl (fun γ => qp rfl rfl (.v 4 rfl rfl .nil) (q_nil rfl rfl) rfl) (aq rfl (fun γ => qp rfl rfl (.v 5 rfl rfl .nil) (q_fa rfl rfl Tryz.underlying85 rfl rfl Tryz.sizeOf82 rfl) rfl) (aq rfl (fun γ => qp rfl rfl (.v 6 rfl rfl .nil) (q_load rfl rfl Tryz.isAgg82 (.obj 1 rfl rfl)) rfl) (aq rfl (fun γ => qm rfl (.o (s := 6) rfl (by decide) .nil) rfl) (aq rfl (fun γ => qp rfl rfl (.v 7 rfl rfl (.v 8 rfl rfl .nil)) (q_idx rfl rfl rfl ha44v Tryz.underlying82 Tryz.sizeOf90 hi42v.1 hi42v.2) rfl) (aq rfl (fun γ => qp rfl rfl (.v 9 rfl rfl .nil) (q_fa rfl rfl Tryz.underlying90 rfl rfl Tryz.sizeOf9 rfl) rfl) (aq rfl (fun γ => qp rfl rfl (.v 10 rfl rfl .nil) (q_load rfl rfl Tryz.isAgg9 (hcell49v 5 rfl 0 _ rfl)) rfl) (aq rfl (fun γ => qp rfl rfl (.v 3 rfl rfl (.v 11 rfl rfl .nil)) (q_nes rfl rfl rfl) rfl) (aq rfl (fun γ => qm rfl (.v 12 rfl rfl .nil) rfl) (aq rfl (fun γ => qn rfl rfl (.o (s := 0) rfl (by decide) (.v 13 rfl rfl .nil)) rfl rfl (beq_yes' (ndec_yes hk50v)) rfl) (aq rfl (fun γ => qn rfl rfl (.o (s := 5) rfl (by decide) (.v 13 rfl rfl .nil)) rfl rfl (beq_yes' (ndec_yes hk50v)) rfl) (aq rfl (fun γ => qn rfl rfl (.o (s := 6) rfl (by decide) (.v 13 rfl rfl .nil)) rfl rfl (beq_yes' (ndec_yes hk50v)) rfl) (aq rfl (fun γ => qn rfl rfl (.v 13 rfl rfl (.v 15 rfl rfl (.v 16 rfl rfl .nil))) rfl rfl (beq_yes' (ndec_yes hk50v)) rfl) (aq rfl (fun γ => qn rfl rfl (.v 13 rfl rfl (.v 17 rfl rfl .nil)) rfl rfl (beq_yes' (ndec_yes hk50v)) rfl) (aq rfl (fun γ => qn rfl rfl (.v 13 rfl rfl (.v 14 rfl rfl (.v 18 rfl rfl .nil))) rfl rfl (beq_yes' (ndec_yes hk50v)) rfl) (aq rfl (fun γ => qn rfl rfl (.o (s := 1) rfl (by decide) (.v 13 rfl rfl .nil)) rfl rfl (beq_yes' (ndec_yes hk50v)) rfl) (aq rfl (fun γ => qn rfl rfl (.v 13 rfl rfl (.v 20 rfl rfl .nil)) rfl rfl (beq_yes' (ndec_yes hk50v)) rfl) (aq rfl (fun γ => qn rfl rfl (.v 13 rfl rfl (.v 21 rfl rfl .nil)) rfl rfl (beq_yes' (ndec_yes hk50v)) rfl) (aq rfl (fun γ => qn rfl rfl (.v 13 rfl rfl (.v 22 rfl rfl .nil)) rfl rfl (beq_yes' (ndec_yes hk50v)) rfl) (aq rfl (fun γ => qn rfl rfl (.o (s := 6) rfl (by decide) (.v 13 rfl rfl .nil)) rfl rfl (beq_yes' (ndec_yes hk50v)) rfl) (aq rfl (fun γ => qn rfl rfl (.v 13 rfl rfl (.v 23 rfl rfl (.v 24 rfl rfl .nil))) rfl rfl (beq_yes' (ndec_yes hk50v)) rfl) (aq rfl (fun γ => qn rfl rfl (.v 13 rfl rfl (.v 25 rfl rfl .nil)) rfl rfl (beq_yes' (ndec_yes hk50v)) rfl) (aq rfl (fun γ => qn rfl rfl (.v 13 rfl rfl (.v 26 rfl rfl .nil)) rfl rfl (beq_yes' (ndec_yes hk50v)) rfl) (aq rfl (fun γ => qn rfl rfl (.v 13 rfl rfl (.v 27 rfl rfl .nil)) rfl rfl (beq_yes' (ndec_yes hk50v)) rfl) (aq rfl (fun γ => qn rfl rfl (.v 13 rfl rfl (.v 19 rfl rfl (.v 28 rfl rfl .nil))) rfl rfl (beq_yes' (ndec_yes hk50v)) rfl) (aq rfl (fun γ => qp rfl rfl (.v 13 rfl rfl (.v 29 rfl rfl .nil)) (q_pick rfl rfl rfl rfl (bif_yes (ndec_yes hk50v) _ _)) rfl) zA)))))))))))))))))))))))))))))))
 exact zA
 intro g51v
 exact nrm_cut (s := true) () ⟨rfl, rfl, rfl, rfl, rfl, trivial⟩ (.sel 0 rfl (.sel 0 rfl (.sel' 0 rfl (RowV.mk hl33v) (.sel 0 rfl (.sel 0 rfl (.sel 0 rfl (.nil _)))))))
 intro s30v y31v
 refine sim_condb rfl (fun h75v => ?_) (fun h76v => ?_)
 refine sr ?_
 refine va rfl rfl (simL_nil (nrm_then (sim_rtn ?_)))
 refine rtn_block ?_
 refine rtn_then ?_
 refine rtn_loop ?_
 refine rtn_block ?_
 refine rtn_cutR ?_
 exact rtn_fn () rfl rfl rfl (.sel 0 rfl (.sel 2 rfl (.sel 2 rfl (.sel 0 rfl (.sel 1 rfl (.nil _))))))
 refine sim_skip ?_
 refine nrm_block (nrm_then (sim_region ?_))
 refine vm rfl rfl ?_
 refine vq (q_add rfl rfl rfl) rfl ?_
 refine va rfl rfl (simL_nil ?_)
 exact nrm_again (s := IntKind.i64.wrap (s25v + 1)) () ⟨rfl, rfl, rfl, rfl, trivial⟩ (.sel 0 rfl (.sel 0 rfl (.sel 0 rfl (.sel 0 rfl (.sel 0 rfl (.sel 0 rfl (.nil _)))))))
 refine sim_exi ?_
 refine exi_then ?_
 refine exi_loop ?_
 refine exi_here ?_
 exact nrm_cutR (s := ()) () ⟨rfl, rfl, rfl, trivial⟩ (.sel 0 rfl (.sel 0 rfl (.sel 0 rfl (.sel 0 rfl (.sel 0 rfl (.sel 0 rfl (.nil _)))))))
 intro s23v y24v
 refine sr ?_
 refine vm rfl rfl ?_
 refine simL_bind (fun s77v hs78v => ?_)
 refine simL_eff (re_call (vs := [.pointer (some ⟨b0, 0, none⟩)]) (cap := []) (A := [obj b0 58 [.map (some m0_0), .map (some m0_1)], mapO m0_0 enc9 enc9 x0_0, mapO m0_1 enc3 enc69 x0_1]) (rst := [obj b1 85 [.slice a1_0 x1_0.length c1_0, .slice a1_1 x1_1.length c1_1], RowV 9 1 (V9 tt) y3v.1 s1v y3v.2, F]) rfl rfl rfl rfl rfl rfl Tryz.call28 (.sel 0 rfl (.sel 2 rfl (.sel 2 rfl (.sel 0 rfl (.sel 0 rfl (.sel 0 rfl (.nil _))))))) (kv_Store_Sessions.calls _ _ k b0 m0_0 x0_0 m0_1 x0_1 ) hs78v) rfl rfl rfl ?_
 intro y79v
 refine va rfl rfl (nx ?_)
 refine vm rfl rfl ?_
 refine vm rfl rfl ?_
 refine simL_openV 0 rfl (fun rs80v hl81v => ?_)
 refine simL_bind (fun s86v hs87v => ?_)
 refine simL_lend 0 rfl (fun hq82v hq83v hq84v hq85v => ?_)
 refine simL_eff (re_call (vs := [.slice y79v.1 s77v.length y79v.2, .pointer (some ⟨b1, 0, none⟩)]) (cap := []) (A := [obj b1 85 [.slice a1_0 x1_0.length c1_0, .slice a1_1 x1_1.length c1_1]]) (rst := [Row 69 4 y79v.1 s77v.length y79v.2 rs80v.flatten, obj b0 58 [.map (some m0_0), .map (some m0_1)], mapO m0_0 enc9 enc9 x0_0, mapO m0_1 enc3 enc69 x0_1, RowV 9 1 (V9 tt) y3v.1 s1v y3v.2, F]) rfl rfl rfl rfl rfl rfl Tryz.call43 (.sel 4 rfl (.sel 0 rfl (.sel 0 rfl (.sel 0 rfl (.sel 0 rfl (.sel 0 rfl (.sel 0 rfl (.nil _)))))))) (synodlaw11_Sessions.calls _ _ k y79v.1 y79v.2 s77v b1 a1_0 c1_0 x1_0 a1_1 c1_1 x1_1 ((Rd.asV hl81v hq82v).up (Up.lend 0 rfl) (fun _ _ h => h)) hq83v hq84v (h1_0.up (Up.lend 5 rfl) (fun _ _ h => h)) hc1_0 hm1_0 (h1_1.up (Up.lend 5 rfl) (fun _ _ h => h)) hc1_1 hm1_1) hs87v) rfl rfl rfl ?_
 intro y88v
 refine va rfl rfl (simL_nil (nrm_then ?_))
 refine sim_cut (S := Unit) (Unit) (fun s y => [(0, .pointer (some ⟨b0, 0, none⟩)), (1, .pointer (some ⟨b1, 0, none⟩)), (5, .slice y3v.1 s1v.length y3v.2), (8, .bool s86v)]) (fun s y => [obj b1 85 [.slice a1_0 x1_0.length c1_0, .slice a1_1 x1_1.length c1_1], obj b0 58 [.map (some m0_0), .map (some m0_1)], RowV 9 1 (V9 tt) y3v.1 s1v y3v.2, mapO m0_0 enc9 enc9 x0_0, mapO m0_1 enc3 enc69 x0_1, F]) ?_ ?_
 refine sr ?_
 refine va rfl rfl (simL_nil (nrm_then ?_))
 refine sim_block ?_
 refine sim_loop (S := (List (Ty91)) × Int) (Unit) (fun k s => synodlaw11_Same.l1 k s.1 s.2) (fun s y => [(0, .pointer (some ⟨b0, 0, none⟩)), (1, .pointer (some ⟨b1, 0, none⟩)), (5, .slice y3v.1 s1v.length y3v.2), (7, .slice y79v.1 s.1.length y79v.2), (8, .bool s86v), (9, .int .i64 s.2)]) (fun s y => [obj b1 85 [.slice a1_0 x1_0.length c1_0, .slice a1_1 x1_1.length c1_1], obj b0 58 [.map (some m0_0), .map (some m0_1)], RowV 9 1 (V9 tt) y3v.1 s1v y3v.2, RowV 69 4 (V69 tt) y79v.1 s.1 y79v.2, mapO m0_0 enc9 enc9 x0_0, mapO m0_1 enc3 enc69 x0_1, F]) (fun _ => by rw [synodlaw11_Same.l1]) ?_ k (s77v, 0) () ⟨rfl, rfl, rfl, rfl, rfl, rfl, trivial⟩ (.sel 0 rfl (.sel 1 rfl (.sel 3 rfl (.sel' 0 rfl (RowV.mk hl81v) (.sel 0 rfl (.sel 0 rfl (.sel 0 rfl (.nil _))))))))
 intro k s91v y92v
 refine sim_eq (by rw [synodlaw11_Same.l1]) ?_
 refine sim_seq (sr ?_)
 refine vm rfl rfl ?_
 refine vm rfl rfl ?_
 refine vq (q_len rfl rfl rfl Tryz.underlying66) rfl ?_
 refine vq (q_lss rfl rfl rfl) rfl (simL_nil (nrm_then ?_))
 refine sim_cond rfl (fun h95v => ?_) (fun h96v => ?_)
 refine sim_skip ?_
 refine nrm_then (sim_seq ?_)
 refine sim_block ?_
 refine sim_region ?_
 refine vm rfl rfl ?_
 refine vm rfl rfl ?_
 refine vq (q_build (v := .agg #[.int .i64 0, .int .i64 0, .int .i64 0, str ([] : List UInt8)]) rfl rfl (fun _ => by kernel_rfl)) rfl ?_
 refine simL_openV 3 rfl (fun rs105v hl106v => ?_)
 refine simL_ask (fun hi97v => ?_)
 refine simL_posV 3 rfl hl106v rfl (i := s91v.2.toNat) (by omega) dz91 (fun b98v b98vo r101v ha99v hV102v hlr103v hcell104v => ?_)
 obtain rfl := hV102v
 refine vq (q_idx rfl rfl rfl ha99v Tryz.underlying66 Tryz.sizeOf69 hi97v.1 hi97v.2) rfl ?_
 refine simL_do (re_storeV (V := (V69 tt)) dz91 0 dz91 3 rfl rfl rfl Tryz.sizeOf69 rfl rfl (one_of (by rfl)) rfl hl106v ha99v (by omega) rfl (fun r hr _ _ => by cases (show r = _ from hr); exact rfl)) rfl rfl ?_
 intro _
 refine simL_ren (.slice y79v.1 ((s91v.1.set s91v.2.toNat dz91).length) y79v.2) (d := 7) rfl (slc_len (by simp)) ?_
 refine simL_ren (.slice y79v.1 ((s91v.1.set s91v.2.toNat dz91).length) y79v.2) (d := 77) rfl (slc_len (by simp)) ?_
 refine simL_ren (.slice y79v.1 ((s91v.1.set s91v.2.toNat dz91).length) y79v.2) (d := 82) rfl (slc_len (by simp)) ?_
 refine simL_nil (nrm_block (nrm_then (sim_region ?_)))
 refine vm rfl rfl ?_
 refine vq (q_add rfl rfl rfl) rfl ?_
 refine va rfl rfl (simL_nil ?_)
 exact nrm_again (s := (s91v.1.set s91v.2.toNat dz91, IntKind.i64.wrap (s91v.2 + 1))) () ⟨rfl, rfl, rfl, rfl, rfl, rfl, trivial⟩ (.sel 0 rfl (.sel 0 rfl (.sel 0 rfl (.sel 0 rfl (.sel 0 rfl (.sel 0 rfl (.sel 0 rfl (.nil _))))))))
 refine sim_exi ?_
 refine exi_then ?_
 refine exi_loop ?_
 refine exi_here ?_
 exact nrm_cut (s := ()) () ⟨rfl, rfl, rfl, rfl, trivial⟩ (.sel 0 rfl (.sel 0 rfl (.sel 0 rfl (.sel 1 rfl (.sel 1 rfl (.sel 1 rfl (.nil _)))))))
 intro s89v y90v
 refine sim_cut (S := Unit) (Unit) (fun s y => [(0, .pointer (some ⟨b0, 0, none⟩)), (1, .pointer (some ⟨b1, 0, none⟩)), (8, .bool s86v)]) (fun s y => [obj b1 85 [.slice a1_0 x1_0.length c1_0, .slice a1_1 x1_1.length c1_1], obj b0 58 [.map (some m0_0), .map (some m0_1)], mapO m0_0 enc9 enc9 x0_0, mapO m0_1 enc3 enc69 x0_1, F]) ?_ ?_
 refine sr ?_
 refine va rfl rfl (simL_nil (nrm_then ?_))
 refine sim_block ?_
 refine sim_loop (S := List (List UInt8) × Int) (Unit) (fun k s => synodlaw11_Same.l2 k s.1 s.2) (fun s y => [(0, .pointer (some ⟨b0, 0, none⟩)), (1, .pointer (some ⟨b1, 0, none⟩)), (5, .slice y3v.1 s.1.length y3v.2), (8, .bool s86v), (10, .int .i64 s.2)]) (fun s y => [obj b1 85 [.slice a1_0 x1_0.length c1_0, .slice a1_1 x1_1.length c1_1], obj b0 58 [.map (some m0_0), .map (some m0_1)], RowV 9 1 (V9 tt) y3v.1 s.1 y3v.2, mapO m0_0 enc9 enc9 x0_0, mapO m0_1 enc3 enc69 x0_1, F]) (fun _ => by rw [synodlaw11_Same.l2]) ?_ k (s1v, 0) () ⟨rfl, rfl, rfl, rfl, rfl, trivial⟩ (.sel 0 rfl (.sel 0 rfl (.sel 0 rfl (.sel 0 rfl (.sel 0 rfl (.sel 0 rfl (.nil _)))))))
 intro k s109v y110v
 refine sim_eq (by rw [synodlaw11_Same.l2]) ?_
 refine sim_seq (sr ?_)
 refine vm rfl rfl ?_
 refine vm rfl rfl ?_
 refine vq (q_len rfl rfl rfl Tryz.underlying94) rfl ?_
 refine vq (q_lss rfl rfl rfl) rfl (simL_nil (nrm_then ?_))
 refine sim_cond rfl (fun h113v => ?_) (fun h114v => ?_)
 refine sim_skip ?_
 refine nrm_then (sim_seq ?_)
 refine sim_block ?_
 refine sim_region ?_
 refine vm rfl rfl ?_
 refine vm rfl rfl ?_
 refine simL_openV 2 rfl (fun rs123v hl124v => ?_)
 refine simL_ask (fun hi115v => ?_)
 refine simL_posV 2 rfl hl124v rfl (i := s109v.2.toNat) (by omega) ([] : List UInt8) (fun b116v b116vo r119v ha117v hV120v hlr121v hcell122v => ?_)
 obtain rfl := hV120v
 refine vq (q_idx rfl rfl rfl ha117v Tryz.underlying94 Tryz.sizeOf9 hi115v.1 hi115v.2) rfl ?_
 refine simL_do (re_storeV (V := (V9 tt)) ([111, 118, 101, 114] : List UInt8) 0 ([] : List UInt8) 2 rfl rfl rfl Tryz.sizeOf9 rfl rfl (one_of (by rfl)) rfl hl124v ha117v (by omega) rfl (fun r hr _ _ => by cases (show r = _ from hr); exact rfl)) rfl rfl ?_
 intro _
 refine simL_ren (.slice y3v.1 ((s109v.1.set s109v.2.toNat ([111, 118, 101, 114] : List UInt8)).length) y3v.2) (d := 5) rfl (slc_len (by simp)) ?_
 refine simL_ren (.slice y3v.1 ((s109v.1.set s109v.2.toNat ([111, 118, 101, 114] : List UInt8)).length) y3v.2) (d := 87) rfl (slc_len (by simp)) ?_
 refine simL_ren (.slice y3v.1 ((s109v.1.set s109v.2.toNat ([111, 118, 101, 114] : List UInt8)).length) y3v.2) (d := 92) rfl (slc_len (by simp)) ?_
 refine simL_nil (nrm_block (nrm_then (sim_region ?_)))
 refine vm rfl rfl ?_
 refine vq (q_add rfl rfl rfl) rfl ?_
 refine va rfl rfl (simL_nil ?_)
 exact nrm_again (s := (s109v.1.set s109v.2.toNat ([111, 118, 101, 114] : List UInt8), IntKind.i64.wrap (s109v.2 + 1))) () ⟨rfl, rfl, rfl, rfl, rfl, trivial⟩ (.sel 0 rfl (.sel 0 rfl (.sel 0 rfl (.sel 0 rfl (.sel 0 rfl (.sel 0 rfl (.nil _)))))))
 refine sim_exi ?_
 refine exi_then ?_
 refine exi_loop ?_
 refine exi_here ?_
 exact nrm_cut (s := ()) () ⟨rfl, rfl, rfl, trivial⟩ (.sel 0 rfl (.sel 0 rfl (.sel 1 rfl (.sel 1 rfl (.sel 1 rfl (.nil _))))))
 intro s107v y108v
 refine sr ?_
 refine vm rfl rfl ?_
 refine simL_bind (fun s125v hs126v => ?_)
 refine simL_eff (re_call (vs := [.pointer (some ⟨b0, 0, none⟩)]) (cap := []) (A := [obj b0 58 [.map (some m0_0), .map (some m0_1)], mapO m0_0 enc9 enc9 x0_0, mapO m0_1 enc3 enc69 x0_1]) (rst := [obj b1 85 [.slice a1_0 x1_0.length c1_0, .slice a1_1 x1_1.length c1_1], F]) rfl rfl rfl rfl rfl rfl Tryz.call9 (.sel 1 rfl (.sel 1 rfl (.sel 1 rfl (.sel 0 rfl (.sel 0 rfl (.nil _)))))) (kv_Store_Snapshot.calls _ _ k b0 m0_0 x0_0 m0_1 x0_1 ) hs126v) rfl rfl rfl ?_
 intro y127v
 refine va rfl rfl (nx ?_)
 refine vm rfl rfl ?_
 refine vm rfl rfl ?_
 refine simL_bind (fun s128v hs129v => ?_)
 refine simL_eff (re_call (vs := [.pointer (some ⟨b1, 0, none⟩)]) (cap := []) (A := [obj b1 85 [.slice a1_0 x1_0.length c1_0, .slice a1_1 x1_1.length c1_1]]) (rst := [Row 5 1 y127v.1 s125v.length y127v.2 (encB s125v), obj b0 58 [.map (some m0_0), .map (some m0_1)], mapO m0_0 enc9 enc9 x0_0, mapO m0_1 enc3 enc69 x0_1, F]) rfl rfl rfl rfl rfl rfl Tryz.call44 (.sel 4 rfl (.sel 0 rfl (.sel 0 rfl (.sel 0 rfl (.sel 0 rfl (.sel 0 rfl (.nil _))))))) (synodref11_Store_Snapshot.calls _ _ k b1 a1_0 c1_0 x1_0 a1_1 c1_1 x1_1 (h1_0.up (Up.lend 4 rfl) (fun _ _ h => h)) hc1_0 hm1_0 (h1_1.up (Up.lend 4 rfl) (fun _ _ h => h)) hc1_1 hm1_1) hs129v) rfl rfl rfl ?_
 intro y130v
 refine simL_bind (fun s139v hs140v => ?_)
 refine simL_lend 2 rfl (fun hq131v hq132v hq133v hq134v => ?_)
 refine simL_lend 0 rfl (fun hq135v hq136v hq137v hq138v => ?_)
 refine simL_eff (re_call (vs := [.slice y127v.1 s125v.length y127v.2, .slice y130v.1 s128v.length y130v.2]) (cap := []) (A := []) (rst := [Row 5 1 y130v.1 s128v.length y130v.2 (encB s128v), obj b1 85 [.slice a1_0 x1_0.length c1_0, .slice a1_1 x1_1.length c1_1], Row 5 1 y127v.1 s125v.length y127v.2 (encB s125v), obj b0 58 [.map (some m0_0), .map (some m0_1)], mapO m0_0 enc9 enc9 x0_0, mapO m0_1 enc3 enc69 x0_1, F]) rfl rfl rfl rfl rfl rfl Tryz.call12 (.sel 0 rfl (.sel 0 rfl (.sel 0 rfl (.sel 0 rfl (.sel 0 rfl (.sel 0 rfl (.sel 0 rfl (.nil _)))))))) (synodref_SameBytes.calls _ _ k y127v.1 y127v.2 s125v y130v.1 y130v.2 s128v (hq131v.lend 2 rfl) hq132v hq133v (hq135v.lend 0 rfl) hq136v hq137v) hs140v) rfl rfl rfl ?_
 intro y141v
 refine va rfl rfl (simL_nil (nrm_then ?_))
 refine sim_cut (S := Unit) (Unit) (fun s y => [(0, .pointer (some ⟨b0, 0, none⟩)), (1, .pointer (some ⟨b1, 0, none⟩)), (8, .bool s86v), (12, .bool s139v)]) (fun s y => [obj b1 85 [.slice a1_0 x1_0.length c1_0, .slice a1_1 x1_1.length c1_1], obj b0 58 [.map (some m0_0), .map (some m0_1)], mapO m0_0 enc9 enc9 x0_0, mapO m0_1 enc3 enc69 x0_1, F]) ?_ ?_
 refine sr ?_
 refine va rfl rfl (simL_nil (nrm_then ?_))
 refine sim_block ?_
 refine sim_loop (S := List UInt8 × Int) (Unit) (fun k s => synodlaw11_Same.l3 k s.1 s.2) (fun s y => [(0, .pointer (some ⟨b0, 0, none⟩)), (1, .pointer (some ⟨b1, 0, none⟩)), (8, .bool s86v), (11, .slice y127v.1 s.1.length y127v.2), (12, .bool s139v), (13, .int .i64 s.2)]) (fun s y => [obj b1 85 [.slice a1_0 x1_0.length c1_0, .slice a1_1 x1_1.length c1_1], obj b0 58 [.map (some m0_0), .map (some m0_1)], Row 5 1 y127v.1 s.1.length y127v.2 (encB s.1), mapO m0_0 enc9 enc9 x0_0, mapO m0_1 enc3 enc69 x0_1, F]) (fun _ => by rw [synodlaw11_Same.l3]) ?_ k (s125v, 0) () ⟨rfl, rfl, rfl, rfl, rfl, rfl, trivial⟩ (.sel 1 rfl (.sel 2 rfl (.sel 1 rfl (.sel 1 rfl (.sel 1 rfl (.sel 1 rfl (.nil _)))))))
 intro k s144v y145v
 refine sim_eq (by rw [synodlaw11_Same.l3]) ?_
 refine sim_seq (sr ?_)
 refine vm rfl rfl ?_
 refine vm rfl rfl ?_
 refine vq (q_len rfl rfl rfl Tryz.underlying23) rfl ?_
 refine vq (q_lss rfl rfl rfl) rfl (simL_nil (nrm_then ?_))
 refine sim_cond rfl (fun h148v => ?_) (fun h149v => ?_)
 refine sim_skip ?_
 refine nrm_then (sim_seq ?_)
 refine sim_block ?_
 refine sim_region ?_
 refine vm rfl rfl ?_
 refine vm rfl rfl ?_
 refine simL_ask (fun hi150v => ?_)
 refine simL_row 2 rfl (encB_ne (j := s144v.2.toNat) (by omega)) (fun b151v b151vo ha152v => ?_)
 refine vq (q_idx1 rfl rfl rfl ha152v Tryz.underlying23 Tryz.sizeOf5 hi150v.1 hi150v.2) rfl ?_
 refine simL_do (re_storeb 55 2 rfl rfl rfl Tryz.sizeOf5 rfl ha152v hi150v.2 hi150v.1 rfl) rfl rfl ?_
 intro _
 refine simL_ren (.slice y127v.1 ((s144v.1.set s144v.2.toNat 55).length) y127v.2) (d := 11) rfl (slc_len (by simp)) ?_
 refine simL_ren (.slice y127v.1 ((s144v.1.set s144v.2.toNat 55).length) y127v.2) (d := 102) rfl (slc_len (by simp)) ?_
 refine simL_ren (.slice y127v.1 ((s144v.1.set s144v.2.toNat 55).length) y127v.2) (d := 107) rfl (slc_len (by simp)) ?_
 refine simL_nil (nrm_block (nrm_then (sim_region ?_)))
 refine vm rfl rfl ?_
 refine vq (q_add rfl rfl rfl) rfl ?_
 refine va rfl rfl (simL_nil ?_)
 exact nrm_again (s := (s144v.1.set s144v.2.toNat 55, IntKind.i64.wrap (s144v.2 + 1))) () ⟨rfl, rfl, rfl, rfl, rfl, rfl, trivial⟩ (.sel 0 rfl (.sel 0 rfl (.sel 0 rfl (.sel 0 rfl (.sel 0 rfl (.sel 0 rfl (.nil _)))))))
 refine sim_exi ?_
 refine exi_then ?_
 refine exi_loop ?_
 refine exi_here ?_
 exact nrm_cut (s := ()) () ⟨rfl, rfl, rfl, rfl, trivial⟩ (.sel 0 rfl (.sel 0 rfl (.sel 1 rfl (.sel 1 rfl (.sel 1 rfl (.nil _))))))
 intro s142v y143v
 refine sr ?_
 refine vm rfl rfl ?_
 refine vm rfl rfl ?_
 refine simL_valc (b := s86v) (fun hb171v => RQ.sub (E' := [(12, .bool s139v)]) ⟨rfl, trivial⟩ (q_move rfl rfl)) rfl rfl rfl rfl rfl ?_
 refine vq (q_and rfl rfl rfl) rfl ?_
 refine vm rfl rfl ?_
 refine simL_cut' 5 (S := Bool) (Unit) (fun s y => [(119, .bool s)]) (fun s y => [obj b1 85 [.slice a1_0 x1_0.length c1_0, .slice a1_1 x1_1.length c1_1], obj b0 58 [.map (some m0_0), .map (some m0_1)], mapO m0_0 enc9 enc9 x0_0, mapO m0_1 enc3 enc69 x0_1, F]) ?_ ?_
 refine simL_caseb (fun hb169v => ?_) (fun hb170v => ?_)
 rw [hb169v]
 refine simL_valg (q_move rfl rfl) rfl rfl rfl rfl rfl rfl ?_
 refine simL_bind (fun s157v hs158v => ?_)
 refine simL_effg (re_call (vs := [.pointer (some ⟨b0, 0, none⟩)]) (cap := []) (A := [obj b0 58 [.map (some m0_0), .map (some m0_1)], mapO m0_0 enc9 enc9 x0_0, mapO m0_1 enc3 enc69 x0_1]) (rst := [obj b1 85 [.slice a1_0 x1_0.length c1_0, .slice a1_1 x1_1.length c1_1], F]) rfl rfl rfl rfl rfl rfl Tryz.call28 (.sel 1 rfl (.sel 1 rfl (.sel 1 rfl (.sel 0 rfl (.sel 0 rfl (.nil _)))))) (kv_Store_Sessions.calls _ _ k b0 m0_0 x0_0 m0_1 x0_1 ) hs158v) rfl rfl rfl rfl rfl rfl ?_
 intro y159v
 refine simL_valg (q_move rfl rfl) rfl rfl rfl rfl rfl rfl ?_
 refine simL_openV 0 rfl (fun rs160v hl161v => ?_)
 refine simL_bind (fun s166v hs167v => ?_)
 refine simL_lend 0 rfl (fun hq162v hq163v hq164v hq165v => ?_)
 refine simL_effg (re_call (vs := [.slice y159v.1 s157v.length y159v.2, .pointer (some ⟨b1, 0, none⟩)]) (cap := []) (A := [obj b1 85 [.slice a1_0 x1_0.length c1_0, .slice a1_1 x1_1.length c1_1]]) (rst := [Row 69 4 y159v.1 s157v.length y159v.2 rs160v.flatten, obj b0 58 [.map (some m0_0), .map (some m0_1)], mapO m0_0 enc9 enc9 x0_0, mapO m0_1 enc3 enc69 x0_1, F]) rfl rfl rfl rfl rfl rfl Tryz.call43 (.sel 4 rfl (.sel 0 rfl (.sel 0 rfl (.sel 0 rfl (.sel 0 rfl (.sel 0 rfl (.nil _))))))) (synodlaw11_Sessions.calls _ _ k y159v.1 y159v.2 s157v b1 a1_0 c1_0 x1_0 a1_1 c1_1 x1_1 ((Rd.asV hl161v hq162v).up (Up.lend 0 rfl) (fun _ _ h => h)) hq163v hq164v (h1_0.up (Up.lend 4 rfl) (fun _ _ h => h)) hc1_0 hm1_0 (h1_1.up (Up.lend 4 rfl) (fun _ _ h => h)) hc1_1 hm1_1) hs167v) rfl rfl rfl rfl rfl rfl ?_
 intro y168v
 refine vq (q_pick rfl rfl rfl rfl rfl) rfl (simL_nil ?_)
 exact nrm_cut (s := s166v) () ⟨rfl, trivial⟩ (.sel 0 rfl (.sel 1 rfl (.sel 1 rfl (.sel 1 rfl (.sel 1 rfl (.nil _))))))
 rw [hb170v]
 refine simL_skipd rfl rfl rfl rfl rfl rfl ?_
 refine simL_skipd rfl rfl rfl rfl rfl rfl ?_
 refine simL_skipd rfl rfl rfl rfl rfl rfl ?_
 refine simL_skipd rfl rfl rfl rfl rfl rfl ?_
 refine vq (q_pick rfl rfl rfl rfl rfl) rfl (simL_nil ?_)
 exact nrm_cut (s := false) () ⟨rfl, trivial⟩ (.sel 0 rfl (.sel 0 rfl (.sel 0 rfl (.sel 0 rfl (.sel 0 rfl (.nil _))))))
 intro s155v y156v
 refine va rfl rfl (simL_nil (nrm_then (sim_rtn ?_)))
 exact rtn_fn () rfl rfl rfl (.sel 1 rfl (.sel 1 rfl (.sel 1 rfl (.sel 0 rfl (.sel 0 rfl (.nil _))))))

def synodref3_within.f (x0 : Int) (x1 : Int) (x2 : Int) : Option (Bool) := some ((decide (x1 ≤ x0)) && (decide (x0 ≤ x2)))
theorem synodref3_within.calls (W : World) (F : HA) (x0 : Int) (x1 : Int) (x2 : Int)  :
    Fn Tryz.prog W 85 [.int .i64 x0, .int .i64 x1, .int .i64 x2] [] F (synodref3_within.f x0 x1 x2) (fun (r : Bool) (y : Unit) => .bool r) (fun r y => []) := by
 unfold synodref3_within.f
 refine fn_intro 15 Tryz.func85 rfl Tryz.ntmps85 rfl ?_
 refine sr ?_
 refine va rfl rfl (nx ?_)
 refine vm rfl rfl ?_
 refine vm rfl rfl ?_
 refine vq (q_geq rfl rfl rfl) rfl ?_
 refine vm rfl rfl ?_
 refine simL_valc (b := decide (x1 ≤ x0)) (fun hb3v => RQ.sub (E' := [(0, .int .i64 x0)]) ⟨rfl, trivial⟩ (q_move rfl rfl)) rfl rfl rfl rfl rfl ?_
 refine simL_valc (b := decide (x1 ≤ x0)) (fun hb2v => RQ.sub (E' := [(2, .int .i64 x2)]) ⟨rfl, trivial⟩ (q_move rfl rfl)) rfl rfl rfl rfl rfl ?_
 refine simL_valc (b := decide (x1 ≤ x0)) (fun hb1v => RQ.sub (E' := [(11, .int .i64 x0), (12, .int .i64 x2)]) ⟨lk_cv rfl hb1v, lk_cv rfl hb1v, trivial⟩ (q_leq rfl rfl rfl)) rfl rfl rfl rfl rfl ?_
 refine vq (q_and rfl rfl rfl) rfl ?_
 refine va rfl rfl (simL_nil (nrm_then (sim_rtn ?_)))
 exact rtn_fn () rfl rfl rfl (.sel 0 rfl (.nil _))
def synodref3_within.v (x0 : Int) (x1 : Int) (x2 : Int) : Bool := (synodref3_within.f x0 x1 x2).getD false
theorem synodref3_within.tot (x0 : Int) (x1 : Int) (x2 : Int) : synodref3_within.f x0 x1 x2 = some (synodref3_within.v x0 x1 x2) := by
  have h : ∃ r, synodref3_within.f x0 x1 x2 = some r := by
    unfold synodref3_within.f
    repeat' (first | exact ⟨_, rfl⟩ | split | simp only [Option.bind_some])
  obtain ⟨r, h⟩ := h
  unfold synodref3_within.v
  rw [h]; rfl

def synodref3_CheckCommand.f (x0_0 : Int) (x0_1 : Int) (x0_2 : Int) (x0_3 : List UInt8) (x0_4 : List UInt8) (x0_5 : List UInt8) : Option (Int) := (synodref3_within.f x0_0 (2 : Int) (4 : Int)).bind fun s2v => (if (!s2v) = true then (some 6) else ((synodref3_within.f x0_1 (1 : Int) (4611686018427387904 : Int)).bind fun s7v => ((if (!s7v) = true then (some true) else ((synodref3_within.f x0_2 (1 : Int) (4611686018427387904 : Int)).bind fun s12v => (some (!s12v)))).bind fun s10v => (if s10v = true then (some 1) else (if (((decide ((64 : Int) < (x0_3.length : Int))) || (decide ((1024 : Int) < (x0_4.length : Int)))) || (decide ((1024 : Int) < (x0_5.length : Int)))) = true then (some 3) else ((if x0_3 = ([] : List UInt8) then (some true) else (some ((decide (x0_0 = (3 : Int))) && (!decide (x0_4 = ([] : List UInt8)))))).bind fun s21v => ((if s21v = true then (some true) else (some ((!decide (x0_0 = (4 : Int))) && (!decide (x0_5 = ([] : List UInt8)))))).bind fun s28v => (if s28v = true then (some 4) else (some 0)))))))))
theorem synodref3_CheckCommand.calls (W : World) (F : HA) (x0_0 : Int) (x0_1 : Int) (x0_2 : Int) (x0_3 : List UInt8) (x0_4 : List UInt8) (x0_5 : List UInt8)  :
    Fn Tryz.prog W 47 [.agg #[.int .i64 x0_0, .int .i64 x0_1, .int .i64 x0_2, str x0_3, str x0_4, str x0_5]] [] F (synodref3_CheckCommand.f x0_0 x0_1 x0_2 x0_3 x0_4 x0_5) (fun (r : Int) (y : Unit) => .int .i64 r) (fun r y => []) := by
 unfold synodref3_CheckCommand.f
 refine fn_intro 56 Tryz.func47 rfl Tryz.ntmps47 rfl ?_
 refine sr ?_
 refine simL_eff (re_box rfl rfl rfl) rfl rfl rfl ?_
 intro b1v
 refine va rfl rfl (simL_nil (nrm_then (sim_seq (sr ?_))))
 refine vq (q_fa rfl rfl Tryz.underlying49 rfl rfl Tryz.sizeOf3 rfl) rfl ?_
 refine vq (q_load rfl rfl Tryz.isAgg3 (.obj 0 rfl rfl)) rfl ?_
 refine simL_bind (fun s2v hs3v => ?_)
 refine simL_eff (re_call (vs := [.int .i64 x0_0, .int .i64 2, .int .i64 4]) (cap := []) (A := []) (rst := [obj b1v 49 [.int .i64 x0_0, .int .i64 x0_1, .int .i64 x0_2, str x0_3, str x0_4, str x0_5], F]) rfl rfl rfl rfl rfl rfl Tryz.call85 (.sel 0 rfl (.sel 0 rfl (.nil _))) (synodref3_within.calls _ _ x0_0 (2 : Int) (4 : Int) ) hs3v) rfl rfl rfl ?_
 intro y4v
 refine vq (q_not rfl rfl) rfl (simL_nil (nrm_then ?_))
 refine sim_condb rfl (fun h5v => ?_) (fun h6v => ?_)
 refine sr ?_
 refine va rfl rfl (simL_nil (nrm_then (sim_rtn ?_)))
 refine rtn_then ?_
 exact rtn_fn () rfl rfl rfl (.sel 1 rfl (.nil _))
 refine sim_skip ?_
 refine nrm_then (sim_seq (sr ?_))
 refine vq (q_fa rfl rfl Tryz.underlying49 rfl rfl Tryz.sizeOf3 rfl) rfl ?_
 refine vq (q_load rfl rfl Tryz.isAgg3 (.obj 0 rfl rfl)) rfl ?_
 refine simL_bind (fun s7v hs8v => ?_)
 refine simL_eff (re_call (vs := [.int .i64 x0_1, .int .i64 1, .int .i64 4611686018427387904]) (cap := []) (A := []) (rst := [obj b1v 49 [.int .i64 x0_0, .int .i64 x0_1, .int .i64 x0_2, str x0_3, str x0_4, str x0_5], F]) rfl rfl rfl rfl rfl rfl Tryz.call85 (.sel 0 rfl (.sel 0 rfl (.nil _))) (synodref3_within.calls _ _ x0_1 (1 : Int) (4611686018427387904 : Int) ) hs8v) rfl rfl rfl ?_
 intro y9v
 refine vq (q_not rfl rfl) rfl ?_
 refine vm rfl rfl ?_
 refine simL_cut' 5 (S := Bool) (Unit) (fun s y => [(1, .pointer (some ⟨b1v, 0, none⟩)), (16, .bool s)]) (fun s y => [obj b1v 49 [.int .i64 x0_0, .int .i64 x0_1, .int .i64 x0_2, str x0_3, str x0_4, str x0_5], F]) ?_ ?_
 refine simL_caseb (fun hb15v => ?_) (fun hb16v => ?_)
 rw [hb15v]
 refine simL_skipd rfl rfl rfl rfl rfl rfl ?_
 refine simL_skipd rfl rfl rfl rfl rfl rfl ?_
 refine simL_skipd rfl rfl rfl rfl rfl rfl ?_
 refine simL_skipd rfl rfl rfl rfl rfl rfl ?_
 refine vq (q_pick rfl rfl rfl rfl rfl) rfl (simL_nil ?_)
 exact nrm_cut (s := true) () ⟨rfl, rfl, trivial⟩ (.sel 0 rfl (.sel 0 rfl (.nil _)))
 rw [hb16v]
 refine simL_valg (q_fa rfl rfl Tryz.underlying49 rfl rfl Tryz.sizeOf3 rfl) rfl rfl rfl rfl rfl rfl ?_
 refine simL_valg (q_load rfl rfl Tryz.isAgg3 (.obj 0 rfl rfl)) rfl rfl rfl rfl rfl rfl ?_
 refine simL_bind (fun s12v hs13v => ?_)
 refine simL_effg (re_call (vs := [.int .i64 x0_2, .int .i64 1, .int .i64 4611686018427387904]) (cap := []) (A := []) (rst := [obj b1v 49 [.int .i64 x0_0, .int .i64 x0_1, .int .i64 x0_2, str x0_3, str x0_4, str x0_5], F]) rfl rfl rfl rfl rfl rfl Tryz.call85 (.sel 0 rfl (.sel 0 rfl (.nil _))) (synodref3_within.calls _ _ x0_2 (1 : Int) (4611686018427387904 : Int) ) hs13v) rfl rfl rfl rfl rfl rfl ?_
 intro y14v
 refine simL_valg (q_not rfl rfl) rfl rfl rfl rfl rfl rfl ?_
 refine vq (q_pick rfl rfl rfl rfl rfl) rfl (simL_nil ?_)
 exact nrm_cut (s := !s12v) () ⟨rfl, rfl, trivial⟩ (.sel 0 rfl (.sel 0 rfl (.nil _)))
 intro s10v y11v
 refine simL_nil (nrm_then ?_)
 refine sim_condb rfl (fun h17v => ?_) (fun h18v => ?_)
 refine sr ?_
 refine va rfl rfl (simL_nil (nrm_then (sim_rtn ?_)))
 refine rtn_then ?_
 exact rtn_fn () rfl rfl rfl (.sel 1 rfl (.nil _))
 refine sim_skip ?_
 refine nrm_then (sim_seq (sr ?_))
 refine vq (q_fa rfl rfl Tryz.underlying49 rfl rfl Tryz.sizeOf9 rfl) rfl ?_
 refine vq (q_load rfl rfl Tryz.isAgg9 (.obj 0 rfl rfl)) rfl ?_
 refine vq (q_lens rfl rfl rfl Tryz.underlying9) rfl ?_
 refine vq (q_gtr rfl rfl rfl) rfl ?_
 refine vm rfl rfl ?_
 refine simL_valc (b := decide ((64 : Int) < (x0_3.length : Int))) (fun hb44v => RQ.sub (E' := [(1, .pointer (some ⟨b1v, 0, none⟩))]) ⟨rfl, trivial⟩ (q_fa rfl rfl Tryz.underlying49 rfl rfl Tryz.sizeOf9 rfl)) rfl rfl rfl rfl rfl ?_
 refine simL_valc (b := decide ((64 : Int) < (x0_3.length : Int))) (fun hb43v => RQ.sub (E' := [(22, .pointer (some ⟨b1v, 4, none⟩))]) ⟨lk_cv rfl hb43v, trivial⟩ (q_load rfl rfl Tryz.isAgg9 (.obj 0 rfl rfl))) rfl rfl rfl rfl rfl ?_
 refine simL_valc (b := decide ((64 : Int) < (x0_3.length : Int))) (fun hb42v => RQ.sub (E' := [(23, str x0_4)]) ⟨lk_cv rfl hb42v, trivial⟩ (q_lens rfl rfl rfl Tryz.underlying9)) rfl rfl rfl rfl rfl ?_
 refine simL_valc (b := decide ((64 : Int) < (x0_3.length : Int))) (fun hb41v => RQ.sub (E' := [(24, .int .i64 (x0_4.length : Int))]) ⟨lk_cv rfl hb41v, trivial⟩ (q_gtr rfl rfl rfl)) rfl rfl rfl rfl rfl ?_
 refine vq (q_or rfl rfl rfl) rfl ?_
 refine vm rfl rfl ?_
 refine simL_valc (b := (decide ((64 : Int) < (x0_3.length : Int))) || (decide ((1024 : Int) < (x0_4.length : Int)))) (fun hb40v => RQ.sub (E' := [(1, .pointer (some ⟨b1v, 0, none⟩))]) ⟨rfl, trivial⟩ (q_fa rfl rfl Tryz.underlying49 rfl rfl Tryz.sizeOf9 rfl)) rfl rfl rfl rfl rfl ?_
 refine simL_valc (b := (decide ((64 : Int) < (x0_3.length : Int))) || (decide ((1024 : Int) < (x0_4.length : Int)))) (fun hb39v => RQ.sub (E' := [(28, .pointer (some ⟨b1v, 5, none⟩))]) ⟨lk_cv rfl hb39v, trivial⟩ (q_load rfl rfl Tryz.isAgg9 (.obj 0 rfl rfl))) rfl rfl rfl rfl rfl ?_
 refine simL_valc (b := (decide ((64 : Int) < (x0_3.length : Int))) || (decide ((1024 : Int) < (x0_4.length : Int)))) (fun hb38v => RQ.sub (E' := [(29, str x0_5)]) ⟨lk_cv rfl hb38v, trivial⟩ (q_lens rfl rfl rfl Tryz.underlying9)) rfl rfl rfl rfl rfl ?_
 refine simL_valc (b := (decide ((64 : Int) < (x0_3.length : Int))) || (decide ((1024 : Int) < (x0_4.length : Int)))) (fun hb37v => RQ.sub (E' := [(30, .int .i64 (x0_5.length : Int))]) ⟨lk_cv rfl hb37v, trivial⟩ (q_gtr rfl rfl rfl)) rfl rfl rfl rfl rfl ?_
 refine vq (q_or rfl rfl rfl) rfl (simL_nil (nrm_then ?_))
 refine sim_condb rfl (fun h19v => ?_) (fun h20v => ?_)
 refine sr ?_
 refine va rfl rfl (simL_nil (nrm_then (sim_rtn ?_)))
 refine rtn_then ?_
 exact rtn_fn () rfl rfl rfl (.sel 1 rfl (.nil _))
 refine sim_skip ?_
 refine nrm_then (sim_seq (sr ?_))
 refine vq (q_fa rfl rfl Tryz.underlying49 rfl rfl Tryz.sizeOf9 rfl) rfl ?_
 refine vq (q_load rfl rfl Tryz.isAgg9 (.obj 0 rfl rfl)) rfl ?_
 refine vq (q_eqs rfl rfl rfl) rfl ?_
 refine vm rfl rfl ?_
 refine simL_cut' 9 (S := Bool) (Unit) (fun s y => [(1, .pointer (some ⟨b1v, 0, none⟩)), (45, .bool s)]) (fun s y => [obj b1v 49 [.int .i64 x0_0, .int .i64 x0_1, .int .i64 x0_2, str x0_3, str x0_4, str x0_5], F]) ?_ ?_
 refine simL_casep (fun hb26v => ?_) (fun hb27v => ?_)
 rw [hb26v]
 refine simL_skipd rfl rfl rfl rfl rfl rfl ?_
 refine simL_skipd rfl rfl rfl rfl rfl rfl ?_
 refine simL_skipd rfl rfl rfl rfl rfl rfl ?_
 refine simL_skipd rfl rfl rfl rfl rfl rfl ?_
 refine simL_skipu rfl rfl rfl rfl rfl ?_
 refine simL_skipu rfl rfl rfl rfl rfl ?_
 refine simL_skipu rfl rfl rfl rfl rfl ?_
 refine simL_skipd rfl rfl rfl rfl rfl rfl ?_
 refine vq (q_pick rfl rfl rfl rfl rfl) rfl (simL_nil ?_)
 exact nrm_cut (s := true) () ⟨rfl, rfl, trivial⟩ (.sel 0 rfl (.sel 0 rfl (.nil _)))
 rw [hb27v]
 refine simL_valg (q_fa rfl rfl Tryz.underlying49 rfl rfl Tryz.sizeOf3 rfl) rfl rfl rfl rfl rfl rfl ?_
 refine simL_valg (q_load rfl rfl Tryz.isAgg3 (.obj 0 rfl rfl)) rfl rfl rfl rfl rfl rfl ?_
 refine simL_valg (q_eql rfl rfl rfl) rfl rfl rfl rfl rfl rfl ?_
 refine simL_valg (q_move rfl rfl) rfl rfl rfl rfl rfl rfl ?_
 refine simL_valc (b := decide (x0_0 = (3 : Int))) (fun hb25v => RQ.sub (E' := [(1, .pointer (some ⟨b1v, 0, none⟩))]) ⟨rfl, trivial⟩ (q_fa rfl rfl Tryz.underlying49 rfl rfl Tryz.sizeOf9 rfl)) rfl rfl rfl rfl rfl ?_
 refine simL_valc (b := decide (x0_0 = (3 : Int))) (fun hb24v => RQ.sub (E' := [(41, .pointer (some ⟨b1v, 4, none⟩))]) ⟨lk_cv rfl hb24v, trivial⟩ (q_load rfl rfl Tryz.isAgg9 (.obj 0 rfl rfl))) rfl rfl rfl rfl rfl ?_
 refine simL_valc (b := decide (x0_0 = (3 : Int))) (fun hb23v => RQ.sub (E' := [(42, str x0_4)]) ⟨lk_cv rfl hb23v, trivial⟩ (q_nes rfl rfl rfl)) rfl rfl rfl rfl rfl ?_
 refine simL_valg (q_and rfl rfl rfl) rfl rfl rfl rfl rfl rfl ?_
 refine vq (q_pick rfl rfl rfl rfl rfl) rfl (simL_nil ?_)
 exact nrm_cut (s := (decide (x0_0 = (3 : Int))) && (!decide (x0_4 = ([] : List UInt8)))) () ⟨rfl, rfl, trivial⟩ (.sel 0 rfl (.sel 0 rfl (.nil _)))
 intro s21v y22v
 refine vm rfl rfl ?_
 refine simL_cut' 9 (S := Bool) (Unit) (fun s y => [(55, .bool s)]) (fun s y => [F]) ?_ ?_
 refine simL_caseb (fun hb33v => ?_) (fun hb34v => ?_)
 rw [hb33v]
 refine simL_skipd rfl rfl rfl rfl rfl rfl ?_
 refine simL_skipd rfl rfl rfl rfl rfl rfl ?_
 refine simL_skipd rfl rfl rfl rfl rfl rfl ?_
 refine simL_skipd rfl rfl rfl rfl rfl rfl ?_
 refine simL_skipu rfl rfl rfl rfl rfl ?_
 refine simL_skipu rfl rfl rfl rfl rfl ?_
 refine simL_skipu rfl rfl rfl rfl rfl ?_
 refine simL_skipd rfl rfl rfl rfl rfl rfl ?_
 refine vq (q_pick rfl rfl rfl rfl rfl) rfl (simL_nil ?_)
 exact nrm_cut (s := true) () ⟨rfl, trivial⟩ (.sel 1 rfl (.nil _))
 rw [hb34v]
 refine simL_valg (q_fa rfl rfl Tryz.underlying49 rfl rfl Tryz.sizeOf3 rfl) rfl rfl rfl rfl rfl rfl ?_
 refine simL_valg (q_load rfl rfl Tryz.isAgg3 (.obj 0 rfl rfl)) rfl rfl rfl rfl rfl rfl ?_
 refine simL_valg (q_neq rfl rfl rfl) rfl rfl rfl rfl rfl rfl ?_
 refine simL_valg (q_move rfl rfl) rfl rfl rfl rfl rfl rfl ?_
 refine simL_valc (b := !decide (x0_0 = (4 : Int))) (fun hb32v => RQ.sub (E' := [(1, .pointer (some ⟨b1v, 0, none⟩))]) ⟨rfl, trivial⟩ (q_fa rfl rfl Tryz.underlying49 rfl rfl Tryz.sizeOf9 rfl)) rfl rfl rfl rfl rfl ?_
 refine simL_valc (b := !decide (x0_0 = (4 : Int))) (fun hb31v => RQ.sub (E' := [(51, .pointer (some ⟨b1v, 5, none⟩))]) ⟨lk_cv rfl hb31v, trivial⟩ (q_load rfl rfl Tryz.isAgg9 (.obj 0 rfl rfl))) rfl rfl rfl rfl rfl ?_
 refine simL_valc (b := !decide (x0_0 = (4 : Int))) (fun hb30v => RQ.sub (E' := [(52, str x0_5)]) ⟨lk_cv rfl hb30v, trivial⟩ (q_nes rfl rfl rfl)) rfl rfl rfl rfl rfl ?_
 refine simL_valg (q_and rfl rfl rfl) rfl rfl rfl rfl rfl rfl ?_
 refine vq (q_pick rfl rfl rfl rfl rfl) rfl (simL_nil ?_)
 exact nrm_cut (s := (!decide (x0_0 = (4 : Int))) && (!decide (x0_5 = ([] : List UInt8)))) () ⟨rfl, trivial⟩ (.sel 1 rfl (.nil _))
 intro s28v y29v
 refine simL_nil (nrm_then ?_)
 refine sim_condb rfl (fun h35v => ?_) (fun h36v => ?_)
 refine sr ?_
 refine va rfl rfl (simL_nil (nrm_then (sim_rtn ?_)))
 refine rtn_then ?_
 exact rtn_fn () rfl rfl rfl (.sel 0 rfl (.nil _))
 refine sim_skip ?_
 refine nrm_then (sr ?_)
 refine va rfl rfl (simL_nil (nrm_then (sim_rtn ?_)))
 exact rtn_fn () rfl rfl rfl (.sel 0 rfl (.nil _))

def synodref11_Store_at.l0 (x0_0 : List (Ty90)) (x1 : List UInt8) : Nat → Int → Option (Int)
  | 0, _ => none
  | k + 1, z5v => (if z5v < (x0_0.length : Int) then (if 0 ≤ z5v ∧ z5v < (x0_0.length : Int) then (some (Op.bytesLess ((x0_0.getD z5v.toNat dz90).1) x1)) else none) else (some false)).bind fun s6v => (if s6v = true then (synodref11_Store_at.l0 x0_0 x1 k (IntKind.i64.wrap (z5v + 1))) else (some z5v))
def synodref11_Store_at.f (k : Nat) (x0_0 : List (Ty90)) (x0_1 : List (Ty91)) (x1 : List UInt8) : Option (Int × Bool) := (synodref11_Store_at.l0 x0_0 x1 k 0).bind fun s1v => ((if s1v < (x0_0.length : Int) then (if 0 ≤ s1v ∧ s1v < (x0_0.length : Int) then (some (decide (((x0_0.getD s1v.toNat dz90).1) = x1))) else none) else (some false)).bind fun s20v => (some (s1v, s20v)))
theorem synodref11_Store_at.calls (W : World) (F : HA) (k : Nat) (b0 : Nat) (a0_0 : Option Addr) (c0_0 : Nat) (x0_0 : List (Ty90)) (a0_1 : Option Addr) (c0_1 : Nat) (x0_1 : List (Ty91)) (x1 : List UInt8) (h0_0 : RdV F 2 (V90 tt) a0_0 x0_0) (hc0_0 : x0_0.length ≤ c0_0) (hm0_0 : c0_0 ≤ maxLen) (h0_1 : RdV F 4 (V91 tt) a0_1 x0_1) (hc0_1 : x0_1.length ≤ c0_1) (hm0_1 : c0_1 ≤ maxLen) :
    Fn Tryz.prog W 86 [.pointer (some ⟨b0, 0, none⟩), str x1] [obj b0 85 [.slice a0_0 x0_0.length c0_0, .slice a0_1 x0_1.length c0_1]] F (synodref11_Store_at.f k x0_0 x0_1 x1) (fun (r : Int × Bool) (y : Unit) => .tuple #[.int .i64 r.1, .bool r.2]) (fun r y => [obj b0 85 [.slice a0_0 x0_0.length c0_0, .slice a0_1 x0_1.length c0_1]]) := by
 unfold synodref11_Store_at.f
 refine fn_intro 48 Tryz.func86 rfl Tryz.ntmps86 rfl ?_
 refine sr ?_
 refine va rfl rfl ?_
 refine va rfl rfl (nx ?_)
 refine va rfl rfl (simL_nil (nrm_then ?_))
 refine sim_cut (S := Int) (Unit) (fun s y => [(0, .pointer (some ⟨b0, 0, none⟩)), (1, str x1), (6, .int .i64 s)]) (fun s y => [obj b0 85 [.slice a0_0 x0_0.length c0_0, .slice a0_1 x0_1.length c0_1], F]) ?_ ?_
 refine sim_block ?_
 refine sim_loop (S := Int) (Unit) (fun k s => synodref11_Store_at.l0 x0_0 x1 k s) (fun s y => [(0, .pointer (some ⟨b0, 0, none⟩)), (1, str x1), (6, .int .i64 s)]) (fun s y => [obj b0 85 [.slice a0_0 x0_0.length c0_0, .slice a0_1 x0_1.length c0_1], F]) (fun _ => by rw [synodref11_Store_at.l0]) ?_ k 0 () ⟨rfl, rfl, rfl, trivial⟩ (.sel 0 rfl (.sel 0 rfl (.nil _)))
 intro k s3v y4v
 refine sim_eq (by rw [synodref11_Store_at.l0]) ?_
 refine sim_seq (sr ?_)
 refine vm rfl rfl ?_
 refine vm rfl rfl ?_
 refine vn rfl rfl ?_
 refine vq (q_fa rfl rfl Tryz.underlying85 rfl rfl Tryz.sizeOf82 rfl) rfl ?_
 refine vq (q_load rfl rfl Tryz.isAgg82 (.obj 0 rfl rfl)) rfl ?_
 refine vq (q_len rfl rfl rfl Tryz.underlying82) rfl ?_
 refine vq (q_lss rfl rfl rfl) rfl ?_
 refine vm rfl rfl ?_
 refine simL_cut' 11 (S := Bool) (Unit) (fun s y => [(0, .pointer (some ⟨b0, 0, none⟩)), (1, str x1), (6, .int .i64 s3v), (25, .bool s)]) (fun s y => [obj b0 85 [.slice a0_0 x0_0.length c0_0, .slice a0_1 x0_1.length c0_1], F]) ?_ ?_
 refine simL_casep (fun hb16v => ?_) (fun hb17v => ?_)
 rw [hb16v]
 refine simL_valg (q_move rfl rfl) rfl rfl rfl rfl rfl rfl ?_
 refine simL_valg (q_nil rfl rfl) rfl rfl rfl rfl rfl rfl ?_
 refine simL_valg (q_fa rfl rfl Tryz.underlying85 rfl rfl Tryz.sizeOf82 rfl) rfl rfl rfl rfl rfl rfl ?_
 refine simL_valg (q_load rfl rfl Tryz.isAgg82 (.obj 0 rfl rfl)) rfl rfl rfl rfl rfl rfl ?_
 refine simL_valg (q_move rfl rfl) rfl rfl rfl rfl rfl rfl ?_
 refine simL_ask (fun hi8v => ?_)
 obtain ⟨b9v, b9vo, r12v, ha10v, hV13v, hlr14v, hcell15v⟩ := RdV.pos h0_0 (Up.refl _) rfl (i := s3v.toNat) (by omega) dz90
 obtain rfl := hV13v
 refine simL_valg (q_idx rfl rfl rfl ha10v Tryz.underlying82 Tryz.sizeOf90 hi8v.1 hi8v.2) rfl rfl rfl rfl rfl rfl ?_
 refine simL_valg (q_fa rfl rfl Tryz.underlying90 rfl rfl Tryz.sizeOf9 rfl) rfl rfl rfl rfl rfl rfl ?_
 refine simL_valg (q_load rfl rfl Tryz.isAgg9 (hcell15v 1 rfl 0 _ rfl)) rfl rfl rfl rfl rfl rfl ?_
 refine simL_valg (q_move rfl rfl) rfl rfl rfl rfl rfl rfl ?_
 refine simL_valg (q_lts rfl rfl rfl) rfl rfl rfl rfl rfl rfl ?_
 refine vq (q_pick rfl rfl rfl rfl rfl) rfl (simL_nil ?_)
 exact nrm_cut (s := Op.bytesLess ((x0_0.getD s3v.toNat dz90).1) x1) () ⟨rfl, rfl, rfl, rfl, trivial⟩ (.sel 0 rfl (.sel 0 rfl (.nil _)))
 rw [hb17v]
 refine simL_skipd rfl rfl rfl rfl rfl rfl ?_
 refine simL_skipd rfl rfl rfl rfl rfl rfl ?_
 refine simL_skipd rfl rfl rfl rfl rfl rfl ?_
 refine simL_skipd rfl rfl rfl rfl rfl rfl ?_
 refine simL_skipd rfl rfl rfl rfl rfl rfl ?_
 refine simL_skipd rfl rfl rfl rfl rfl rfl ?_
 refine simL_skipd rfl rfl rfl rfl rfl rfl ?_
 refine simL_skipd rfl rfl rfl rfl rfl rfl ?_
 refine simL_skipd rfl rfl rfl rfl rfl rfl ?_
 refine simL_skipd rfl rfl rfl rfl rfl rfl ?_
 refine vq (q_pick rfl rfl rfl rfl rfl) rfl (simL_nil ?_)
 exact nrm_cut (s := false) () ⟨rfl, rfl, rfl, rfl, trivial⟩ (.sel 0 rfl (.sel 0 rfl (.nil _)))
 intro s6v y7v
 refine simL_nil (nrm_then ?_)
 refine sim_condb rfl (fun h18v => ?_) (fun h19v => ?_)
 refine sim_skip ?_
 refine nrm_then ?_
 refine sim_block ?_
 refine sim_region ?_
 refine vm rfl rfl ?_
 refine vq (q_add rfl rfl rfl) rfl ?_
 refine va rfl rfl (simL_nil (nrm_block ?_))
 exact nrm_again (s := IntKind.i64.wrap (s3v + 1)) () ⟨rfl, rfl, rfl, trivial⟩ (.sel 0 rfl (.sel 0 rfl (.nil _)))
 refine sim_exi ?_
 refine exi_then ?_
 refine exi_loop ?_
 refine exi_here ?_
 exact nrm_cut (s := s3v) () ⟨rfl, rfl, rfl, trivial⟩ (.sel 0 rfl (.sel 0 rfl (.nil _)))
 intro s1v y2v
 refine sim_cut (S := Bool) (Unit) (fun s y => [(4, .int .i64 s1v), (5, .bool s)]) (fun s y => [obj b0 85 [.slice a0_0 x0_0.length c0_0, .slice a0_1 x0_1.length c0_1], F]) ?_ ?_
 refine sim_if (fun hk22v => ?_) (fun hk22v => ?_)
 refine sim_ask (fun hi23v => ?_)
 obtain ⟨b24v, b24vo, r27v, ha25v, hV28v, hlr29v, hcell30v⟩ := RdV.pos h0_0 (Up.refl _) rfl (i := s1v.toNat) (by omega) dz90
 obtain rfl := hV28v
 refine sim_draw (Γ := Unit) () [[], [], [], [2], [2, 3], [2, 3, 4], [2, 3, 4, 5], [1, 2, 3, 4, 5, 6], [1, 2, 3, 4, 5, 6, 7], [1, 2, 3, 4, 5, 6, 7, 8], [1, 2, 3, 4, 5, 6, 7, 8, 9], [1, 2, 3, 4, 5, 6, 7, 8, 9, 10], [1, 2, 3, 4, 5, 6, 7, 8, 9, 10, 11], [1, 2, 3, 4, 5, 6, 7, 8], [1, 2, 3, 4, 5, 6, 7, 8, 9, 10, 11, 12, 13], [1, 2, 3, 4, 5, 6, 7, 8, 9, 10, 11, 12, 13, 14], [1, 2, 3, 4, 5, 6, 7, 8, 9, 10, 11, 12, 13, 14, 15], [1, 2, 3, 4, 5, 6, 7, 8], [1, 2, 3, 4, 5, 6, 7, 8, 9, 10, 11, 12, 13, 14, 15, 16, 17], [1, 2, 3, 4, 5, 6, 7, 8, 9, 10, 11, 12, 13, 14, 15, 16, 17, 18], rL 9, rL 21] [] [0, 1, 2, 3, 4, 5, 6, 7, 8, 9, 10, 11, 12, 13, 14, 15, 16, 17, 18, 19, 20, 21] (fun i => [[0], [0], [0], [0], [0], [0], [0], [0], [0], [0], [0], [0], [0], [0], [0], [0], [0], [0], [0], [0], [0], [0]].getD i []) (fun i => [[], [], [], [], [], [], [], [], [], [], [], [], [], [], [], [], [], [], [], [], [], []].getD i []) (fun γ i => [.int .i64 s1v, .int .i64 s1v, .pointer (some ⟨b0, 0, none⟩), .pointer (some ⟨b0, 0, none⟩), .pointer (some ⟨b0, 0, none⟩), .slice a0_0 x0_0.length c0_0, .int .i64 (x0_0.length : Int), .bool (decide (s1v < (x0_0.length : Int))), .bool (decide (s1v < (x0_0.length : Int))), .pointer (some ⟨b0, 0, none⟩), .pointer (some ⟨b0, 0, none⟩), .pointer (some ⟨b0, 0, none⟩), .slice a0_0 x0_0.length c0_0, .int .i64 s1v, .pointer (some ⟨b24v, b24vo + s1v.toNat * 2, none⟩), .pointer (some ⟨b24v, b24vo + s1v.toNat * 2 + 0, none⟩), str ((x0_0.getD s1v.toNat dz90).1), str x1, .bool (decide (((x0_0.getD s1v.toNat dz90).1) = x1)), .bool (decide (((x0_0.getD s1v.toNat dz90).1) = x1)), .int .i64 s1v, .bool (decide (((x0_0.getD s1v.toNat dz90).1) = x1))].getD i undef) (fun j γ => [[obj b0 85 [.slice a0_0 x0_0.length c0_0, .slice a0_1 x0_1.length c0_1], F]].getD j []) (fun γ => [(4, .int .i64 s1v), (5, .bool (decide (((x0_0.getD s1v.toNat dz90).1) = x1)))]) mixed (by decide) (by decide) (by decide) (by decide) (by decide) (by decide) (by decide) 48 rfl (by decide) (by decide) (by decide) (Ent.refl _) ?_ ?_ (fun _ => ⟨rfl, rfl, trivial⟩) ?_
 exact (aq rfl (fun γ => qm rfl (.o (s := 6) rfl (by decide) .nil) rfl) (aq rfl (fun γ => qm rfl (.o (s := 6) rfl (by decide) .nil) rfl) (aq rfl (fun γ => qm rfl (.o (s := 0) rfl (by decide) .nil) rfl) (aq rfl (fun γ => qp rfl rfl (.v 2 rfl rfl .nil) (q_nil rfl rfl) rfl) (aq rfl (fun γ => qp rfl rfl (.v 3 rfl rfl .nil) (q_fa rfl rfl Tryz.underlying85 rfl rfl Tryz.sizeOf82 rfl) rfl) (aq rfl (fun γ => qp rfl rfl (.v 4 rfl rfl .nil) (q_load rfl rfl Tryz.isAgg82 (.obj 0 rfl rfl)) rfl) (aq rfl (fun γ => qp rfl rfl (.v 5 rfl rfl .nil) (q_len rfl rfl rfl Tryz.underlying82) rfl) (aq rfl (fun γ => qp rfl rfl (.v 1 rfl rfl (.v 6 rfl rfl .nil)) (q_lss rfl rfl rfl) rfl) (aq rfl (fun γ => qm rfl (.v 7 rfl rfl .nil) rfl) (aq rfl (fun γ => qy rfl rfl (.o (s := 0) rfl (by decide) (.v 8 rfl rfl .nil)) rfl rfl (beq_yes (decide_eq_true hk22v)) (q_move rfl rfl) rfl) (aq rfl (fun γ => qy rfl rfl (.v 8 rfl rfl (.v 9 rfl rfl .nil)) rfl rfl (beq_yes (decide_eq_true hk22v)) (q_nil rfl rfl) rfl) (aq rfl (fun γ => qy rfl rfl (.v 8 rfl rfl (.v 10 rfl rfl .nil)) rfl rfl (beq_yes (decide_eq_true hk22v)) (q_fa rfl rfl Tryz.underlying85 rfl rfl Tryz.sizeOf82 rfl) rfl) (aq rfl (fun γ => qy rfl rfl (.v 8 rfl rfl (.v 11 rfl rfl .nil)) rfl rfl (beq_yes (decide_eq_true hk22v)) (q_load rfl rfl Tryz.isAgg82 (.obj 0 rfl rfl)) rfl) (aq rfl (fun γ => qy rfl rfl (.o (s := 6) rfl (by decide) (.v 8 rfl rfl .nil)) rfl rfl (beq_yes (decide_eq_true hk22v)) (q_move rfl rfl) rfl) (aq rfl (fun γ => qy rfl rfl (.v 8 rfl rfl (.v 12 rfl rfl (.v 13 rfl rfl .nil))) rfl rfl (beq_yes (decide_eq_true hk22v)) (q_idx rfl rfl rfl ha25v Tryz.underlying82 Tryz.sizeOf90 hi23v.1 hi23v.2) rfl) (aq rfl (fun γ => qy rfl rfl (.v 8 rfl rfl (.v 14 rfl rfl .nil)) rfl rfl (beq_yes (decide_eq_true hk22v)) (q_fa rfl rfl Tryz.underlying90 rfl rfl Tryz.sizeOf9 rfl) rfl) (aq rfl (fun γ => qy rfl rfl (.v 8 rfl rfl (.v 15 rfl rfl .nil)) rfl rfl (beq_yes (decide_eq_true hk22v)) (q_load rfl rfl Tryz.isAgg9 (hcell30v 1 rfl 0 _ rfl)) rfl) (aq rfl (fun γ => qy rfl rfl (.o (s := 1) rfl (by decide) (.v 8 rfl rfl .nil)) rfl rfl (beq_yes (decide_eq_true hk22v)) (q_move rfl rfl) rfl) (aq rfl (fun γ => qy rfl rfl (.v 8 rfl rfl (.v 16 rfl rfl (.v 17 rfl rfl .nil))) rfl rfl (beq_yes (decide_eq_true hk22v)) (q_eqs rfl rfl rfl) rfl) (aq rfl (fun γ => qp rfl rfl (.v 8 rfl rfl (.v 18 rfl rfl .nil)) (q_pick rfl rfl rfl rfl (bif_yes (decide_eq_true hk22v) _ _)) rfl) (aq rfl (fun γ => qp rfl rfl (.v 0 rfl rfl .nil) (q_asg rfl rfl) rfl) (aq rfl (fun γ => qp rfl rfl (.v 19 rfl rfl .nil) (q_asg rfl rfl) rfl) zA))))))))))))))))))))))
 exact zA
 intro g31v
 exact nrm_cut (s := decide (((x0_0.getD s1v.toNat dz90).1) = x1)) () ⟨rfl, rfl, trivial⟩ (.sel 0 rfl (.sel 0 rfl (.nil _)))
 refine sim_draw (Γ := Unit) () [[], [], [], [2], [2, 3], [2, 3, 4], [2, 3, 4, 5], [1, 2, 3, 4, 5, 6], [1, 2, 3, 4, 5, 6, 7], [1, 2, 3, 4, 5, 6, 7, 8], [1, 2, 3, 4, 5, 6, 7, 8, 9], [1, 2, 3, 4, 5, 6, 7, 8, 9, 10], [1, 2, 3, 4, 5, 6, 7, 8, 9, 10, 11], [1, 2, 3, 4, 5, 6, 7, 8], [1, 2, 3, 4, 5, 6, 7, 8, 9, 10, 11, 12, 13], [1, 2, 3, 4, 5, 6, 7, 8, 9, 10, 11, 12, 13, 14], [1, 2, 3, 4, 5, 6, 7, 8, 9, 10, 11, 12, 13, 14, 15], [1, 2, 3, 4, 5, 6, 7, 8], [1, 2, 3, 4, 5, 6, 7, 8, 9, 10, 11, 12, 13, 14, 15, 16, 17], [1, 2, 3, 4, 5, 6, 7, 8, 9, 10, 11, 12, 13, 14, 15, 16, 17, 18], rL 9, rL 21] [] [0, 1, 2, 3, 4, 5, 6, 7, 8, 9, 10, 11, 12, 13, 14, 15, 16, 17, 18, 19, 20, 21] (fun i => [[0], [0], [0], [0], [0], [0], [0], [0], [0], [0], [0], [0], [0], [0], [0], [0], [0], [0], [0], [0], [0], [0]].getD i []) (fun i => [[], [], [], [], [], [], [], [], [], [], [], [], [], [], [], [], [], [], [], [], [], []].getD i []) (fun γ i => [.int .i64 s1v, .int .i64 s1v, .pointer (some ⟨b0, 0, none⟩), .pointer (some ⟨b0, 0, none⟩), .pointer (some ⟨b0, 0, none⟩), .slice a0_0 x0_0.length c0_0, .int .i64 (x0_0.length : Int), .bool (decide (s1v < (x0_0.length : Int))), .bool (decide (s1v < (x0_0.length : Int))), undef, undef, undef, undef, undef, undef, undef, undef, undef, undef, .bool false, .int .i64 s1v, .bool false].getD i undef) (fun j γ => [[obj b0 85 [.slice a0_0 x0_0.length c0_0, .slice a0_1 x0_1.length c0_1], F]].getD j []) (fun γ => [(4, .int .i64 s1v), (5, .bool false)]) mixed (by decide) (by decide) (by decide) (by decide) (by decide) (by decide) (by decide) 48 rfl (by decide) (by decide) (by decide) (Ent.refl _) ?_ ?_ (fun _ => ⟨rfl, rfl, trivial⟩) ?_
 exact (aq rfl (fun γ => qm rfl (.o (s := 6) rfl (by decide) .nil) rfl) (aq rfl (fun γ => qm rfl (.o (s := 6) rfl (by decide) .nil) rfl) (aq rfl (fun γ => qm rfl (.o (s := 0) rfl (by decide) .nil) rfl) (aq rfl (fun γ => qp rfl rfl (.v 2 rfl rfl .nil) (q_nil rfl rfl) rfl) (aq rfl (fun γ => qp rfl rfl (.v 3 rfl rfl .nil) (q_fa rfl rfl Tryz.underlying85 rfl rfl Tryz.sizeOf82 rfl) rfl) (aq rfl (fun γ => qp rfl rfl (.v 4 rfl rfl .nil) (q_load rfl rfl Tryz.isAgg82 (.obj 0 rfl rfl)) rfl) (aq rfl (fun γ => qp rfl rfl (.v 5 rfl rfl .nil) (q_len rfl rfl rfl Tryz.underlying82) rfl) (aq rfl (fun γ => qp rfl rfl (.v 1 rfl rfl (.v 6 rfl rfl .nil)) (q_lss rfl rfl rfl) rfl) (aq rfl (fun γ => qm rfl (.v 7 rfl rfl .nil) rfl) (aq rfl (fun γ => qn rfl rfl (.o (s := 0) rfl (by decide) (.v 8 rfl rfl .nil)) rfl rfl (beq_no' (decide_eq_false hk22v)) rfl) (aq rfl (fun γ => qn rfl rfl (.v 8 rfl rfl (.v 9 rfl rfl .nil)) rfl rfl (beq_no' (decide_eq_false hk22v)) rfl) (aq rfl (fun γ => qn rfl rfl (.v 8 rfl rfl (.v 10 rfl rfl .nil)) rfl rfl (beq_no' (decide_eq_false hk22v)) rfl) (aq rfl (fun γ => qn rfl rfl (.v 8 rfl rfl (.v 11 rfl rfl .nil)) rfl rfl (beq_no' (decide_eq_false hk22v)) rfl) (aq rfl (fun γ => qn rfl rfl (.o (s := 6) rfl (by decide) (.v 8 rfl rfl .nil)) rfl rfl (beq_no' (decide_eq_false hk22v)) rfl) (aq rfl (fun γ => qn rfl rfl (.v 8 rfl rfl (.v 12 rfl rfl (.v 13 rfl rfl .nil))) rfl rfl (beq_no' (decide_eq_false hk22v)) rfl) (aq rfl (fun γ => qn rfl rfl (.v 8 rfl rfl (.v 14 rfl rfl .nil)) rfl rfl (beq_no' (decide_eq_false hk22v)) rfl) (aq rfl (fun γ => qn rfl rfl (.v 8 rfl rfl (.v 15 rfl rfl .nil)) rfl rfl (beq_no' (decide_eq_false hk22v)) rfl) (aq rfl (fun γ => qn rfl rfl (.o (s := 1) rfl (by decide) (.v 8 rfl rfl .nil)) rfl rfl (beq_no' (decide_eq_false hk22v)) rfl) (aq rfl (fun γ => qn rfl rfl (.v 8 rfl rfl (.v 16 rfl rfl (.v 17 rfl rfl .nil))) rfl rfl (beq_no' (decide_eq_false hk22v)) rfl) (aq rfl (fun γ => qp rfl rfl (.v 8 rfl rfl (.v 18 rfl rfl .nil)) (q_pick rfl rfl rfl rfl (bif_no (decide_eq_false hk22v) _ _)) rfl) (aq rfl (fun γ => qp rfl rfl (.v 0 rfl rfl .nil) (q_asg rfl rfl) rfl) (aq rfl (fun γ => qp rfl rfl (.v 19 rfl rfl .nil) (q_asg rfl rfl) rfl) zA))))))))))))))))))))))
 exact zA
 intro g32v
 exact nrm_cut (s := false) () ⟨rfl, rfl, trivial⟩ (.sel 0 rfl (.sel 0 rfl (.nil _)))
 intro s20v y21v
 refine sim_rtn ?_
 exact rtn_fn () rfl rfl rfl (.sel 0 rfl (.sel 0 rfl (.nil _)))

def synodref11_Store_does.f (k : Nat) (x0_0 : List (Ty90)) (x0_1 : List (Ty91)) (x1_0 : Int) (x1_1 : Int) (x1_2 : Int) (x1_3 : List UInt8) (x1_4 : List UInt8) (x1_5 : List UInt8) : Option (Int × List UInt8 × (List (Ty90)) × (List (Ty91))) := (synodref11_Store_at.f k x0_0 x0_1 x1_3).bind fun s15v => (if ((decide (x1_0 = (2 : Int))) && (!s15v.2)) = true then (if (128 : Int) ≤ (x0_0.length : Int) then (some (5, ([] : List UInt8), x0_0, x0_1)) else (if 0 ≤ (0 : Int) ∧ (0 : Int) ≤ s15v.1 ∧ s15v.1 ≤ (x0_0.length : Int) then (if (([] : List (Ty90)).length + (cut x0_0 (0 : Int) s15v.1).length) * 32 ≤ 140737488355328 then (if ((([] : List (Ty90)) ++ (cut x0_0 (0 : Int) s15v.1)).length + ([(x1_3, x1_4)] : List (Ty90)).length) * 32 ≤ 140737488355328 then (if 0 ≤ s15v.1 ∧ s15v.1 ≤ (x0_0.length : Int) ∧ (x0_0.length : Int) ≤ (x0_0.length : Int) then (if (((([] : List (Ty90)) ++ (cut x0_0 (0 : Int) s15v.1)) ++ ([(x1_3, x1_4)] : List (Ty90))).length + (cut x0_0 s15v.1 (x0_0.length : Int)).length) * 32 ≤ 140737488355328 then (some (1, ([] : List UInt8), ((([] : List (Ty90)) ++ (cut x0_0 (0 : Int) s15v.1)) ++ ([(x1_3, x1_4)] : List (Ty90))) ++ (cut x0_0 s15v.1 (x0_0.length : Int)), x0_1)) else none) else none) else none) else none) else none)) else (if (!s15v.2) = true then (some (2, ([] : List UInt8), x0_0, x0_1)) else (if x1_0 = (3 : Int) then (if 0 ≤ (0 : Int) ∧ (0 : Int) ≤ s15v.1 ∧ s15v.1 ≤ (x0_0.length : Int) then (if (([] : List (Ty90)).length + (cut x0_0 (0 : Int) s15v.1).length) * 32 ≤ 140737488355328 then (if 0 ≤ IntKind.i64.wrap (s15v.1 + 1) ∧ IntKind.i64.wrap (s15v.1 + 1) ≤ (x0_0.length : Int) ∧ (x0_0.length : Int) ≤ (x0_0.length : Int) then (if ((([] : List (Ty90)) ++ (cut x0_0 (0 : Int) s15v.1)).length + (cut x0_0 (IntKind.i64.wrap (s15v.1 + 1)) (x0_0.length : Int)).length) * 32 ≤ 140737488355328 then (some (1, ([] : List UInt8), (([] : List (Ty90)) ++ (cut x0_0 (0 : Int) s15v.1)) ++ (cut x0_0 (IntKind.i64.wrap (s15v.1 + 1)) (x0_0.length : Int)), x0_1)) else none) else none) else none) else none) else ((if x1_0 = (4 : Int) then (if 0 ≤ s15v.1 ∧ s15v.1 < (x0_0.length : Int) then (some (!decide (((x0_0.getD s15v.1.toNat dz90).2) = x1_5))) else none) else (some false)).bind fun s104v => (if s104v = true then (if 0 ≤ s15v.1 ∧ s15v.1 < (x0_0.length : Int) then (some (3, (x0_0.getD s15v.1.toNat dz90).2, x0_0, x0_1)) else none) else (if 0 ≤ s15v.1 ∧ s15v.1 < (x0_0.length : Int) then (some (1, ([] : List UInt8), x0_0.set s15v.1.toNat ((x0_0.getD s15v.1.toNat dz90).1, x1_4), x0_1)) else none))))))
theorem synodref11_Store_does.calls (W : World) (F : HA) (k : Nat) (b0 : Nat) (a0_0 : Option Addr) (c0_0 : Nat) (x0_0 : List (Ty90)) (a0_1 : Option Addr) (c0_1 : Nat) (x0_1 : List (Ty91)) (x1_0 : Int) (x1_1 : Int) (x1_2 : Int) (x1_3 : List UInt8) (x1_4 : List UInt8) (x1_5 : List UInt8)  :
    Fn Tryz.prog W 48 [.pointer (some ⟨b0, 0, none⟩), .agg #[.int .i64 x1_0, .int .i64 x1_1, .int .i64 x1_2, str x1_3, str x1_4, str x1_5]] [obj b0 85 [.slice a0_0 x0_0.length c0_0, .slice a0_1 x0_1.length c0_1], RowV 90 2 (V90 tt) a0_0 x0_0 c0_0, RowV 91 4 (V91 tt) a0_1 x0_1 c0_1] F (synodref11_Store_does.f k x0_0 x0_1 x1_0 x1_1 x1_2 x1_3 x1_4 x1_5) (fun (r : Int × List UInt8 × (List (Ty90)) × (List (Ty91))) (y : Option Addr × Nat × Option Addr × Nat) => .agg #[.int .i64 r.1, str r.2.1]) (fun r y => [obj b0 85 [.slice y.1 r.2.2.1.length y.2.1, .slice y.2.2.1 r.2.2.2.length y.2.2.2], RowV 90 2 (V90 tt) y.1 r.2.2.1 y.2.1, RowV 91 4 (V91 tt) y.2.2.1 r.2.2.2 y.2.2.2]) := by
 unfold synodref11_Store_does.f
 refine fn_intro 120 Tryz.func48 rfl Tryz.ntmps48 rfl ?_
 refine sr ?_
 refine simL_eff (re_box rfl rfl rfl) rfl rfl rfl ?_
 intro b1v
 refine simL_eff (re_alloc rfl Tryz.zeroValue45 rfl) rfl rfl rfl ?_
 intro b2v
 refine nx ?_
 refine vm rfl rfl ?_
 refine vq (q_fa rfl rfl Tryz.underlying49 rfl rfl Tryz.sizeOf9 rfl) rfl ?_
 refine vq (q_load rfl rfl Tryz.isAgg9 (.obj 1 rfl rfl)) rfl ?_
 refine simL_openV 3 rfl (fun rs3v hl4v => ?_)
 refine simL_openV 4 rfl (fun rs5v hl6v => ?_)
 refine simL_bind (fun s15v hs16v => ?_)
 refine simL_lend 3 rfl (fun hq7v hq8v hq9v hq10v => ?_)
 refine simL_lend 4 rfl (fun hq11v hq12v hq13v hq14v => ?_)
 refine simL_eff (re_call (vs := [.pointer (some ⟨b0, 0, none⟩), str x1_3]) (cap := []) (A := [obj b0 85 [.slice a0_0 x0_0.length c0_0, .slice a0_1 x0_1.length c0_1]]) (rst := [obj b2v 45 [.int .i64 0, str ([] : List UInt8)], obj b1v 49 [.int .i64 x1_0, .int .i64 x1_1, .int .i64 x1_2, str x1_3, str x1_4, str x1_5], Row 90 2 a0_0 x0_0.length c0_0 rs3v.flatten, Row 91 4 a0_1 x0_1.length c0_1 rs5v.flatten, F]) rfl rfl rfl rfl rfl rfl Tryz.call86 (.sel 2 rfl (.sel 0 rfl (.sel 0 rfl (.sel 0 rfl (.sel 0 rfl (.sel 0 rfl (.nil _))))))) (synodref11_Store_at.calls _ _ k b0 a0_0 c0_0 x0_0 a0_1 c0_1 x0_1 x1_3 ((Rd.asV hl4v hq7v).up (Up.lend 2 rfl) (fun _ _ h => h)) hq8v hq9v ((Rd.asV hl6v hq11v).up (Up.lend 3 rfl) (fun _ _ h => h)) hq12v hq13v) hs16v) rfl rfl rfl ?_
 intro y17v
 refine vm rfl rfl ?_
 refine vq (q_ext rfl rfl rfl) rfl ?_
 refine vq (q_ext rfl rfl rfl) rfl ?_
 refine va rfl rfl ?_
 refine va rfl rfl (simL_nil (nrm_then (sim_seq (sr ?_))))
 refine vq (q_fa rfl rfl Tryz.underlying49 rfl rfl Tryz.sizeOf3 rfl) rfl ?_
 refine vq (q_load rfl rfl Tryz.isAgg3 (.obj 2 rfl rfl)) rfl ?_
 refine vq (q_eql rfl rfl rfl) rfl ?_
 refine vm rfl rfl ?_
 refine simL_valc (b := decide (x1_0 = (2 : Int))) (fun hb143v => RQ.sub (E' := [(6, .bool s15v.2)]) ⟨rfl, trivial⟩ (q_move rfl rfl)) rfl rfl rfl rfl rfl ?_
 refine simL_valc (b := decide (x1_0 = (2 : Int))) (fun hb142v => RQ.sub (E' := [(20, .bool s15v.2)]) ⟨lk_cv rfl hb142v, trivial⟩ (q_not rfl rfl)) rfl rfl rfl rfl rfl ?_
 refine vq (q_and rfl rfl rfl) rfl (simL_nil (nrm_then ?_))
 refine sim_condb rfl (fun h18v => ?_) (fun h19v => ?_)
 refine sim_seq (sr ?_)
 refine vm rfl rfl ?_
 refine vn rfl rfl ?_
 refine vq (q_fa rfl rfl Tryz.underlying85 rfl rfl Tryz.sizeOf82 rfl) rfl ?_
 refine vq (q_load rfl rfl Tryz.isAgg82 (.obj 0 rfl rfl)) rfl ?_
 refine vq (q_len rfl rfl rfl Tryz.underlying82) rfl ?_
 refine vq (q_geq rfl rfl rfl) rfl (simL_nil (nrm_then ?_))
 refine sim_cond rfl (fun h20v => ?_) (fun h21v => ?_)
 refine sr ?_
 refine vq (q_build (v := .agg #[.int .i64 5, str ([] : List UInt8)]) rfl rfl (fun _ => by kernel_rfl)) rfl ?_
 refine simL_do (re_store 1 rfl rfl rfl Tryz.sizeOf45 rfl rfl (one_of (by rfl)) rfl rfl) rfl rfl ?_
 intro _
 refine simL_nil (nrm_then (sim_rtn ?_))
 refine rtn_then ?_
 refine rtn_then ?_
 exact rtn_fnC (vs := [.agg #[.int .i64 5, str ([] : List UInt8)]]) (a0_0, c0_0, a0_1, c0_1) rfl ⟨⟨b2v, rfl, load_agg 1 Tryz.isAgg45 Tryz.sizeOf45 rfl rfl⟩, trivial⟩ rfl (.sel 0 rfl (.sel' 2 rfl (RowV.mk hl4v) (.sel' 2 rfl (RowV.mk hl6v) (.sel 2 rfl (.nil _)))))
 refine sim_skip ?_
 refine nrm_then (sr ?_)
 refine simL_eff (re_lit0V (α := List UInt8 × List UInt8) (V := (V90 tt)) rfl Tryz.underlying82 elt90) rfl rfl rfl ?_
 intro b22v
 refine vm rfl rfl ?_
 refine vn rfl rfl ?_
 refine vq (q_fa rfl rfl Tryz.underlying85 rfl rfl Tryz.sizeOf82 rfl) rfl ?_
 refine vq (q_load rfl rfl Tryz.isAgg82 (.obj 1 rfl rfl)) rfl ?_
 refine vm rfl rfl ?_
 refine simL_lend 4 rfl (fun hq24v hq25v hq26v hq27v => ?_)
 refine simL_ask (fun hb23v => ?_)
 obtain ⟨a28v, c29v, hS30v, hr31v, hc32v, hm33v⟩ := slice_preV (lo := (0 : Int)) (hi := s15v.1) (Rd.asV hl4v hq24v) hq25v hb23v
 refine vq (q_sub_roV (l := x0_0) (lo' := (0 : Int)) (hi' := s15v.1) rfl rfl rfl rfl Tryz.underlying82 Tryz.sizeOf90 (.inr ⟨_, rfl⟩) (.inl ⟨rfl, rfl⟩) hb23v hq25v hS30v) rfl ?_
 refine simL_openV 0 rfl (fun rs38v hl39v => ?_)
 refine simL_ask (fun hb37v => ?_)
 refine simL_eff (re_appendV 0 rfl rfl rfl Tryz.underlying82 elt90 rfl hl39v (hr31v.rds 3 rfl) hb37v) rfl rfl rfl ?_
 intro y36v
 refine va rfl rfl (nx ?_)
 refine vm rfl rfl ?_
 refine vq (q_fa rfl rfl Tryz.underlying49 rfl rfl Tryz.sizeOf9 rfl) rfl ?_
 refine vq (q_load rfl rfl Tryz.isAgg9 (.obj 3 rfl rfl)) rfl ?_
 refine vq (q_fa rfl rfl Tryz.underlying49 rfl rfl Tryz.sizeOf9 rfl) rfl ?_
 refine vq (q_load rfl rfl Tryz.isAgg9 (.obj 3 rfl rfl)) rfl ?_
 refine vq (q_build (v := .agg #[str x1_3, str x1_4]) rfl rfl (fun _ => by kernel_rfl)) rfl ?_
 have hlb41v : ListV 2 (V90 tt) ([(x1_3, x1_4)] : List (Ty90)) [[str x1_3, str x1_4]] := ⟨⟨rfl, one_of (by rfl), rfl⟩, trivial⟩
 refine simL_eff (re_litV (V := (V90 tt)) (xs := ([(x1_3, x1_4)] : List (Ty90))) [[str x1_3, str x1_4]] rfl rfl Tryz.underlying82 elt90 rfl (by kernel_rfl) rfl hlb41v rfl rfl) rfl rfl rfl ?_
 intro b41v
 refine simL_openV 1 rfl (fun rs46v hl47v => ?_)
 refine simL_ask (fun hb45v => ?_)
 refine simL_eff (re_appendV 1 rfl rfl rfl Tryz.underlying82 elt90 rfl hl47v (RdsV.row hlb41v 0 rfl) hb45v) rfl rfl rfl ?_
 intro y44v
 refine va rfl rfl (nx ?_)
 refine vm rfl rfl ?_
 refine vm rfl rfl ?_
 refine vm rfl rfl ?_
 refine vn rfl rfl ?_
 refine vq (q_fa rfl rfl Tryz.underlying85 rfl rfl Tryz.sizeOf82 rfl) rfl ?_
 refine vq (q_load rfl rfl Tryz.isAgg82 (.obj 2 rfl rfl)) rfl ?_
 refine vm rfl rfl ?_
 refine simL_lend 5 rfl (fun hq49v hq50v hq51v hq52v => ?_)
 refine simL_ask (fun hb48v => ?_)
 obtain ⟨a53v, c54v, hS55v, hr56v, hc57v, hm58v⟩ := slice_preV (lo := s15v.1) (hi := (x0_0.length : Int)) (Rd.asV hl4v hq49v) hq50v hb48v
 refine vq (q_sub_roV (l := x0_0) (lo' := s15v.1) (hi' := (x0_0.length : Int)) rfl rfl rfl rfl Tryz.underlying82 Tryz.sizeOf90 (.inl ⟨rfl, rfl⟩) (.inr ⟨_, rfl⟩) hb48v hq50v hS55v) rfl ?_
 refine simL_openV 1 rfl (fun rs63v hl64v => ?_)
 refine simL_ask (fun hb62v => ?_)
 refine simL_eff (re_appendV 1 rfl rfl rfl Tryz.underlying82 elt90 rfl hl64v (hr56v.rds 4 rfl) hb62v) rfl rfl rfl ?_
 intro y61v
 refine vn rfl rfl ?_
 refine vq (q_fa rfl rfl Tryz.underlying85 rfl rfl Tryz.sizeOf82 rfl) rfl ?_
 refine simL_do (re_store 2 rfl rfl rfl Tryz.sizeOf82 rfl rfl (one_of (by rfl)) rfl rfl) rfl rfl ?_
 intro _
 refine nx ?_
 refine vq (q_build (v := .agg #[.int .i64 1, str ([] : List UInt8)]) rfl rfl (fun _ => by kernel_rfl)) rfl ?_
 refine simL_do (re_store 3 rfl rfl rfl Tryz.sizeOf45 rfl rfl (one_of (by rfl)) rfl rfl) rfl rfl ?_
 intro _
 refine simL_nil (nrm_then (sim_rtn ?_))
 refine rtn_then ?_
 exact rtn_fnC (vs := [.agg #[.int .i64 1, str ([] : List UInt8)]]) (y61v.1, y61v.2, a0_1, c0_1) rfl ⟨⟨b2v, rfl, load_agg 3 Tryz.isAgg45 Tryz.sizeOf45 rfl rfl⟩, trivial⟩ rfl (.sel 2 rfl (.sel 1 rfl (.sel' 4 rfl (RowV.mk hl6v) (.sel 4 rfl (.nil _)))))
 refine sim_skip ?_
 refine nrm_then (sim_seq (sr ?_))
 refine vm rfl rfl ?_
 refine vq (q_not rfl rfl) rfl (simL_nil (nrm_then ?_))
 refine sim_condb rfl (fun h65v => ?_) (fun h66v => ?_)
 refine sr ?_
 refine vq (q_build (v := .agg #[.int .i64 2, str ([] : List UInt8)]) rfl rfl (fun _ => by kernel_rfl)) rfl ?_
 refine simL_do (re_store 1 rfl rfl rfl Tryz.sizeOf45 rfl rfl (one_of (by rfl)) rfl rfl) rfl rfl ?_
 intro _
 refine simL_nil (nrm_then (sim_rtn ?_))
 refine rtn_then ?_
 exact rtn_fnC (vs := [.agg #[.int .i64 2, str ([] : List UInt8)]]) (a0_0, c0_0, a0_1, c0_1) rfl ⟨⟨b2v, rfl, load_agg 1 Tryz.isAgg45 Tryz.sizeOf45 rfl rfl⟩, trivial⟩ rfl (.sel 0 rfl (.sel' 2 rfl (RowV.mk hl4v) (.sel' 2 rfl (RowV.mk hl6v) (.sel 2 rfl (.nil _)))))
 refine sim_skip ?_
 refine nrm_then (sim_seq (sr ?_))
 refine vq (q_fa rfl rfl Tryz.underlying49 rfl rfl Tryz.sizeOf3 rfl) rfl ?_
 refine vq (q_load rfl rfl Tryz.isAgg3 (.obj 2 rfl rfl)) rfl ?_
 refine vq (q_eql rfl rfl rfl) rfl (simL_nil (nrm_then ?_))
 refine sim_cond rfl (fun h67v => ?_) (fun h68v => ?_)
 refine sr ?_
 refine simL_eff (re_lit0V (α := List UInt8 × List UInt8) (V := (V90 tt)) rfl Tryz.underlying82 elt90) rfl rfl rfl ?_
 intro b69v
 refine vm rfl rfl ?_
 refine vn rfl rfl ?_
 refine vq (q_fa rfl rfl Tryz.underlying85 rfl rfl Tryz.sizeOf82 rfl) rfl ?_
 refine vq (q_load rfl rfl Tryz.isAgg82 (.obj 1 rfl rfl)) rfl ?_
 refine vm rfl rfl ?_
 refine simL_lend 4 rfl (fun hq71v hq72v hq73v hq74v => ?_)
 refine simL_ask (fun hb70v => ?_)
 obtain ⟨a75v, c76v, hS77v, hr78v, hc79v, hm80v⟩ := slice_preV (lo := (0 : Int)) (hi := s15v.1) (Rd.asV hl4v hq71v) hq72v hb70v
 refine vq (q_sub_roV (l := x0_0) (lo' := (0 : Int)) (hi' := s15v.1) rfl rfl rfl rfl Tryz.underlying82 Tryz.sizeOf90 (.inr ⟨_, rfl⟩) (.inl ⟨rfl, rfl⟩) hb70v hq72v hS77v) rfl ?_
 refine simL_openV 0 rfl (fun rs85v hl86v => ?_)
 refine simL_ask (fun hb84v => ?_)
 refine simL_eff (re_appendV 0 rfl rfl rfl Tryz.underlying82 elt90 rfl hl86v (hr78v.rds 3 rfl) hb84v) rfl rfl rfl ?_
 intro y83v
 refine va rfl rfl (nx ?_)
 refine vm rfl rfl ?_
 refine vm rfl rfl ?_
 refine vm rfl rfl ?_
 refine vn rfl rfl ?_
 refine vq (q_fa rfl rfl Tryz.underlying85 rfl rfl Tryz.sizeOf82 rfl) rfl ?_
 refine vq (q_load rfl rfl Tryz.isAgg82 (.obj 1 rfl rfl)) rfl ?_
 refine vm rfl rfl ?_
 refine vq (q_add rfl rfl rfl) rfl ?_
 refine simL_lend 4 rfl (fun hq88v hq89v hq90v hq91v => ?_)
 refine simL_ask (fun hb87v => ?_)
 obtain ⟨a92v, c93v, hS94v, hr95v, hc96v, hm97v⟩ := slice_preV (lo := IntKind.i64.wrap (s15v.1 + 1)) (hi := (x0_0.length : Int)) (Rd.asV hl4v hq88v) hq89v hb87v
 refine vq (q_sub_roV (l := x0_0) (lo' := IntKind.i64.wrap (s15v.1 + 1)) (hi' := (x0_0.length : Int)) rfl rfl rfl rfl Tryz.underlying82 Tryz.sizeOf90 (.inl ⟨rfl, rfl⟩) (.inr ⟨_, rfl⟩) hb87v hq89v hS94v) rfl ?_
 refine simL_openV 0 rfl (fun rs102v hl103v => ?_)
 refine simL_ask (fun hb101v => ?_)
 refine simL_eff (re_appendV 0 rfl rfl rfl Tryz.underlying82 elt90 rfl hl103v (hr95v.rds 3 rfl) hb101v) rfl rfl rfl ?_
 intro y100v
 refine vn rfl rfl ?_
 refine vq (q_fa rfl rfl Tryz.underlying85 rfl rfl Tryz.sizeOf82 rfl) rfl ?_
 refine simL_do (re_store 1 rfl rfl rfl Tryz.sizeOf82 rfl rfl (one_of (by rfl)) rfl rfl) rfl rfl ?_
 intro _
 refine nx ?_
 refine vq (q_build (v := .agg #[.int .i64 1, str ([] : List UInt8)]) rfl rfl (fun _ => by kernel_rfl)) rfl ?_
 refine simL_do (re_store 2 rfl rfl rfl Tryz.sizeOf45 rfl rfl (one_of (by rfl)) rfl rfl) rfl rfl ?_
 intro _
 refine simL_nil (nrm_then (sim_rtn ?_))
 refine rtn_then ?_
 exact rtn_fnC (vs := [.agg #[.int .i64 1, str ([] : List UInt8)]]) (y100v.1, y100v.2, a0_1, c0_1) rfl ⟨⟨b2v, rfl, load_agg 2 Tryz.isAgg45 Tryz.sizeOf45 rfl rfl⟩, trivial⟩ rfl (.sel 1 rfl (.sel 0 rfl (.sel' 3 rfl (RowV.mk hl6v) (.sel 3 rfl (.nil _)))))
 refine sim_skip ?_
 refine nrm_then (sim_seq ?_)
 refine sim_cut (S := Bool) (Unit) (fun s y => [(0, .pointer (some ⟨b0, 0, none⟩)), (3, .pointer (some ⟨b1v, 0, none⟩)), (4, .pointer (some ⟨b2v, 0, none⟩)), (5, .int .i64 s15v.1), (100, .bool s)]) (fun s y => [obj b0 85 [.slice a0_0 x0_0.length c0_0, .slice a0_1 x0_1.length c0_1], obj b2v 45 [.int .i64 0, str ([] : List UInt8)], obj b1v 49 [.int .i64 x1_0, .int .i64 x1_1, .int .i64 x1_2, str x1_3, str x1_4, str x1_5], RowV 90 2 (V90 tt) a0_0 x0_0 c0_0, RowV 91 4 (V91 tt) a0_1 x0_1 c0_1, F]) ?_ ?_
 refine sim_if (fun hk106v => ?_) (fun hk106v => ?_)
 refine sim_ask (fun hi107v => ?_)
 refine sim_posV 3 rfl hl4v rfl (i := s15v.1.toNat) (by omega) dz90 (fun b108v b108vo r111v ha109v hV112v hlr113v hcell114v => ?_)
 obtain rfl := hV112v
 refine sim_draw (Γ := Unit) () [[], [0], [0, 1], [0, 1, 2], rL 4, rL 5, rL 6, rL 7, rL 4, rL 9, rL 10, rL 11, rL 4, [0, 1, 2, 3, 12], rL 14, rL 15] [] [0, 1, 2, 3, 4, 5, 6, 7, 8, 9, 10, 11, 12, 13, 14, 15] (fun i => [[0], [0], [0], [0], [0], [0], [0], [0], [0], [0], [0], [0], [0], [0], [0], [0]].getD i []) (fun i => [[], [], [], [], [], [], [], [], [], [], [], [], [], [], [], []].getD i []) (fun γ i => [.pointer (some ⟨b1v, 0, none⟩), .int .i64 x1_0, .bool (decide (x1_0 = (4 : Int))), .bool (decide (x1_0 = (4 : Int))), .pointer (some ⟨b0, 0, none⟩), .pointer (some ⟨b0, 0, none⟩), .pointer (some ⟨b0, 0, none⟩), .slice a0_0 x0_0.length c0_0, .int .i64 s15v.1, .pointer (some ⟨b108v, b108vo + s15v.1.toNat * 2, none⟩), .pointer (some ⟨b108v, b108vo + s15v.1.toNat * 2 + 1, none⟩), str ((x0_0.getD s15v.1.toNat dz90).2), .pointer (some ⟨b1v, 5, none⟩), str x1_5, .bool (!decide (((x0_0.getD s15v.1.toNat dz90).2) = x1_5)), .bool (!decide (((x0_0.getD s15v.1.toNat dz90).2) = x1_5))].getD i undef) (fun j γ => [[obj b0 85 [.slice a0_0 x0_0.length c0_0, .slice a0_1 x0_1.length c0_1], obj b2v 45 [.int .i64 0, str ([] : List UInt8)], obj b1v 49 [.int .i64 x1_0, .int .i64 x1_1, .int .i64 x1_2, str x1_3, str x1_4, str x1_5], Row 90 2 a0_0 x0_0.length c0_0 rs3v.flatten, Row 91 4 a0_1 x0_1.length c0_1 rs5v.flatten, F]].getD j []) (fun γ => [(0, .pointer (some ⟨b0, 0, none⟩)), (3, .pointer (some ⟨b1v, 0, none⟩)), (4, .pointer (some ⟨b2v, 0, none⟩)), (5, .int .i64 s15v.1), (100, .bool (!decide (((x0_0.getD s15v.1.toNat dz90).2) = x1_5)))]) mixed (by decide) (by decide) (by decide) (by decide) (by decide) (by decide) (by decide) 120 rfl (by decide) (by decide) (by decide) (Ent.refl _) ?_ ?_ (fun _ => ⟨rfl, rfl, rfl, rfl, rfl, trivial⟩) ?_
 exact (aq rfl (fun γ => qp rfl rfl (.o (s := 3) rfl (by decide) .nil) (q_fa rfl rfl Tryz.underlying49 rfl rfl Tryz.sizeOf3 rfl) rfl) (aq rfl (fun γ => qp rfl rfl (.v 0 rfl rfl .nil) (q_load rfl rfl Tryz.isAgg3 (.obj 2 rfl rfl)) rfl) (aq rfl (fun γ => qp rfl rfl (.v 1 rfl rfl .nil) (q_eql rfl rfl rfl) rfl) (aq rfl (fun γ => qm rfl (.v 2 rfl rfl .nil) rfl) (aq rfl (fun γ => qy rfl rfl (.o (s := 0) rfl (by decide) (.v 3 rfl rfl .nil)) rfl rfl (beq_yes (decide_eq_true hk106v)) (q_move rfl rfl) rfl) (aq rfl (fun γ => qy rfl rfl (.v 3 rfl rfl (.v 4 rfl rfl .nil)) rfl rfl (beq_yes (decide_eq_true hk106v)) (q_nil rfl rfl) rfl) (aq rfl (fun γ => qy rfl rfl (.v 3 rfl rfl (.v 5 rfl rfl .nil)) rfl rfl (beq_yes (decide_eq_true hk106v)) (q_fa rfl rfl Tryz.underlying85 rfl rfl Tryz.sizeOf82 rfl) rfl) (aq rfl (fun γ => qy rfl rfl (.v 3 rfl rfl (.v 6 rfl rfl .nil)) rfl rfl (beq_yes (decide_eq_true hk106v)) (q_load rfl rfl Tryz.isAgg82 (.obj 0 rfl rfl)) rfl) (aq rfl (fun γ => qy rfl rfl (.o (s := 5) rfl (by decide) (.v 3 rfl rfl .nil)) rfl rfl (beq_yes (decide_eq_true hk106v)) (q_move rfl rfl) rfl) (aq rfl (fun γ => qy rfl rfl (.v 3 rfl rfl (.v 7 rfl rfl (.v 8 rfl rfl .nil))) rfl rfl (beq_yes (decide_eq_true hk106v)) (q_idx rfl rfl rfl ha109v Tryz.underlying82 Tryz.sizeOf90 hi107v.1 hi107v.2) rfl) (aq rfl (fun γ => qy rfl rfl (.v 3 rfl rfl (.v 9 rfl rfl .nil)) rfl rfl (beq_yes (decide_eq_true hk106v)) (q_fa rfl rfl Tryz.underlying90 rfl rfl Tryz.sizeOf9 rfl) rfl) (aq rfl (fun γ => qy rfl rfl (.v 3 rfl rfl (.v 10 rfl rfl .nil)) rfl rfl (beq_yes (decide_eq_true hk106v)) (q_load rfl rfl Tryz.isAgg9 (hcell114v 3 rfl 1 _ rfl)) rfl) (aq rfl (fun γ => qy rfl rfl (.o (s := 3) rfl (by decide) (.v 3 rfl rfl .nil)) rfl rfl (beq_yes (decide_eq_true hk106v)) (q_fa rfl rfl Tryz.underlying49 rfl rfl Tryz.sizeOf9 rfl) rfl) (aq rfl (fun γ => qy rfl rfl (.v 3 rfl rfl (.v 12 rfl rfl .nil)) rfl rfl (beq_yes (decide_eq_true hk106v)) (q_load rfl rfl Tryz.isAgg9 (.obj 2 rfl rfl)) rfl) (aq rfl (fun γ => qy rfl rfl (.v 3 rfl rfl (.v 11 rfl rfl (.v 13 rfl rfl .nil))) rfl rfl (beq_yes (decide_eq_true hk106v)) (q_nes rfl rfl rfl) rfl) (aq rfl (fun γ => qp rfl rfl (.v 3 rfl rfl (.v 14 rfl rfl .nil)) (q_pick rfl rfl rfl rfl (bif_yes (decide_eq_true hk106v) _ _)) rfl) zA))))))))))))))))
 exact zA
 intro g115v
 exact nrm_cut (s := !decide (((x0_0.getD s15v.1.toNat dz90).2) = x1_5)) () ⟨rfl, rfl, rfl, rfl, rfl, trivial⟩ (.sel 0 rfl (.sel 0 rfl (.sel 0 rfl (.sel' 0 rfl (RowV.mk hl4v) (.sel' 0 rfl (RowV.mk hl6v) (.sel 0 rfl (.nil _)))))))
 refine sim_draw (Γ := Unit) () [[], [0], [0, 1], [0, 1, 2], rL 4, rL 5, rL 6, rL 7, rL 4, rL 9, rL 10, rL 11, rL 4, [0, 1, 2, 3, 12], rL 14, rL 15] [] [0, 1, 2, 3, 4, 5, 6, 7, 8, 9, 10, 11, 12, 13, 14, 15] (fun i => [[0], [0], [0], [0], [0], [0], [0], [0], [0], [0], [0], [0], [0], [0], [0], [0]].getD i []) (fun i => [[], [], [], [], [], [], [], [], [], [], [], [], [], [], [], []].getD i []) (fun γ i => [.pointer (some ⟨b1v, 0, none⟩), .int .i64 x1_0, .bool (decide (x1_0 = (4 : Int))), .bool (decide (x1_0 = (4 : Int))), undef, undef, undef, undef, undef, undef, undef, undef, undef, undef, undef, .bool false].getD i undef) (fun j γ => [[obj b0 85 [.slice a0_0 x0_0.length c0_0, .slice a0_1 x0_1.length c0_1], obj b2v 45 [.int .i64 0, str ([] : List UInt8)], obj b1v 49 [.int .i64 x1_0, .int .i64 x1_1, .int .i64 x1_2, str x1_3, str x1_4, str x1_5], Row 90 2 a0_0 x0_0.length c0_0 rs3v.flatten, Row 91 4 a0_1 x0_1.length c0_1 rs5v.flatten, F]].getD j []) (fun γ => [(0, .pointer (some ⟨b0, 0, none⟩)), (3, .pointer (some ⟨b1v, 0, none⟩)), (4, .pointer (some ⟨b2v, 0, none⟩)), (5, .int .i64 s15v.1), (100, .bool false)]) mixed (by decide) (by decide) (by decide) (by decide) (by decide) (by decide) (by decide) 120 rfl (by decide) (by decide) (by decide) (Ent.refl _) ?_ ?_ (fun _ => ⟨rfl, rfl, rfl, rfl, rfl, trivial⟩) ?_
 exact (aq rfl (fun γ => qp rfl rfl (.o (s := 3) rfl (by decide) .nil) (q_fa rfl rfl Tryz.underlying49 rfl rfl Tryz.sizeOf3 rfl) rfl) (aq rfl (fun γ => qp rfl rfl (.v 0 rfl rfl .nil) (q_load rfl rfl Tryz.isAgg3 (.obj 2 rfl rfl)) rfl) (aq rfl (fun γ => qp rfl rfl (.v 1 rfl rfl .nil) (q_eql rfl rfl rfl) rfl) (aq rfl (fun γ => qm rfl (.v 2 rfl rfl .nil) rfl) (aq rfl (fun γ => qn rfl rfl (.o (s := 0) rfl (by decide) (.v 3 rfl rfl .nil)) rfl rfl (beq_no' (decide_eq_false hk106v)) rfl) (aq rfl (fun γ => qn rfl rfl (.v 3 rfl rfl (.v 4 rfl rfl .nil)) rfl rfl (beq_no' (decide_eq_false hk106v)) rfl) (aq rfl (fun γ => qn rfl rfl (.v 3 rfl rfl (.v 5 rfl rfl .nil)) rfl rfl (beq_no' (decide_eq_false hk106v)) rfl) (aq rfl (fun γ => qn rfl rfl (.v 3 rfl rfl (.v 6 rfl rfl .nil)) rfl rfl (beq_no' (decide_eq_false hk106v)) rfl) (aq rfl (fun γ => qn rfl rfl (.o (s := 5) rfl (by decide) (.v 3 rfl rfl .nil)) rfl rfl (beq_no' (decide_eq_false hk106v)) rfl) (aq rfl (fun γ => qn rfl rfl (.v 3 rfl rfl (.v 7 rfl rfl (.v 8 rfl rfl .nil))) rfl rfl (beq_no' (decide_eq_false hk106v)) rfl) (aq rfl (fun γ => qn rfl rfl (.v 3 rfl rfl (.v 9 rfl rfl .nil)) rfl rfl (beq_no' (decide_eq_false hk106v)) rfl) (aq rfl (fun γ => qn rfl rfl (.v 3 rfl rfl (.v 10 rfl rfl .nil)) rfl rfl (beq_no' (decide_eq_false hk106v)) rfl) (aq rfl (fun γ => qn rfl rfl (.o (s := 3) rfl (by decide) (.v 3 rfl rfl .nil)) rfl rfl (beq_no' (decide_eq_false hk106v)) rfl) (aq rfl (fun γ => qn rfl rfl (.v 3 rfl rfl (.v 12 rfl rfl .nil)) rfl rfl (beq_no' (decide_eq_false hk106v)) rfl) (aq rfl (fun γ => qn rfl rfl (.v 3 rfl rfl (.v 11 rfl rfl (.v 13 rfl rfl .nil))) rfl rfl (beq_no' (decide_eq_false hk106v)) rfl) (aq rfl (fun γ => qp rfl rfl (.v 3 rfl rfl (.v 14 rfl rfl .nil)) (q_pick rfl rfl rfl rfl (bif_no (decide_eq_false hk106v) _ _)) rfl) zA))))))))))))))))
 exact zA
 intro g116v
 exact nrm_cut (s := false) () ⟨rfl, rfl, rfl, rfl, rfl, trivial⟩ (.sel 0 rfl (.sel 0 rfl (.sel 0 rfl (.sel' 0 rfl (RowV.mk hl4v) (.sel' 0 rfl (RowV.mk hl6v) (.sel 0 rfl (.nil _)))))))
 intro s104v y105v
 refine sim_condb rfl (fun h117v => ?_) (fun h118v => ?_)
 refine sr ?_
 refine vm rfl rfl ?_
 refine vn rfl rfl ?_
 refine vq (q_fa rfl rfl Tryz.underlying85 rfl rfl Tryz.sizeOf82 rfl) rfl ?_
 refine vq (q_load rfl rfl Tryz.isAgg82 (.obj 0 rfl rfl)) rfl ?_
 refine vm rfl rfl ?_
 refine simL_openV 3 rfl (fun rs127v hl128v => ?_)
 refine simL_ask (fun hi119v => ?_)
 refine simL_posV 3 rfl hl128v rfl (i := s15v.1.toNat) (by omega) dz90 (fun b120v b120vo r123v ha121v hV124v hlr125v hcell126v => ?_)
 obtain rfl := hV124v
 refine vq (q_idx rfl rfl rfl ha121v Tryz.underlying82 Tryz.sizeOf90 hi119v.1 hi119v.2) rfl ?_
 refine vq (q_fa rfl rfl Tryz.underlying90 rfl rfl Tryz.sizeOf9 rfl) rfl ?_
 refine vq (q_load rfl rfl Tryz.isAgg9 (hcell126v 3 rfl 1 _ rfl)) rfl ?_
 refine vq (q_build (v := .agg #[.int .i64 3, str ((x0_0.getD s15v.1.toNat dz90).2)]) rfl rfl (fun _ => by kernel_rfl)) rfl ?_
 refine simL_do (re_store 1 rfl rfl rfl Tryz.sizeOf45 rfl rfl (one_of (by rfl)) rfl rfl) rfl rfl ?_
 intro _
 refine simL_nil (nrm_then (sim_rtn ?_))
 refine rtn_then ?_
 exact rtn_fnC (vs := [.agg #[.int .i64 3, str ((x0_0.getD s15v.1.toNat dz90).2)]]) (a0_0, c0_0, a0_1, c0_1) rfl ⟨⟨b2v, rfl, load_agg 1 Tryz.isAgg45 Tryz.sizeOf45 rfl rfl⟩, trivial⟩ rfl (.sel 0 rfl (.sel' 2 rfl (RowV.mk hl128v) (.sel 2 rfl (.sel 2 rfl (.nil _)))))
 refine sim_skip ?_
 refine nrm_then (sim_seq ?_)
 refine sim_openV 3 rfl (fun rs129v hl130v => ?_)
 refine sim_openV 4 rfl (fun rs131v hl132v => ?_)
 refine sim_ask (fun hi133v => ?_)
 refine sim_posV 3 rfl hl130v rfl (i := s15v.1.toNat) (by omega) dz90 (fun b134v b134vo r137v ha135v hV138v hlr139v hcell140v => ?_)
 obtain rfl := hV138v
 refine sim_draw (Γ := Unit) () [[], [0], [0, 1], [0, 1, 2], [], [], [5], rL 7, rL 8, rL 9] [9] [0, 1, 2, 3, 4, 5, 6, 7, 8] (fun i => [[0], [0], [0], [0], [0], [0], [0], [0], [0], []].getD i []) (fun i => [[], [], [], [], [], [], [], [], [], rL 9].getD i []) (fun γ i => [.pointer (some ⟨b0, 0, none⟩), .pointer (some ⟨b0, 0, none⟩), .pointer (some ⟨b0, 0, none⟩), .slice a0_0 x0_0.length c0_0, .int .i64 s15v.1, .pointer (some ⟨b1v, 4, none⟩), str x1_4, .pointer (some ⟨b134v, b134vo + s15v.1.toNat * 2, none⟩), .pointer (some ⟨b134v, b134vo + s15v.1.toNat * 2 + 1, none⟩), undef].getD i undef) (fun j γ => [[obj b0 85 [.slice a0_0 x0_0.length c0_0, .slice a0_1 x0_1.length c0_1], obj b2v 45 [.int .i64 0, str ([] : List UInt8)], obj b1v 49 [.int .i64 x1_0, .int .i64 x1_1, .int .i64 x1_2, str x1_3, str x1_4, str x1_5], Row 90 2 a0_0 x0_0.length c0_0 rs129v.flatten, Row 91 4 a0_1 x0_1.length c0_1 rs131v.flatten, F], [obj b0 85 [.slice a0_0 ((x0_0.set s15v.1.toNat ((x0_0.getD s15v.1.toNat dz90).1, x1_4)).length) c0_0, .slice a0_1 x0_1.length c0_1], obj b2v 45 [.int .i64 0, str ([] : List UInt8)], obj b1v 49 [.int .i64 x1_0, .int .i64 x1_1, .int .i64 x1_2, str x1_3, str x1_4, str x1_5], RowV 90 2 (V90 tt) a0_0 (x0_0.set s15v.1.toNat ((x0_0.getD s15v.1.toNat dz90).1, x1_4)) c0_0, Row 91 4 a0_1 x0_1.length c0_1 rs131v.flatten, F]].getD j []) (fun γ => [(4, .pointer (some ⟨b2v, 0, none⟩))]) mixed (by decide) (by decide) (by decide) (by decide) (by decide) (by decide) (by decide) 120 rfl (by decide) (by decide) (by decide) (Ent.refl _) ?_ ?_ (fun _ => ⟨rfl, trivial⟩) ?_
 exact (aq rfl (fun γ => qm rfl (.o (s := 0) rfl (by decide) .nil) rfl) (aq rfl (fun γ => qp rfl rfl (.v 0 rfl rfl .nil) (q_nil rfl rfl) rfl) (aq rfl (fun γ => qp rfl rfl (.v 1 rfl rfl .nil) (q_fa rfl rfl Tryz.underlying85 rfl rfl Tryz.sizeOf82 rfl) rfl) (aq rfl (fun γ => qp rfl rfl (.v 2 rfl rfl .nil) (q_load rfl rfl Tryz.isAgg82 (.obj 0 rfl rfl)) rfl) (aq rfl (fun γ => qm rfl (.o (s := 5) rfl (by decide) .nil) rfl) (aq rfl (fun γ => qp rfl rfl (.o (s := 3) rfl (by decide) .nil) (q_fa rfl rfl Tryz.underlying49 rfl rfl Tryz.sizeOf9 rfl) rfl) (aq rfl (fun γ => qp rfl rfl (.v 5 rfl rfl .nil) (q_load rfl rfl Tryz.isAgg9 (.obj 2 rfl rfl)) rfl) (aq rfl (fun γ => qp rfl rfl (.v 3 rfl rfl (.v 4 rfl rfl .nil)) (q_idx rfl rfl rfl ha135v Tryz.underlying82 Tryz.sizeOf90 hi133v.1 hi133v.2) rfl) (aq rfl (fun γ => qp rfl rfl (.v 7 rfl rfl .nil) (q_fa rfl rfl Tryz.underlying90 rfl rfl Tryz.sizeOf9 rfl) rfl) zA)))))))))
 exact (ac (fun γ => eo (Z := Unit) (fun z => ()) rfl rfl (.v 6 rfl rfl (.v 8 rfl rfl .nil)) (re_storeV (V := (V90 tt)) ((x0_0.getD s15v.1.toNat dz90).1, x1_4) 1 dz90 3 rfl rfl rfl Tryz.sizeOf9 rfl rfl (one_of (by rfl)) rfl hl130v ha135v (by omega) rfl (fun r hr _ _ => by cases (show r = _ from hr); exact rfl)) (fun _ => ⟨rfl, rfl, rfl, rfl, rfl, rfl, rfl, rfl, rfl, trivial⟩) (fun _ => .inl rfl) (fun z => ent_eq ((rfl : _ = [obj b0 85 [.slice a0_0 x0_0.length c0_0, .slice a0_1 x0_1.length c0_1], obj b2v 45 [.int .i64 0, str ([] : List UInt8)], obj b1v 49 [.int .i64 x1_0, .int .i64 x1_1, .int .i64 x1_2, str x1_3, str x1_4, str x1_5], RowV 90 2 (V90 tt) a0_0 (x0_0.set s15v.1.toNat ((x0_0.getD s15v.1.toNat dz90).1, x1_4)) c0_0, Row 91 4 a0_1 x0_1.length c0_1 rs131v.flatten, F]).trans ((by simp only [List.length_set, copyB_length] : [obj b0 85 [.slice a0_0 x0_0.length c0_0, .slice a0_1 x0_1.length c0_1], obj b2v 45 [.int .i64 0, str ([] : List UInt8)], obj b1v 49 [.int .i64 x1_0, .int .i64 x1_1, .int .i64 x1_2, str x1_3, str x1_4, str x1_5], RowV 90 2 (V90 tt) a0_0 (x0_0.set s15v.1.toNat ((x0_0.getD s15v.1.toNat dz90).1, x1_4)) c0_0, Row 91 4 a0_1 x0_1.length c0_1 rs131v.flatten, F] = [obj b0 85 [.slice a0_0 ((x0_0.set s15v.1.toNat ((x0_0.getD s15v.1.toNat dz90).1, x1_4)).length) c0_0, .slice a0_1 x0_1.length c0_1], obj b2v 45 [.int .i64 0, str ([] : List UInt8)], obj b1v 49 [.int .i64 x1_0, .int .i64 x1_1, .int .i64 x1_2, str x1_3, str x1_4, str x1_5], RowV 90 2 (V90 tt) a0_0 (x0_0.set s15v.1.toNat ((x0_0.getD s15v.1.toNat dz90).1, x1_4)) c0_0, Row 91 4 a0_1 x0_1.length c0_1 rs131v.flatten, F]).trans rfl)))) zA)
 intro g141v
 refine nrm_then (sr ?_)
 refine vq (q_build (v := .agg #[.int .i64 1, str ([] : List UInt8)]) rfl rfl (fun _ => by kernel_rfl)) rfl ?_
 refine simL_do (re_store 1 rfl rfl rfl Tryz.sizeOf45 rfl rfl (one_of (by rfl)) rfl rfl) rfl rfl ?_
 intro _
 refine simL_nil (nrm_then (sim_rtn ?_))
 exact rtn_fnC (vs := [.agg #[.int .i64 1, str ([] : List UInt8)]]) (a0_0, c0_0, a0_1, c0_1) rfl ⟨⟨b2v, rfl, load_agg 1 Tryz.isAgg45 Tryz.sizeOf45 rfl rfl⟩, trivial⟩ rfl (.sel 0 rfl (.sel 2 rfl (.sel' 2 rfl (RowV.mk hl132v) (.sel 2 rfl (.nil _)))))

def synodref11_Store_Do.l0 (x0_1 : List (Ty91)) (x1_1 : Int) : Nat → Int → Option (Int)
  | 0, _ => none
  | k + 1, z12v => (if z12v < (x0_1.length : Int) then (if 0 ≤ z12v ∧ z12v < (x0_1.length : Int) then (some (decide ((x0_1.getD z12v.toNat dz91).1 < x1_1))) else none) else (some false)).bind fun s13v => (if s13v = true then (synodref11_Store_Do.l0 x0_1 x1_1 k (IntKind.i64.wrap (z12v + 1))) else (some z12v))
def synodref11_Store_Do.f (k : Nat) (x0_0 : List (Ty90)) (x0_1 : List (Ty91)) (x1_0 : Int) (x1_1 : Int) (x1_2 : Int) (x1_3 : List UInt8) (x1_4 : List UInt8) (x1_5 : List UInt8) : Option (Int × List UInt8 × Int × (List (Ty90)) × (List (Ty91))) := (synodref3_CheckCommand.f x1_0 x1_1 x1_2 x1_3 x1_4 x1_5).bind fun s3v => (if s3v = (0 : Int) then ((synodref11_Store_Do.l0 x0_1 x1_1 k 0).bind fun s8v => ((if s8v < (x0_1.length : Int) then (if 0 ≤ s8v ∧ s8v < (x0_1.length : Int) then (some (decide ((x0_1.getD s8v.toNat dz91).1 = x1_1))) else none) else (some false)).bind fun s32v => ((if s32v = true then (if 0 ≤ s8v ∧ s8v < (x0_1.length : Int) then (some (decide (x1_2 = (x0_1.getD s8v.toNat dz91).2.1))) else none) else (some false)).bind fun s49v => (if s49v = true then (if 0 ≤ s8v ∧ s8v < (x0_1.length : Int) then (some ((x0_1.getD s8v.toNat dz91).2.2.1, (x0_1.getD s8v.toNat dz91).2.2.2, s3v, x0_0, x0_1)) else none) else ((if s32v = true then (if 0 ≤ s8v ∧ s8v < (x0_1.length : Int) then (some (decide (x1_2 < (x0_1.getD s8v.toNat dz91).2.1))) else none) else (some false)).bind fun s78v => (if s78v = true then (some (4, ([] : List UInt8), s3v, x0_0, x0_1)) else (if ((!s32v) && (decide ((32 : Int) ≤ (x0_1.length : Int)))) = true then (some (5, ([] : List UInt8), s3v, x0_0, x0_1)) else ((synodref11_Store_does.f k x0_0 x0_1 x1_0 x1_1 x1_2 x1_3 x1_4 x1_5).bind fun s103v => ((if (!s32v) = true then (if 0 ≤ (0 : Int) ∧ (0 : Int) ≤ s8v ∧ s8v ≤ (s103v.2.2.2.length : Int) then (if (([] : List (Ty91)).length + (cut s103v.2.2.2 (0 : Int) s8v).length) * 40 ≤ 140737488355328 then (if ((([] : List (Ty91)) ++ (cut s103v.2.2.2 (0 : Int) s8v)).length + ([(x1_1, (0 : Int), (0 : Int), ([] : List UInt8))] : List (Ty91)).length) * 40 ≤ 140737488355328 then (if 0 ≤ s8v ∧ s8v ≤ (s103v.2.2.2.length : Int) ∧ (s103v.2.2.2.length : Int) ≤ (s103v.2.2.2.length : Int) then (if (((([] : List (Ty91)) ++ (cut s103v.2.2.2 (0 : Int) s8v)) ++ ([(x1_1, (0 : Int), (0 : Int), ([] : List UInt8))] : List (Ty91))).length + (cut s103v.2.2.2 s8v (s103v.2.2.2.length : Int)).length) * 40 ≤ 140737488355328 then (some (((([] : List (Ty91)) ++ (cut s103v.2.2.2 (0 : Int) s8v)) ++ ([(x1_1, (0 : Int), (0 : Int), ([] : List UInt8))] : List (Ty91))) ++ (cut s103v.2.2.2 s8v (s103v.2.2.2.length : Int)))) else none) else none) else none) else none) else none) else (some s103v.2.2.2)).bind fun s107v => (if 0 ≤ s8v ∧ s8v < (s107v.length : Int) then (some (s103v.1, s103v.2.1, s3v, s103v.2.2.1, s107v.set s8v.toNat (x1_1, x1_2, s103v.1, s103v.2.1))) else none)))))))))) else (some (0, ([] : List UInt8), s3v, x0_0, x0_1)))
theorem synodref11_Store_Do.calls (W : World) (F : HA) (k : Nat) (b0 : Nat) (a0_0 : Option Addr) (c0_0 : Nat) (x0_0 : List (Ty90)) (a0_1 : Option Addr) (c0_1 : Nat) (x0_1 : List (Ty91)) (x1_0 : Int) (x1_1 : Int) (x1_2 : Int) (x1_3 : List UInt8) (x1_4 : List UInt8) (x1_5 : List UInt8)  :
    Fn Tryz.prog W 21 [.pointer (some ⟨b0, 0, none⟩), .agg #[.int .i64 x1_0, .int .i64 x1_1, .int .i64 x1_2, str x1_3, str x1_4, str x1_5]] [obj b0 85 [.slice a0_0 x0_0.length c0_0, .slice a0_1 x0_1.length c0_1], RowV 90 2 (V90 tt) a0_0 x0_0 c0_0, RowV 91 4 (V91 tt) a0_1 x0_1 c0_1] F (synodref11_Store_Do.f k x0_0 x0_1 x1_0 x1_1 x1_2 x1_3 x1_4 x1_5) (fun (r : Int × List UInt8 × Int × (List (Ty90)) × (List (Ty91))) (y : Option Addr × Nat × Option Addr × Nat) => .tuple #[.agg #[.int .i64 r.1, str r.2.1], .int .i64 r.2.2.1]) (fun r y => [obj b0 85 [.slice y.1 r.2.2.2.1.length y.2.1, .slice y.2.2.1 r.2.2.2.2.length y.2.2.2], RowV 90 2 (V90 tt) y.1 r.2.2.2.1 y.2.1, RowV 91 4 (V91 tt) y.2.2.1 r.2.2.2.2 y.2.2.2]) := by
 unfold synodref11_Store_Do.f
 refine fn_intro 154 Tryz.func21 rfl Tryz.ntmps21 rfl ?_
 refine sr ?_
 refine simL_eff (re_box rfl rfl rfl) rfl rfl rfl ?_
 intro b1v
 refine simL_eff (re_alloc rfl Tryz.zeroValue45 rfl) rfl rfl rfl ?_
 intro b2v
 refine va rfl rfl (nx ?_)
 refine vq (q_loado 1 rfl rfl Tryz.isAgg49 Tryz.sizeOf49 rfl rfl) rfl ?_
 refine simL_bind (fun s3v hs4v => ?_)
 refine simL_eff (re_call (vs := [.agg #[.int .i64 x1_0, .int .i64 x1_1, .int .i64 x1_2, str x1_3, str x1_4, str x1_5]]) (cap := []) (A := []) (rst := [obj b2v 45 [.int .i64 0, str ([] : List UInt8)], obj b1v 49 [.int .i64 x1_0, .int .i64 x1_1, .int .i64 x1_2, str x1_3, str x1_4, str x1_5], obj b0 85 [.slice a0_0 x0_0.length c0_0, .slice a0_1 x0_1.length c0_1], RowV 90 2 (V90 tt) a0_0 x0_0 c0_0, RowV 91 4 (V91 tt) a0_1 x0_1 c0_1, F]) rfl rfl rfl rfl rfl rfl Tryz.call47 (.sel 0 rfl (.sel 0 rfl (.sel 0 rfl (.sel 0 rfl (.sel 0 rfl (.sel 0 rfl (.nil _))))))) (synodref3_CheckCommand.calls _ _ x1_0 x1_1 x1_2 x1_3 x1_4 x1_5 ) hs4v) rfl rfl rfl ?_
 intro y5v
 refine va rfl rfl (simL_nil (nrm_then (sim_seq (sr ?_))))
 refine vm rfl rfl ?_
 refine vq (q_neq rfl rfl rfl) rfl (simL_nil (nrm_then ?_))
 refine sim_condn rfl (fun h6v => ?_) (fun h7v => ?_)
 refine sim_skip ?_
 refine nrm_then (sr ?_)
 refine va rfl rfl (simL_nil (nrm_then ?_))
 refine sim_cut (S := Int) (Unit) (fun s y => [(0, .pointer (some ⟨b0, 0, none⟩)), (3, .pointer (some ⟨b1v, 0, none⟩)), (4, .pointer (some ⟨b2v, 0, none⟩)), (6, .int .i64 s3v), (7, .int .i64 s)]) (fun s y => [obj b2v 45 [.int .i64 0, str ([] : List UInt8)], obj b1v 49 [.int .i64 x1_0, .int .i64 x1_1, .int .i64 x1_2, str x1_3, str x1_4, str x1_5], obj b0 85 [.slice a0_0 x0_0.length c0_0, .slice a0_1 x0_1.length c0_1], RowV 90 2 (V90 tt) a0_0 x0_0 c0_0, RowV 91 4 (V91 tt) a0_1 x0_1 c0_1, F]) ?_ ?_
 refine sim_block ?_
 refine sim_loop (S := Int) (Unit) (fun k s => synodref11_Store_Do.l0 x0_1 x1_1 k s) (fun s y => [(0, .pointer (some ⟨b0, 0, none⟩)), (3, .pointer (some ⟨b1v, 0, none⟩)), (4, .pointer (some ⟨b2v, 0, none⟩)), (6, .int .i64 s3v), (7, .int .i64 s)]) (fun s y => [obj b2v 45 [.int .i64 0, str ([] : List UInt8)], obj b1v 49 [.int .i64 x1_0, .int .i64 x1_1, .int .i64 x1_2, str x1_3, str x1_4, str x1_5], obj b0 85 [.slice a0_0 x0_0.length c0_0, .slice a0_1 x0_1.length c0_1], RowV 90 2 (V90 tt) a0_0 x0_0 c0_0, RowV 91 4 (V91 tt) a0_1 x0_1 c0_1, F]) (fun _ => by rw [synodref11_Store_Do.l0]) ?_ k 0 () ⟨rfl, rfl, rfl, rfl, rfl, trivial⟩ (.sel 0 rfl (.sel 0 rfl (.sel 0 rfl (.sel 0 rfl (.sel 0 rfl (.sel 0 rfl (.nil _)))))))
 intro k s10v y11v
 refine sim_eq (by rw [synodref11_Store_Do.l0]) ?_
 refine sim_seq ?_
 refine sim_cut (S := Bool) (Unit) (fun s y => [(0, .pointer (some ⟨b0, 0, none⟩)), (3, .pointer (some ⟨b1v, 0, none⟩)), (4, .pointer (some ⟨b2v, 0, none⟩)), (6, .int .i64 s3v), (7, .int .i64 s10v), (36, .bool s)]) (fun s y => [obj b2v 45 [.int .i64 0, str ([] : List UInt8)], obj b1v 49 [.int .i64 x1_0, .int .i64 x1_1, .int .i64 x1_2, str x1_3, str x1_4, str x1_5], obj b0 85 [.slice a0_0 x0_0.length c0_0, .slice a0_1 x0_1.length c0_1], RowV 90 2 (V90 tt) a0_0 x0_0 c0_0, RowV 91 4 (V91 tt) a0_1 x0_1 c0_1, F]) ?_ ?_
 refine sim_openV 3 rfl (fun rs15v hl16v => ?_)
 refine sim_openV 4 rfl (fun rs17v hl18v => ?_)
 refine sim_if (fun hk19v => ?_) (fun hk19v => ?_)
 refine sim_ask (fun hi20v => ?_)
 refine sim_posV 4 rfl hl18v rfl (i := s10v.toNat) (by omega) dz91 (fun b21v b21vo r24v ha22v hV25v hlr26v hcell27v => ?_)
 obtain rfl := hV25v
 refine sim_draw (Γ := Unit) () [[], [], [1], [1, 2], [1, 2, 3], [1, 2, 3, 4], rL 6, rL 7, rL 8, rL 9, rL 10, rL 11, rL 8, rL 13, rL 14, rL 15, rL 8, [0, 1, 2, 3, 4, 5, 6, 7, 16], rL 18, rL 19] [] [0, 1, 2, 3, 4, 5, 6, 7, 8, 9, 10, 11, 12, 13, 14, 15, 16, 17, 18, 19] (fun i => [[0], [0], [0], [0], [0], [0], [0], [0], [0], [0], [0], [0], [0], [0], [0], [0], [0], [0], [0], [0]].getD i []) (fun i => [[], [], [], [], [], [], [], [], [], [], [], [], [], [], [], [], [], [], [], []].getD i []) (fun γ i => [.int .i64 s10v, .pointer (some ⟨b0, 0, none⟩), .pointer (some ⟨b0, 0, none⟩), .pointer (some ⟨b0, 1, none⟩), .slice a0_1 x0_1.length c0_1, .int .i64 (x0_1.length : Int), .bool (decide (s10v < (x0_1.length : Int))), .bool (decide (s10v < (x0_1.length : Int))), .pointer (some ⟨b0, 0, none⟩), .pointer (some ⟨b0, 0, none⟩), .pointer (some ⟨b0, 1, none⟩), .slice a0_1 x0_1.length c0_1, .int .i64 s10v, .pointer (some ⟨b21v, b21vo + s10v.toNat * 4, none⟩), .pointer (some ⟨b21v, b21vo + s10v.toNat * 4 + 0, none⟩), .int .i64 ((x0_1.getD s10v.toNat dz91).1), .pointer (some ⟨b1v, 1, none⟩), .int .i64 x1_1, .bool (decide ((x0_1.getD s10v.toNat dz91).1 < x1_1)), .bool (decide ((x0_1.getD s10v.toNat dz91).1 < x1_1))].getD i undef) (fun j γ => [[obj b2v 45 [.int .i64 0, str ([] : List UInt8)], obj b1v 49 [.int .i64 x1_0, .int .i64 x1_1, .int .i64 x1_2, str x1_3, str x1_4, str x1_5], obj b0 85 [.slice a0_0 x0_0.length c0_0, .slice a0_1 x0_1.length c0_1], Row 90 2 a0_0 x0_0.length c0_0 rs15v.flatten, Row 91 4 a0_1 x0_1.length c0_1 rs17v.flatten, F]].getD j []) (fun γ => [(0, .pointer (some ⟨b0, 0, none⟩)), (3, .pointer (some ⟨b1v, 0, none⟩)), (4, .pointer (some ⟨b2v, 0, none⟩)), (6, .int .i64 s3v), (7, .int .i64 s10v), (25, .pointer (some ⟨b0, 0, none⟩)), (26, .pointer (some ⟨b0, 0, none⟩)), (27, .pointer (some ⟨b0, 1, none⟩)), (28, .slice a0_1 x0_1.length c0_1), (29, .int .i64 s10v), (30, .pointer (some ⟨b21v, b21vo + s10v.toNat * 4, none⟩)), (31, .pointer (some ⟨b21v, b21vo + s10v.toNat * 4 + 0, none⟩)), (32, .int .i64 ((x0_1.getD s10v.toNat dz91).1)), (33, .pointer (some ⟨b1v, 1, none⟩)), (34, .int .i64 x1_1), (35, .bool (decide ((x0_1.getD s10v.toNat dz91).1 < x1_1))), (36, .bool (decide ((x0_1.getD s10v.toNat dz91).1 < x1_1)))]) mixed (by decide) (by decide) (by decide) (by decide) (by decide) (by decide) (by decide) 154 rfl (by decide) (by decide) (by decide) (Ent.refl _) ?_ ?_ (fun _ => ⟨rfl, rfl, rfl, rfl, rfl, rfl, rfl, rfl, rfl, rfl, rfl, rfl, rfl, rfl, rfl, rfl, rfl, trivial⟩) ?_
 exact (aq rfl (fun γ => qm rfl (.o (s := 7) rfl (by decide) .nil) rfl) (aq rfl (fun γ => qm rfl (.o (s := 0) rfl (by decide) .nil) rfl) (aq rfl (fun γ => qp rfl rfl (.v 1 rfl rfl .nil) (q_nil rfl rfl) rfl) (aq rfl (fun γ => qp rfl rfl (.v 2 rfl rfl .nil) (q_fa rfl rfl Tryz.underlying85 rfl rfl Tryz.sizeOf83 rfl) rfl) (aq rfl (fun γ => qp rfl rfl (.v 3 rfl rfl .nil) (q_load rfl rfl Tryz.isAgg83 (.obj 2 rfl rfl)) rfl) (aq rfl (fun γ => qp rfl rfl (.v 4 rfl rfl .nil) (q_len rfl rfl rfl Tryz.underlying83) rfl) (aq rfl (fun γ => qp rfl rfl (.v 0 rfl rfl (.v 5 rfl rfl .nil)) (q_lss rfl rfl rfl) rfl) (aq rfl (fun γ => qm rfl (.v 6 rfl rfl .nil) rfl) (aq rfl (fun γ => qy rfl rfl (.o (s := 0) rfl (by decide) (.v 7 rfl rfl .nil)) rfl rfl (beq_yes (decide_eq_true hk19v)) (q_move rfl rfl) rfl) (aq rfl (fun γ => qy rfl rfl (.v 7 rfl rfl (.v 8 rfl rfl .nil)) rfl rfl (beq_yes (decide_eq_true hk19v)) (q_nil rfl rfl) rfl) (aq rfl (fun γ => qy rfl rfl (.v 7 rfl rfl (.v 9 rfl rfl .nil)) rfl rfl (beq_yes (decide_eq_true hk19v)) (q_fa rfl rfl Tryz.underlying85 rfl rfl Tryz.sizeOf83 rfl) rfl) (aq rfl (fun γ => qy rfl rfl (.v 7 rfl rfl (.v 10 rfl rfl .nil)) rfl rfl (beq_yes (decide_eq_true hk19v)) (q_load rfl rfl Tryz.isAgg83 (.obj 2 rfl rfl)) rfl) (aq rfl (fun γ => qy rfl rfl (.o (s := 7) rfl (by decide) (.v 7 rfl rfl .nil)) rfl rfl (beq_yes (decide_eq_true hk19v)) (q_move rfl rfl) rfl) (aq rfl (fun γ => qy rfl rfl (.v 7 rfl rfl (.v 11 rfl rfl (.v 12 rfl rfl .nil))) rfl rfl (beq_yes (decide_eq_true hk19v)) (q_idx rfl rfl rfl ha22v Tryz.underlying83 Tryz.sizeOf91 hi20v.1 hi20v.2) rfl) (aq rfl (fun γ => qy rfl rfl (.v 7 rfl rfl (.v 13 rfl rfl .nil)) rfl rfl (beq_yes (decide_eq_true hk19v)) (q_fa rfl rfl Tryz.underlying91 rfl rfl Tryz.sizeOf3 rfl) rfl) (aq rfl (fun γ => qy rfl rfl (.v 7 rfl rfl (.v 14 rfl rfl .nil)) rfl rfl (beq_yes (decide_eq_true hk19v)) (q_load rfl rfl Tryz.isAgg3 (hcell27v 4 rfl 0 _ rfl)) rfl) (aq rfl (fun γ => qy rfl rfl (.o (s := 3) rfl (by decide) (.v 7 rfl rfl .nil)) rfl rfl (beq_yes (decide_eq_true hk19v)) (q_fa rfl rfl Tryz.underlying49 rfl rfl Tryz.sizeOf3 rfl) rfl) (aq rfl (fun γ => qy rfl rfl (.v 7 rfl rfl (.v 16 rfl rfl .nil)) rfl rfl (beq_yes (decide_eq_true hk19v)) (q_load rfl rfl Tryz.isAgg3 (.obj 1 rfl rfl)) rfl) (aq rfl (fun γ => qy rfl rfl (.v 7 rfl rfl (.v 15 rfl rfl (.v 17 rfl rfl .nil))) rfl rfl (beq_yes (decide_eq_true hk19v)) (q_lss rfl rfl rfl) rfl) (aq rfl (fun γ => qp rfl rfl (.v 7 rfl rfl (.v 18 rfl rfl .nil)) (q_pick rfl rfl rfl rfl (bif_yes (decide_eq_true hk19v) _ _)) rfl) zA))))))))))))))))))))
 exact zA
 intro g28v
 exact nrm_cut (s := decide ((x0_1.getD s10v.toNat dz91).1 < x1_1)) () ⟨rfl, rfl, rfl, rfl, rfl, rfl, trivial⟩ (.sel 0 rfl (.sel 0 rfl (.sel 0 rfl (.sel' 0 rfl (RowV.mk hl16v) (.sel' 0 rfl (RowV.mk hl18v) (.sel 0 rfl (.nil _)))))))
 refine sim_draw (Γ := Unit) () [[], [], [1], [1, 2], [1, 2, 3], [1, 2, 3, 4], rL 6, rL 7, rL 8, rL 9, rL 10, rL 11, rL 8, rL 13, rL 14, rL 15, rL 8, [0, 1, 2, 3, 4, 5, 6, 7, 16], rL 18, rL 19] [] [0, 1, 2, 3, 4, 5, 6, 7, 8, 9, 10, 11, 12, 13, 14, 15, 16, 17, 18, 19] (fun i => [[0], [0], [0], [0], [0], [0], [0], [0], [0], [0], [0], [0], [0], [0], [0], [0], [0], [0], [0], [0]].getD i []) (fun i => [[], [], [], [], [], [], [], [], [], [], [], [], [], [], [], [], [], [], [], []].getD i []) (fun γ i => [.int .i64 s10v, .pointer (some ⟨b0, 0, none⟩), .pointer (some ⟨b0, 0, none⟩), .pointer (some ⟨b0, 1, none⟩), .slice a0_1 x0_1.length c0_1, .int .i64 (x0_1.length : Int), .bool (decide (s10v < (x0_1.length : Int))), .bool (decide (s10v < (x0_1.length : Int))), undef, undef, undef, undef, undef, undef, undef, undef, undef, undef, undef, .bool false].getD i undef) (fun j γ => [[obj b2v 45 [.int .i64 0, str ([] : List UInt8)], obj b1v 49 [.int .i64 x1_0, .int .i64 x1_1, .int .i64 x1_2, str x1_3, str x1_4, str x1_5], obj b0 85 [.slice a0_0 x0_0.length c0_0, .slice a0_1 x0_1.length c0_1], Row 90 2 a0_0 x0_0.length c0_0 rs15v.flatten, Row 91 4 a0_1 x0_1.length c0_1 rs17v.flatten, F]].getD j []) (fun γ => [(0, .pointer (some ⟨b0, 0, none⟩)), (3, .pointer (some ⟨b1v, 0, none⟩)), (4, .pointer (some ⟨b2v, 0, none⟩)), (6, .int .i64 s3v), (7, .int .i64 s10v), (25, undef), (26, undef), (27, undef), (28, undef), (29, undef), (30, undef), (31, undef), (32, undef), (33, undef), (34, undef), (35, undef), (36, .bool false)]) mixed (by decide) (by decide) (by decide) (by decide) (by decide) (by decide) (by decide) 154 rfl (by decide) (by decide) (by decide) (Ent.refl _) ?_ ?_ (fun _ => ⟨rfl, rfl, rfl, rfl, rfl, rfl, rfl, rfl, rfl, rfl, rfl, rfl, rfl, rfl, rfl, rfl, rfl, trivial⟩) ?_
 exact (aq rfl (fun γ => qm rfl (.o (s := 7) rfl (by decide) .nil) rfl) (aq rfl (fun γ => qm rfl (.o (s := 0) rfl (by decide) .nil) rfl) (aq rfl (fun γ => qp rfl rfl (.v 1 rfl rfl .nil) (q_nil rfl rfl) rfl) (aq rfl (fun γ => qp rfl rfl (.v 2 rfl rfl .nil) (q_fa rfl rfl Tryz.underlying85 rfl rfl Tryz.sizeOf83 rfl) rfl) (aq rfl (fun γ => qp rfl rfl (.v 3 rfl rfl .nil) (q_load rfl rfl Tryz.isAgg83 (.obj 2 rfl rfl)) rfl) (aq rfl (fun γ => qp rfl rfl (.v 4 rfl rfl .nil) (q_len rfl rfl rfl Tryz.underlying83) rfl) (aq rfl (fun γ => qp rfl rfl (.v 0 rfl rfl (.v 5 rfl rfl .nil)) (q_lss rfl rfl rfl) rfl) (aq rfl (fun γ => qm rfl (.v 6 rfl rfl .nil) rfl) (aq rfl (fun γ => qn rfl rfl (.o (s := 0) rfl (by decide) (.v 7 rfl rfl .nil)) rfl rfl (beq_no' (decide_eq_false hk19v)) rfl) (aq rfl (fun γ => qn rfl rfl (.v 7 rfl rfl (.v 8 rfl rfl .nil)) rfl rfl (beq_no' (decide_eq_false hk19v)) rfl) (aq rfl (fun γ => qn rfl rfl (.v 7 rfl rfl (.v 9 rfl rfl .nil)) rfl rfl (beq_no' (decide_eq_false hk19v)) rfl) (aq rfl (fun γ => qn rfl rfl (.v 7 rfl rfl (.v 10 rfl rfl .nil)) rfl rfl (beq_no' (decide_eq_false hk19v)) rfl) (aq rfl (fun γ => qn rfl rfl (.o (s := 7) rfl (by decide) (.v 7 rfl rfl .nil)) rfl rfl (beq_no' (decide_eq_false hk19v)) rfl) (aq rfl (fun γ => qn rfl rfl (.v 7 rfl rfl (.v 11 rfl rfl (.v 12 rfl rfl .nil))) rfl rfl (beq_no' (decide_eq_false hk19v)) rfl) (aq rfl (fun γ => qn rfl rfl (.v 7 rfl rfl (.v 13 rfl rfl .nil)) rfl rfl (beq_no' (decide_eq_false hk19v)) rfl) (aq rfl (fun γ => qn rfl rfl (.v 7 rfl rfl (.v 14 rfl rfl .nil)) rfl rfl (beq_no' (decide_eq_false hk19v)) rfl) (aq rfl (fun γ => qn rfl rfl (.o (s := 3) rfl (by decide) (.v 7 rfl rfl .nil)) rfl rfl (beq_no' (decide_eq_false hk19v)) rfl) (aq rfl (fun γ => qn rfl rfl (.v 7 rfl rfl (.v 16 rfl rfl .nil)) rfl rfl (beq_no' (decide_eq_false hk19v)) rfl) (aq rfl (fun γ => qn rfl rfl (.v 7 rfl rfl (.v 15 rfl rfl (.v 17 rfl rfl .nil))) rfl rfl (beq_no' (decide_eq_false hk19v)) rfl) (aq rfl (fun γ => qp rfl rfl (.v 7 rfl rfl (.v 18 rfl rfl .nil)) (q_pick rfl rfl rfl rfl (bif_no (decide_eq_false hk19v) _ _)) rfl) zA))))))))))))))))))))
 exact zA
 intro g29v
 exact nrm_cut (s := false) () ⟨rfl, rfl, rfl, rfl, rfl, rfl, trivial⟩ (.sel 0 rfl (.sel 0 rfl (.sel 0 rfl (.sel' 0 rfl (RowV.mk hl16v) (.sel' 0 rfl (RowV.mk hl18v) (.sel 0 rfl (.nil _)))))))
 intro s13v y14v
 refine sim_condb rfl (fun h30v => ?_) (fun h31v => ?_)
 refine sim_skip ?_
 refine nrm_then ?_
 refine sim_block ?_
 refine sim_region ?_
 refine vm rfl rfl ?_
 refine vq (q_add rfl rfl rfl) rfl ?_
 refine va rfl rfl (simL_nil (nrm_block ?_))
 exact nrm_again (s := IntKind.i64.wrap (s10v + 1)) () ⟨rfl, rfl, rfl, rfl, rfl, trivial⟩ (.sel 0 rfl (.sel 0 rfl (.sel 0 rfl (.sel 0 rfl (.sel 0 rfl (.sel 0 rfl (.nil _)))))))
 refine sim_exi ?_
 refine exi_then ?_
 refine exi_loop ?_
 refine exi_here ?_
 exact nrm_cut (s := s10v) () ⟨rfl, rfl, rfl, rfl, rfl, trivial⟩ (.sel 0 rfl (.sel 0 rfl (.sel 0 rfl (.sel 0 rfl (.sel 0 rfl (.sel 0 rfl (.nil _)))))))
 intro s8v y9v
 refine sim_cut (S := Bool) (Unit) (fun s y => [(0, .pointer (some ⟨b0, 0, none⟩)), (3, .pointer (some ⟨b1v, 0, none⟩)), (4, .pointer (some ⟨b2v, 0, none⟩)), (6, .int .i64 s3v), (7, .int .i64 s8v), (8, .bool s)]) (fun s y => [obj b2v 45 [.int .i64 0, str ([] : List UInt8)], obj b1v 49 [.int .i64 x1_0, .int .i64 x1_1, .int .i64 x1_2, str x1_3, str x1_4, str x1_5], obj b0 85 [.slice a0_0 x0_0.length c0_0, .slice a0_1 x0_1.length c0_1], RowV 90 2 (V90 tt) a0_0 x0_0 c0_0, RowV 91 4 (V91 tt) a0_1 x0_1 c0_1, F]) ?_ ?_
 refine sim_openV 3 rfl (fun rs34v hl35v => ?_)
 refine sim_openV 4 rfl (fun rs36v hl37v => ?_)
 refine sim_if (fun hk38v => ?_) (fun hk38v => ?_)
 refine sim_ask (fun hi39v => ?_)
 refine sim_posV 4 rfl hl37v rfl (i := s8v.toNat) (by omega) dz91 (fun b40v b40vo r43v ha41v hV44v hlr45v hcell46v => ?_)
 obtain rfl := hV44v
 refine sim_draw (Γ := Unit) () [[], [], [1], [1, 2], [1, 2, 3], [1, 2, 3, 4], rL 6, rL 7, rL 8, rL 9, rL 10, rL 11, rL 8, rL 13, rL 14, rL 15, rL 8, [0, 1, 2, 3, 4, 5, 6, 7, 16], rL 18, rL 19, rL 20] [] [0, 1, 2, 3, 4, 5, 6, 7, 8, 9, 10, 11, 12, 13, 14, 15, 16, 17, 18, 19, 20] (fun i => [[0], [0], [0], [0], [0], [0], [0], [0], [0], [0], [0], [0], [0], [0], [0], [0], [0], [0], [0], [0], [0]].getD i []) (fun i => [[], [], [], [], [], [], [], [], [], [], [], [], [], [], [], [], [], [], [], [], []].getD i []) (fun γ i => [.int .i64 s8v, .pointer (some ⟨b0, 0, none⟩), .pointer (some ⟨b0, 0, none⟩), .pointer (some ⟨b0, 1, none⟩), .slice a0_1 x0_1.length c0_1, .int .i64 (x0_1.length : Int), .bool (decide (s8v < (x0_1.length : Int))), .bool (decide (s8v < (x0_1.length : Int))), .pointer (some ⟨b0, 0, none⟩), .pointer (some ⟨b0, 0, none⟩), .pointer (some ⟨b0, 1, none⟩), .slice a0_1 x0_1.length c0_1, .int .i64 s8v, .pointer (some ⟨b40v, b40vo + s8v.toNat * 4, none⟩), .pointer (some ⟨b40v, b40vo + s8v.toNat * 4 + 0, none⟩), .int .i64 ((x0_1.getD s8v.toNat dz91).1), .pointer (some ⟨b1v, 1, none⟩), .int .i64 x1_1, .bool (decide ((x0_1.getD s8v.toNat dz91).1 = x1_1)), .bool (decide ((x0_1.getD s8v.toNat dz91).1 = x1_1)), .bool (decide ((x0_1.getD s8v.toNat dz91).1 = x1_1))].getD i undef) (fun j γ => [[obj b2v 45 [.int .i64 0, str ([] : List UInt8)], obj b1v 49 [.int .i64 x1_0, .int .i64 x1_1, .int .i64 x1_2, str x1_3, str x1_4, str x1_5], obj b0 85 [.slice a0_0 x0_0.length c0_0, .slice a0_1 x0_1.length c0_1], Row 90 2 a0_0 x0_0.length c0_0 rs34v.flatten, Row 91 4 a0_1 x0_1.length c0_1 rs36v.flatten, F]].getD j []) (fun γ => [(0, .pointer (some ⟨b0, 0, none⟩)), (3, .pointer (some ⟨b1v, 0, none⟩)), (4, .pointer (some ⟨b2v, 0, none⟩)), (6, .int .i64 s3v), (7, .int .i64 s8v), (8, .bool (decide ((x0_1.getD s8v.toNat dz91).1 = x1_1)))]) mixed (by decide) (by decide) (by decide) (by decide) (by decide) (by decide) (by decide) 154 rfl (by decide) (by decide) (by decide) (Ent.refl _) ?_ ?_ (fun _ => ⟨rfl, rfl, rfl, rfl, rfl, rfl, trivial⟩) ?_
 exact (aq rfl (fun γ => qm rfl (.o (s := 7) rfl (by decide) .nil) rfl) (aq rfl (fun γ => qm rfl (.o (s := 0) rfl (by decide) .nil) rfl) (aq rfl (fun γ => qp rfl rfl (.v 1 rfl rfl .nil) (q_nil rfl rfl) rfl) (aq rfl (fun γ => qp rfl rfl (.v 2 rfl rfl .nil) (q_fa rfl rfl Tryz.underlying85 rfl rfl Tryz.sizeOf83 rfl) rfl) (aq rfl (fun γ => qp rfl rfl (.v 3 rfl rfl .nil) (q_load rfl rfl Tryz.isAgg83 (.obj 2 rfl rfl)) rfl) (aq rfl (fun γ => qp rfl rfl (.v 4 rfl rfl .nil) (q_len rfl rfl rfl Tryz.underlying83) rfl) (aq rfl (fun γ => qp rfl rfl (.v 0 rfl rfl (.v 5 rfl rfl .nil)) (q_lss rfl rfl rfl) rfl) (aq rfl (fun γ => qm rfl (.v 6 rfl rfl .nil) rfl) (aq rfl (fun γ => qy rfl rfl (.o (s := 0) rfl (by decide) (.v 7 rfl rfl .nil)) rfl rfl (beq_yes (decide_eq_true hk38v)) (q_move rfl rfl) rfl) (aq rfl (fun γ => qy rfl rfl (.v 7 rfl rfl (.v 8 rfl rfl .nil)) rfl rfl (beq_yes (decide_eq_true hk38v)) (q_nil rfl rfl) rfl) (aq rfl (fun γ => qy rfl rfl (.v 7 rfl rfl (.v 9 rfl rfl .nil)) rfl rfl (beq_yes (decide_eq_true hk38v)) (q_fa rfl rfl Tryz.underlying85 rfl rfl Tryz.sizeOf83 rfl) rfl) (aq rfl (fun γ => qy rfl rfl (.v 7 rfl rfl (.v 10 rfl rfl .nil)) rfl rfl (beq_yes (decide_eq_true hk38v)) (q_load rfl rfl Tryz.isAgg83 (.obj 2 rfl rfl)) rfl) (aq rfl (fun γ => qy rfl rfl (.o (s := 7) rfl (by decide) (.v 7 rfl rfl .nil)) rfl rfl (beq_yes (decide_eq_true hk38v)) (q_move rfl rfl) rfl) (aq rfl (fun γ => qy rfl rfl (.v 7 rfl rfl (.v 11 rfl rfl (.v 12 rfl rfl .nil))) rfl rfl (beq_yes (decide_eq_true hk38v)) (q_idx rfl rfl rfl ha41v Tryz.underlying83 Tryz.sizeOf91 hi39v.1 hi39v.2) rfl) (aq rfl (fun γ => qy rfl rfl (.v 7 rfl rfl (.v 13 rfl rfl .nil)) rfl rfl (beq_yes (decide_eq_true hk38v)) (q_fa rfl rfl Tryz.underlying91 rfl rfl Tryz.sizeOf3 rfl) rfl) (aq rfl (fun γ => qy rfl rfl (.v 7 rfl rfl (.v 14 rfl rfl .nil)) rfl rfl (beq_yes (decide_eq_true hk38v)) (q_load rfl rfl Tryz.isAgg3 (hcell46v 4 rfl 0 _ rfl)) rfl) (aq rfl (fun γ => qy rfl rfl (.o (s := 3) rfl (by decide) (.v 7 rfl rfl .nil)) rfl rfl (beq_yes (decide_eq_true hk38v)) (q_fa rfl rfl Tryz.underlying49 rfl rfl Tryz.sizeOf3 rfl) rfl) (aq rfl (fun γ => qy rfl rfl (.v 7 rfl rfl (.v 16 rfl rfl .nil)) rfl rfl (beq_yes (decide_eq_true hk38v)) (q_load rfl rfl Tryz.isAgg3 (.obj 1 rfl rfl)) rfl) (aq rfl (fun γ => qy rfl rfl (.v 7 rfl rfl (.v 15 rfl rfl (.v 17 rfl rfl .nil))) rfl rfl (beq_yes (decide_eq_true hk38v)) (q_eql rfl rfl rfl) rfl) (aq rfl (fun γ => qp rfl rfl (.v 7 rfl rfl (.v 18 rfl rfl .nil)) (q_pick rfl rfl rfl rfl (bif_yes (decide_eq_true hk38v) _ _)) rfl) (aq rfl (fun γ => qp rfl rfl (.v 19 rfl rfl .nil) (q_asg rfl rfl) rfl) zA)))))))))))))))))))))
 exact zA
 intro g47v
 exact nrm_cut (s := decide ((x0_1.getD s8v.toNat dz91).1 = x1_1)) () ⟨rfl, rfl, rfl, rfl, rfl, rfl, trivial⟩ (.sel 0 rfl (.sel 0 rfl (.sel 0 rfl (.sel' 0 rfl (RowV.mk hl35v) (.sel' 0 rfl (RowV.mk hl37v) (.sel 0 rfl (.nil _)))))))
 refine sim_draw (Γ := Unit) () [[], [], [1], [1, 2], [1, 2, 3], [1, 2, 3, 4], rL 6, rL 7, rL 8, rL 9, rL 10, rL 11, rL 8, rL 13, rL 14, rL 15, rL 8, [0, 1, 2, 3, 4, 5, 6, 7, 16], rL 18, rL 19, rL 20] [] [0, 1, 2, 3, 4, 5, 6, 7, 8, 9, 10, 11, 12, 13, 14, 15, 16, 17, 18, 19, 20] (fun i => [[0], [0], [0], [0], [0], [0], [0], [0], [0], [0], [0], [0], [0], [0], [0], [0], [0], [0], [0], [0], [0]].getD i []) (fun i => [[], [], [], [], [], [], [], [], [], [], [], [], [], [], [], [], [], [], [], [], []].getD i []) (fun γ i => [.int .i64 s8v, .pointer (some ⟨b0, 0, none⟩), .pointer (some ⟨b0, 0, none⟩), .pointer (some ⟨b0, 1, none⟩), .slice a0_1 x0_1.length c0_1, .int .i64 (x0_1.length : Int), .bool (decide (s8v < (x0_1.length : Int))), .bool (decide (s8v < (x0_1.length : Int))), undef, undef, undef, undef, undef, undef, undef, undef, undef, undef, undef, .bool false, .bool false].getD i undef) (fun j γ => [[obj b2v 45 [.int .i64 0, str ([] : List UInt8)], obj b1v 49 [.int .i64 x1_0, .int .i64 x1_1, .int .i64 x1_2, str x1_3, str x1_4, str x1_5], obj b0 85 [.slice a0_0 x0_0.length c0_0, .slice a0_1 x0_1.length c0_1], Row 90 2 a0_0 x0_0.length c0_0 rs34v.flatten, Row 91 4 a0_1 x0_1.length c0_1 rs36v.flatten, F]].getD j []) (fun γ => [(0, .pointer (some ⟨b0, 0, none⟩)), (3, .pointer (some ⟨b1v, 0, none⟩)), (4, .pointer (some ⟨b2v, 0, none⟩)), (6, .int .i64 s3v), (7, .int .i64 s8v), (8, .bool false)]) mixed (by decide) (by decide) (by decide) (by decide) (by decide) (by decide) (by decide) 154 rfl (by decide) (by decide) (by decide) (Ent.refl _) ?_ ?_ (fun _ => ⟨rfl, rfl, rfl, rfl, rfl, rfl, trivial⟩) ?_
 exact (aq rfl (fun γ => qm rfl (.o (s := 7) rfl (by decide) .nil) rfl) (aq rfl (fun γ => qm rfl (.o (s := 0) rfl (by decide) .nil) rfl) (aq rfl (fun γ => qp rfl rfl (.v 1 rfl rfl .nil) (q_nil rfl rfl) rfl) (aq rfl (fun γ => qp rfl rfl (.v 2 rfl rfl .nil) (q_fa rfl rfl Tryz.underlying85 rfl rfl Tryz.sizeOf83 rfl) rfl) (aq rfl (fun γ => qp rfl rfl (.v 3 rfl rfl .nil) (q_load rfl rfl Tryz.isAgg83 (.obj 2 rfl rfl)) rfl) (aq rfl (fun γ => qp rfl rfl (.v 4 rfl rfl .nil) (q_len rfl rfl rfl Tryz.underlying83) rfl) (aq rfl (fun γ => qp rfl rfl (.v 0 rfl rfl (.v 5 rfl rfl .nil)) (q_lss rfl rfl rfl) rfl) (aq rfl (fun γ => qm rfl (.v 6 rfl rfl .nil) rfl) (aq rfl (fun γ => qn rfl rfl (.o (s := 0) rfl (by decide) (.v 7 rfl rfl .nil)) rfl rfl (beq_no' (decide_eq_false hk38v)) rfl) (aq rfl (fun γ => qn rfl rfl (.v 7 rfl rfl (.v 8 rfl rfl .nil)) rfl rfl (beq_no' (decide_eq_false hk38v)) rfl) (aq rfl (fun γ => qn rfl rfl (.v 7 rfl rfl (.v 9 rfl rfl .nil)) rfl rfl (beq_no' (decide_eq_false hk38v)) rfl) (aq rfl (fun γ => qn rfl rfl (.v 7 rfl rfl (.v 10 rfl rfl .nil)) rfl rfl (beq_no' (decide_eq_false hk38v)) rfl) (aq rfl (fun γ => qn rfl rfl (.o (s := 7) rfl (by decide) (.v 7 rfl rfl .nil)) rfl rfl (beq_no' (decide_eq_false hk38v)) rfl) (aq rfl (fun γ => qn rfl rfl (.v 7 rfl rfl (.v 11 rfl rfl (.v 12 rfl rfl .nil))) rfl rfl (beq_no' (decide_eq_false hk38v)) rfl) (aq rfl (fun γ => qn rfl rfl (.v 7 rfl rfl (.v 13 rfl rfl .nil)) rfl rfl (beq_no' (decide_eq_false hk38v)) rfl) (aq rfl (fun γ => qn rfl rfl (.v 7 rfl rfl (.v 14 rfl rfl .nil)) rfl rfl (beq_no' (decide_eq_false hk38v)) rfl) (aq rfl (fun γ => qn rfl rfl (.o (s := 3) rfl (by decide) (.v 7 rfl rfl .nil)) rfl rfl (beq_no' (decide_eq_false hk38v)) rfl) (aq rfl (fun γ => qn rfl rfl (.v 7 rfl rfl (.v 16 rfl rfl .nil)) rfl rfl (beq_no' (decide_eq_false hk38v)) rfl) (aq rfl (fun γ => qn rfl rfl (.v 7 rfl rfl (.v 15 rfl rfl (.v 17 rfl rfl .nil))) rfl rfl (beq_no' (decide_eq_false hk38v)) rfl) (aq rfl (fun γ => qp rfl rfl (.v 7 rfl rfl (.v 18 rfl rfl .nil)) (q_pick rfl rfl rfl rfl (bif_no (decide_eq_false hk38v) _ _)) rfl) (aq rfl (fun γ => qp rfl rfl (.v 19 rfl rfl .nil) (q_asg rfl rfl) rfl) zA)))))))))))))))))))))
 exact zA
 intro g48v
 exact nrm_cut (s := false) () ⟨rfl, rfl, rfl, rfl, rfl, rfl, trivial⟩ (.sel 0 rfl (.sel 0 rfl (.sel 0 rfl (.sel' 0 rfl (RowV.mk hl35v) (.sel' 0 rfl (RowV.mk hl37v) (.sel 0 rfl (.nil _)))))))
 intro s32v y33v
 refine sim_seq ?_
 refine sim_cut (S := Bool) (Unit) (fun s y => [(0, .pointer (some ⟨b0, 0, none⟩)), (3, .pointer (some ⟨b1v, 0, none⟩)), (4, .pointer (some ⟨b2v, 0, none⟩)), (6, .int .i64 s3v), (7, .int .i64 s8v), (8, .bool s32v), (72, .bool s)]) (fun s y => [obj b2v 45 [.int .i64 0, str ([] : List UInt8)], obj b1v 49 [.int .i64 x1_0, .int .i64 x1_1, .int .i64 x1_2, str x1_3, str x1_4, str x1_5], obj b0 85 [.slice a0_0 x0_0.length c0_0, .slice a0_1 x0_1.length c0_1], RowV 90 2 (V90 tt) a0_0 x0_0 c0_0, RowV 91 4 (V91 tt) a0_1 x0_1 c0_1, F]) ?_ ?_
 refine sim_openV 3 rfl (fun rs51v hl52v => ?_)
 refine sim_openV 4 rfl (fun rs53v hl54v => ?_)
 refine sim_if (fun hk55v => ?_) (fun hk55v => ?_)
 refine sim_ask (fun hi56v => ?_)
 refine sim_posV 4 rfl hl54v rfl (i := s8v.toNat) (by omega) dz91 (fun b57v b57vo r60v ha58v hV61v hlr62v hcell63v => ?_)
 obtain rfl := hV61v
 refine sim_draw (Γ := Unit) () [[], [0], [0, 1], [0, 1, 2], [0, 1], [0, 1, 4], [0, 1, 4, 5], [0, 1, 4, 5, 6], [0, 1], [0, 1, 4, 5, 6, 7, 8], [0, 1, 4, 5, 6, 7, 8, 9], [0, 1, 4, 5, 6, 7, 8, 9, 10], rL 12, rL 13] [] [0, 1, 2, 3, 4, 5, 6, 7, 8, 9, 10, 11, 12, 13] (fun i => [[0], [0], [0], [0], [0], [0], [0], [0], [0], [0], [0], [0], [0], [0]].getD i []) (fun i => [[], [], [], [], [], [], [], [], [], [], [], [], [], []].getD i []) (fun γ i => [.bool s32v, .bool s32v, .pointer (some ⟨b1v, 2, none⟩), .int .i64 x1_2, .pointer (some ⟨b0, 0, none⟩), .pointer (some ⟨b0, 0, none⟩), .pointer (some ⟨b0, 1, none⟩), .slice a0_1 x0_1.length c0_1, .int .i64 s8v, .pointer (some ⟨b57v, b57vo + s8v.toNat * 4, none⟩), .pointer (some ⟨b57v, b57vo + s8v.toNat * 4 + 1, none⟩), .int .i64 ((x0_1.getD s8v.toNat dz91).2.1), .bool (decide (x1_2 = (x0_1.getD s8v.toNat dz91).2.1)), .bool (decide (x1_2 = (x0_1.getD s8v.toNat dz91).2.1))].getD i undef) (fun j γ => [[obj b2v 45 [.int .i64 0, str ([] : List UInt8)], obj b1v 49 [.int .i64 x1_0, .int .i64 x1_1, .int .i64 x1_2, str x1_3, str x1_4, str x1_5], obj b0 85 [.slice a0_0 x0_0.length c0_0, .slice a0_1 x0_1.length c0_1], Row 90 2 a0_0 x0_0.length c0_0 rs51v.flatten, Row 91 4 a0_1 x0_1.length c0_1 rs53v.flatten, F]].getD j []) (fun γ => [(0, .pointer (some ⟨b0, 0, none⟩)), (3, .pointer (some ⟨b1v, 0, none⟩)), (4, .pointer (some ⟨b2v, 0, none⟩)), (6, .int .i64 s3v), (7, .int .i64 s8v), (8, .bool s32v), (72, .bool (decide (x1_2 = (x0_1.getD s8v.toNat dz91).2.1)))]) mixed (by decide) (by decide) (by decide) (by decide) (by decide) (by decide) (by decide) 154 rfl (by decide) (by decide) (by decide) (Ent.refl _) ?_ ?_ (fun _ => ⟨rfl, rfl, rfl, rfl, rfl, rfl, rfl, trivial⟩) ?_
 exact (aq rfl (fun γ => qm rfl (.o (s := 8) rfl (by decide) .nil) rfl) (aq rfl (fun γ => qm rfl (.v 0 rfl rfl .nil) rfl) (aq rfl (fun γ => qy rfl rfl (.o (s := 3) rfl (by decide) (.v 1 rfl rfl .nil)) rfl rfl (beq_yes hk55v) (q_fa rfl rfl Tryz.underlying49 rfl rfl Tryz.sizeOf3 rfl) rfl) (aq rfl (fun γ => qy rfl rfl (.v 1 rfl rfl (.v 2 rfl rfl .nil)) rfl rfl (beq_yes hk55v) (q_load rfl rfl Tryz.isAgg3 (.obj 1 rfl rfl)) rfl) (aq rfl (fun γ => qy rfl rfl (.o (s := 0) rfl (by decide) (.v 1 rfl rfl .nil)) rfl rfl (beq_yes hk55v) (q_move rfl rfl) rfl) (aq rfl (fun γ => qy rfl rfl (.v 1 rfl rfl (.v 4 rfl rfl .nil)) rfl rfl (beq_yes hk55v) (q_nil rfl rfl) rfl) (aq rfl (fun γ => qy rfl rfl (.v 1 rfl rfl (.v 5 rfl rfl .nil)) rfl rfl (beq_yes hk55v) (q_fa rfl rfl Tryz.underlying85 rfl rfl Tryz.sizeOf83 rfl) rfl) (aq rfl (fun γ => qy rfl rfl (.v 1 rfl rfl (.v 6 rfl rfl .nil)) rfl rfl (beq_yes hk55v) (q_load rfl rfl Tryz.isAgg83 (.obj 2 rfl rfl)) rfl) (aq rfl (fun γ => qy rfl rfl (.o (s := 7) rfl (by decide) (.v 1 rfl rfl .nil)) rfl rfl (beq_yes hk55v) (q_move rfl rfl) rfl) (aq rfl (fun γ => qy rfl rfl (.v 1 rfl rfl (.v 7 rfl rfl (.v 8 rfl rfl .nil))) rfl rfl (beq_yes hk55v) (q_idx rfl rfl rfl ha58v Tryz.underlying83 Tryz.sizeOf91 hi56v.1 hi56v.2) rfl) (aq rfl (fun γ => qy rfl rfl (.v 1 rfl rfl (.v 9 rfl rfl .nil)) rfl rfl (beq_yes hk55v) (q_fa rfl rfl Tryz.underlying91 rfl rfl Tryz.sizeOf3 rfl) rfl) (aq rfl (fun γ => qy rfl rfl (.v 1 rfl rfl (.v 10 rfl rfl .nil)) rfl rfl (beq_yes hk55v) (q_load rfl rfl Tryz.isAgg3 (hcell63v 4 rfl 1 _ rfl)) rfl) (aq rfl (fun γ => qy rfl rfl (.v 1 rfl rfl (.v 3 rfl rfl (.v 11 rfl rfl .nil))) rfl rfl (beq_yes hk55v) (q_eql rfl rfl rfl) rfl) (aq rfl (fun γ => qp rfl rfl (.v 1 rfl rfl (.v 12 rfl rfl .nil)) (q_pick rfl rfl rfl rfl (bif_yes hk55v _ _)) rfl) zA))))))))))))))
 exact zA
 intro g64v
 exact nrm_cut (s := decide (x1_2 = (x0_1.getD s8v.toNat dz91).2.1)) () ⟨rfl, rfl, rfl, rfl, rfl, rfl, rfl, trivial⟩ (.sel 0 rfl (.sel 0 rfl (.sel 0 rfl (.sel' 0 rfl (RowV.mk hl52v) (.sel' 0 rfl (RowV.mk hl54v) (.sel 0 rfl (.nil _)))))))
 refine sim_draw (Γ := Unit) () [[], [0], [0, 1], [0, 1, 2], [0, 1], [0, 1, 4], [0, 1, 4, 5], [0, 1, 4, 5, 6], [0, 1], [0, 1, 4, 5, 6, 7, 8], [0, 1, 4, 5, 6, 7, 8, 9], [0, 1, 4, 5, 6, 7, 8, 9, 10], rL 12, rL 13] [] [0, 1, 2, 3, 4, 5, 6, 7, 8, 9, 10, 11, 12, 13] (fun i => [[0], [0], [0], [0], [0], [0], [0], [0], [0], [0], [0], [0], [0], [0]].getD i []) (fun i => [[], [], [], [], [], [], [], [], [], [], [], [], [], []].getD i []) (fun γ i => [.bool s32v, .bool s32v, undef, undef, undef, undef, undef, undef, undef, undef, undef, undef, undef, .bool false].getD i undef) (fun j γ => [[obj b2v 45 [.int .i64 0, str ([] : List UInt8)], obj b1v 49 [.int .i64 x1_0, .int .i64 x1_1, .int .i64 x1_2, str x1_3, str x1_4, str x1_5], obj b0 85 [.slice a0_0 x0_0.length c0_0, .slice a0_1 x0_1.length c0_1], Row 90 2 a0_0 x0_0.length c0_0 rs51v.flatten, Row 91 4 a0_1 x0_1.length c0_1 rs53v.flatten, F]].getD j []) (fun γ => [(0, .pointer (some ⟨b0, 0, none⟩)), (3, .pointer (some ⟨b1v, 0, none⟩)), (4, .pointer (some ⟨b2v, 0, none⟩)), (6, .int .i64 s3v), (7, .int .i64 s8v), (8, .bool s32v), (72, .bool false)]) mixed (by decide) (by decide) (by decide) (by decide) (by decide) (by decide) (by decide) 154 rfl (by decide) (by decide) (by decide) (Ent.refl _) ?_ ?_ (fun _ => ⟨rfl, rfl, rfl, rfl, rfl, rfl, rfl, trivial⟩) ?_
 exact (aq rfl (fun γ => qm rfl (.o (s := 8) rfl (by decide) .nil) rfl) (aq rfl (fun γ => qm rfl (.v 0 rfl rfl .nil) rfl) (aq rfl (fun γ => qn rfl rfl (.o (s := 3) rfl (by decide) (.v 1 rfl rfl .nil)) rfl rfl (beq_no' (eq_false_of_ne_true hk55v)) rfl) (aq rfl (fun γ => qn rfl rfl (.v 1 rfl rfl (.v 2 rfl rfl .nil)) rfl rfl (beq_no' (eq_false_of_ne_true hk55v)) rfl) (aq rfl (fun γ => qn rfl rfl (.o (s := 0) rfl (by decide) (.v 1 rfl rfl .nil)) rfl rfl (beq_no' (eq_false_of_ne_true hk55v)) rfl) (aq rfl (fun γ => qn rfl rfl (.v 1 rfl rfl (.v 4 rfl rfl .nil)) rfl rfl (beq_no' (eq_false_of_ne_true hk55v)) rfl) (aq rfl (fun γ => qn rfl rfl (.v 1 rfl rfl (.v 5 rfl rfl .nil)) rfl rfl (beq_no' (eq_false_of_ne_true hk55v)) rfl) (aq rfl (fun γ => qn rfl rfl (.v 1 rfl rfl (.v 6 rfl rfl .nil)) rfl rfl (beq_no' (eq_false_of_ne_true hk55v)) rfl) (aq rfl (fun γ => qn rfl rfl (.o (s := 7) rfl (by decide) (.v 1 rfl rfl .nil)) rfl rfl (beq_no' (eq_false_of_ne_true hk55v)) rfl) (aq rfl (fun γ => qn rfl rfl (.v 1 rfl rfl (.v 7 rfl rfl (.v 8 rfl rfl .nil))) rfl rfl (beq_no' (eq_false_of_ne_true hk55v)) rfl) (aq rfl (fun γ => qn rfl rfl (.v 1 rfl rfl (.v 9 rfl rfl .nil)) rfl rfl (beq_no' (eq_false_of_ne_true hk55v)) rfl) (aq rfl (fun γ => qn rfl rfl (.v 1 rfl rfl (.v 10 rfl rfl .nil)) rfl rfl (beq_no' (eq_false_of_ne_true hk55v)) rfl) (aq rfl (fun γ => qn rfl rfl (.v 1 rfl rfl (.v 3 rfl rfl (.v 11 rfl rfl .nil))) rfl rfl (beq_no' (eq_false_of_ne_true hk55v)) rfl) (aq rfl (fun γ => qp rfl rfl (.v 1 rfl rfl (.v 12 rfl rfl .nil)) (q_pick rfl rfl rfl rfl (bif_no (eq_false_of_ne_true hk55v) _ _)) rfl) zA))))))))))))))
 exact zA
 intro g65v
 exact nrm_cut (s := false) () ⟨rfl, rfl, rfl, rfl, rfl, rfl, rfl, trivial⟩ (.sel 0 rfl (.sel 0 rfl (.sel 0 rfl (.sel' 0 rfl (RowV.mk hl52v) (.sel' 0 rfl (RowV.mk hl54v) (.sel 0 rfl (.nil _)))))))
 intro s49v y50v
 refine sim_condb rfl (fun h66v => ?_) (fun h67v => ?_)
 refine sr ?_
 refine vm rfl rfl ?_
 refine vn rfl rfl ?_
 refine vq (q_fa rfl rfl Tryz.underlying85 rfl rfl Tryz.sizeOf83 rfl) rfl ?_
 refine vq (q_load rfl rfl Tryz.isAgg83 (.obj 2 rfl rfl)) rfl ?_
 refine vm rfl rfl ?_
 refine simL_openV 4 rfl (fun rs76v hl77v => ?_)
 refine simL_ask (fun hi68v => ?_)
 refine simL_posV 4 rfl hl77v rfl (i := s8v.toNat) (by omega) dz91 (fun b69v b69vo r72v ha70v hV73v hlr74v hcell75v => ?_)
 obtain rfl := hV73v
 refine vq (q_idx rfl rfl rfl ha70v Tryz.underlying83 Tryz.sizeOf91 hi68v.1 hi68v.2) rfl ?_
 refine vq (q_fa rfl rfl Tryz.underlying91 rfl rfl Tryz.sizeOf45 rfl) rfl ?_
 refine vq (q_loads (vs := [.int .i64 ((x0_1.getD s8v.toNat dz91).2.2.1), str ((x0_1.getD s8v.toNat dz91).2.2.2)]) rfl rfl Tryz.isAgg45 Tryz.sizeOf45 rfl (fun j v hj => cellAt_off (hcell75v 4 rfl (2 + j) v (get_drop 2 hj)))) rfl ?_
 refine vm rfl rfl ?_
 refine simL_do (re_store 0 rfl rfl rfl Tryz.sizeOf45 rfl rfl (one_of (by rfl)) rfl rfl) rfl rfl ?_
 intro _
 refine va rfl rfl (simL_nil (nrm_then (sim_rtn ?_)))
 refine rtn_then ?_
 exact rtn_fnC (vs := [.agg #[.int .i64 ((x0_1.getD s8v.toNat dz91).2.2.1), str ((x0_1.getD s8v.toNat dz91).2.2.2)], .int .i64 s3v]) (a0_0, c0_0, a0_1, c0_1) rfl ⟨⟨b2v, rfl, load_agg 0 Tryz.isAgg45 Tryz.sizeOf45 rfl rfl⟩, rfl, trivial⟩ rfl (.sel 2 rfl (.sel 2 rfl (.sel' 2 rfl (RowV.mk hl77v) (.sel 2 rfl (.nil _)))))
 refine sim_skip ?_
 refine nrm_then (sim_seq ?_)
 refine sim_cut (S := Bool) (Unit) (fun s y => [(0, .pointer (some ⟨b0, 0, none⟩)), (3, .pointer (some ⟨b1v, 0, none⟩)), (4, .pointer (some ⟨b2v, 0, none⟩)), (6, .int .i64 s3v), (7, .int .i64 s8v), (8, .bool s32v), (95, .bool s)]) (fun s y => [obj b2v 45 [.int .i64 0, str ([] : List UInt8)], obj b1v 49 [.int .i64 x1_0, .int .i64 x1_1, .int .i64 x1_2, str x1_3, str x1_4, str x1_5], obj b0 85 [.slice a0_0 x0_0.length c0_0, .slice a0_1 x0_1.length c0_1], RowV 90 2 (V90 tt) a0_0 x0_0 c0_0, RowV 91 4 (V91 tt) a0_1 x0_1 c0_1, F]) ?_ ?_
 refine sim_openV 3 rfl (fun rs80v hl81v => ?_)
 refine sim_openV 4 rfl (fun rs82v hl83v => ?_)
 refine sim_if (fun hk84v => ?_) (fun hk84v => ?_)
 refine sim_ask (fun hi85v => ?_)
 refine sim_posV 4 rfl hl83v rfl (i := s8v.toNat) (by omega) dz91 (fun b86v b86vo r89v ha87v hV90v hlr91v hcell92v => ?_)
 obtain rfl := hV90v
 refine sim_draw (Γ := Unit) () [[], [0], [0, 1], [0, 1, 2], [0, 1], [0, 1, 4], [0, 1, 4, 5], [0, 1, 4, 5, 6], [0, 1], [0, 1, 4, 5, 6, 7, 8], [0, 1, 4, 5, 6, 7, 8, 9], [0, 1, 4, 5, 6, 7, 8, 9, 10], rL 12, rL 13] [] [0, 1, 2, 3, 4, 5, 6, 7, 8, 9, 10, 11, 12, 13] (fun i => [[0], [0], [0], [0], [0], [0], [0], [0], [0], [0], [0], [0], [0], [0]].getD i []) (fun i => [[], [], [], [], [], [], [], [], [], [], [], [], [], []].getD i []) (fun γ i => [.bool s32v, .bool s32v, .pointer (some ⟨b1v, 2, none⟩), .int .i64 x1_2, .pointer (some ⟨b0, 0, none⟩), .pointer (some ⟨b0, 0, none⟩), .pointer (some ⟨b0, 1, none⟩), .slice a0_1 x0_1.length c0_1, .int .i64 s8v, .pointer (some ⟨b86v, b86vo + s8v.toNat * 4, none⟩), .pointer (some ⟨b86v, b86vo + s8v.toNat * 4 + 1, none⟩), .int .i64 ((x0_1.getD s8v.toNat dz91).2.1), .bool (decide (x1_2 < (x0_1.getD s8v.toNat dz91).2.1)), .bool (decide (x1_2 < (x0_1.getD s8v.toNat dz91).2.1))].getD i undef) (fun j γ => [[obj b2v 45 [.int .i64 0, str ([] : List UInt8)], obj b1v 49 [.int .i64 x1_0, .int .i64 x1_1, .int .i64 x1_2, str x1_3, str x1_4, str x1_5], obj b0 85 [.slice a0_0 x0_0.length c0_0, .slice a0_1 x0_1.length c0_1], Row 90 2 a0_0 x0_0.length c0_0 rs80v.flatten, Row 91 4 a0_1 x0_1.length c0_1 rs82v.flatten, F]].getD j []) (fun γ => [(0, .pointer (some ⟨b0, 0, none⟩)), (3, .pointer (some ⟨b1v, 0, none⟩)), (4, .pointer (some ⟨b2v, 0, none⟩)), (6, .int .i64 s3v), (7, .int .i64 s8v), (8, .bool s32v), (95, .bool (decide (x1_2 < (x0_1.getD s8v.toNat dz91).2.1)))]) mixed (by decide) (by decide) (by decide) (by decide) (by decide) (by decide) (by decide) 154 rfl (by decide) (by decide) (by decide) (Ent.refl _) ?_ ?_ (fun _ => ⟨rfl, rfl, rfl, rfl, rfl, rfl, rfl, trivial⟩) ?_
 exact (aq rfl (fun γ => qm rfl (.o (s := 8) rfl (by decide) .nil) rfl) (aq rfl (fun γ => qm rfl (.v 0 rfl rfl .nil) rfl) (aq rfl (fun γ => qy rfl rfl (.o (s := 3) rfl (by decide) (.v 1 rfl rfl .nil)) rfl rfl (beq_yes hk84v) (q_fa rfl rfl Tryz.underlying49 rfl rfl Tryz.sizeOf3 rfl) rfl) (aq rfl (fun γ => qy rfl rfl (.v 1 rfl rfl (.v 2 rfl rfl .nil)) rfl rfl (beq_yes hk84v) (q_load rfl rfl Tryz.isAgg3 (.obj 1 rfl rfl)) rfl) (aq rfl (fun γ => qy rfl rfl (.o (s := 0) rfl (by decide) (.v 1 rfl rfl .nil)) rfl rfl (beq_yes hk84v) (q_move rfl rfl) rfl) (aq rfl (fun γ => qy rfl rfl (.v 1 rfl rfl (.v 4 rfl rfl .nil)) rfl rfl (beq_yes hk84v) (q_nil rfl rfl) rfl) (aq rfl (fun γ => qy rfl rfl (.v 1 rfl rfl (.v 5 rfl rfl .nil)) rfl rfl (beq_yes hk84v) (q_fa rfl rfl Tryz.underlying85 rfl rfl Tryz.sizeOf83 rfl) rfl) (aq rfl (fun γ => qy rfl rfl (.v 1 rfl rfl (.v 6 rfl rfl .nil)) rfl rfl (beq_yes hk84v) (q_load rfl rfl Tryz.isAgg83 (.obj 2 rfl rfl)) rfl) (aq rfl (fun γ => qy rfl rfl (.o (s := 7) rfl (by decide) (.v 1 rfl rfl .nil)) rfl rfl (beq_yes hk84v) (q_move rfl rfl) rfl) (aq rfl (fun γ => qy rfl rfl (.v 1 rfl rfl (.v 7 rfl rfl (.v 8 rfl rfl .nil))) rfl rfl (beq_yes hk84v) (q_idx rfl rfl rfl ha87v Tryz.underlying83 Tryz.sizeOf91 hi85v.1 hi85v.2) rfl) (aq rfl (fun γ => qy rfl rfl (.v 1 rfl rfl (.v 9 rfl rfl .nil)) rfl rfl (beq_yes hk84v) (q_fa rfl rfl Tryz.underlying91 rfl rfl Tryz.sizeOf3 rfl) rfl) (aq rfl (fun γ => qy rfl rfl (.v 1 rfl rfl (.v 10 rfl rfl .nil)) rfl rfl (beq_yes hk84v) (q_load rfl rfl Tryz.isAgg3 (hcell92v 4 rfl 1 _ rfl)) rfl) (aq rfl (fun γ => qy rfl rfl (.v 1 rfl rfl (.v 3 rfl rfl (.v 11 rfl rfl .nil))) rfl rfl (beq_yes hk84v) (q_lss rfl rfl rfl) rfl) (aq rfl (fun γ => qp rfl rfl (.v 1 rfl rfl (.v 12 rfl rfl .nil)) (q_pick rfl rfl rfl rfl (bif_yes hk84v _ _)) rfl) zA))))))))))))))
 exact zA
 intro g93v
 exact nrm_cut (s := decide (x1_2 < (x0_1.getD s8v.toNat dz91).2.1)) () ⟨rfl, rfl, rfl, rfl, rfl, rfl, rfl, trivial⟩ (.sel 0 rfl (.sel 0 rfl (.sel 0 rfl (.sel' 0 rfl (RowV.mk hl81v) (.sel' 0 rfl (RowV.mk hl83v) (.sel 0 rfl (.nil _)))))))
 refine sim_draw (Γ := Unit) () [[], [0], [0, 1], [0, 1, 2], [0, 1], [0, 1, 4], [0, 1, 4, 5], [0, 1, 4, 5, 6], [0, 1], [0, 1, 4, 5, 6, 7, 8], [0, 1, 4, 5, 6, 7, 8, 9], [0, 1, 4, 5, 6, 7, 8, 9, 10], rL 12, rL 13] [] [0, 1, 2, 3, 4, 5, 6, 7, 8, 9, 10, 11, 12, 13] (fun i => [[0], [0], [0], [0], [0], [0], [0], [0], [0], [0], [0], [0], [0], [0]].getD i []) (fun i => [[], [], [], [], [], [], [], [], [], [], [], [], [], []].getD i []) (fun γ i => [.bool s32v, .bool s32v, undef, undef, undef, undef, undef, undef, undef, undef, undef, undef, undef, .bool false].getD i undef) (fun j γ => [[obj b2v 45 [.int .i64 0, str ([] : List UInt8)], obj b1v 49 [.int .i64 x1_0, .int .i64 x1_1, .int .i64 x1_2, str x1_3, str x1_4, str x1_5], obj b0 85 [.slice a0_0 x0_0.length c0_0, .slice a0_1 x0_1.length c0_1], Row 90 2 a0_0 x0_0.length c0_0 rs80v.flatten, Row 91 4 a0_1 x0_1.length c0_1 rs82v.flatten, F]].getD j []) (fun γ => [(0, .pointer (some ⟨b0, 0, none⟩)), (3, .pointer (some ⟨b1v, 0, none⟩)), (4, .pointer (some ⟨b2v, 0, none⟩)), (6, .int .i64 s3v), (7, .int .i64 s8v), (8, .bool s32v), (95, .bool false)]) mixed (by decide) (by decide) (by decide) (by decide) (by decide) (by decide) (by decide) 154 rfl (by decide) (by decide) (by decide) (Ent.refl _) ?_ ?_ (fun _ => ⟨rfl, rfl, rfl, rfl, rfl, rfl, rfl, trivial⟩) ?_
 exact (aq rfl (fun γ => qm rfl (.o (s := 8) rfl (by decide) .nil) rfl) (aq rfl (fun γ => qm rfl (.v 0 rfl rfl .nil) rfl) (aq rfl (fun γ => qn rfl rfl (.o (s := 3) rfl (by decide) (.v 1 rfl rfl .nil)) rfl rfl (beq_no' (eq_false_of_ne_true hk84v)) rfl) (aq rfl (fun γ => qn rfl rfl (.v 1 rfl rfl (.v 2 rfl rfl .nil)) rfl rfl (beq_no' (eq_false_of_ne_true hk84v)) rfl) (aq rfl (fun γ => qn rfl rfl (.o (s := 0) rfl (by decide) (.v 1 rfl rfl .nil)) rfl rfl (beq_no' (eq_false_of_ne_true hk84v)) rfl) (aq rfl (fun γ => qn rfl rfl (.v 1 rfl rfl (.v 4 rfl rfl .nil)) rfl rfl (beq_no' (eq_false_of_ne_true hk84v)) rfl) (aq rfl (fun γ => qn rfl rfl (.v 1 rfl rfl (.v 5 rfl rfl .nil)) rfl rfl (beq_no' (eq_false_of_ne_true hk84v)) rfl) (aq rfl (fun γ => qn rfl rfl (.v 1 rfl rfl (.v 6 rfl rfl .nil)) rfl rfl (beq_no' (eq_false_of_ne_true hk84v)) rfl) (aq rfl (fun γ => qn rfl rfl (.o (s := 7) rfl (by decide) (.v 1 rfl rfl .nil)) rfl rfl (beq_no' (eq_false_of_ne_true hk84v)) rfl) (aq rfl (fun γ => qn rfl rfl (.v 1 rfl rfl (.v 7 rfl rfl (.v 8 rfl rfl .nil))) rfl rfl (beq_no' (eq_false_of_ne_true hk84v)) rfl) (aq rfl (fun γ => qn rfl rfl (.v 1 rfl rfl (.v 9 rfl rfl .nil)) rfl rfl (beq_no' (eq_false_of_ne_true hk84v)) rfl) (aq rfl (fun γ => qn rfl rfl (.v 1 rfl rfl (.v 10 rfl rfl .nil)) rfl rfl (beq_no' (eq_false_of_ne_true hk84v)) rfl) (aq rfl (fun γ => qn rfl rfl (.v 1 rfl rfl (.v 3 rfl rfl (.v 11 rfl rfl .nil))) rfl rfl (beq_no' (eq_false_of_ne_true hk84v)) rfl) (aq rfl (fun γ => qp rfl rfl (.v 1 rfl rfl (.v 12 rfl rfl .nil)) (q_pick rfl rfl rfl rfl (bif_no (eq_false_of_ne_true hk84v) _ _)) rfl) zA))))))))))))))
 exact zA
 intro g94v
 exact nrm_cut (s := false) () ⟨rfl, rfl, rfl, rfl, rfl, rfl, rfl, trivial⟩ (.sel 0 rfl (.sel 0 rfl (.sel 0 rfl (.sel' 0 rfl (RowV.mk hl81v) (.sel' 0 rfl (RowV.mk hl83v) (.sel 0 rfl (.nil _)))))))
 intro s78v y79v
 refine sim_condb rfl (fun h95v => ?_) (fun h96v => ?_)
 refine sr ?_
 refine vq (q_build (v := .agg #[.int .i64 4, str ([] : List UInt8)]) rfl rfl (fun _ => by kernel_rfl)) rfl ?_
 refine vm rfl rfl ?_
 refine simL_do (re_store 0 rfl rfl rfl Tryz.sizeOf45 rfl rfl (one_of (by rfl)) rfl rfl) rfl rfl ?_
 intro _
 refine va rfl rfl (simL_nil (nrm_then (sim_rtn ?_)))
 refine rtn_then ?_
 exact rtn_fnC (vs := [.agg #[.int .i64 4, str ([] : List UInt8)], .int .i64 s3v]) (a0_0, c0_0, a0_1, c0_1) rfl ⟨⟨b2v, rfl, load_agg 0 Tryz.isAgg45 Tryz.sizeOf45 rfl rfl⟩, rfl, trivial⟩ rfl (.sel 2 rfl (.sel 2 rfl (.sel 2 rfl (.sel 2 rfl (.nil _)))))
 refine sim_skip ?_
 refine nrm_then (sim_seq (sr ?_))
 refine vm rfl rfl ?_
 refine vq (q_not rfl rfl) rfl ?_
 refine vm rfl rfl ?_
 refine simL_valc (b := !s32v) (fun hb174v => RQ.sub (E' := [(0, .pointer (some ⟨b0, 0, none⟩))]) ⟨rfl, trivial⟩ (q_move rfl rfl)) rfl rfl rfl rfl rfl ?_
 refine simL_valc (b := !s32v) (fun hb173v => RQ.sub (E' := [(101, .pointer (some ⟨b0, 0, none⟩))]) ⟨lk_cv rfl hb173v, trivial⟩ (q_nil rfl rfl)) rfl rfl rfl rfl rfl ?_
 refine simL_valc (b := !s32v) (fun hb172v => RQ.sub (E' := [(102, .pointer (some ⟨b0, 0, none⟩))]) ⟨lk_cv rfl hb172v, trivial⟩ (q_fa rfl rfl Tryz.underlying85 rfl rfl Tryz.sizeOf83 rfl)) rfl rfl rfl rfl rfl ?_
 refine simL_valc (b := !s32v) (fun hb171v => RQ.sub (E' := [(103, .pointer (some ⟨b0, 1, none⟩))]) ⟨lk_cv rfl hb171v, trivial⟩ (q_load rfl rfl Tryz.isAgg83 (.obj 2 rfl rfl))) rfl rfl rfl rfl rfl ?_
 refine simL_valc (b := !s32v) (fun hb170v => RQ.sub (E' := [(104, .slice a0_1 x0_1.length c0_1)]) ⟨lk_cv rfl hb170v, trivial⟩ (q_len rfl rfl rfl Tryz.underlying83)) rfl rfl rfl rfl rfl ?_
 refine simL_valc (b := !s32v) (fun hb169v => RQ.sub (E' := [(105, .int .i64 (x0_1.length : Int))]) ⟨lk_cv rfl hb169v, trivial⟩ (q_geq rfl rfl rfl)) rfl rfl rfl rfl rfl ?_
 refine vq (q_and rfl rfl rfl) rfl (simL_nil (nrm_then ?_))
 refine sim_condb rfl (fun h97v => ?_) (fun h98v => ?_)
 refine sr ?_
 refine vq (q_build (v := .agg #[.int .i64 5, str ([] : List UInt8)]) rfl rfl (fun _ => by kernel_rfl)) rfl ?_
 refine vm rfl rfl ?_
 refine simL_do (re_store 0 rfl rfl rfl Tryz.sizeOf45 rfl rfl (one_of (by rfl)) rfl rfl) rfl rfl ?_
 intro _
 refine va rfl rfl (simL_nil (nrm_then (sim_rtn ?_)))
 refine rtn_then ?_
 exact rtn_fnC (vs := [.agg #[.int .i64 5, str ([] : List UInt8)], .int .i64 s3v]) (a0_0, c0_0, a0_1, c0_1) rfl ⟨⟨b2v, rfl, load_agg 0 Tryz.isAgg45 Tryz.sizeOf45 rfl rfl⟩, rfl, trivial⟩ rfl (.sel 2 rfl (.sel 2 rfl (.sel 2 rfl (.sel 2 rfl (.nil _)))))
 refine sim_skip ?_
 refine nrm_then (sr ?_)
 refine vm rfl rfl ?_
 refine vq (q_loado 1 rfl rfl Tryz.isAgg49 Tryz.sizeOf49 rfl rfl) rfl ?_
 refine simL_openV 3 rfl (fun rs99v hl100v => ?_)
 refine simL_openV 4 rfl (fun rs101v hl102v => ?_)
 refine simL_bind (fun s103v hs104v => ?_)
 refine simL_eff (re_call (vs := [.pointer (some ⟨b0, 0, none⟩), .agg #[.int .i64 x1_0, .int .i64 x1_1, .int .i64 x1_2, str x1_3, str x1_4, str x1_5]]) (cap := []) (A := [obj b0 85 [.slice a0_0 x0_0.length c0_0, .slice a0_1 x0_1.length c0_1], RowV 90 2 (V90 tt) a0_0 x0_0 c0_0, RowV 91 4 (V91 tt) a0_1 x0_1 c0_1]) (rst := [obj b2v 45 [.int .i64 0, str ([] : List UInt8)], obj b1v 49 [.int .i64 x1_0, .int .i64 x1_1, .int .i64 x1_2, str x1_3, str x1_4, str x1_5], F]) rfl rfl rfl rfl rfl rfl Tryz.call48 (.sel 2 rfl (.sel' 2 rfl (RowV.mk hl100v) (.sel' 2 rfl (RowV.mk hl102v) (.sel 0 rfl (.sel 0 rfl (.sel 0 rfl (.nil _))))))) (synodref11_Store_does.calls _ _ k b0 a0_0 c0_0 x0_0 a0_1 c0_1 x0_1 x1_0 x1_1 x1_2 x1_3 x1_4 x1_5 ) hs104v) rfl rfl rfl ?_
 intro y105v
 refine simL_eff (re_alloc rfl Tryz.zeroValue45 rfl) rfl rfl rfl ?_
 intro b106v
 refine simL_do (re_store 0 rfl rfl rfl Tryz.sizeOf45 rfl rfl (one_of (by rfl)) rfl rfl) rfl rfl ?_
 intro _
 refine simL_nil (nrm_then ?_)
 refine sim_cut (S := (List (Ty91))) (Option Addr × Nat) (fun s y => [(0, .pointer (some ⟨b0, 0, none⟩)), (3, .pointer (some ⟨b1v, 0, none⟩)), (4, .pointer (some ⟨b2v, 0, none⟩)), (6, .int .i64 s3v), (7, .int .i64 s8v), (9, .pointer (some ⟨b106v, 0, none⟩))]) (fun s y => [obj b106v 45 [.int .i64 s103v.1, str s103v.2.1], obj b0 85 [.slice y105v.1 s103v.2.2.1.length y105v.2.1, .slice y.1 s.length y.2], obj b2v 45 [.int .i64 0, str ([] : List UInt8)], obj b1v 49 [.int .i64 x1_0, .int .i64 x1_1, .int .i64 x1_2, str x1_3, str x1_4, str x1_5], RowV 90 2 (V90 tt) y105v.1 s103v.2.2.1 y105v.2.1, RowV 91 4 (V91 tt) y.1 s y.2, F]) ?_ ?_
 refine sr ?_
 refine vm rfl rfl ?_
 refine vq (q_not rfl rfl) rfl (simL_nil (nrm_then ?_))
 refine sim_condb rfl (fun h109v => ?_) (fun h110v => ?_)
 refine sr ?_
 refine simL_eff (re_lit0V (α := Int × Int × Int × List UInt8) (V := (V91 tt)) rfl Tryz.underlying83 elt91) rfl rfl rfl ?_
 intro b111v
 refine vm rfl rfl ?_
 refine vn rfl rfl ?_
 refine vq (q_fa rfl rfl Tryz.underlying85 rfl rfl Tryz.sizeOf83 rfl) rfl ?_
 refine vq (q_load rfl rfl Tryz.isAgg83 (.obj 2 rfl rfl)) rfl ?_
 refine vm rfl rfl ?_
 refine simL_openV 4 rfl (fun rs113v hl114v => ?_)
 refine simL_lend 4 rfl (fun hq115v hq116v hq117v hq118v => ?_)
 refine simL_ask (fun hb112v => ?_)
 obtain ⟨a119v, c120v, hS121v, hr122v, hc123v, hm124v⟩ := slice_preV (lo := (0 : Int)) (hi := s8v) (Rd.asV hl114v hq115v) hq116v hb112v
 refine vq (q_sub_roV (l := s103v.2.2.2) (lo' := (0 : Int)) (hi' := s8v) rfl rfl rfl rfl Tryz.underlying83 Tryz.sizeOf91 (.inr ⟨_, rfl⟩) (.inl ⟨rfl, rfl⟩) hb112v hq116v hS121v) rfl ?_
 refine simL_openV 0 rfl (fun rs129v hl130v => ?_)
 refine simL_ask (fun hb128v => ?_)
 refine simL_eff (re_appendV 0 rfl rfl rfl Tryz.underlying83 elt91 rfl hl130v (hr122v.rds 3 rfl) hb128v) rfl rfl rfl ?_
 intro y127v
 refine va rfl rfl (nx ?_)
 refine vm rfl rfl ?_
 refine vq (q_fa rfl rfl Tryz.underlying49 rfl rfl Tryz.sizeOf3 rfl) rfl ?_
 refine vq (q_load rfl rfl Tryz.isAgg3 (.obj 6 rfl rfl)) rfl ?_
 refine vq (q_build (v := .agg #[.int .i64 x1_1, .int .i64 0, .int .i64 0, str ([] : List UInt8)]) rfl rfl (fun _ => by kernel_rfl)) rfl ?_
 have hlb132v : ListV 4 (V91 tt) ([(x1_1, (0 : Int), (0 : Int), ([] : List UInt8))] : List (Ty91)) [[.int .i64 x1_1, .int .i64 0, .int .i64 0, str ([] : List UInt8)]] := ⟨⟨rfl, one_of (by rfl), rfl⟩, trivial⟩
 refine simL_eff (re_litV (V := (V91 tt)) (xs := ([(x1_1, (0 : Int), (0 : Int), ([] : List UInt8))] : List (Ty91))) [[.int .i64 x1_1, .int .i64 0, .int .i64 0, str ([] : List UInt8)]] rfl rfl Tryz.underlying83 elt91 rfl (by kernel_rfl) rfl hlb132v rfl rfl) rfl rfl rfl ?_
 intro b132v
 refine simL_openV 1 rfl (fun rs137v hl138v => ?_)
 refine simL_ask (fun hb136v => ?_)
 refine simL_eff (re_appendV 1 rfl rfl rfl Tryz.underlying83 elt91 rfl hl138v (RdsV.row hlb132v 0 rfl) hb136v) rfl rfl rfl ?_
 intro y135v
 refine va rfl rfl (ny ?_)
 refine vm rfl rfl ?_
 refine vm rfl rfl ?_
 refine vm rfl rfl ?_
 refine vn rfl rfl ?_
 refine vq (q_fa rfl rfl Tryz.underlying85 rfl rfl Tryz.sizeOf83 rfl) rfl ?_
 refine vq (q_load rfl rfl Tryz.isAgg83 (.obj 3 rfl rfl)) rfl ?_
 refine vm rfl rfl ?_
 refine simL_lend 5 rfl (fun hq140v hq141v hq142v hq143v => ?_)
 refine simL_ask (fun hb139v => ?_)
 obtain ⟨a144v, c145v, hS146v, hr147v, hc148v, hm149v⟩ := slice_preV (lo := s8v) (hi := (s103v.2.2.2.length : Int)) (Rd.asV hl114v hq140v) hq141v hb139v
 refine vq (q_sub_roV (l := s103v.2.2.2) (lo' := s8v) (hi' := (s103v.2.2.2.length : Int)) rfl rfl rfl rfl Tryz.underlying83 Tryz.sizeOf91 (.inl ⟨rfl, rfl⟩) (.inr ⟨_, rfl⟩) hb139v hq141v hS146v) rfl ?_
 refine simL_openV 1 rfl (fun rs154v hl155v => ?_)
 refine simL_ask (fun hb153v => ?_)
 refine simL_eff (re_appendV 1 rfl rfl rfl Tryz.underlying83 elt91 rfl hl155v (hr147v.rds 4 rfl) hb153v) rfl rfl rfl ?_
 intro y152v
 refine vn rfl rfl ?_
 refine vq (q_fa rfl rfl Tryz.underlying85 rfl rfl Tryz.sizeOf83 rfl) rfl ?_
 refine simL_do (re_store 3 rfl rfl rfl Tryz.sizeOf83 rfl rfl (one_of (by rfl)) rfl rfl) rfl rfl ?_
 intro _
 refine simL_nil ?_
 exact nrm_cut (s := ((([] : List (Ty91)) ++ (cut s103v.2.2.2 (0 : Int) s8v)) ++ ([(x1_1, (0 : Int), (0 : Int), ([] : List UInt8))] : List (Ty91))) ++ (cut s103v.2.2.2 s8v (s103v.2.2.2.length : Int))) (y152v.1, y152v.2) ⟨rfl, rfl, rfl, rfl, rfl, rfl, trivial⟩ (.sel 2 rfl (.sel 2 rfl (.sel 4 rfl (.sel 4 rfl (.sel 2 rfl (.sel 1 rfl (.sel 2 rfl (.nil _))))))))
 refine sim_skip ?_
 exact nrm_cut (s := s103v.2.2.2) (y105v.2.2.1, y105v.2.2.2) ⟨rfl, rfl, rfl, rfl, rfl, rfl, trivial⟩ (.sel 0 rfl (.sel 0 rfl (.sel 2 rfl (.sel 2 rfl (.sel 0 rfl (.sel 0 rfl (.sel 0 rfl (.nil _))))))))
 intro s107v y108v
 refine sim_seq ?_
 refine sim_openV 4 rfl (fun rs156v hl157v => ?_)
 refine sim_openV 5 rfl (fun rs158v hl159v => ?_)
 refine sim_ask (fun hi160v => ?_)
 refine sim_posV 5 rfl hl159v rfl (i := s8v.toNat) (by omega) dz91 (fun b161v b161vo r164v ha162v hV165v hlr166v hcell167v => ?_)
 obtain rfl := hV165v
 refine sim_draw (Γ := Unit) () [[], [0], [0, 1], [0, 1, 2], [], [], [5], [], [7], [], [5, 6, 7, 8, 9], rL 11, rL 12] [12] [0, 1, 2, 3, 4, 5, 6, 7, 8, 9, 10, 11] (fun i => [[0], [0], [0], [0], [0], [0], [0], [0], [0], [0], [0], [0], []].getD i []) (fun i => [[], [], [], [], [], [], [], [], [], [], [], [], rL 12].getD i []) (fun γ i => [.pointer (some ⟨b0, 0, none⟩), .pointer (some ⟨b0, 0, none⟩), .pointer (some ⟨b0, 1, none⟩), .slice y108v.1 s107v.length y108v.2, .int .i64 s8v, .pointer (some ⟨b1v, 1, none⟩), .int .i64 x1_1, .pointer (some ⟨b1v, 2, none⟩), .int .i64 x1_2, .agg #[.int .i64 s103v.1, str s103v.2.1], .agg #[.int .i64 x1_1, .int .i64 x1_2, .int .i64 s103v.1, str s103v.2.1], .pointer (some ⟨b161v, b161vo + s8v.toNat * 4, none⟩), undef].getD i undef) (fun j γ => [[obj b106v 45 [.int .i64 s103v.1, str s103v.2.1], obj b0 85 [.slice y105v.1 s103v.2.2.1.length y105v.2.1, .slice y108v.1 s107v.length y108v.2], obj b2v 45 [.int .i64 0, str ([] : List UInt8)], obj b1v 49 [.int .i64 x1_0, .int .i64 x1_1, .int .i64 x1_2, str x1_3, str x1_4, str x1_5], Row 90 2 y105v.1 s103v.2.2.1.length y105v.2.1 rs156v.flatten, Row 91 4 y108v.1 s107v.length y108v.2 rs158v.flatten, F], [obj b106v 45 [.int .i64 s103v.1, str s103v.2.1], obj b0 85 [.slice y105v.1 s103v.2.2.1.length y105v.2.1, .slice y108v.1 ((s107v.set s8v.toNat (x1_1, x1_2, s103v.1, s103v.2.1)).length) y108v.2], obj b2v 45 [.int .i64 0, str ([] : List UInt8)], obj b1v 49 [.int .i64 x1_0, .int .i64 x1_1, .int .i64 x1_2, str x1_3, str x1_4, str x1_5], Row 90 2 y105v.1 s103v.2.2.1.length y105v.2.1 rs156v.flatten, RowV 91 4 (V91 tt) y108v.1 (s107v.set s8v.toNat (x1_1, x1_2, s103v.1, s103v.2.1)) y108v.2, F]].getD j []) (fun γ => [(4, .pointer (some ⟨b2v, 0, none⟩)), (6, .int .i64 s3v), (9, .pointer (some ⟨b106v, 0, none⟩))]) mixed (by decide) (by decide) (by decide) (by decide) (by decide) (by decide) (by decide) 154 rfl (by decide) (by decide) (by decide) (Ent.refl _) ?_ ?_ (fun _ => ⟨rfl, rfl, rfl, trivial⟩) ?_
 exact (aq rfl (fun γ => qm rfl (.o (s := 0) rfl (by decide) .nil) rfl) (aq rfl (fun γ => qp rfl rfl (.v 0 rfl rfl .nil) (q_nil rfl rfl) rfl) (aq rfl (fun γ => qp rfl rfl (.v 1 rfl rfl .nil) (q_fa rfl rfl Tryz.underlying85 rfl rfl Tryz.sizeOf83 rfl) rfl) (aq rfl (fun γ => qp rfl rfl (.v 2 rfl rfl .nil) (q_load rfl rfl Tryz.isAgg83 (.obj 1 rfl rfl)) rfl) (aq rfl (fun γ => qm rfl (.o (s := 7) rfl (by decide) .nil) rfl) (aq rfl (fun γ => qp rfl rfl (.o (s := 3) rfl (by decide) .nil) (q_fa rfl rfl Tryz.underlying49 rfl rfl Tryz.sizeOf3 rfl) rfl) (aq rfl (fun γ => qp rfl rfl (.v 5 rfl rfl .nil) (q_load rfl rfl Tryz.isAgg3 (.obj 3 rfl rfl)) rfl) (aq rfl (fun γ => qp rfl rfl (.o (s := 3) rfl (by decide) .nil) (q_fa rfl rfl Tryz.underlying49 rfl rfl Tryz.sizeOf3 rfl) rfl) (aq rfl (fun γ => qp rfl rfl (.v 7 rfl rfl .nil) (q_load rfl rfl Tryz.isAgg3 (.obj 3 rfl rfl)) rfl) (aq rfl (fun γ => qp rfl rfl (.o (s := 9) rfl (by decide) .nil) (q_loado 0 rfl rfl Tryz.isAgg45 Tryz.sizeOf45 rfl rfl) rfl) (aq rfl (fun γ => qp rfl rfl (.v 6 rfl rfl (.v 8 rfl rfl (.v 9 rfl rfl .nil))) (q_build (v := .agg #[.int .i64 x1_1, .int .i64 x1_2, .int .i64 s103v.1, str s103v.2.1]) rfl rfl (fun _ => by kernel_rfl)) rfl) (aq rfl (fun γ => qp rfl rfl (.v 3 rfl rfl (.v 4 rfl rfl .nil)) (q_idx rfl rfl rfl ha162v Tryz.underlying83 Tryz.sizeOf91 hi160v.1 hi160v.2) rfl) zA))))))))))))
 exact (ac (fun γ => eo (Z := Unit) (fun z => ()) rfl rfl (.v 10 rfl rfl (.v 11 rfl rfl .nil)) (re_storeV (V := (V91 tt)) (x1_1, x1_2, s103v.1, s103v.2.1) 0 dz91 5 rfl rfl rfl Tryz.sizeOf91 rfl rfl (one_of (by rfl)) rfl hl159v ha162v (by omega) rfl (fun r hr _ _ => by cases (show r = _ from hr); exact rfl)) (fun _ => ⟨rfl, rfl, rfl, rfl, rfl, rfl, rfl, rfl, rfl, rfl, rfl, rfl, trivial⟩) (fun _ => .inl rfl) (fun z => ent_eq ((rfl : _ = [obj b106v 45 [.int .i64 s103v.1, str s103v.2.1], obj b0 85 [.slice y105v.1 s103v.2.2.1.length y105v.2.1, .slice y108v.1 s107v.length y108v.2], obj b2v 45 [.int .i64 0, str ([] : List UInt8)], obj b1v 49 [.int .i64 x1_0, .int .i64 x1_1, .int .i64 x1_2, str x1_3, str x1_4, str x1_5], Row 90 2 y105v.1 s103v.2.2.1.length y105v.2.1 rs156v.flatten, RowV 91 4 (V91 tt) y108v.1 (s107v.set s8v.toNat (x1_1, x1_2, s103v.1, s103v.2.1)) y108v.2, F]).trans ((by simp only [List.length_set, copyB_length] : [obj b106v 45 [.int .i64 s103v.1, str s103v.2.1], obj b0 85 [.slice y105v.1 s103v.2.2.1.length y105v.2.1, .slice y108v.1 s107v.length y108v.2], obj b2v 45 [.int .i64 0, str ([] : List UInt8)], obj b1v 49 [.int .i64 x1_0, .int .i64 x1_1, .int .i64 x1_2, str x1_3, str x1_4, str x1_5], Row 90 2 y105v.1 s103v.2.2.1.length y105v.2.1 rs156v.flatten, RowV 91 4 (V91 tt) y108v.1 (s107v.set s8v.toNat (x1_1, x1_2, s103v.1, s103v.2.1)) y108v.2, F] = [obj b106v 45 [.int .i64 s103v.1, str s103v.2.1], obj b0 85 [.slice y105v.1 s103v.2.2.1.length y105v.2.1, .slice y108v.1 ((s107v.set s8v.toNat (x1_1, x1_2, s103v.1, s103v.2.1)).length) y108v.2], obj b2v 45 [.int .i64 0, str ([] : List UInt8)], obj b1v 49 [.int .i64 x1_0, .int .i64 x1_1, .int .i64 x1_2, str x1_3, str x1_4, str x1_5], Row 90 2 y105v.1 s103v.2.2.1.length y105v.2.1 rs156v.flatten, RowV 91 4 (V91 tt) y108v.1 (s107v.set s8v.toNat (x1_1, x1_2, s103v.1, s103v.2.1)) y108v.2, F]).trans rfl)))) zA)
 intro g168v
 refine nrm_then (sr ?_)
 refine vq (q_loado 0 rfl rfl Tryz.isAgg45 Tryz.sizeOf45 rfl rfl) rfl ?_
 refine vm rfl rfl ?_
 refine simL_do (re_store 2 rfl rfl rfl Tryz.sizeOf45 rfl rfl (one_of (by rfl)) rfl rfl) rfl rfl ?_
 intro _
 refine va rfl rfl (simL_nil (nrm_then (sim_rtn ?_)))
 exact rtn_fnC (vs := [.agg #[.int .i64 s103v.1, str s103v.2.1], .int .i64 s3v]) (y105v.1, y105v.2.1, y108v.1, y108v.2) rfl ⟨⟨b2v, rfl, load_agg 2 Tryz.isAgg45 Tryz.sizeOf45 rfl rfl⟩, rfl, trivial⟩ rfl (.sel 1 rfl (.sel' 3 rfl (RowV.mk hl157v) (.sel 3 rfl (.sel 3 rfl (.nil _)))))
 refine sr ?_
 refine vq (q_build (v := .agg #[.int .i64 0, str ([] : List UInt8)]) rfl rfl (fun _ => by kernel_rfl)) rfl ?_
 refine vm rfl rfl ?_
 refine simL_do (re_store 0 rfl rfl rfl Tryz.sizeOf45 rfl rfl (one_of (by rfl)) rfl rfl) rfl rfl ?_
 intro _
 refine va rfl rfl (simL_nil (nrm_then (sim_rtn ?_)))
 refine rtn_then ?_
 exact rtn_fnC (vs := [.agg #[.int .i64 0, str ([] : List UInt8)], .int .i64 s3v]) (a0_0, c0_0, a0_1, c0_1) rfl ⟨⟨b2v, rfl, load_agg 0 Tryz.isAgg45 Tryz.sizeOf45 rfl rfl⟩, rfl, trivial⟩ rfl (.sel 2 rfl (.sel 2 rfl (.sel 2 rfl (.sel 2 rfl (.nil _)))))
end Go.Proofs.YtdaedoklkmdhcaaGreat

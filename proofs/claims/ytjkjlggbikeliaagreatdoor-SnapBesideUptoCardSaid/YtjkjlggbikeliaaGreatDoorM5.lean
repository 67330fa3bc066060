/- Texts that lead to the law SnapBeside: G, Pl1, PlWire, PlWire2, PlGen, PlRd, PlWt, PlCd, PlCd2. Conditions: as each says. -/
import Derived.Test.YtjkjlggbikeliaaGreatDoorM4
import Derived.Laws.BitsLemmas
import Derived.SizedLaws
namespace Go.Proofs.YtjkjlggbikeliaaGreatDoor
open Go.RowKit
set_option linter.unusedVariables false
set_option linter.unusedSimpArgs false
set_option maxRecDepth 20000
set_option maxHeartbeats 20000000
def disk_Disk_Files.l0 (x0_0 : List ((List UInt8) × (List UInt8 × Int))) (s3v : List (List UInt8)) : Nat → List (Ty71) → Int → Option ((List (Ty71)))
  | 0, _, _ => none
  | k + 1, z8v, z9v => if z9v < (s3v.length : Int) then (if 0 ≤ z9v ∧ z9v < (s3v.length : Int) then (if (mget x0_0 (s3v.getD z9v.toNat ([] : List UInt8))).isSome = true then ((disk_fresh.f (((mget x0_0 (s3v.getD z9v.toNat ([] : List UInt8))).getD (([] : List UInt8), (0 : Int))).1)).bind fun s30v => (if (z8v.length + ([((s3v.getD z9v.toNat ([] : List UInt8)), s30v, ((mget x0_0 (s3v.getD z9v.toNat ([] : List UInt8))).getD (([] : List UInt8), (0 : Int))).2)] : List (Ty71)).length) * 48 ≤ 140737488355328 then (disk_Disk_Files.l0 x0_0 s3v k (z8v ++ ([((s3v.getD z9v.toNat ([] : List UInt8)), s30v, ((mget x0_0 (s3v.getD z9v.toNat ([] : List UInt8))).getD (([] : List UInt8), (0 : Int))).2)] : List (Ty71))) (IntKind.i64.wrap (z9v + 1))) else none)) else (none)) else none) else (some z8v)
def disk_Disk_Files.f (k : Nat) (x0_0 : List ((List UInt8) × (List UInt8 × Int))) (x0_1 : List UInt8) (x0_2 : Int) (x0_3 : Bool) : Option ((List (Ty71))) := ((disk_Disk_List.f x0_0 x0_1 x0_2 x0_3).bind fun s3v => (disk_Disk_Files.l0 x0_0 s3v k ([] : List (Ty71)) 0)).bind fun s1v => (some s1v)
theorem disk_Disk_Files.calls (W : World) (F : HA) (k : Nat) (b0 : Nat) (m0_0 : Nat) (q0_0 : Kps) (x0_0 : List ((List UInt8) × (List UInt8 × Int))) (x0_1 : List UInt8) (x0_2 : Int) (x0_3 : Bool)  :
    Fn Tryz.prog W 32 [.pointer (some ⟨b0, 0, none⟩)] [obj b0 76 [.map (some m0_0), str x0_1, .int .i64 x0_2, .bool x0_3], mapF (mapO m0_0 enc9 encP q0_0) FA89 q0_0 x0_0] F (disk_Disk_Files.f k x0_0 x0_1 x0_2 x0_3) (fun (r : (List (Ty71))) (y : Option Addr × Nat × HA) => .slice y.1 r.length y.2.1) (fun r y => [RowV 71 3 (V71w (y.2.2)) y.1 r y.2.1, y.2.2, obj b0 76 [.map (some m0_0), str x0_1, .int .i64 x0_2, .bool x0_3], mapF (mapO m0_0 enc9 encP q0_0) FA89 q0_0 x0_0]) := by
 unfold disk_Disk_Files.f
 refine fn_intro 36 Tryz.func32 rfl Tryz.ntmps32 rfl ?_
 refine sr ?_
 refine va rfl rfl (nx ?_)
 refine va rfl rfl (simL_nil (nrm_then ?_))
 refine sim_cut (S := (List (Ty71))) (HA × Option Addr × Nat) (fun s y => [(3, .slice y.2.1 s.length y.2.2)]) (fun s y => [obj b0 76 [.map (some m0_0), str x0_1, .int .i64 x0_2, .bool x0_3], RowV 71 3 (V71w (y.1)) y.2.1 s y.2.2, mapF (mapO m0_0 enc9 encP q0_0) FA89 q0_0 x0_0, y.1, F]) ?_ ?_
 refine sr ?_
 refine vm rfl rfl ?_
 refine simL_bind (fun s3v hs4v => ?_)
 refine simL_eff (re_call (vs := [.pointer (some ⟨b0, 0, none⟩)]) (cap := []) (A := [obj b0 76 [.map (some m0_0), str x0_1, .int .i64 x0_2, .bool x0_3], mapF (mapO m0_0 enc9 encP q0_0) FA89 q0_0 x0_0]) (rst := [F]) rfl rfl rfl rfl rfl rfl Tryz.call46 (.sel 0 rfl (.sel 0 rfl (.sel 0 rfl (.nil _)))) (disk_Disk_List.calls _ _ b0 m0_0 q0_0 x0_0 x0_1 x0_2 x0_3 ) hs4v) rfl rfl rfl ?_
 intro y5v
 refine vq (q_len rfl rfl rfl Tryz.underlying90) rfl ?_
 refine vm rfl rfl (simL_nil (nrm_then ?_))
 refine sim_block ?_
 refine sim_loop (S := (List (Ty71)) × Int) (HA × Option Addr × Nat) (fun k s => disk_Disk_Files.l0 x0_0 s3v k s.1 s.2) (fun s y => [(0, .pointer (some ⟨b0, 0, none⟩)), (3, .slice y.2.1 s.1.length y.2.2), (8, .slice y5v.1 s3v.length y5v.2), (9, .int .i64 (s3v.length : Int)), (10, .int .i64 s.2)]) (fun s y => [obj b0 76 [.map (some m0_0), str x0_1, .int .i64 x0_2, .bool x0_3], RowV 71 3 (V71w (y.1)) y.2.1 s.1 y.2.2, RowV 9 1 (V9 tt) y5v.1 s3v y5v.2, mapF (mapO m0_0 enc9 encP q0_0) FA89 q0_0 x0_0, y.1, F]) (fun _ => by rw [disk_Disk_Files.l0]) ?_ k (([] : List (Ty71)), 0) (tt, none, 0) ⟨rfl, rfl, rfl, rfl, rfl, trivial⟩ (.sel 1 rfl (.rowV_nil (.sel 0 rfl (.sel 0 rfl (.tt_in (.sel 0 rfl (.nil _)))))))
 intro k s6v y7v
 refine sim_eq (by rw [disk_Disk_Files.l0]) ?_
 refine sr ?_
 refine vq (q_lss rfl rfl rfl) rfl (simL_nil (nrm_then (sim_seq ?_)))
 refine sim_cond rfl (fun h10v => ?_) (fun h11v => ?_)
 refine sim_skip ?_
 refine nrm_then (sim_seq ?_)
 refine sim_block ?_
 refine sr ?_
 refine simL_openV 2 rfl (fun rs20v hl21v => ?_)
 refine simL_ask (fun hi12v => ?_)
 refine simL_posV 2 rfl hl21v rfl (i := s6v.2.toNat) (by omega) ([] : List UInt8) (fun b13v b13vo r16v ha14v hV17v hlr18v hcell19v => ?_)
 obtain rfl := hV17v
 refine vq (q_idx rfl rfl rfl ha14v Tryz.underlying90 Tryz.sizeOf9 hi12v.1 hi12v.2) rfl ?_
 refine vq (q_load rfl rfl Tryz.isAgg9 (hcell19v 2 rfl 0 _ rfl)) rfl ?_
 refine va rfl rfl (simL_nil (nrm_then (sim_seq ?_)))
 refine sim_if (fun hk22v => ?_) (fun hk22v => ?_)
 refine sim_region ?_
 refine vm rfl rfl ?_
 refine vn rfl rfl ?_
 refine vq (q_fa rfl rfl Tryz.underlying76 rfl rfl Tryz.sizeOf74 rfl) rfl ?_
 refine vq (q_load rfl rfl Tryz.isAgg74 (.obj 0 rfl rfl)) rfl ?_
 refine vm rfl rfl ?_
 refine vq ((q_mlookY (ek := enc9) (s3v.getD s6v.2.toNat ([] : List UInt8)) (tellsF 3 rfl) hk22v rfl rfl rfl Tryz.underlying74 key9 : RQ _ _ _ _ (.pointer (some ⟨(fptr q0_0 (s3v.getD s6v.2.toNat ([] : List UInt8))), 0, none⟩)))) rfl ?_
 refine va rfl rfl (simL_nil (nrm_then ?_))
 refine sim_openF (v := ((mget x0_0 (s3v.getD s6v.2.toNat ([] : List UInt8))).getD (([] : List UInt8), (0 : Int)))) 3 rfl (getD_some hk22v) (fun y23v => ?_)
 refine sim_ent (H' := [obj (fptr q0_0 (s3v.getD s6v.2.toNat ([] : List UInt8))) 89 [.slice y23v.1 ((((mget x0_0 (s3v.getD s6v.2.toNat ([] : List UInt8))).getD (([] : List UInt8), (0 : Int))).1).length) y23v.2, .int .i64 (((mget x0_0 (s3v.getD s6v.2.toNat ([] : List UInt8))).getD (([] : List UInt8), (0 : Int))).2)], Row 5 1 y23v.1 (((mget x0_0 (s3v.getD s6v.2.toNat ([] : List UInt8))).getD (([] : List UInt8), (0 : Int))).1).length y23v.2 (encB (((mget x0_0 (s3v.getD s6v.2.toNat ([] : List UInt8))).getD (([] : List UInt8), (0 : Int))).1)), mapH (mapO m0_0 enc9 encP q0_0) FA89 q0_0 x0_0 (s3v.getD s6v.2.toNat ([] : List UInt8)), obj b0 76 [.map (some m0_0), str x0_1, .int .i64 x0_2, .bool x0_3], RowV 71 3 (V71w (y7v.1)) y7v.2.1 s6v.1 y7v.2.2, Row 9 1 y5v.1 s3v.length y5v.2 rs20v.flatten, y7v.1, F]) (Ent.refl _) ?_
 refine sim_openV 4 rfl (fun rs24v hl25v => ?_)
 refine sim_bind (fun s30v hs31v => ?_)
 refine sim_ask (fun hb46v => ?_)
 refine sim_draw (Γ := (Option Addr × Nat) × Nat × (Option Addr × Nat)) ((none, 0), 0, (none, 0)) [[], [], [], [2], [2, 3], [2, 3, 4], [2, 3, 4, 5], [], [7], [7, 8], [7, 8, 9], [1, 2, 3, 4, 5, 6, 7, 8, 9, 10], [1, 2, 3, 4, 5, 6, 7, 8, 9, 10, 11], rL 13, rL 14] [6, 12, 13] [0, 1, 2, 3, 4, 5, 7, 8, 9, 10, 11, 14] (fun i => [[0, 1, 2], [0, 1], [0], [0], [0], [0], [], [0, 1], [0, 1], [0, 1], [0, 1], [1], [], [], [3]].getD i []) (fun i => [[], [], [], [], [], [], [0, 1, 2, 3, 4, 5, 7, 8, 9, 10], [], [], [], [], [], rL 12, rL 13, []].getD i []) (fun γ i => [.slice y7v.2.1 s6v.1.length y7v.2.2, str (s3v.getD s6v.2.toNat ([] : List UInt8)), .pointer (some ⟨(fptr q0_0 (s3v.getD s6v.2.toNat ([] : List UInt8))), 0, none⟩), .pointer (some ⟨(fptr q0_0 (s3v.getD s6v.2.toNat ([] : List UInt8))), 0, none⟩), .pointer (some ⟨(fptr q0_0 (s3v.getD s6v.2.toNat ([] : List UInt8))), 0, none⟩), .slice y23v.1 ((((mget x0_0 (s3v.getD s6v.2.toNat ([] : List UInt8))).getD (([] : List UInt8), (0 : Int))).1).length) y23v.2, .slice γ.1.1 s30v.length γ.1.2, .pointer (some ⟨(fptr q0_0 (s3v.getD s6v.2.toNat ([] : List UInt8))), 0, none⟩), .pointer (some ⟨(fptr q0_0 (s3v.getD s6v.2.toNat ([] : List UInt8))), 0, none⟩), .pointer (some ⟨(fptr q0_0 (s3v.getD s6v.2.toNat ([] : List UInt8))), 1, none⟩), .int .i64 (((mget x0_0 (s3v.getD s6v.2.toNat ([] : List UInt8))).getD (([] : List UInt8), (0 : Int))).2), .agg #[str (s3v.getD s6v.2.toNat ([] : List UInt8)), .slice γ.1.1 s30v.length γ.1.2, .int .i64 (((mget x0_0 (s3v.getD s6v.2.toNat ([] : List UInt8))).getD (([] : List UInt8), (0 : Int))).2)], .slice (some ⟨γ.2.1, 0, none⟩) (([((s3v.getD s6v.2.toNat ([] : List UInt8)), s30v, ((mget x0_0 (s3v.getD s6v.2.toNat ([] : List UInt8))).getD (([] : List UInt8), (0 : Int))).2)] : List (Ty71)).length) 1, .slice γ.2.2.1 ((s6v.1 ++ ([((s3v.getD s6v.2.toNat ([] : List UInt8)), s30v, ((mget x0_0 (s3v.getD s6v.2.toNat ([] : List UInt8))).getD (([] : List UInt8), (0 : Int))).2)] : List (Ty71))).length) γ.2.2.2, .slice γ.2.2.1 ((s6v.1 ++ ([((s3v.getD s6v.2.toNat ([] : List UInt8)), s30v, ((mget x0_0 (s3v.getD s6v.2.toNat ([] : List UInt8))).getD (([] : List UInt8), (0 : Int))).2)] : List (Ty71))).length) γ.2.2.2].getD i undef) (fun j γ => [[obj (fptr q0_0 (s3v.getD s6v.2.toNat ([] : List UInt8))) 89 [.slice y23v.1 ((((mget x0_0 (s3v.getD s6v.2.toNat ([] : List UInt8))).getD (([] : List UInt8), (0 : Int))).1).length) y23v.2, .int .i64 (((mget x0_0 (s3v.getD s6v.2.toNat ([] : List UInt8))).getD (([] : List UInt8), (0 : Int))).2)], Row 5 1 y23v.1 (((mget x0_0 (s3v.getD s6v.2.toNat ([] : List UInt8))).getD (([] : List UInt8), (0 : Int))).1).length y23v.2 (encB (((mget x0_0 (s3v.getD s6v.2.toNat ([] : List UInt8))).getD (([] : List UInt8), (0 : Int))).1)), mapH (mapO m0_0 enc9 encP q0_0) FA89 q0_0 x0_0 (s3v.getD s6v.2.toNat ([] : List UInt8)), obj b0 76 [.map (some m0_0), str x0_1, .int .i64 x0_2, .bool x0_3], Row 71 3 y7v.2.1 s6v.1.length y7v.2.2 rs24v.flatten, Row 9 1 y5v.1 s3v.length y5v.2 rs20v.flatten, y7v.1, F], [Row 5 1 γ.1.1 s30v.length γ.1.2 (encB s30v), obj (fptr q0_0 (s3v.getD s6v.2.toNat ([] : List UInt8))) 89 [.slice y23v.1 ((((mget x0_0 (s3v.getD s6v.2.toNat ([] : List UInt8))).getD (([] : List UInt8), (0 : Int))).1).length) y23v.2, .int .i64 (((mget x0_0 (s3v.getD s6v.2.toNat ([] : List UInt8))).getD (([] : List UInt8), (0 : Int))).2)], Row 5 1 y23v.1 (((mget x0_0 (s3v.getD s6v.2.toNat ([] : List UInt8))).getD (([] : List UInt8), (0 : Int))).1).length y23v.2 (encB (((mget x0_0 (s3v.getD s6v.2.toNat ([] : List UInt8))).getD (([] : List UInt8), (0 : Int))).1)), mapH (mapO m0_0 enc9 encP q0_0) FA89 q0_0 x0_0 (s3v.getD s6v.2.toNat ([] : List UInt8)), obj b0 76 [.map (some m0_0), str x0_1, .int .i64 x0_2, .bool x0_3], Row 71 3 y7v.2.1 s6v.1.length y7v.2.2 rs24v.flatten, Row 9 1 y5v.1 s3v.length y5v.2 rs20v.flatten, y7v.1, F], [RowV 71 3 (V71w (Row 5 1 γ.1.1 s30v.length γ.1.2 (encB s30v))) (some ⟨γ.2.1, 0, none⟩) ([((s3v.getD s6v.2.toNat ([] : List UInt8)), s30v, ((mget x0_0 (s3v.getD s6v.2.toNat ([] : List UInt8))).getD (([] : List UInt8), (0 : Int))).2)] : List (Ty71)) 1, Row 5 1 γ.1.1 s30v.length γ.1.2 (encB s30v), obj (fptr q0_0 (s3v.getD s6v.2.toNat ([] : List UInt8))) 89 [.slice y23v.1 ((((mget x0_0 (s3v.getD s6v.2.toNat ([] : List UInt8))).getD (([] : List UInt8), (0 : Int))).1).length) y23v.2, .int .i64 (((mget x0_0 (s3v.getD s6v.2.toNat ([] : List UInt8))).getD (([] : List UInt8), (0 : Int))).2)], Row 5 1 y23v.1 (((mget x0_0 (s3v.getD s6v.2.toNat ([] : List UInt8))).getD (([] : List UInt8), (0 : Int))).1).length y23v.2 (encB (((mget x0_0 (s3v.getD s6v.2.toNat ([] : List UInt8))).getD (([] : List UInt8), (0 : Int))).1)), mapH (mapO m0_0 enc9 encP q0_0) FA89 q0_0 x0_0 (s3v.getD s6v.2.toNat ([] : List UInt8)), obj b0 76 [.map (some m0_0), str x0_1, .int .i64 x0_2, .bool x0_3], Row 71 3 y7v.2.1 s6v.1.length y7v.2.2 rs24v.flatten, Row 9 1 y5v.1 s3v.length y5v.2 rs20v.flatten, y7v.1, F], [stars [Row 5 1 γ.1.1 s30v.length γ.1.2 (encB s30v), y7v.1], RowV 71 3 (V71w (stars [Row 5 1 γ.1.1 s30v.length γ.1.2 (encB s30v), y7v.1])) (some ⟨γ.2.1, 0, none⟩) ([((s3v.getD s6v.2.toNat ([] : List UInt8)), s30v, ((mget x0_0 (s3v.getD s6v.2.toNat ([] : List UInt8))).getD (([] : List UInt8), (0 : Int))).2)] : List (Ty71)) 1, obj (fptr q0_0 (s3v.getD s6v.2.toNat ([] : List UInt8))) 89 [.slice y23v.1 ((((mget x0_0 (s3v.getD s6v.2.toNat ([] : List UInt8))).getD (([] : List UInt8), (0 : Int))).1).length) y23v.2, .int .i64 (((mget x0_0 (s3v.getD s6v.2.toNat ([] : List UInt8))).getD (([] : List UInt8), (0 : Int))).2)], Row 5 1 y23v.1 (((mget x0_0 (s3v.getD s6v.2.toNat ([] : List UInt8))).getD (([] : List UInt8), (0 : Int))).1).length y23v.2 (encB (((mget x0_0 (s3v.getD s6v.2.toNat ([] : List UInt8))).getD (([] : List UInt8), (0 : Int))).1)), mapH (mapO m0_0 enc9 encP q0_0) FA89 q0_0 x0_0 (s3v.getD s6v.2.toNat ([] : List UInt8)), obj b0 76 [.map (some m0_0), str x0_1, .int .i64 x0_2, .bool x0_3], RowV 71 3 (V71w (stars [Row 5 1 γ.1.1 s30v.length γ.1.2 (encB s30v), y7v.1])) γ.2.2.1 (s6v.1 ++ ([((s3v.getD s6v.2.toNat ([] : List UInt8)), s30v, ((mget x0_0 (s3v.getD s6v.2.toNat ([] : List UInt8))).getD (([] : List UInt8), (0 : Int))).2)] : List (Ty71))) γ.2.2.2, Row 9 1 y5v.1 s3v.length y5v.2 rs20v.flatten, F]].getD j []) (fun γ => [(0, .pointer (some ⟨b0, 0, none⟩)), (3, .slice γ.2.2.1 ((s6v.1 ++ ([((s3v.getD s6v.2.toNat ([] : List UInt8)), s30v, ((mget x0_0 (s3v.getD s6v.2.toNat ([] : List UInt8))).getD (([] : List UInt8), (0 : Int))).2)] : List (Ty71))).length) γ.2.2.2), (8, .slice y5v.1 s3v.length y5v.2), (9, .int .i64 (s3v.length : Int)), (10, .int .i64 s6v.2)]) mixed (by decide) (by decide) (by decide) (by decide) (by decide) (by decide) (by decide) 36 rfl (by decide) (by decide) (by decide) (Ent.refl _) ?_ ?_ (fun _ => ⟨rfl, rfl, rfl, rfl, rfl, trivial⟩) ?_
 exact (ac (fun γ => (ac (qm rfl (.o (s := 3) rfl (by decide) .nil) rfl) (ac (qm rfl (.o (s := 3) rfl (by decide) .nil) rfl) (ac (qm rfl (.o (s := 3) rfl (by decide) .nil) rfl) zA)))) (ac (fun γ => (ac (qm rfl (.o (s := 5) rfl (by decide) .nil) rfl) (ac (qm rfl (.o (s := 5) rfl (by decide) .nil) rfl) zA))) (aq rfl (fun γ => qm rfl (.o (s := 6) rfl (by decide) .nil) rfl) (aq rfl (fun γ => qp rfl rfl (.v 2 rfl rfl .nil) (q_nil rfl rfl) rfl) (aq rfl (fun γ => qp rfl rfl (.v 3 rfl rfl .nil) (q_fa rfl rfl Tryz.underlying89 rfl rfl Tryz.sizeOf25 rfl) rfl) (aq rfl (fun γ => qp rfl rfl (.v 4 rfl rfl .nil) (q_load rfl rfl Tryz.isAgg25 (.obj 0 rfl rfl)) rfl) (ac (fun γ => (ac (qm rfl (.o (s := 6) rfl (by decide) .nil) rfl) (ac (qm rfl (.o (s := 6) rfl (by decide) .nil) rfl) zA))) (ac (fun γ => (ac (qp rfl rfl (.v 7 rfl rfl .nil) (q_nil rfl rfl) rfl) (ac (qp rfl rfl (.v 7 rfl rfl .nil) (q_nil rfl rfl) rfl) zA))) (ac (fun γ => (ac (qp rfl rfl (.v 8 rfl rfl .nil) (q_fa rfl rfl Tryz.underlying89 rfl rfl Tryz.sizeOf3 rfl) rfl) (ac (qp rfl rfl (.v 8 rfl rfl .nil) (q_fa rfl rfl Tryz.underlying89 rfl rfl Tryz.sizeOf3 rfl) rfl) zA))) (ac (fun γ => (ac (qp rfl rfl (.v 9 rfl rfl .nil) (q_load rfl rfl Tryz.isAgg3 (.obj 0 rfl rfl)) rfl) (ac (qp rfl rfl (.v 9 rfl rfl .nil) (q_load rfl rfl Tryz.isAgg3 (.obj 1 rfl rfl)) rfl) zA))) (aq rfl (fun γ => qp rfl rfl (.v 1 rfl rfl (.v 6 rfl rfl (.v 10 rfl rfl .nil))) (q_build (v := .agg #[str (s3v.getD s6v.2.toNat ([] : List UInt8)), .slice γ.1.1 s30v.length γ.1.2, .int .i64 (((mget x0_0 (s3v.getD s6v.2.toNat ([] : List UInt8))).getD (([] : List UInt8), (0 : Int))).2)]) rfl rfl (fun _ => by kernel_rfl)) rfl) (aq rfl (fun γ => qp rfl rfl (.v 13 rfl rfl .nil) (q_asg rfl rfl) rfl) zA))))))))))))
 exact (ac (fun γ => eo (Z := Option Addr × Nat) (fun z => (z, γ.2.1, γ.2.2)) rfl rfl (.v 5 rfl rfl .nil) (RE.lend 1 rfl (fun hq26v hq27v hq28v hq29v => re_call (vs := [.slice y23v.1 ((((mget x0_0 (s3v.getD s6v.2.toNat ([] : List UInt8))).getD (([] : List UInt8), (0 : Int))).1).length) y23v.2]) (cap := []) (A := []) (rst := [obj (fptr q0_0 (s3v.getD s6v.2.toNat ([] : List UInt8))) 89 [.slice y23v.1 ((((mget x0_0 (s3v.getD s6v.2.toNat ([] : List UInt8))).getD (([] : List UInt8), (0 : Int))).1).length) y23v.2, .int .i64 (((mget x0_0 (s3v.getD s6v.2.toNat ([] : List UInt8))).getD (([] : List UInt8), (0 : Int))).2)], Row 5 1 y23v.1 (((mget x0_0 (s3v.getD s6v.2.toNat ([] : List UInt8))).getD (([] : List UInt8), (0 : Int))).1).length y23v.2 (encB (((mget x0_0 (s3v.getD s6v.2.toNat ([] : List UInt8))).getD (([] : List UInt8), (0 : Int))).1)), mapH (mapO m0_0 enc9 encP q0_0) FA89 q0_0 x0_0 (s3v.getD s6v.2.toNat ([] : List UInt8)), obj b0 76 [.map (some m0_0), str x0_1, .int .i64 x0_2, .bool x0_3], Row 71 3 y7v.2.1 s6v.1.length y7v.2.2 rs24v.flatten, Row 9 1 y5v.1 s3v.length y5v.2 rs20v.flatten, y7v.1, F]) rfl rfl rfl rfl rfl rfl Tryz.call70 (.sel 0 rfl (.sel 0 rfl (.sel 0 rfl (.sel 0 rfl (.sel 0 rfl (.sel 0 rfl (.sel 0 rfl (.sel 0 rfl (.nil _))))))))) (disk_fresh.calls _ _ y23v.1 y23v.2 (((mget x0_0 (s3v.getD s6v.2.toNat ([] : List UInt8))).getD (([] : List UInt8), (0 : Int))).1) (hq26v.lend 1 rfl) hq27v hq28v) hs31v)) (fun _ => ⟨rfl, rfl, rfl, rfl, rfl, rfl, rfl, rfl, rfl, rfl, trivial⟩) (fun _ => .inr rfl) (fun z => Ent.refl _)) (ac (fun γ => eo (Z := Nat) (fun z => (γ.1, z, γ.2.2)) rfl rfl (.v 11 rfl rfl .nil) (RE.lend 0 rfl (fun hq34v hq35v hq36v hq37v => re_litVc (V := (V71w (Row 5 1 γ.1.1 s30v.length γ.1.2 (encB s30v)))) (xs := ([((s3v.getD s6v.2.toNat ([] : List UInt8)), s30v, ((mget x0_0 (s3v.getD s6v.2.toNat ([] : List UInt8))).getD (([] : List UInt8), (0 : Int))).2)] : List (Ty71))) [[str (s3v.getD s6v.2.toNat ([] : List UInt8)), .slice γ.1.1 s30v.length γ.1.2, .int .i64 (((mget x0_0 (s3v.getD s6v.2.toNat ([] : List UInt8))).getD (([] : List UInt8), (0 : Int))).2)]] rfl rfl Tryz.underlying47 elt71 rfl (by kernel_rfl) rfl (⟨⟨rfl, one_of (by rfl), ⟨γ.1.1, γ.1.2, rfl, ⟨(RdW.row hq34v), hq35v, hq36v⟩⟩⟩, trivial⟩ : ListV 3 (V71w (Row 5 1 γ.1.1 s30v.length γ.1.2 (encB s30v))) ([((s3v.getD s6v.2.toNat ([] : List UInt8)), s30v, ((mget x0_0 (s3v.getD s6v.2.toNat ([] : List UInt8))).getD (([] : List UInt8), (0 : Int))).2)] : List (Ty71)) [[str (s3v.getD s6v.2.toNat ([] : List UInt8)), .slice γ.1.1 s30v.length γ.1.2, .int .i64 (((mget x0_0 (s3v.getD s6v.2.toNat ([] : List UInt8))).getD (([] : List UInt8), (0 : Int))).2)]]) rfl rfl)) (fun _ => ⟨rfl, rfl, rfl, rfl, rfl, rfl, rfl, rfl, rfl, rfl, rfl, rfl, trivial⟩) (fun _ => .inr rfl) (fun z => Ent.refl _)) (ac (fun γ => eo (Z := Option Addr × Nat) (fun z => (γ.1, γ.2.1, z)) rfl rfl (.v 0 rfl rfl (.v 12 rfl rfl .nil)) (RE.openV 0 rfl (fun rs43v hl44v => RE.ent (H1 := [stars [Row 5 1 γ.1.1 s30v.length γ.1.2 (encB s30v), y7v.1], Row 71 3 (some ⟨γ.2.1, 0, none⟩) ([((s3v.getD s6v.2.toNat ([] : List UInt8)), s30v, ((mget x0_0 (s3v.getD s6v.2.toNat ([] : List UInt8))).getD (([] : List UInt8), (0 : Int))).2)] : List (Ty71)).length 1 rs43v.flatten, obj (fptr q0_0 (s3v.getD s6v.2.toNat ([] : List UInt8))) 89 [.slice y23v.1 ((((mget x0_0 (s3v.getD s6v.2.toNat ([] : List UInt8))).getD (([] : List UInt8), (0 : Int))).1).length) y23v.2, .int .i64 (((mget x0_0 (s3v.getD s6v.2.toNat ([] : List UInt8))).getD (([] : List UInt8), (0 : Int))).2)], Row 5 1 y23v.1 (((mget x0_0 (s3v.getD s6v.2.toNat ([] : List UInt8))).getD (([] : List UInt8), (0 : Int))).1).length y23v.2 (encB (((mget x0_0 (s3v.getD s6v.2.toNat ([] : List UInt8))).getD (([] : List UInt8), (0 : Int))).1)), mapH (mapO m0_0 enc9 encP q0_0) FA89 q0_0 x0_0 (s3v.getD s6v.2.toNat ([] : List UInt8)), obj b0 76 [.map (some m0_0), str x0_1, .int .i64 x0_2, .bool x0_3], Row 71 3 y7v.2.1 s6v.1.length y7v.2.2 rs24v.flatten, Row 9 1 y5v.1 s3v.length y5v.2 rs20v.flatten, F]) (Ent.trans (m := [Row 5 1 γ.1.1 s30v.length γ.1.2 (encB s30v), y7v.1, Row 71 3 (some ⟨γ.2.1, 0, none⟩) ([((s3v.getD s6v.2.toNat ([] : List UInt8)), s30v, ((mget x0_0 (s3v.getD s6v.2.toNat ([] : List UInt8))).getD (([] : List UInt8), (0 : Int))).2)] : List (Ty71)).length 1 rs43v.flatten, obj (fptr q0_0 (s3v.getD s6v.2.toNat ([] : List UInt8))) 89 [.slice y23v.1 ((((mget x0_0 (s3v.getD s6v.2.toNat ([] : List UInt8))).getD (([] : List UInt8), (0 : Int))).1).length) y23v.2, .int .i64 (((mget x0_0 (s3v.getD s6v.2.toNat ([] : List UInt8))).getD (([] : List UInt8), (0 : Int))).2)], Row 5 1 y23v.1 (((mget x0_0 (s3v.getD s6v.2.toNat ([] : List UInt8))).getD (([] : List UInt8), (0 : Int))).1).length y23v.2 (encB (((mget x0_0 (s3v.getD s6v.2.toNat ([] : List UInt8))).getD (([] : List UInt8), (0 : Int))).1)), mapH (mapO m0_0 enc9 encP q0_0) FA89 q0_0 x0_0 (s3v.getD s6v.2.toNat ([] : List UInt8)), obj b0 76 [.map (some m0_0), str x0_1, .int .i64 x0_2, .bool x0_3], Row 71 3 y7v.2.1 s6v.1.length y7v.2.2 rs24v.flatten, Row 9 1 y5v.1 s3v.length y5v.2 rs20v.flatten, F]) (.sel 1 rfl (.sel 7 rfl (.sel 0 rfl (.sel 0 rfl (.sel 0 rfl (.sel 0 rfl (.sel 0 rfl (.sel 0 rfl (.sel 0 rfl (.sel 0 rfl (.nil _))))))))))) (ent_pack [Row 5 1 γ.1.1 s30v.length γ.1.2 (encB s30v), y7v.1] _)) (re_appendV 6 rfl rfl rfl Tryz.underlying47 elt71 rfl (hl25v.mono (V71w.up (UpC.lend (l := [Row 5 1 γ.1.1 s30v.length γ.1.2 (encB s30v), y7v.1]) 1 rfl))) (RdsV.row (hl44v.mono (V71w.up (UpC.lend (l := [Row 5 1 γ.1.1 s30v.length γ.1.2 (encB s30v), y7v.1]) 0 rfl))) 1 rfl) hb46v)) (fun rs43v hl44v _ => (.sel 0 rfl (.sel' 0 rfl (RowV.mk (hl44v.mono (V71w.up (UpC.lend (l := [Row 5 1 γ.1.1 s30v.length γ.1.2 (encB s30v), y7v.1]) 0 rfl)))) (.sel 0 rfl (.sel 0 rfl (.sel 0 rfl (.sel 0 rfl (.sel 0 rfl (.sel 0 rfl (.sel 0 rfl (.nil _)))))))))))) (fun _ => ⟨rfl, rfl, rfl, rfl, rfl, rfl, rfl, rfl, rfl, rfl, rfl, rfl, rfl, trivial⟩) (fun _ => .inr rfl) (fun z => Ent.refl _)) zA)))
 intro g47v
 refine nrm_block (nrm_then (sim_region ?_))
 refine vq (q_add rfl rfl rfl) rfl ?_
 refine vm rfl rfl (simL_nil ?_)
 exact nrm_again (s := (s6v.1 ++ ([((s3v.getD s6v.2.toNat ([] : List UInt8)), s30v, ((mget x0_0 (s3v.getD s6v.2.toNat ([] : List UInt8))).getD (([] : List UInt8), (0 : Int))).2)] : List (Ty71)), IntKind.i64.wrap (s6v.2 + 1))) (stars [Row 5 1 g47v.1.1 s30v.length g47v.1.2 (encB s30v), y7v.1], g47v.2.2.1, g47v.2.2.2) ⟨rfl, rfl, rfl, rfl, rfl, trivial⟩ (.sel 5 rfl (.sel 5 rfl (.sel' 5 rfl (RowV.mk hl21v) (.foldF0 (x := (s3v.getD s6v.2.toNat ([] : List UInt8))) (p := (fptr q0_0 (s3v.getD s6v.2.toNat ([] : List UInt8)))) (v := ((mget x0_0 (s3v.getD s6v.2.toNat ([] : List UInt8))).getD (([] : List UInt8), (0 : Int)))) (y23v.1, y23v.2) rfl (getD_some hk22v) (.sel 4 rfl (.sel 2 rfl (.sel 2 rfl (.sel 0 rfl (.sel 1 rfl (.nil _))))))))))
 refine sim_region ?_
 refine vm rfl rfl ?_
 refine vn rfl rfl ?_
 refine vq (q_fa rfl rfl Tryz.underlying76 rfl rfl Tryz.sizeOf74 rfl) rfl ?_
 refine vq (q_load rfl rfl Tryz.isAgg74 (.obj 0 rfl rfl)) rfl ?_
 refine vm rfl rfl ?_
 refine vq (q_mlookN (ek := enc9) (s3v.getD s6v.2.toNat ([] : List UInt8)) (tellsF 3 rfl) (isNone_of hk22v) rfl rfl rfl Tryz.underlying74 key9 Tryz.zeroValue87) rfl ?_
 refine va rfl rfl (simL_nil (nrm_then ?_))
 refine sim_openV 1 rfl (fun rs48v hl49v => ?_)
 exact sim_none
 refine sim_exi ?_
 refine exi_then ?_
 refine exi_loop ?_
 refine exi_here ?_
 exact nrm_cut (s := s6v.1) (y7v.1, y7v.2.1, y7v.2.2) ⟨rfl, trivial⟩ (.sel 0 rfl (.sel 0 rfl (.sel 1 rfl (.sel 1 rfl (.sel 1 rfl (.nil _))))))
 intro s1v y2v
 refine sr ?_
 refine vm rfl rfl ?_
 refine va rfl rfl (simL_nil (nrm_then (sim_rtn ?_)))
 exact rtn_fn (y2v.2.1, y2v.2.2, y2v.1) rfl rfl rfl (.sel 1 rfl (.sel 2 rfl (.sel 0 rfl (.sel 0 rfl (.sel 0 rfl (.nil _))))))

def snap_Keep.l0 (x1 : Int) : Nat → Int → List Int → List ((List UInt8) × (List UInt8 × Int)) → List UInt8 → Int → Bool → Option ((Int × (List ((List UInt8) × (List UInt8 × Int))) × List UInt8 × Int × Bool) ⊕ (Int × Int × (List ((List UInt8) × (List UInt8 × Int))) × List UInt8 × Int × Bool))
  | 0, _, _, _, _, _, _ => none
  | k + 1, z15v, z16v, z17v, z18v, z19v, z20v => if x1 < (z16v.length : Int) then (if 0 ≤ (0 : Int) ∧ (0 : Int) < (z16v.length : Int) then ((snap_Name.f (z16v.getD (0 : Int).toNat (0 : Int))).bind fun s33v => ((disk_Disk_Remove.f z17v z18v z19v z20v s33v.1).bind fun s36v => (if s36v.1 = (0 : Int) then (if 0 ≤ (1 : Int) ∧ (1 : Int) ≤ (z16v.length : Int) ∧ (z16v.length : Int) ≤ (z16v.length : Int) then (snap_Keep.l0 x1 k (IntKind.i64.wrap (z15v + 1)) (cut z16v (1 : Int) (z16v.length : Int)) s36v.2.1 s36v.2.2.1 s36v.2.2.2.1 s36v.2.2.2.2) else none) else (some (.inr (0, s36v.1, s36v.2.1, s36v.2.2.1, s36v.2.2.2.1, s36v.2.2.2.2)))))) else none) else (some (.inl (z15v, z17v, z18v, z19v, z20v)))
def snap_Keep.f (k : Nat) (x0_0 : List ((List UInt8) × (List UInt8 × Int))) (x0_1 : List UInt8) (x0_2 : Int) (x0_3 : Bool) (x1 : Int) : Option (Int × Int × (List ((List UInt8) × (List UInt8 × Int))) × List UInt8 × Int × Bool) := if x1 < (1 : Int) then (some (0, 1, x0_0, x0_1, x0_2, x0_3)) else ((snap_clean.f x0_0 x0_1 x0_2 x0_3).bind fun s3v => (if s3v.2.1 = (0 : Int) then (orR ((snap_List.f k s3v.2.2.1 s3v.2.2.2.1 s3v.2.2.2.2.1 s3v.2.2.2.2.2).bind fun s10v => (snap_Keep.l0 x1 k s3v.1 s10v s3v.2.2.1 s3v.2.2.2.1 s3v.2.2.2.2.1 s3v.2.2.2.2.2)) fun s8v => (some (s8v.1, 0, s8v.2.1, s8v.2.2.1, s8v.2.2.2.1, s8v.2.2.2.2))) else (some (0, s3v.2.1, s3v.2.2.1, s3v.2.2.2.1, s3v.2.2.2.2.1, s3v.2.2.2.2.2))))
theorem snap_Keep.calls (W : World) (F : HA) (k : Nat) (b0 : Nat) (m0_0 : Nat) (q0_0 : Kps) (x0_0 : List ((List UInt8) × (List UInt8 × Int))) (x0_1 : List UInt8) (x0_2 : Int) (x0_3 : Bool) (x1 : Int) (hgl : Glb Tryz.prog F) :
    Fn Tryz.prog W 16 [.pointer (some ⟨b0, 0, none⟩), .int .i64 x1] [obj b0 76 [.map (some m0_0), str x0_1, .int .i64 x0_2, .bool x0_3], mapF (mapO m0_0 enc9 encP q0_0) FA89 q0_0 x0_0] F (snap_Keep.f k x0_0 x0_1 x0_2 x0_3 x1) (fun (r : Int × Int × (List ((List UInt8) × (List UInt8 × Int))) × List UInt8 × Int × Bool) (y : Nat × Kps) => .tuple #[.int .i64 r.1, .int .i64 r.2.1]) (fun r y => [obj b0 76 [.map (some y.1), str r.2.2.2.1, .int .i64 r.2.2.2.2.1, .bool r.2.2.2.2.2], mapF (mapO y.1 enc9 encP y.2) FA89 y.2 r.2.2.1]) := by
 unfold snap_Keep.f
 refine fn_intro 46 Tryz.func16 rfl Tryz.ntmps16 rfl ?_
 refine sr ?_
 refine va rfl rfl ?_
 refine va rfl rfl (simL_nil (nrm_then (sim_seq (sr ?_))))
 refine vm rfl rfl ?_
 refine vq (q_lss rfl rfl rfl) rfl (simL_nil (nrm_then ?_))
 refine sim_cond rfl (fun h1v => ?_) (fun h2v => ?_)
 refine sr ?_
 refine va rfl rfl ?_
 refine va rfl rfl (simL_nil (nrm_then (sim_rtn ?_)))
 refine rtn_then ?_
 exact rtn_fn (m0_0, q0_0) rfl rfl rfl (.sel 0 rfl (.sel 0 rfl (.sel 0 rfl (.nil _))))
 refine sim_skip ?_
 refine nrm_then (sr ?_)
 refine vm rfl rfl ?_
 refine simL_bind (fun s3v hs4v => ?_)
 refine simL_eff (re_call (vs := [.pointer (some ⟨b0, 0, none⟩)]) (cap := []) (A := [obj b0 76 [.map (some m0_0), str x0_1, .int .i64 x0_2, .bool x0_3], mapF (mapO m0_0 enc9 encP q0_0) FA89 q0_0 x0_0]) (rst := [F]) rfl rfl rfl rfl rfl rfl Tryz.call37 (.sel 0 rfl (.sel 0 rfl (.sel 0 rfl (.nil _)))) (snap_clean.calls _ _ b0 m0_0 q0_0 x0_0 x0_1 x0_2 x0_3 ) hs4v) rfl rfl rfl ?_
 intro y5v
 refine vm rfl rfl ?_
 refine vq (q_ext rfl rfl rfl) rfl ?_
 refine vq (q_ext rfl rfl rfl) rfl ?_
 refine va rfl rfl ?_
 refine va rfl rfl (simL_nil (nrm_then (sim_seq (sr ?_))))
 refine vm rfl rfl ?_
 refine vq (q_neq rfl rfl rfl) rfl (simL_nil (nrm_then ?_))
 refine sim_condn rfl (fun h6v => ?_) (fun h7v => ?_)
 refine sim_skip ?_
 refine nrm_then ?_
 refine sim_cutR (S := Int × (List ((List UInt8) × (List UInt8 × Int))) × List UInt8 × Int × Bool) (Nat × Kps) (fun s y => [(6, .int .i64 s.1)]) (fun s y => [obj b0 76 [.map (some y.1), str s.2.2.1, .int .i64 s.2.2.2.1, .bool s.2.2.2.2], mapF (mapO y.1 enc9 encP y.2) FA89 y.2 s.2.1, F]) ?_ ?_
 refine sr ?_
 refine vm rfl rfl ?_
 refine simL_bind (fun s10v hs11v => ?_)
 refine simL_eff (re_call (vs := [.pointer (some ⟨b0, 0, none⟩)]) (cap := []) (A := [obj b0 76 [.map (some y5v.1), str s3v.2.2.2.1, .int .i64 s3v.2.2.2.2.1, .bool s3v.2.2.2.2.2], mapF (mapO y5v.1 enc9 encP y5v.2) FA89 y5v.2 s3v.2.2.1]) (rst := [F]) rfl rfl rfl rfl rfl rfl Tryz.call14 (.sel 0 rfl (.sel 0 rfl (.sel 0 rfl (.nil _)))) (snap_List.calls _ _ k b0 y5v.1 y5v.2 s3v.2.2.1 s3v.2.2.2.1 s3v.2.2.2.2.1 s3v.2.2.2.2.2 (hgl.lend 0 rfl)) hs11v) rfl rfl rfl ?_
 intro y12v
 refine va rfl rfl (simL_nil (nrm_then ?_))
 refine sim_block ?_
 refine sim_loop (S := Int × List Int × (List ((List UInt8) × (List UInt8 × Int))) × List UInt8 × Int × Bool) (Option Addr × Nat × Nat × Kps) (fun k s => snap_Keep.l0 x1 k s.1 s.2.1 s.2.2.1 s.2.2.2.1 s.2.2.2.2.1 s.2.2.2.2.2) (fun s y => [(0, .pointer (some ⟨b0, 0, none⟩)), (1, .int .i64 x1), (6, .int .i64 s.1), (8, .slice y.1 s.2.1.length y.2.1)]) (fun s y => [obj b0 76 [.map (some y.2.2.1), str s.2.2.2.1, .int .i64 s.2.2.2.2.1, .bool s.2.2.2.2.2], RowV 3 1 (V3 tt) y.1 s.2.1 y.2.1, mapF (mapO y.2.2.1 enc9 encP y.2.2.2) FA89 y.2.2.2 s.2.2.1, F]) (fun _ => by rw [snap_Keep.l0]) ?_ k (s3v.1, s10v, s3v.2.2.1, s3v.2.2.2.1, s3v.2.2.2.2.1, s3v.2.2.2.2.2) (y12v.1, y12v.2, y5v.1, y5v.2) ⟨rfl, rfl, rfl, rfl, trivial⟩ (.sel 1 rfl (.sel 0 rfl (.sel 0 rfl (.sel 0 rfl (.nil _)))))
 intro k s13v y14v
 refine sim_eq (by rw [snap_Keep.l0]) ?_
 refine sim_seq (sr ?_)
 refine vm rfl rfl ?_
 refine vq (q_len rfl rfl rfl Tryz.underlying23) rfl ?_
 refine vm rfl rfl ?_
 refine vq (q_gtr rfl rfl rfl) rfl (simL_nil (nrm_then ?_))
 refine sim_cond rfl (fun h21v => ?_) (fun h22v => ?_)
 refine sim_skip ?_
 refine nrm_then (sim_seq ?_)
 refine sim_block ?_
 refine sr ?_
 refine vm rfl rfl ?_
 refine simL_openV 1 rfl (fun rs31v hl32v => ?_)
 refine simL_ask (fun hi23v => ?_)
 refine simL_posV 1 rfl hl32v rfl (i := (0 : Int).toNat) (by omega) (0 : Int) (fun b24v b24vo r27v ha25v hV28v hlr29v hcell30v => ?_)
 obtain rfl := hV28v
 refine vq (q_idx rfl rfl rfl ha25v Tryz.underlying23 Tryz.sizeOf3 hi23v.1 hi23v.2) rfl ?_
 refine vq (q_load rfl rfl Tryz.isAgg3 (hcell30v 1 rfl 0 _ rfl)) rfl ?_
 refine simL_bind (fun s33v hs34v => ?_)
 refine simL_eff (re_call (vs := [.int .i64 (s13v.2.1.getD (0 : Int).toNat (0 : Int))]) (cap := []) (A := []) (rst := [obj b0 76 [.map (some y14v.2.2.1), str s13v.2.2.2.1, .int .i64 s13v.2.2.2.2.1, .bool s13v.2.2.2.2.2], Row 3 1 y14v.1 s13v.2.1.length y14v.2.1 rs31v.flatten, mapF (mapO y14v.2.2.1 enc9 encP y14v.2.2.2) FA89 y14v.2.2.2 s13v.2.2.1, F]) rfl rfl rfl rfl rfl rfl Tryz.call11 (.sel 0 rfl (.sel 0 rfl (.sel 0 rfl (.sel 0 rfl (.nil _))))) (snap_Name.calls _ _ (s13v.2.1.getD (0 : Int).toNat (0 : Int)) (hgl.lend 3 rfl)) hs34v) rfl rfl rfl ?_
 intro y35v
 refine vm rfl rfl ?_
 refine vq (q_ext rfl rfl rfl) rfl ?_
 refine vq (q_ext rfl rfl rfl) rfl ?_
 refine va rfl rfl ?_
 refine va rfl rfl (simL_nil (nrm_then (sim_seq (sr ?_))))
 refine vm rfl rfl ?_
 refine vm rfl rfl ?_
 refine simL_bind (fun s36v hs37v => ?_)
 refine simL_eff (re_call (vs := [.pointer (some ⟨b0, 0, none⟩), str s33v.1]) (cap := []) (A := [obj b0 76 [.map (some y14v.2.2.1), str s13v.2.2.2.1, .int .i64 s13v.2.2.2.2.1, .bool s13v.2.2.2.2.2], mapF (mapO y14v.2.2.1 enc9 encP y14v.2.2.2) FA89 y14v.2.2.2 s13v.2.2.1]) (rst := [Row 3 1 y14v.1 s13v.2.1.length y14v.2.1 rs31v.flatten, F]) rfl rfl rfl rfl rfl rfl Tryz.call49 (.sel 0 rfl (.sel 1 rfl (.sel 0 rfl (.sel 0 rfl (.nil _))))) (disk_Disk_Remove.calls _ _ b0 y14v.2.2.1 y14v.2.2.2 s13v.2.2.1 s13v.2.2.2.1 s13v.2.2.2.2.1 s13v.2.2.2.2.2 s33v.1 ) hs37v) rfl rfl rfl ?_
 intro y38v
 refine va rfl rfl (nx ?_)
 refine vm rfl rfl ?_
 refine vq (q_neq rfl rfl rfl) rfl (simL_nil (nrm_then ?_))
 refine sim_condn rfl (fun h39v => ?_) (fun h40v => ?_)
 refine sim_skip ?_
 refine nrm_then (sim_region ?_)
 refine vm rfl rfl ?_
 refine vq (q_add rfl rfl rfl) rfl ?_
 refine va rfl rfl (simL_nil (nrm_block (nrm_then (sim_region ?_))))
 refine vm rfl rfl ?_
 refine simL_lend 2 rfl (fun hq42v hq43v hq44v hq45v => ?_)
 refine simL_ask (fun hb41v => ?_)
 obtain ⟨a46v, c47v, hS48v, hr49v, hc50v, hm51v⟩ := slice_preV (lo := (1 : Int)) (hi := (s13v.2.1.length : Int)) (Rd.asV hl32v hq42v) hq43v hb41v
 refine vq (q_sub_roV (l := s13v.2.1) (lo' := (1 : Int)) (hi' := (s13v.2.1.length : Int)) rfl rfl rfl rfl Tryz.underlying23 Tryz.sizeOf3 (.inl ⟨rfl, rfl⟩) (.inr ⟨_, rfl⟩) hb41v hq43v hS48v) rfl ?_
 refine simL_cutV 2 rfl hl32v hS48v hb41v hq43v ?_
 refine va rfl rfl (simL_nil ?_)
 exact nrm_again (s := (IntKind.i64.wrap (s13v.1 + 1), cut s13v.2.1 (1 : Int) (s13v.2.1.length : Int), s36v.2.1, s36v.2.2.1, s36v.2.2.2.1, s36v.2.2.2.2)) (a46v, c47v, y38v.1, y38v.2) ⟨rfl, rfl, rfl, rfl, trivial⟩ (.sel 0 rfl (.sel 1 rfl (.sel 0 rfl (.sel 0 rfl (.nil _)))))
 refine sr ?_
 refine vm rfl rfl ?_
 refine va rfl rfl ?_
 refine va rfl rfl (simL_nil (nrm_then (sim_rtn ?_)))
 refine rtn_then ?_
 refine rtn_block ?_
 refine rtn_then ?_
 refine rtn_loop ?_
 refine rtn_block ?_
 refine rtn_cutR ?_
 exact rtn_fn (y38v.1, y38v.2) rfl rfl rfl (.sel 0 rfl (.sel 0 rfl (.sel 1 rfl (.nil _))))
 refine sim_exi ?_
 refine exi_then ?_
 refine exi_loop ?_
 refine exi_here ?_
 exact nrm_cutR (s := (s13v.1, s13v.2.2.1, s13v.2.2.2.1, s13v.2.2.2.2.1, s13v.2.2.2.2.2)) (y14v.2.2.1, y14v.2.2.2) ⟨rfl, trivial⟩ (.sel 0 rfl (.sel 1 rfl (.sel 1 rfl (.nil _))))
 intro s8v y9v
 refine sr ?_
 refine vm rfl rfl ?_
 refine va rfl rfl ?_
 refine va rfl rfl (simL_nil (nrm_then (sim_rtn ?_)))
 exact rtn_fn (y9v.1, y9v.2) rfl rfl rfl (.sel 0 rfl (.sel 0 rfl (.sel 0 rfl (.nil _))))
 refine sr ?_
 refine vm rfl rfl ?_
 refine va rfl rfl ?_
 refine va rfl rfl (simL_nil (nrm_then (sim_rtn ?_)))
 refine rtn_then ?_
 exact rtn_fn (y5v.1, y5v.2) rfl rfl rfl (.sel 0 rfl (.sel 0 rfl (.sel 0 rfl (.nil _))))

def synodref_SameBytes.l0 (x0 : List UInt8) (x1 : List UInt8) : Nat → Int → Option ((Unit) ⊕ (Bool))
  | 0, _ => none
  | k + 1, z7v => if z7v < (x0.length : Int) then (if 0 ≤ z7v ∧ z7v < (x0.length : Int) then (if 0 ≤ z7v ∧ z7v < (x1.length : Int) then (if ((x0.getD z7v.toNat 0).toNat : Int) = ((x1.getD z7v.toNat 0).toNat : Int) then (synodref_SameBytes.l0 x0 x1 k (IntKind.i64.wrap (z7v + 1))) else (some (.inr false))) else none) else none) else (some (.inl ()))
def synodref_SameBytes.f (k : Nat) (x0 : List UInt8) (x1 : List UInt8) : Option (Bool) := if (x0.length : Int) = (x1.length : Int) then (orR (synodref_SameBytes.l0 x0 x1 k 0) fun s3v => (some true)) else (some false)
theorem synodref_SameBytes.calls (W : World) (F : HA) (k : Nat) (a0 : Option Addr) (c0 : Nat) (x0 : List UInt8) (a1 : Option Addr) (c1 : Nat) (x1 : List UInt8) (h0 : Rd F a0 (encB x0)) (hc0 : x0.length ≤ c0) (hm0 : c0 ≤ maxLen) (h1 : Rd F a1 (encB x1)) (hc1 : x1.length ≤ c1) (hm1 : c1 ≤ maxLen) :
    Fn Tryz.prog W 33 [.slice a0 x0.length c0, .slice a1 x1.length c1] [] F (synodref_SameBytes.f k x0 x1) (fun (r : Bool) (y : Unit) => .bool r) (fun r y => []) := by
 unfold synodref_SameBytes.f
 refine fn_intro 26 Tryz.func33 rfl Tryz.ntmps33 rfl ?_
 refine sr ?_
 refine va rfl rfl (simL_nil (nrm_then (sim_seq (sr ?_))))
 refine vm rfl rfl ?_
 refine vq (q_len rfl rfl rfl Tryz.underlying25) rfl ?_
 refine vm rfl rfl ?_
 refine vq (q_len rfl rfl rfl Tryz.underlying25) rfl ?_
 refine vq (q_neq rfl rfl rfl) rfl (simL_nil (nrm_then ?_))
 refine sim_condn rfl (fun h1v => ?_) (fun h2v => ?_)
 refine sim_skip ?_
 refine nrm_then ?_
 refine sim_cutR (S := Unit) (Unit) (fun s y => []) (fun s y => [F]) ?_ ?_
 refine sr ?_
 refine va rfl rfl (simL_nil (nrm_then ?_))
 refine sim_block ?_
 refine sim_loop (S := Int) (Unit) (fun k s => synodref_SameBytes.l0 x0 x1 k s) (fun s y => [(0, .slice a0 x0.length c0), (1, .slice a1 x1.length c1), (5, .int .i64 s)]) (fun s y => [F]) (fun _ => by rw [synodref_SameBytes.l0]) ?_ k 0 () ⟨rfl, rfl, rfl, trivial⟩ (.sel 0 rfl (.nil _))
 intro k s5v y6v
 refine sim_eq (by rw [synodref_SameBytes.l0]) ?_
 refine sim_seq (sr ?_)
 refine vm rfl rfl ?_
 refine vm rfl rfl ?_
 refine vq (q_len rfl rfl rfl Tryz.underlying25) rfl ?_
 refine vq (q_lss rfl rfl rfl) rfl (simL_nil (nrm_then ?_))
 refine sim_cond rfl (fun h8v => ?_) (fun h9v => ?_)
 refine sim_skip ?_
 refine nrm_then (sim_seq ?_)
 refine sim_block ?_
 refine sim_seq ?_
 refine sim_ask (fun hi10v => ?_)
 obtain ⟨b11v, b11vo, ha12v⟩ := h0.pos (encB_ne (j := s5v.toNat) (by omega))
 refine sim_ask (fun hi14v => ?_)
 obtain ⟨b15v, b15vo, ha16v⟩ := h1.pos (encB_ne (j := s5v.toNat) (by omega))
 refine sim_draw (Γ := Unit) () [[], [], [0, 1], [0, 1, 2], [], [], [4, 5], [4, 5, 6], rL 8] [] [0, 1, 2, 3, 4, 5, 6, 7, 8] (fun i => [[0], [0], [0], [0], [0], [0], [0], [0], [0]].getD i []) (fun i => [[], [], [], [], [], [], [], [], []].getD i []) (fun γ i => [.slice a0 x0.length c0, .int .i64 s5v, .pointer (some ⟨b11v, b11vo + s5v.toNat, none⟩), .int .u8 ((x0.getD s5v.toNat 0).toNat : Int), .slice a1 x1.length c1, .int .i64 s5v, .pointer (some ⟨b15v, b15vo + s5v.toNat, none⟩), .int .u8 ((x1.getD s5v.toNat 0).toNat : Int), .bool (!decide (((x0.getD s5v.toNat 0).toNat : Int) = ((x1.getD s5v.toNat 0).toNat : Int)))].getD i undef) (fun j γ => [[F]].getD j []) (fun γ => [(0, .slice a0 x0.length c0), (1, .slice a1 x1.length c1), (5, .int .i64 s5v), (25, .bool (!decide (((x0.getD s5v.toNat 0).toNat : Int) = ((x1.getD s5v.toNat 0).toNat : Int))))]) mixed (by decide) (by decide) (by decide) (by decide) (by decide) (by decide) (by decide) 26 rfl (by decide) (by decide) (by decide) (Ent.refl _) ?_ ?_ (fun _ => ⟨rfl, rfl, rfl, rfl, trivial⟩) ?_
 exact (aq rfl (fun γ => qm rfl (.o (s := 0) rfl (by decide) .nil) rfl) (aq rfl (fun γ => qm rfl (.o (s := 5) rfl (by decide) .nil) rfl) (aq rfl (fun γ => qp rfl rfl (.v 0 rfl rfl (.v 1 rfl rfl .nil)) (q_idx1 rfl rfl rfl ha12v Tryz.underlying25 Tryz.sizeOf5 hi10v.1 hi10v.2) rfl) (aq rfl (fun γ => qp rfl rfl (.v 2 rfl rfl .nil) (q_load rfl rfl Tryz.isAgg5 (h0.cell 0 rfl ha12v (encB_get (by omega)))) rfl) (aq rfl (fun γ => qm rfl (.o (s := 1) rfl (by decide) .nil) rfl) (aq rfl (fun γ => qm rfl (.o (s := 5) rfl (by decide) .nil) rfl) (aq rfl (fun γ => qp rfl rfl (.v 4 rfl rfl (.v 5 rfl rfl .nil)) (q_idx1 rfl rfl rfl ha16v Tryz.underlying25 Tryz.sizeOf5 hi14v.1 hi14v.2) rfl) (aq rfl (fun γ => qp rfl rfl (.v 6 rfl rfl .nil) (q_load rfl rfl Tryz.isAgg5 (h1.cell 0 rfl ha16v (encB_get (by omega)))) rfl) (aq rfl (fun γ => qp rfl rfl (.v 3 rfl rfl (.v 7 rfl rfl .nil)) (q_neq rfl rfl rfl) rfl) zA)))))))))
 exact zA
 intro g18v
 refine nrm_then ?_
 refine sim_condn rfl (fun h19v => ?_) (fun h20v => ?_)
 refine sim_skip ?_
 refine nrm_block (nrm_then (sim_region ?_))
 refine vm rfl rfl ?_
 refine vq (q_add rfl rfl rfl) rfl ?_
 refine va rfl rfl (simL_nil ?_)
 exact nrm_again (s := IntKind.i64.wrap (s5v + 1)) () ⟨rfl, rfl, rfl, trivial⟩ (.sel 0 rfl (.nil _))
 refine sr ?_
 refine va rfl rfl (simL_nil (nrm_then (sim_rtn ?_)))
 refine rtn_block ?_
 refine rtn_then ?_
 refine rtn_loop ?_
 refine rtn_block ?_
 refine rtn_cutR ?_
 exact rtn_fn () rfl rfl rfl (.sel 0 rfl (.nil _))
 refine sim_exi ?_
 refine exi_then ?_
 refine exi_loop ?_
 refine exi_here ?_
 exact nrm_cutR (s := ()) () trivial (.sel 0 rfl (.nil _))
 intro s3v y4v
 refine sr ?_
 refine va rfl rfl (simL_nil (nrm_then (sim_rtn ?_)))
 exact rtn_fn () rfl rfl rfl (.sel 0 rfl (.nil _))
 refine sr ?_
 refine va rfl rfl (simL_nil (nrm_then (sim_rtn ?_)))
 refine rtn_then ?_
 exact rtn_fn () rfl rfl rfl (.sel 0 rfl (.nil _))

def synodref_SameSnap.f (k : Nat) (x0_0 : Int) (x0_1 : Int) (x0_2 : List UInt8) (x1_0 : Int) (x1_1 : Int) (x1_2 : List UInt8) : Option (Bool) := (synodref_SameBytes.f k x0_2 x1_2).bind fun s3v => (some ((s3v && (decide (x0_0 = x1_0))) && (decide (x0_1 = x1_1))))
theorem synodref_SameSnap.calls (W : World) (F : HA) (k : Nat) (x0_0 : Int) (x0_1 : Int) (a0_2 : Option Addr) (c0_2 : Nat) (x0_2 : List UInt8) (x1_0 : Int) (x1_1 : Int) (a1_2 : Option Addr) (c1_2 : Nat) (x1_2 : List UInt8) (h0_2 : Rd F a0_2 (encB x0_2)) (hc0_2 : x0_2.length ≤ c0_2) (hm0_2 : c0_2 ≤ maxLen) (h1_2 : Rd F a1_2 (encB x1_2)) (hc1_2 : x1_2.length ≤ c1_2) (hm1_2 : c1_2 ≤ maxLen) :
    Fn Tryz.prog W 18 [.agg #[.int .i64 x0_0, .int .i64 x0_1, .slice a0_2 x0_2.length c0_2], .agg #[.int .i64 x1_0, .int .i64 x1_1, .slice a1_2 x1_2.length c1_2]] [] F (synodref_SameSnap.f k x0_0 x0_1 x0_2 x1_0 x1_1 x1_2) (fun (r : Bool) (y : Unit) => .bool r) (fun r y => []) := by
 unfold synodref_SameSnap.f
 refine fn_intro 26 Tryz.func18 rfl Tryz.ntmps18 rfl ?_
 refine sr ?_
 refine simL_eff (re_box rfl rfl rfl) rfl rfl rfl ?_
 intro b1v
 refine simL_eff (re_box rfl rfl rfl) rfl rfl rfl ?_
 intro b2v
 refine va rfl rfl (nx ?_)
 refine vq (q_fa rfl rfl Tryz.underlying27 rfl rfl Tryz.sizeOf25 rfl) rfl ?_
 refine vq (q_load rfl rfl Tryz.isAgg25 (.obj 1 rfl rfl)) rfl ?_
 refine vq (q_fa rfl rfl Tryz.underlying27 rfl rfl Tryz.sizeOf25 rfl) rfl ?_
 refine vq (q_load rfl rfl Tryz.isAgg25 (.obj 0 rfl rfl)) rfl ?_
 refine simL_bind (fun s3v hs4v => ?_)
 refine simL_eff (re_call (vs := [.slice a0_2 x0_2.length c0_2, .slice a1_2 x1_2.length c1_2]) (cap := []) (A := []) (rst := [obj b2v 27 [.int .i64 x1_0, .int .i64 x1_1, .slice a1_2 x1_2.length c1_2], obj b1v 27 [.int .i64 x0_0, .int .i64 x0_1, .slice a0_2 x0_2.length c0_2], F]) rfl rfl rfl rfl rfl rfl Tryz.call33 (.sel 0 rfl (.sel 0 rfl (.sel 0 rfl (.nil _)))) (synodref_SameBytes.calls _ _ k a0_2 c0_2 x0_2 a1_2 c1_2 x1_2 (h0_2.lend 2 rfl) hc0_2 hm0_2 (h1_2.lend 2 rfl) hc1_2 hm1_2) hs4v) rfl rfl rfl ?_
 intro y5v
 refine va rfl rfl (nx ?_)
 refine vm rfl rfl ?_
 refine vm rfl rfl ?_
 refine simL_valc (b := s3v) (fun hb15v => RQ.sub (E' := [(2, .pointer (some ⟨b1v, 0, none⟩))]) ⟨rfl, trivial⟩ (q_fa rfl rfl Tryz.underlying27 rfl rfl Tryz.sizeOf3 rfl)) rfl rfl rfl rfl rfl ?_
 refine simL_valc (b := s3v) (fun hb14v => RQ.sub (E' := [(13, .pointer (some ⟨b1v, 0, none⟩))]) ⟨lk_cv rfl hb14v, trivial⟩ (q_load rfl rfl Tryz.isAgg3 (.obj 1 rfl rfl))) rfl rfl rfl rfl rfl ?_
 refine simL_valc (b := s3v) (fun hb13v => RQ.sub (E' := [(3, .pointer (some ⟨b2v, 0, none⟩))]) ⟨rfl, trivial⟩ (q_fa rfl rfl Tryz.underlying27 rfl rfl Tryz.sizeOf3 rfl)) rfl rfl rfl rfl rfl ?_
 refine simL_valc (b := s3v) (fun hb12v => RQ.sub (E' := [(15, .pointer (some ⟨b2v, 0, none⟩))]) ⟨lk_cv rfl hb12v, trivial⟩ (q_load rfl rfl Tryz.isAgg3 (.obj 0 rfl rfl))) rfl rfl rfl rfl rfl ?_
 refine simL_valc (b := s3v) (fun hb11v => RQ.sub (E' := [(14, .int .i64 x0_0), (16, .int .i64 x1_0)]) ⟨lk_cv rfl hb11v, lk_cv rfl hb11v, trivial⟩ (q_eql rfl rfl rfl)) rfl rfl rfl rfl rfl ?_
 refine vq (q_and rfl rfl rfl) rfl ?_
 refine vm rfl rfl ?_
 refine simL_valc (b := s3v && (decide (x0_0 = x1_0))) (fun hb10v => RQ.sub (E' := [(2, .pointer (some ⟨b1v, 0, none⟩))]) ⟨rfl, trivial⟩ (q_fa rfl rfl Tryz.underlying27 rfl rfl Tryz.sizeOf3 rfl)) rfl rfl rfl rfl rfl ?_
 refine simL_valc (b := s3v && (decide (x0_0 = x1_0))) (fun hb9v => RQ.sub (E' := [(20, .pointer (some ⟨b1v, 1, none⟩))]) ⟨lk_cv rfl hb9v, trivial⟩ (q_load rfl rfl Tryz.isAgg3 (.obj 1 rfl rfl))) rfl rfl rfl rfl rfl ?_
 refine simL_valc (b := s3v && (decide (x0_0 = x1_0))) (fun hb8v => RQ.sub (E' := [(3, .pointer (some ⟨b2v, 0, none⟩))]) ⟨rfl, trivial⟩ (q_fa rfl rfl Tryz.underlying27 rfl rfl Tryz.sizeOf3 rfl)) rfl rfl rfl rfl rfl ?_
 refine simL_valc (b := s3v && (decide (x0_0 = x1_0))) (fun hb7v => RQ.sub (E' := [(22, .pointer (some ⟨b2v, 1, none⟩))]) ⟨lk_cv rfl hb7v, trivial⟩ (q_load rfl rfl Tryz.isAgg3 (.obj 0 rfl rfl))) rfl rfl rfl rfl rfl ?_
 refine simL_valc (b := s3v && (decide (x0_0 = x1_0))) (fun hb6v => RQ.sub (E' := [(21, .int .i64 x0_1), (23, .int .i64 x1_1)]) ⟨lk_cv rfl hb6v, lk_cv rfl hb6v, trivial⟩ (q_eql rfl rfl rfl)) rfl rfl rfl rfl rfl ?_
 refine vq (q_and rfl rfl rfl) rfl ?_
 refine va rfl rfl (simL_nil (nrm_then (sim_rtn ?_)))
 exact rtn_fn () rfl rfl rfl (.sel 2 rfl (.nil _))

def synodref_SameInts.l0 (x0 : List Int) (x1 : List Int) : Nat → Int → Option ((Unit) ⊕ (Bool))
  | 0, _ => none
  | k + 1, z7v => if z7v < (x0.length : Int) then (if 0 ≤ z7v ∧ z7v < (x0.length : Int) then (if 0 ≤ z7v ∧ z7v < (x1.length : Int) then (if (x0.getD z7v.toNat (0 : Int)) = (x1.getD z7v.toNat (0 : Int)) then (synodref_SameInts.l0 x0 x1 k (IntKind.i64.wrap (z7v + 1))) else (some (.inr false))) else none) else none) else (some (.inl ()))
def synodref_SameInts.f (k : Nat) (x0 : List Int) (x1 : List Int) : Option (Bool) := if (x0.length : Int) = (x1.length : Int) then (orR (synodref_SameInts.l0 x0 x1 k 0) fun s3v => (some true)) else (some false)
theorem synodref_SameInts.calls (W : World) (F : HA) (k : Nat) (a0 : Option Addr) (c0 : Nat) (x0 : List Int) (a1 : Option Addr) (c1 : Nat) (x1 : List Int) (h0 : RdV F 1 (V3 tt) a0 x0) (hc0 : x0.length ≤ c0) (hm0 : c0 ≤ maxLen) (h1 : RdV F 1 (V3 tt) a1 x1) (hc1 : x1.length ≤ c1) (hm1 : c1 ≤ maxLen) :
    Fn Tryz.prog W 17 [.slice a0 x0.length c0, .slice a1 x1.length c1] [] F (synodref_SameInts.f k x0 x1) (fun (r : Bool) (y : Unit) => .bool r) (fun r y => []) := by
 unfold synodref_SameInts.f
 refine fn_intro 26 Tryz.func17 rfl Tryz.ntmps17 rfl ?_
 refine sr ?_
 refine va rfl rfl (simL_nil (nrm_then (sim_seq (sr ?_))))
 refine vm rfl rfl ?_
 refine vq (q_len rfl rfl rfl Tryz.underlying23) rfl ?_
 refine vm rfl rfl ?_
 refine vq (q_len rfl rfl rfl Tryz.underlying23) rfl ?_
 refine vq (q_neq rfl rfl rfl) rfl (simL_nil (nrm_then ?_))
 refine sim_condn rfl (fun h1v => ?_) (fun h2v => ?_)
 refine sim_skip ?_
 refine nrm_then ?_
 refine sim_cutR (S := Unit) (Unit) (fun s y => []) (fun s y => [F]) ?_ ?_
 refine sr ?_
 refine va rfl rfl (simL_nil (nrm_then ?_))
 refine sim_block ?_
 refine sim_loop (S := Int) (Unit) (fun k s => synodref_SameInts.l0 x0 x1 k s) (fun s y => [(0, .slice a0 x0.length c0), (1, .slice a1 x1.length c1), (5, .int .i64 s)]) (fun s y => [F]) (fun _ => by rw [synodref_SameInts.l0]) ?_ k 0 () ⟨rfl, rfl, rfl, trivial⟩ (.sel 0 rfl (.nil _))
 intro k s5v y6v
 refine sim_eq (by rw [synodref_SameInts.l0]) ?_
 refine sim_seq (sr ?_)
 refine vm rfl rfl ?_
 refine vm rfl rfl ?_
 refine vq (q_len rfl rfl rfl Tryz.underlying23) rfl ?_
 refine vq (q_lss rfl rfl rfl) rfl (simL_nil (nrm_then ?_))
 refine sim_cond rfl (fun h8v => ?_) (fun h9v => ?_)
 refine sim_skip ?_
 refine nrm_then (sim_seq ?_)
 refine sim_block ?_
 refine sim_seq ?_
 refine sim_ask (fun hi10v => ?_)
 obtain ⟨b11v, b11vo, r14v, ha12v, hV15v, hlr16v, hcell17v⟩ := RdV.pos h0 (Up.refl _) rfl (i := s5v.toNat) (by omega) (0 : Int)
 obtain rfl := hV15v
 refine sim_ask (fun hi18v => ?_)
 obtain ⟨b19v, b19vo, r22v, ha20v, hV23v, hlr24v, hcell25v⟩ := RdV.pos h1 (Up.refl _) rfl (i := s5v.toNat) (by omega) (0 : Int)
 obtain rfl := hV23v
 refine sim_draw (Γ := Unit) () [[], [], [0, 1], [0, 1, 2], [], [], [4, 5], [4, 5, 6], rL 8] [] [0, 1, 2, 3, 4, 5, 6, 7, 8] (fun i => [[0], [0], [0], [0], [0], [0], [0], [0], [0]].getD i []) (fun i => [[], [], [], [], [], [], [], [], []].getD i []) (fun γ i => [.slice a0 x0.length c0, .int .i64 s5v, .pointer (some ⟨b11v, b11vo + s5v.toNat * 1, none⟩), .int .i64 (x0.getD s5v.toNat (0 : Int)), .slice a1 x1.length c1, .int .i64 s5v, .pointer (some ⟨b19v, b19vo + s5v.toNat * 1, none⟩), .int .i64 (x1.getD s5v.toNat (0 : Int)), .bool (!decide ((x0.getD s5v.toNat (0 : Int)) = (x1.getD s5v.toNat (0 : Int))))].getD i undef) (fun j γ => [[F]].getD j []) (fun γ => [(0, .slice a0 x0.length c0), (1, .slice a1 x1.length c1), (5, .int .i64 s5v), (25, .bool (!decide ((x0.getD s5v.toNat (0 : Int)) = (x1.getD s5v.toNat (0 : Int)))))]) mixed (by decide) (by decide) (by decide) (by decide) (by decide) (by decide) (by decide) 26 rfl (by decide) (by decide) (by decide) (Ent.refl _) ?_ ?_ (fun _ => ⟨rfl, rfl, rfl, rfl, trivial⟩) ?_
 exact (aq rfl (fun γ => qm rfl (.o (s := 0) rfl (by decide) .nil) rfl) (aq rfl (fun γ => qm rfl (.o (s := 5) rfl (by decide) .nil) rfl) (aq rfl (fun γ => qp rfl rfl (.v 0 rfl rfl (.v 1 rfl rfl .nil)) (q_idx rfl rfl rfl ha12v Tryz.underlying23 Tryz.sizeOf3 hi10v.1 hi10v.2) rfl) (aq rfl (fun γ => qp rfl rfl (.v 2 rfl rfl .nil) (q_load rfl rfl Tryz.isAgg3 (hcell17v 0 rfl 0 _ rfl)) rfl) (aq rfl (fun γ => qm rfl (.o (s := 1) rfl (by decide) .nil) rfl) (aq rfl (fun γ => qm rfl (.o (s := 5) rfl (by decide) .nil) rfl) (aq rfl (fun γ => qp rfl rfl (.v 4 rfl rfl (.v 5 rfl rfl .nil)) (q_idx rfl rfl rfl ha20v Tryz.underlying23 Tryz.sizeOf3 hi18v.1 hi18v.2) rfl) (aq rfl (fun γ => qp rfl rfl (.v 6 rfl rfl .nil) (q_load rfl rfl Tryz.isAgg3 (hcell25v 0 rfl 0 _ rfl)) rfl) (aq rfl (fun γ => qp rfl rfl (.v 3 rfl rfl (.v 7 rfl rfl .nil)) (q_neq rfl rfl rfl) rfl) zA)))))))))
 exact zA
 intro g26v
 refine nrm_then ?_
 refine sim_condn rfl (fun h27v => ?_) (fun h28v => ?_)
 refine sim_skip ?_
 refine nrm_block (nrm_then (sim_region ?_))
 refine vm rfl rfl ?_
 refine vq (q_add rfl rfl rfl) rfl ?_
 refine va rfl rfl (simL_nil ?_)
 exact nrm_again (s := IntKind.i64.wrap (s5v + 1)) () ⟨rfl, rfl, rfl, trivial⟩ (.sel 0 rfl (.nil _))
 refine sr ?_
 refine va rfl rfl (simL_nil (nrm_then (sim_rtn ?_)))
 refine rtn_block ?_
 refine rtn_then ?_
 refine rtn_loop ?_
 refine rtn_block ?_
 refine rtn_cutR ?_
 exact rtn_fn () rfl rfl rfl (.sel 0 rfl (.nil _))
 refine sim_exi ?_
 refine exi_then ?_
 refine exi_loop ?_
 refine exi_here ?_
 exact nrm_cutR (s := ()) () trivial (.sel 0 rfl (.nil _))
 intro s3v y4v
 refine sr ?_
 refine va rfl rfl (simL_nil (nrm_then (sim_rtn ?_)))
 exact rtn_fn () rfl rfl rfl (.sel 0 rfl (.nil _))
 refine sr ?_
 refine va rfl rfl (simL_nil (nrm_then (sim_rtn ?_)))
 refine rtn_then ?_
 exact rtn_fn () rfl rfl rfl (.sel 0 rfl (.nil _))

def synodlaw6_SnapBeside.l3 (s179v : List (Ty71)) (s347v : List (Ty71)) : Nat → Int → Int → Option ((Int) ⊕ (Bool))
  | 0, _, _ => none
  | k + 1, z354v, z355v => if z355v < (s347v.length : Int) then (if 0 ≤ z355v ∧ z355v < (s347v.length : Int) then ((snap_Index.f ((s347v.getD z355v.toNat dz71).1)).bind fun s373v => ((if s373v.2 = true then (some true) else (if 0 ≤ z355v ∧ z355v < (s347v.length : Int) then (some (decide (((s347v.getD z355v.toNat dz71).1) = ([115, 110, 97, 112, 46, 116, 109, 112] : List UInt8)))) else none)).bind fun s376v => (if s376v = true then (synodlaw6_SnapBeside.l3 s179v s347v k z354v (IntKind.i64.wrap (z355v + 1))) else ((if (s179v.length : Int) ≤ z354v then (some true) else (if 0 ≤ z355v ∧ z355v < (s347v.length : Int) then (if 0 ≤ z354v ∧ z354v < (s179v.length : Int) then (if ((s347v.getD z355v.toNat dz71).1) = ((s179v.getD z354v.toNat dz71).1) then (if 0 ≤ z355v ∧ z355v < (s347v.length : Int) then (if 0 ≤ z354v ∧ z354v < (s179v.length : Int) then (if (s347v.getD z355v.toNat dz71).2.2 = (s179v.getD z354v.toNat dz71).2.2 then (if 0 ≤ z355v ∧ z355v < (s347v.length : Int) then (if 0 ≤ z354v ∧ z354v < (s179v.length : Int) then ((synodref_SameBytes.f k ((s347v.getD z355v.toNat dz71).2.1) ((s179v.getD z354v.toNat dz71).2.1)).bind fun s485v => (some (!s485v))) else none) else none) else (some true)) else none) else none) else (some true)) else none) else none)).bind fun s395v => (if s395v = true then (some (.inr false)) else (synodlaw6_SnapBeside.l3 s179v s347v k (IntKind.i64.wrap (z354v + 1)) (IntKind.i64.wrap (z355v + 1)))))))) else none) else (some (.inl z354v))
def synodlaw6_SnapBeside.l2 (x0 : List (Ty54)) : Nat → Int → List ((List UInt8) × (List UInt8 × Int)) → List UInt8 → Int → Bool → List ((List UInt8) × (List UInt8 × Int)) → List UInt8 → Int → Bool → Option ((List ((List UInt8) × (List UInt8 × Int))) × List UInt8 × Int × Bool × (List ((List UInt8) × (List UInt8 × Int))) × List UInt8 × Int × Bool)
  | 0, _, _, _, _, _, _, _, _, _ => none
  | k + 1, z186v, z187v, z188v, z189v, z190v, z191v, z192v, z193v, z194v => if z186v < (x0.length : Int) then (if 0 ≤ z186v ∧ z186v < (x0.length : Int) then (if (x0.getD z186v.toNat dz54).1 = (0 : Int) then (if 0 ≤ z186v ∧ z186v < (x0.length : Int) then ((snap_Save.f k z187v z188v z189v z190v ((x0.getD z186v.toNat dz54).2.2.1) ((x0.getD z186v.toNat dz54).2.2.2.1) ((x0.getD z186v.toNat dz54).2.2.2.2.1)).bind fun s235v => (if 0 ≤ z186v ∧ z186v < (x0.length : Int) then ((snap_Save.f k z191v z192v z193v z194v ((x0.getD z186v.toNat dz54).2.2.1) ((x0.getD z186v.toNat dz54).2.2.2.1) ((x0.getD z186v.toNat dz54).2.2.2.2.1)).bind fun s256v => (synodlaw6_SnapBeside.l2 x0 k (IntKind.i64.wrap (z186v + 1)) s235v.2.1 s235v.2.2.1 s235v.2.2.2.1 s235v.2.2.2.2 s256v.2.1 s256v.2.2.1 s256v.2.2.2.1 s256v.2.2.2.2)) else none)) else none) else (if (x0.getD z186v.toNat dz54).1 = (1 : Int) then (if 0 ≤ z186v ∧ z186v < (x0.length : Int) then ((snap_Keep.f k z187v z188v z189v z190v ((x0.getD z186v.toNat dz54).2.1)).bind fun s279v => (if 0 ≤ z186v ∧ z186v < (x0.length : Int) then ((snap_Keep.f k z191v z192v z193v z194v ((x0.getD z186v.toNat dz54).2.1)).bind fun s300v => (synodlaw6_SnapBeside.l2 x0 k (IntKind.i64.wrap (z186v + 1)) s279v.2.2.1 s279v.2.2.2.1 s279v.2.2.2.2.1 s279v.2.2.2.2.2 s300v.2.2.1 s300v.2.2.2.1 s300v.2.2.2.2.1 s300v.2.2.2.2.2)) else none)) else none) else (synodlaw6_SnapBeside.l2 x0 k (IntKind.i64.wrap (z186v + 1)) z187v z188v z189v z190v z191v z192v z193v z194v))) else none) else (some (z187v, z188v, z189v, z190v, z191v, z192v, z193v, z194v))
def synodlaw6_SnapBeside.l1 (x1 : List (Ty52)) : Nat → Int → List ((List UInt8) × (List UInt8 × Int)) → List UInt8 → Int → Bool → Option ((List ((List UInt8) × (List UInt8 × Int))) × List UInt8 × Int × Bool)
  | 0, _, _, _, _, _ => none
  | k + 1, z56v, z57v, z58v, z59v, z60v => if z56v < (x1.length : Int) then (if 0 ≤ z56v ∧ z56v < (x1.length : Int) then ((snap_Index.f ((x1.getD z56v.toNat dz52).2.2.1)).bind fun s76v => ((if s76v.2 = true then (some true) else (if 0 ≤ z56v ∧ z56v < (x1.length : Int) then (some (decide (((x1.getD z56v.toNat dz52).2.2.1) = ([115, 110, 97, 112, 46, 116, 109, 112] : List UInt8)))) else none)).bind fun s79v => (if s79v = true then (synodlaw6_SnapBeside.l1 x1 k (IntKind.i64.wrap (z56v + 1)) z57v z58v z59v z60v) else (if 0 ≤ z56v ∧ z56v < (x1.length : Int) then (if (x1.getD z56v.toNat dz52).1 = (0 : Int) then (if 0 ≤ z56v ∧ z56v < (x1.length : Int) then ((disk_Disk_Create.f k z57v z58v z59v z60v ((x1.getD z56v.toNat dz52).2.2.1)).bind fun s126v => (synodlaw6_SnapBeside.l1 x1 k (IntKind.i64.wrap (z56v + 1)) s126v.2.1 s126v.2.2.1 s126v.2.2.2.1 s126v.2.2.2.2)) else none) else (if (x1.getD z56v.toNat dz52).1 = (1 : Int) then (if 0 ≤ z56v ∧ z56v < (x1.length : Int) then (if 0 ≤ z56v ∧ z56v < (x1.length : Int) then ((disk_Disk_Append.f z57v z58v z59v z60v ((x1.getD z56v.toNat dz52).2.2.1) ((x1.getD z56v.toNat dz52).2.2.2.2)).bind fun s157v => (synodlaw6_SnapBeside.l1 x1 k (IntKind.i64.wrap (z56v + 1)) s157v.2.1 s157v.2.2.1 s157v.2.2.2.1 s157v.2.2.2.2)) else none) else none) else (if (x1.getD z56v.toNat dz52).1 = (2 : Int) then (if 0 ≤ z56v ∧ z56v < (x1.length : Int) then ((disk_Disk_Sync.f z57v z58v z59v z60v ((x1.getD z56v.toNat dz52).2.2.1)).bind fun s176v => (synodlaw6_SnapBeside.l1 x1 k (IntKind.i64.wrap (z56v + 1)) s176v.2.1 s176v.2.2.1 s176v.2.2.2.1 s176v.2.2.2.2)) else none) else (synodlaw6_SnapBeside.l1 x1 k (IntKind.i64.wrap (z56v + 1)) z57v z58v z59v z60v)))) else none)))) else none) else (some (z57v, z58v, z59v, z60v))
def synodlaw6_SnapBeside.l0 (x1 : List (Ty52)) : Nat → Int → Int → Option (Int)
  | 0, _, _ => none
  | k + 1, z11v, z12v => if ((decide (z12v < (x1.length : Int))) && (decide (z12v < (100 : Int)))) = true then (if 0 ≤ z12v ∧ z12v < (x1.length : Int) then (if 0 ≤ z12v ∧ z12v < (x1.length : Int) then (synodlaw6_SnapBeside.l0 x1 k (min (IntKind.i64.wrap ((IntKind.i64.wrap (z11v + (min (((x1.getD z12v.toNat dz52).2.2.2.2).length : Int) (20000 : Int)))) + (min (((x1.getD z12v.toNat dz52).2.2.1).length : Int) (20000 : Int)))) (40000 : Int)) (IntKind.i64.wrap (z12v + 1))) else none) else none) else (some z11v)
def synodlaw6_SnapBeside.f (k : Nat) (x0 : List (Ty54)) (x1 : List (Ty52)) : Option (Bool) := (synodlaw6_first.f k).bind fun s1v => ((synodlaw6_few.f k x0).bind fun s4v => ((synodlaw6_SnapBeside.l0 x1 k 0 0).bind fun s7v => (if ((((!s1v) || (!s4v)) || (decide ((100 : Int) < (x1.length : Int)))) || (decide ((20000 : Int) < s7v))) = true then (some s1v) else ((disk_New.f).bind fun s46v => ((disk_New.f).bind fun s49v => ((synodlaw6_SnapBeside.l1 x1 k 0 s46v.1 s46v.2.1 s46v.2.2.1 s46v.2.2.2).bind fun s52v => ((disk_Disk_Files.f k s52v.1 s52v.2.1 s52v.2.2.1 s52v.2.2.2).bind fun s179v => ((synodlaw6_SnapBeside.l2 x0 k 0 s52v.1 s52v.2.1 s52v.2.2.1 s52v.2.2.2 s49v.1 s49v.2.1 s49v.2.2.1 s49v.2.2.2).bind fun s182v => ((snap_Load.f k s182v.1 s182v.2.1 s182v.2.2.1 s182v.2.2.2.1).bind fun s303v => ((snap_Load.f k s182v.2.2.2.2.1 s182v.2.2.2.2.2.1 s182v.2.2.2.2.2.2.1 s182v.2.2.2.2.2.2.2).bind fun s307v => ((synodref_SameSnap.f k s303v.1 s303v.2.1 s303v.2.2.1 s307v.1 s307v.2.1 s307v.2.2.1).bind fun s319v => ((if s319v = true then ((snap_List.f k s182v.1 s182v.2.1 s182v.2.2.1 s182v.2.2.2.1).bind fun s324v => ((snap_List.f k s182v.2.2.2.2.1 s182v.2.2.2.2.2.1 s182v.2.2.2.2.2.2.1 s182v.2.2.2.2.2.2.2).bind fun s327v => ((synodref_SameInts.f k s324v s327v).bind fun s342v => (some s342v)))) else (some false)).bind fun s322v => ((disk_Disk_Files.f k s182v.1 s182v.2.1 s182v.2.2.1 s182v.2.2.2.1).bind fun s347v => (orR (synodlaw6_SnapBeside.l3 s179v s347v k 0 0) fun s350v => (some (((s322v && (decide (s303v.2.2.2.1 = s307v.2.2.2.1))) && (decide (s303v.2.2.2.2 = s307v.2.2.2.2))) && (decide (s350v = (s179v.length : Int)))))))))))))))))))
theorem synodlaw6_SnapBeside.calls (W : World) (F : HA) (k : Nat) (a0 : Option Addr) (c0 : Nat) (x0 : List (Ty54)) (a1 : Option Addr) (c1 : Nat) (x1 : List (Ty52)) (h0 : RdV F 10 (V54 F) a0 x0) (hc0 : x0.length ≤ c0) (hm0 : c0 ≤ maxLen) (h1 : RdV F 5 (V52 F) a1 x1) (hc1 : x1.length ≤ c1) (hm1 : c1 ≤ maxLen) (hgl : Glb Tryz.prog F) :
    Fn Tryz.prog W 7 [.slice a0 x0.length c0, .slice a1 x1.length c1] [] F (synodlaw6_SnapBeside.f k x0 x1) (fun (r : Bool) (y : Unit) => .bool r) (fun r y => []) := by
 unfold synodlaw6_SnapBeside.f
 refine fn_intro 294 Tryz.func7 rfl Tryz.ntmps7 rfl ?_
 refine sr ?_
 refine va rfl rfl (nx ?_)
 refine simL_bind (fun s1v hs2v => ?_)
 refine simL_eff (re_call (vs := []) (cap := []) (A := []) (rst := [F]) rfl rfl rfl rfl rfl rfl Tryz.call8 (.sel 0 rfl (.nil _)) (synodlaw6_first.calls _ _ k  (hgl.lend 0 rfl)) hs2v) rfl rfl rfl ?_
 intro y3v
 refine va rfl rfl (nx ?_)
 refine vm rfl rfl ?_
 refine simL_bind (fun s4v hs5v => ?_)
 refine simL_eff (re_call (vs := [.slice a0 x0.length c0]) (cap := []) (A := []) (rst := [F]) rfl rfl rfl rfl rfl rfl Tryz.call19 (.sel 0 rfl (.nil _)) (synodlaw6_few.calls _ _ k a0 c0 x0 (h0.up (Up.lend 0 rfl) (V54.up (Up.lend 0 rfl))) hc0 hm0) hs5v) rfl rfl rfl ?_
 intro y6v
 refine va rfl rfl (nx ?_)
 refine va rfl rfl (simL_nil (nrm_then ?_))
 refine sim_cut (S := Int) (Unit) (fun s y => [(0, .slice a0 x0.length c0), (1, .slice a1 x1.length c1), (5, .bool s1v), (6, .bool s4v), (7, .int .i64 s)]) (fun s y => [F]) ?_ ?_
 refine sr ?_
 refine va rfl rfl (simL_nil (nrm_then ?_))
 refine sim_block ?_
 refine sim_loop (S := Int × Int) (Unit) (fun k s => synodlaw6_SnapBeside.l0 x1 k s.1 s.2) (fun s y => [(0, .slice a0 x0.length c0), (1, .slice a1 x1.length c1), (5, .bool s1v), (6, .bool s4v), (7, .int .i64 s.1), (8, .int .i64 s.2)]) (fun s y => [F]) (fun _ => by rw [synodlaw6_SnapBeside.l0]) ?_ k (0, 0) () ⟨rfl, rfl, rfl, rfl, rfl, rfl, trivial⟩ (.sel 0 rfl (.nil _))
 intro k s9v y10v
 refine sim_eq (by rw [synodlaw6_SnapBeside.l0]) ?_
 refine sim_seq (sr ?_)
 refine vm rfl rfl ?_
 refine vm rfl rfl ?_
 refine vq (q_len rfl rfl rfl Tryz.underlying66) rfl ?_
 refine vq (q_lss rfl rfl rfl) rfl ?_
 refine vm rfl rfl ?_
 refine simL_valc (b := decide (s9v.2 < (x1.length : Int))) (fun hb43v => RQ.sub (E' := [(8, .int .i64 s9v.2)]) ⟨rfl, trivial⟩ (q_move rfl rfl)) rfl rfl rfl rfl rfl ?_
 refine simL_valc (b := decide (s9v.2 < (x1.length : Int))) (fun hb42v => RQ.sub (E' := [(36, .int .i64 s9v.2)]) ⟨lk_cv rfl hb42v, trivial⟩ (q_lss rfl rfl rfl)) rfl rfl rfl rfl rfl ?_
 refine vq (q_and rfl rfl rfl) rfl (simL_nil (nrm_then ?_))
 refine sim_condb rfl (fun h13v => ?_) (fun h14v => ?_)
 refine sim_skip ?_
 refine nrm_then (sim_seq ?_)
 refine sim_block ?_
 refine sim_ask (fun hi15v => ?_)
 obtain ⟨b16v, b16vo, r19v, ha17v, hV20v, hlr21v, hcell22v⟩ := RdV.pos h1 (Up.refl _) rfl (i := s9v.2.toNat) (by omega) dz52
 obtain ⟨a23v, c24v, rfl, ⟨he25v, hc26v, hm27v⟩⟩ := hV20v
 refine sim_ask (fun hi28v => ?_)
 obtain ⟨b29v, b29vo, r32v, ha30v, hV33v, hlr34v, hcell35v⟩ := RdV.pos h1 (Up.refl _) rfl (i := s9v.2.toNat) (by omega) dz52
 obtain ⟨a36v, c37v, rfl, ⟨he38v, hc39v, hm40v⟩⟩ := hV33v
 refine sim_draw (Γ := Unit) () [[], [], [], [1, 2], [1, 2, 3], [1, 2, 3, 4], [1, 2, 3, 4, 5], [1, 2, 3, 4, 5, 6], rL 8, [], [], [9, 10], [9, 10, 11], [9, 10, 11, 12], [9, 10, 11, 12, 13], [9, 10, 11, 12, 13, 14], rL 16, rL 17, rL 18] [] [0, 1, 2, 3, 4, 5, 6, 7, 8, 9, 10, 11, 12, 13, 14, 15, 16, 17, 18] (fun i => [[0], [0], [0], [0], [0], [0], [0], [0], [0], [0], [0], [0], [0], [0], [0], [0], [0], [0], [0]].getD i []) (fun i => [[], [], [], [], [], [], [], [], [], [], [], [], [], [], [], [], [], [], []].getD i []) (fun γ i => [.int .i64 s9v.1, .slice a1 x1.length c1, .int .i64 s9v.2, .pointer (some ⟨b16v, b16vo + s9v.2.toNat * 5, none⟩), .pointer (some ⟨b16v, b16vo + s9v.2.toNat * 5 + 4, none⟩), .slice a23v (((x1.getD s9v.2.toNat dz52).2.2.2.2).length) c24v, .int .i64 (((x1.getD s9v.2.toNat dz52).2.2.2.2).length : Int), .int .i64 (min (((x1.getD s9v.2.toNat dz52).2.2.2.2).length : Int) (20000 : Int)), .int .i64 (IntKind.i64.wrap (s9v.1 + (min (((x1.getD s9v.2.toNat dz52).2.2.2.2).length : Int) (20000 : Int)))), .slice a1 x1.length c1, .int .i64 s9v.2, .pointer (some ⟨b29v, b29vo + s9v.2.toNat * 5, none⟩), .pointer (some ⟨b29v, b29vo + s9v.2.toNat * 5 + 2, none⟩), str ((x1.getD s9v.2.toNat dz52).2.2.1), .int .i64 (((x1.getD s9v.2.toNat dz52).2.2.1).length : Int), .int .i64 (min (((x1.getD s9v.2.toNat dz52).2.2.1).length : Int) (20000 : Int)), .int .i64 (IntKind.i64.wrap ((IntKind.i64.wrap (s9v.1 + (min (((x1.getD s9v.2.toNat dz52).2.2.2.2).length : Int) (20000 : Int)))) + (min (((x1.getD s9v.2.toNat dz52).2.2.1).length : Int) (20000 : Int)))), .int .i64 (min (IntKind.i64.wrap ((IntKind.i64.wrap (s9v.1 + (min (((x1.getD s9v.2.toNat dz52).2.2.2.2).length : Int) (20000 : Int)))) + (min (((x1.getD s9v.2.toNat dz52).2.2.1).length : Int) (20000 : Int)))) (40000 : Int)), .int .i64 (min (IntKind.i64.wrap ((IntKind.i64.wrap (s9v.1 + (min (((x1.getD s9v.2.toNat dz52).2.2.2.2).length : Int) (20000 : Int)))) + (min (((x1.getD s9v.2.toNat dz52).2.2.1).length : Int) (20000 : Int)))) (40000 : Int))].getD i undef) (fun j γ => [[F]].getD j []) (fun γ => [(0, .slice a0 x0.length c0), (1, .slice a1 x1.length c1), (5, .bool s1v), (6, .bool s4v), (7, .int .i64 (min (IntKind.i64.wrap ((IntKind.i64.wrap (s9v.1 + (min (((x1.getD s9v.2.toNat dz52).2.2.2.2).length : Int) (20000 : Int)))) + (min (((x1.getD s9v.2.toNat dz52).2.2.1).length : Int) (20000 : Int)))) (40000 : Int))), (8, .int .i64 s9v.2), (36, cv ((decide (s9v.2 < (x1.length : Int))) == true) (.int .i64 s9v.2)), (37, cv ((decide (s9v.2 < (x1.length : Int))) == true) (.bool (decide (s9v.2 < (100 : Int)))))]) mixed (by decide) (by decide) (by decide) (by decide) (by decide) (by decide) (by decide) 294 rfl (by decide) (by decide) (by decide) (Ent.refl _) ?_ ?_ (fun _ => ⟨rfl, rfl, rfl, rfl, rfl, rfl, rfl, rfl, trivial⟩) ?_
 exact (aq rfl (fun γ => qm rfl (.o (s := 7) rfl (by decide) .nil) rfl) (aq rfl (fun γ => qm rfl (.o (s := 1) rfl (by decide) .nil) rfl) (aq rfl (fun γ => qm rfl (.o (s := 8) rfl (by decide) .nil) rfl) (aq rfl (fun γ => qp rfl rfl (.v 1 rfl rfl (.v 2 rfl rfl .nil)) (q_idx rfl rfl rfl ha17v Tryz.underlying66 Tryz.sizeOf52 hi15v.1 hi15v.2) rfl) (aq rfl (fun γ => qp rfl rfl (.v 3 rfl rfl .nil) (q_fa rfl rfl Tryz.underlying52 rfl rfl Tryz.sizeOf25 rfl) rfl) (aq rfl (fun γ => qp rfl rfl (.v 4 rfl rfl .nil) (q_load rfl rfl Tryz.isAgg25 (hcell22v 0 rfl 4 _ rfl)) rfl) (aq rfl (fun γ => qp rfl rfl (.v 5 rfl rfl .nil) (q_len rfl rfl rfl Tryz.underlying25) rfl) (aq rfl (fun γ => qp rfl rfl (.v 6 rfl rfl .nil) (q_min rfl rfl rfl) rfl) (aq rfl (fun γ => qp rfl rfl (.v 0 rfl rfl (.v 7 rfl rfl .nil)) (q_add rfl rfl rfl) rfl) (aq rfl (fun γ => qm rfl (.o (s := 1) rfl (by decide) .nil) rfl) (aq rfl (fun γ => qm rfl (.o (s := 8) rfl (by decide) .nil) rfl) (aq rfl (fun γ => qp rfl rfl (.v 9 rfl rfl (.v 10 rfl rfl .nil)) (q_idx rfl rfl rfl ha30v Tryz.underlying66 Tryz.sizeOf52 hi28v.1 hi28v.2) rfl) (aq rfl (fun γ => qp rfl rfl (.v 11 rfl rfl .nil) (q_fa rfl rfl Tryz.underlying52 rfl rfl Tryz.sizeOf9 rfl) rfl) (aq rfl (fun γ => qp rfl rfl (.v 12 rfl rfl .nil) (q_load rfl rfl Tryz.isAgg9 (hcell35v 0 rfl 2 _ rfl)) rfl) (aq rfl (fun γ => qp rfl rfl (.v 13 rfl rfl .nil) (q_lens rfl rfl rfl Tryz.underlying9) rfl) (aq rfl (fun γ => qp rfl rfl (.v 14 rfl rfl .nil) (q_min rfl rfl rfl) rfl) (aq rfl (fun γ => qp rfl rfl (.v 8 rfl rfl (.v 15 rfl rfl .nil)) (q_add rfl rfl rfl) rfl) (aq rfl (fun γ => qp rfl rfl (.v 16 rfl rfl .nil) (q_min rfl rfl rfl) rfl) (aq rfl (fun γ => qp rfl rfl (.v 17 rfl rfl .nil) (q_asg rfl rfl) rfl) zA)))))))))))))))))))
 exact zA
 intro g41v
 refine nrm_block (nrm_then (sim_region ?_))
 refine vm rfl rfl ?_
 refine vq (q_add rfl rfl rfl) rfl ?_
 refine va rfl rfl (simL_nil ?_)
 exact nrm_again (s := (min (IntKind.i64.wrap ((IntKind.i64.wrap (s9v.1 + (min (((x1.getD s9v.2.toNat dz52).2.2.2.2).length : Int) (20000 : Int)))) + (min (((x1.getD s9v.2.toNat dz52).2.2.1).length : Int) (20000 : Int)))) (40000 : Int), IntKind.i64.wrap (s9v.2 + 1))) () ⟨rfl, rfl, rfl, rfl, rfl, rfl, trivial⟩ (.sel 0 rfl (.nil _))
 refine sim_exi ?_
 refine exi_then ?_
 refine exi_loop ?_
 refine exi_here ?_
 exact nrm_cut (s := s9v.1) () ⟨rfl, rfl, rfl, rfl, rfl, trivial⟩ (.sel 0 rfl (.nil _))
 intro s7v y8v
 refine sim_seq (sr ?_)
 refine vm rfl rfl ?_
 refine vq (q_not rfl rfl) rfl ?_
 refine vm rfl rfl ?_
 refine simL_valc (b := !s1v) (fun hb507v => RQ.sub (E' := [(6, .bool s4v)]) ⟨rfl, trivial⟩ (q_move rfl rfl)) rfl rfl rfl rfl rfl ?_
 refine simL_valc (b := !s1v) (fun hb506v => RQ.sub (E' := [(62, .bool s4v)]) ⟨lk_cv rfl hb506v, trivial⟩ (q_not rfl rfl)) rfl rfl rfl rfl rfl ?_
 refine vq (q_or rfl rfl rfl) rfl ?_
 refine vm rfl rfl ?_
 refine simL_valc (b := (!s1v) || (!s4v)) (fun hb505v => RQ.sub (E' := [(1, .slice a1 x1.length c1)]) ⟨rfl, trivial⟩ (q_move rfl rfl)) rfl rfl rfl rfl rfl ?_
 refine simL_valc (b := (!s1v) || (!s4v)) (fun hb504v => RQ.sub (E' := [(66, .slice a1 x1.length c1)]) ⟨lk_cv rfl hb504v, trivial⟩ (q_len rfl rfl rfl Tryz.underlying66)) rfl rfl rfl rfl rfl ?_
 refine simL_valc (b := (!s1v) || (!s4v)) (fun hb503v => RQ.sub (E' := [(67, .int .i64 (x1.length : Int))]) ⟨lk_cv rfl hb503v, trivial⟩ (q_gtr rfl rfl rfl)) rfl rfl rfl rfl rfl ?_
 refine vq (q_or rfl rfl rfl) rfl ?_
 refine vm rfl rfl ?_
 refine simL_valc (b := ((!s1v) || (!s4v)) || (decide ((100 : Int) < (x1.length : Int)))) (fun hb502v => RQ.sub (E' := [(7, .int .i64 s7v)]) ⟨rfl, trivial⟩ (q_move rfl rfl)) rfl rfl rfl rfl rfl ?_
 refine simL_valc (b := ((!s1v) || (!s4v)) || (decide ((100 : Int) < (x1.length : Int)))) (fun hb501v => RQ.sub (E' := [(71, .int .i64 s7v)]) ⟨lk_cv rfl hb501v, trivial⟩ (q_gtr rfl rfl rfl)) rfl rfl rfl rfl rfl ?_
 refine vq (q_or rfl rfl rfl) rfl (simL_nil (nrm_then ?_))
 refine sim_condb rfl (fun h44v => ?_) (fun h45v => ?_)
 refine sr ?_
 refine vm rfl rfl ?_
 refine va rfl rfl (simL_nil (nrm_then (sim_rtn ?_)))
 refine rtn_then ?_
 exact rtn_fn () rfl rfl rfl (.sel 0 rfl (.nil _))
 refine sim_skip ?_
 refine nrm_then (sr ?_)
 refine simL_bind (fun s46v hs47v => ?_)
 refine simL_eff (re_call (vs := []) (cap := []) (A := []) (rst := [F]) rfl rfl rfl rfl rfl rfl Tryz.call9 (.sel 0 rfl (.nil _)) (disk_New.calls _ _  ) hs47v) rfl rfl rfl ?_
 intro y48v
 refine va rfl rfl (nx ?_)
 refine simL_bind (fun s49v hs50v => ?_)
 refine simL_eff (re_call (vs := []) (cap := []) (A := []) (rst := [obj y48v.1 76 [.map (some y48v.2.1), str s46v.2.1, .int .i64 s46v.2.2.1, .bool s46v.2.2.2], mapF (mapO y48v.2.1 enc9 encP y48v.2.2) FA89 y48v.2.2 s46v.1, F]) rfl rfl rfl rfl rfl rfl Tryz.call9 (.sel 0 rfl (.sel 0 rfl (.sel 0 rfl (.nil _)))) (disk_New.calls _ _  ) hs50v) rfl rfl rfl ?_
 intro y51v
 refine va rfl rfl (simL_nil (nrm_then ?_))
 refine sim_cut (S := (List ((List UInt8) × (List UInt8 × Int))) × List UInt8 × Int × Bool) (Nat × Kps) (fun s y => [(0, .slice a0 x0.length c0), (9, .pointer (some ⟨y48v.1, 0, none⟩)), (10, .pointer (some ⟨y51v.1, 0, none⟩))]) (fun s y => [obj y51v.1 76 [.map (some y51v.2.1), str s49v.2.1, .int .i64 s49v.2.2.1, .bool s49v.2.2.2], obj y48v.1 76 [.map (some y.1), str s.2.1, .int .i64 s.2.2.1, .bool s.2.2.2], mapF (mapO y51v.2.1 enc9 encP y51v.2.2) FA89 y51v.2.2 s49v.1, mapF (mapO y.1 enc9 encP y.2) FA89 y.2 s.1, F]) ?_ ?_
 refine sr ?_
 refine va rfl rfl (simL_nil (nrm_then ?_))
 refine sim_block ?_
 refine sim_loop (S := Int × (List ((List UInt8) × (List UInt8 × Int))) × List UInt8 × Int × Bool) (Nat × Kps) (fun k s => synodlaw6_SnapBeside.l1 x1 k s.1 s.2.1 s.2.2.1 s.2.2.2.1 s.2.2.2.2) (fun s y => [(0, .slice a0 x0.length c0), (1, .slice a1 x1.length c1), (9, .pointer (some ⟨y48v.1, 0, none⟩)), (10, .pointer (some ⟨y51v.1, 0, none⟩)), (11, .int .i64 s.1)]) (fun s y => [obj y51v.1 76 [.map (some y51v.2.1), str s49v.2.1, .int .i64 s49v.2.2.1, .bool s49v.2.2.2], obj y48v.1 76 [.map (some y.1), str s.2.2.1, .int .i64 s.2.2.2.1, .bool s.2.2.2.2], mapF (mapO y51v.2.1 enc9 encP y51v.2.2) FA89 y51v.2.2 s49v.1, mapF (mapO y.1 enc9 encP y.2) FA89 y.2 s.2.1, F]) (fun _ => by rw [synodlaw6_SnapBeside.l1]) ?_ k (0, s46v.1, s46v.2.1, s46v.2.2.1, s46v.2.2.2) (y48v.2.1, y48v.2.2) ⟨rfl, rfl, rfl, rfl, rfl, trivial⟩ (.sel 0 rfl (.sel 1 rfl (.sel 0 rfl (.sel 0 rfl (.sel 0 rfl (.nil _))))))
 intro k s54v y55v
 refine sim_eq (by rw [synodlaw6_SnapBeside.l1]) ?_
 refine sim_seq (sr ?_)
 refine vm rfl rfl ?_
 refine vm rfl rfl ?_
 refine vq (q_len rfl rfl rfl Tryz.underlying66) rfl ?_
 refine vq (q_lss rfl rfl rfl) rfl (simL_nil (nrm_then ?_))
 refine sim_cond rfl (fun h61v => ?_) (fun h62v => ?_)
 refine sim_skip ?_
 refine nrm_then (sim_seq ?_)
 refine sim_block ?_
 refine sr ?_
 refine vm rfl rfl ?_
 refine vm rfl rfl ?_
 refine simL_ask (fun hi63v => ?_)
 obtain ⟨b64v, b64vo, r67v, ha65v, hV68v, hlr69v, hcell70v⟩ := RdV.pos h1 (Up.refl _) rfl (i := s54v.1.toNat) (by omega) dz52
 obtain ⟨a71v, c72v, rfl, ⟨he73v, hc74v, hm75v⟩⟩ := hV68v
 refine vq (q_idx rfl rfl rfl ha65v Tryz.underlying66 Tryz.sizeOf52 hi63v.1 hi63v.2) rfl ?_
 refine vq (q_fa rfl rfl Tryz.underlying52 rfl rfl Tryz.sizeOf9 rfl) rfl ?_
 refine vq (q_load rfl rfl Tryz.isAgg9 (hcell70v 4 rfl 2 _ rfl)) rfl ?_
 refine simL_bind (fun s76v hs77v => ?_)
 refine simL_eff (re_call (vs := [str ((x1.getD s54v.1.toNat dz52).2.2.1)]) (cap := []) (A := []) (rst := [obj y51v.1 76 [.map (some y51v.2.1), str s49v.2.1, .int .i64 s49v.2.2.1, .bool s49v.2.2.2], obj y48v.1 76 [.map (some y55v.1), str s54v.2.2.1, .int .i64 s54v.2.2.2.1, .bool s54v.2.2.2.2], mapF (mapO y51v.2.1 enc9 encP y51v.2.2) FA89 y51v.2.2 s49v.1, mapF (mapO y55v.1 enc9 encP y55v.2) FA89 y55v.2 s54v.2.1, F]) rfl rfl rfl rfl rfl rfl Tryz.call24 (.sel 0 rfl (.sel 0 rfl (.sel 0 rfl (.sel 0 rfl (.sel 0 rfl (.nil _)))))) (snap_Index.calls _ _ ((x1.getD s54v.1.toNat dz52).2.2.1) (hgl.lend 4 rfl)) hs77v) rfl rfl rfl ?_
 intro y78v
 refine vm rfl rfl ?_
 refine vq (q_ext rfl rfl rfl) rfl ?_
 refine vq (q_ext rfl rfl rfl) rfl ?_
 refine va rfl rfl ?_
 refine va rfl rfl (simL_nil (nrm_then (sim_seq (sr ?_))))
 refine vm rfl rfl ?_
 refine vm rfl rfl ?_
 refine simL_cut' 7 (S := Bool) (Unit) (fun s y => [(0, .slice a0 x0.length c0), (1, .slice a1 x1.length c1), (9, .pointer (some ⟨y48v.1, 0, none⟩)), (10, .pointer (some ⟨y51v.1, 0, none⟩)), (11, .int .i64 s54v.1), (100, .bool s)]) (fun s y => [obj y51v.1 76 [.map (some y51v.2.1), str s49v.2.1, .int .i64 s49v.2.2.1, .bool s49v.2.2.2], obj y48v.1 76 [.map (some y55v.1), str s54v.2.2.1, .int .i64 s54v.2.2.2.1, .bool s54v.2.2.2.2], mapF (mapO y51v.2.1 enc9 encP y51v.2.2) FA89 y51v.2.2 s49v.1, mapF (mapO y55v.1 enc9 encP y55v.2) FA89 y55v.2 s54v.2.1, F]) ?_ ?_
 refine simL_caseb (fun hb94v => ?_) (fun hb95v => ?_)
 rw [hb94v]
 refine simL_skipd rfl rfl rfl rfl rfl rfl ?_
 refine simL_skipd rfl rfl rfl rfl rfl rfl ?_
 refine simL_skipd rfl rfl rfl rfl rfl rfl ?_
 refine simL_skipd rfl rfl rfl rfl rfl rfl ?_
 refine simL_skipd rfl rfl rfl rfl rfl rfl ?_
 refine simL_skipd rfl rfl rfl rfl rfl rfl ?_
 refine vq (q_pick rfl rfl rfl rfl rfl) rfl (simL_nil ?_)
 exact nrm_cut (s := true) () ⟨rfl, rfl, rfl, rfl, rfl, rfl, trivial⟩ (.sel 0 rfl (.sel 0 rfl (.sel 0 rfl (.sel 0 rfl (.sel 0 rfl (.nil _))))))
 rw [hb95v]
 refine simL_valg (q_move rfl rfl) rfl rfl rfl rfl rfl rfl ?_
 refine simL_valg (q_move rfl rfl) rfl rfl rfl rfl rfl rfl ?_
 refine simL_ask (fun hi81v => ?_)
 obtain ⟨b82v, b82vo, r85v, ha83v, hV86v, hlr87v, hcell88v⟩ := RdV.pos h1 (Up.refl _) rfl (i := s54v.1.toNat) (by omega) dz52
 obtain ⟨a89v, c90v, rfl, ⟨he91v, hc92v, hm93v⟩⟩ := hV86v
 refine simL_valg (q_idx rfl rfl rfl ha83v Tryz.underlying66 Tryz.sizeOf52 hi81v.1 hi81v.2) rfl rfl rfl rfl rfl rfl ?_
 refine simL_valg (q_fa rfl rfl Tryz.underlying52 rfl rfl Tryz.sizeOf9 rfl) rfl rfl rfl rfl rfl rfl ?_
 refine simL_valg (q_load rfl rfl Tryz.isAgg9 (hcell88v 4 rfl 2 _ rfl)) rfl rfl rfl rfl rfl rfl ?_
 refine simL_valg (q_eqs rfl rfl rfl) rfl rfl rfl rfl rfl rfl ?_
 refine vq (q_pick rfl rfl rfl rfl rfl) rfl (simL_nil ?_)
 exact nrm_cut (s := decide (((x1.getD s54v.1.toNat dz52).2.2.1) = ([115, 110, 97, 112, 46, 116, 109, 112] : List UInt8))) () ⟨rfl, rfl, rfl, rfl, rfl, rfl, trivial⟩ (.sel 0 rfl (.sel 0 rfl (.sel 0 rfl (.sel 0 rfl (.sel 0 rfl (.nil _))))))
 intro s79v y80v
 refine simL_nil (nrm_then ?_)
 refine sim_condb rfl (fun h96v => ?_) (fun h97v => ?_)
 refine sim_exi ?_
 refine exi_then ?_
 refine exi_here ?_
 refine nrm_then (sim_region ?_)
 refine vm rfl rfl ?_
 refine vq (q_add rfl rfl rfl) rfl ?_
 refine va rfl rfl (simL_nil ?_)
 exact nrm_again (s := (IntKind.i64.wrap (s54v.1 + 1), s54v.2.1, s54v.2.2.1, s54v.2.2.2.1, s54v.2.2.2.2)) (y55v.1, y55v.2) ⟨rfl, rfl, rfl, rfl, rfl, trivial⟩ (.sel 0 rfl (.sel 0 rfl (.sel 0 rfl (.sel 0 rfl (.sel 0 rfl (.nil _))))))
 refine sim_skip ?_
 refine nrm_then (sr ?_)
 refine vm rfl rfl ?_
 refine vm rfl rfl ?_
 refine simL_ask (fun hi98v => ?_)
 obtain ⟨b99v, b99vo, r102v, ha100v, hV103v, hlr104v, hcell105v⟩ := RdV.pos h1 (Up.refl _) rfl (i := s54v.1.toNat) (by omega) dz52
 obtain ⟨a106v, c107v, rfl, ⟨he108v, hc109v, hm110v⟩⟩ := hV103v
 refine vq (q_idx rfl rfl rfl ha100v Tryz.underlying66 Tryz.sizeOf52 hi98v.1 hi98v.2) rfl ?_
 refine vq (q_fa rfl rfl Tryz.underlying52 rfl rfl Tryz.sizeOf3 rfl) rfl ?_
 refine vq (q_load rfl rfl Tryz.isAgg3 (hcell105v 4 rfl 0 _ rfl)) rfl (simL_nil (nrm_then ?_))
 refine sim_block ?_
 refine sr ?_
 refine vq (q_eql rfl rfl rfl) rfl ?_
 refine va rfl rfl (simL_nil (nrm_then ?_))
 refine sim_cond rfl (fun h111v => ?_) (fun h112v => ?_)
 refine sim_region ?_
 refine vm rfl rfl ?_
 refine vm rfl rfl ?_
 refine vm rfl rfl ?_
 refine simL_ask (fun hi113v => ?_)
 obtain ⟨b114v, b114vo, r117v, ha115v, hV118v, hlr119v, hcell120v⟩ := RdV.pos h1 (Up.refl _) rfl (i := s54v.1.toNat) (by omega) dz52
 obtain ⟨a121v, c122v, rfl, ⟨he123v, hc124v, hm125v⟩⟩ := hV118v
 refine vq (q_idx rfl rfl rfl ha115v Tryz.underlying66 Tryz.sizeOf52 hi113v.1 hi113v.2) rfl ?_
 refine vq (q_fa rfl rfl Tryz.underlying52 rfl rfl Tryz.sizeOf9 rfl) rfl ?_
 refine vq (q_load rfl rfl Tryz.isAgg9 (hcell120v 4 rfl 2 _ rfl)) rfl ?_
 refine simL_bind (fun s126v hs127v => ?_)
 refine simL_eff (re_call (vs := [.pointer (some ⟨y48v.1, 0, none⟩), str ((x1.getD s54v.1.toNat dz52).2.2.1)]) (cap := []) (A := [obj y48v.1 76 [.map (some y55v.1), str s54v.2.2.1, .int .i64 s54v.2.2.2.1, .bool s54v.2.2.2.2], mapF (mapO y55v.1 enc9 encP y55v.2) FA89 y55v.2 s54v.2.1]) (rst := [obj y51v.1 76 [.map (some y51v.2.1), str s49v.2.1, .int .i64 s49v.2.2.1, .bool s49v.2.2.2], mapF (mapO y51v.2.1 enc9 encP y51v.2.2) FA89 y51v.2.2 s49v.1, F]) rfl rfl rfl rfl rfl rfl Tryz.call29 (.sel 1 rfl (.sel 2 rfl (.sel 0 rfl (.sel 0 rfl (.sel 0 rfl (.nil _)))))) (disk_Disk_Create.calls _ _ k y48v.1 y55v.1 y55v.2 s54v.2.1 s54v.2.2.1 s54v.2.2.2.1 s54v.2.2.2.2 ((x1.getD s54v.1.toNat dz52).2.2.1) ) hs127v) rfl rfl rfl ?_
 intro y128v
 refine simL_nil (nrm_block (nrm_block (nrm_then (sim_region ?_))))
 refine vm rfl rfl ?_
 refine vq (q_add rfl rfl rfl) rfl ?_
 refine va rfl rfl (simL_nil ?_)
 exact nrm_again (s := (IntKind.i64.wrap (s54v.1 + 1), s126v.2.1, s126v.2.2.1, s126v.2.2.2.1, s126v.2.2.2.2)) (y128v.1, y128v.2) ⟨rfl, rfl, rfl, rfl, rfl, trivial⟩ (.sel 2 rfl (.sel 0 rfl (.sel 1 rfl (.sel 0 rfl (.sel 0 rfl (.nil _))))))
 refine sr ?_
 refine vq (q_eql rfl rfl rfl) rfl ?_
 refine va rfl rfl (simL_nil (nrm_then ?_))
 refine sim_cond rfl (fun h129v => ?_) (fun h130v => ?_)
 refine sim_ask (fun hi131v => ?_)
 obtain ⟨b132v, b132vo, r135v, ha133v, hV136v, hlr137v, hcell138v⟩ := RdV.pos h1 (Up.refl _) rfl (i := s54v.1.toNat) (by omega) dz52
 obtain ⟨a139v, c140v, rfl, ⟨he141v, hc142v, hm143v⟩⟩ := hV136v
 refine sim_ask (fun hi144v => ?_)
 obtain ⟨b145v, b145vo, r148v, ha146v, hV149v, hlr150v, hcell151v⟩ := RdV.pos h1 (Up.refl _) rfl (i := s54v.1.toNat) (by omega) dz52
 obtain ⟨a152v, c153v, rfl, ⟨he154v, hc155v, hm156v⟩⟩ := hV149v
 refine sim_bind (fun s157v hs158v => ?_)
 refine sim_draw (Γ := (Nat × Kps)) (0, ([] : Kps)) [[], [], [], [1, 2], [1, 2, 3], [1, 2, 3, 4], [], [], [6, 7], [6, 7, 8], [6, 7, 8, 9], rL 11] [11] [0, 1, 2, 3, 4, 5, 6, 7, 8, 9, 10] (fun i => [[0], [0], [0], [0], [0], [0], [0], [0], [0], [0], [0], []].getD i []) (fun i => [[], [], [], [], [], [], [], [], [], [], [], rL 11].getD i []) (fun γ i => [.pointer (some ⟨y48v.1, 0, none⟩), .slice a1 x1.length c1, .int .i64 s54v.1, .pointer (some ⟨b132v, b132vo + s54v.1.toNat * 5, none⟩), .pointer (some ⟨b132v, b132vo + s54v.1.toNat * 5 + 2, none⟩), str ((x1.getD s54v.1.toNat dz52).2.2.1), .slice a1 x1.length c1, .int .i64 s54v.1, .pointer (some ⟨b145v, b145vo + s54v.1.toNat * 5, none⟩), .pointer (some ⟨b145v, b145vo + s54v.1.toNat * 5 + 4, none⟩), .slice a152v (((x1.getD s54v.1.toNat dz52).2.2.2.2).length) c153v, .int .i64 s157v.1].getD i undef) (fun j γ => [[obj y51v.1 76 [.map (some y51v.2.1), str s49v.2.1, .int .i64 s49v.2.2.1, .bool s49v.2.2.2], obj y48v.1 76 [.map (some y55v.1), str s54v.2.2.1, .int .i64 s54v.2.2.2.1, .bool s54v.2.2.2.2], mapF (mapO y51v.2.1 enc9 encP y51v.2.2) FA89 y51v.2.2 s49v.1, mapF (mapO y55v.1 enc9 encP y55v.2) FA89 y55v.2 s54v.2.1, F], [obj y48v.1 76 [.map (some γ.1), str s157v.2.2.1, .int .i64 s157v.2.2.2.1, .bool s157v.2.2.2.2], mapF (mapO γ.1 enc9 encP γ.2) FA89 γ.2 s157v.2.1, obj y51v.1 76 [.map (some y51v.2.1), str s49v.2.1, .int .i64 s49v.2.2.1, .bool s49v.2.2.2], mapF (mapO y51v.2.1 enc9 encP y51v.2.2) FA89 y51v.2.2 s49v.1, F]].getD j []) (fun γ => [(0, .slice a0 x0.length c0), (1, .slice a1 x1.length c1), (9, .pointer (some ⟨y48v.1, 0, none⟩)), (10, .pointer (some ⟨y51v.1, 0, none⟩)), (11, .int .i64 s54v.1)]) mixed (by decide) (by decide) (by decide) (by decide) (by decide) (by decide) (by decide) 294 rfl (by decide) (by decide) (by decide) (Ent.refl _) ?_ ?_ (fun _ => ⟨rfl, rfl, rfl, rfl, rfl, trivial⟩) ?_
 exact (aq rfl (fun γ => qm rfl (.o (s := 9) rfl (by decide) .nil) rfl) (aq rfl (fun γ => qm rfl (.o (s := 1) rfl (by decide) .nil) rfl) (aq rfl (fun γ => qm rfl (.o (s := 11) rfl (by decide) .nil) rfl) (aq rfl (fun γ => qp rfl rfl (.v 1 rfl rfl (.v 2 rfl rfl .nil)) (q_idx rfl rfl rfl ha133v Tryz.underlying66 Tryz.sizeOf52 hi131v.1 hi131v.2) rfl) (aq rfl (fun γ => qp rfl rfl (.v 3 rfl rfl .nil) (q_fa rfl rfl Tryz.underlying52 rfl rfl Tryz.sizeOf9 rfl) rfl) (aq rfl (fun γ => qp rfl rfl (.v 4 rfl rfl .nil) (q_load rfl rfl Tryz.isAgg9 (hcell138v 4 rfl 2 _ rfl)) rfl) (aq rfl (fun γ => qm rfl (.o (s := 1) rfl (by decide) .nil) rfl) (aq rfl (fun γ => qm rfl (.o (s := 11) rfl (by decide) .nil) rfl) (aq rfl (fun γ => qp rfl rfl (.v 6 rfl rfl (.v 7 rfl rfl .nil)) (q_idx rfl rfl rfl ha146v Tryz.underlying66 Tryz.sizeOf52 hi144v.1 hi144v.2) rfl) (aq rfl (fun γ => qp rfl rfl (.v 8 rfl rfl .nil) (q_fa rfl rfl Tryz.underlying52 rfl rfl Tryz.sizeOf25 rfl) rfl) (aq rfl (fun γ => qp rfl rfl (.v 9 rfl rfl .nil) (q_load rfl rfl Tryz.isAgg25 (hcell151v 4 rfl 4 _ rfl)) rfl) zA)))))))))))
 exact (ac (fun γ => eo (Z := Nat × Kps) (fun z => z) rfl rfl (.v 0 rfl rfl (.v 5 rfl rfl (.v 10 rfl rfl .nil))) (re_call (vs := [.pointer (some ⟨y48v.1, 0, none⟩), str ((x1.getD s54v.1.toNat dz52).2.2.1), .slice a152v (((x1.getD s54v.1.toNat dz52).2.2.2.2).length) c153v]) (cap := []) (A := [obj y48v.1 76 [.map (some y55v.1), str s54v.2.2.1, .int .i64 s54v.2.2.2.1, .bool s54v.2.2.2.2], mapF (mapO y55v.1 enc9 encP y55v.2) FA89 y55v.2 s54v.2.1]) (rst := [obj y51v.1 76 [.map (some y51v.2.1), str s49v.2.1, .int .i64 s49v.2.2.1, .bool s49v.2.2.2], mapF (mapO y51v.2.1 enc9 encP y51v.2.2) FA89 y51v.2.2 s49v.1, F]) rfl rfl rfl rfl rfl rfl Tryz.call30 (.sel 1 rfl (.sel 2 rfl (.sel 0 rfl (.sel 0 rfl (.sel 0 rfl (.nil _)))))) (disk_Disk_Append.calls _ _ y48v.1 y55v.1 y55v.2 s54v.2.1 s54v.2.2.1 s54v.2.2.2.1 s54v.2.2.2.2 ((x1.getD s54v.1.toNat dz52).2.2.1) a152v c153v ((x1.getD s54v.1.toNat dz52).2.2.2.2) (he154v.lend 2 rfl) hc155v hm156v) hs158v) (fun _ => ⟨rfl, rfl, rfl, rfl, rfl, rfl, rfl, rfl, rfl, rfl, rfl, trivial⟩) (fun _ => .inr rfl) (fun z => Ent.refl _)) zA)
 intro g160v
 refine nrm_block (nrm_block (nrm_then (sim_region ?_)))
 refine vm rfl rfl ?_
 refine vq (q_add rfl rfl rfl) rfl ?_
 refine va rfl rfl (simL_nil ?_)
 exact nrm_again (s := (IntKind.i64.wrap (s54v.1 + 1), s157v.2.1, s157v.2.2.1, s157v.2.2.2.1, s157v.2.2.2.2)) (g160v.1, g160v.2) ⟨rfl, rfl, rfl, rfl, rfl, trivial⟩ (.sel 2 rfl (.sel 0 rfl (.sel 1 rfl (.sel 0 rfl (.sel 0 rfl (.nil _))))))
 refine sr ?_
 refine vq (q_eql rfl rfl rfl) rfl ?_
 refine va rfl rfl (simL_nil (nrm_then ?_))
 refine sim_cond rfl (fun h161v => ?_) (fun h162v => ?_)
 refine sim_region ?_
 refine vm rfl rfl ?_
 refine vm rfl rfl ?_
 refine vm rfl rfl ?_
 refine simL_ask (fun hi163v => ?_)
 obtain ⟨b164v, b164vo, r167v, ha165v, hV168v, hlr169v, hcell170v⟩ := RdV.pos h1 (Up.refl _) rfl (i := s54v.1.toNat) (by omega) dz52
 obtain ⟨a171v, c172v, rfl, ⟨he173v, hc174v, hm175v⟩⟩ := hV168v
 refine vq (q_idx rfl rfl rfl ha165v Tryz.underlying66 Tryz.sizeOf52 hi163v.1 hi163v.2) rfl ?_
 refine vq (q_fa rfl rfl Tryz.underlying52 rfl rfl Tryz.sizeOf9 rfl) rfl ?_
 refine vq (q_load rfl rfl Tryz.isAgg9 (hcell170v 4 rfl 2 _ rfl)) rfl ?_
 refine simL_bind (fun s176v hs177v => ?_)
 refine simL_eff (re_call (vs := [.pointer (some ⟨y48v.1, 0, none⟩), str ((x1.getD s54v.1.toNat dz52).2.2.1)]) (cap := []) (A := [obj y48v.1 76 [.map (some y55v.1), str s54v.2.2.1, .int .i64 s54v.2.2.2.1, .bool s54v.2.2.2.2], mapF (mapO y55v.1 enc9 encP y55v.2) FA89 y55v.2 s54v.2.1]) (rst := [obj y51v.1 76 [.map (some y51v.2.1), str s49v.2.1, .int .i64 s49v.2.2.1, .bool s49v.2.2.2], mapF (mapO y51v.2.1 enc9 encP y51v.2.2) FA89 y51v.2.2 s49v.1, F]) rfl rfl rfl rfl rfl rfl Tryz.call31 (.sel 1 rfl (.sel 2 rfl (.sel 0 rfl (.sel 0 rfl (.sel 0 rfl (.nil _)))))) (disk_Disk_Sync.calls _ _ y48v.1 y55v.1 y55v.2 s54v.2.1 s54v.2.2.1 s54v.2.2.2.1 s54v.2.2.2.2 ((x1.getD s54v.1.toNat dz52).2.2.1) ) hs177v) rfl rfl rfl ?_
 intro y178v
 refine simL_nil (nrm_block (nrm_block (nrm_then (sim_region ?_))))
 refine vm rfl rfl ?_
 refine vq (q_add rfl rfl rfl) rfl ?_
 refine va rfl rfl (simL_nil ?_)
 exact nrm_again (s := (IntKind.i64.wrap (s54v.1 + 1), s176v.2.1, s176v.2.2.1, s176v.2.2.2.1, s176v.2.2.2.2)) (y178v.1, y178v.2) ⟨rfl, rfl, rfl, rfl, rfl, trivial⟩ (.sel 2 rfl (.sel 0 rfl (.sel 1 rfl (.sel 0 rfl (.sel 0 rfl (.nil _))))))
 refine sim_skip ?_
 refine nrm_block (nrm_block (nrm_then (sim_region ?_)))
 refine vm rfl rfl ?_
 refine vq (q_add rfl rfl rfl) rfl ?_
 refine va rfl rfl (simL_nil ?_)
 exact nrm_again (s := (IntKind.i64.wrap (s54v.1 + 1), s54v.2.1, s54v.2.2.1, s54v.2.2.2.1, s54v.2.2.2.2)) (y55v.1, y55v.2) ⟨rfl, rfl, rfl, rfl, rfl, trivial⟩ (.sel 0 rfl (.sel 0 rfl (.sel 0 rfl (.sel 0 rfl (.sel 0 rfl (.nil _))))))
 refine sim_exi ?_
 refine exi_then ?_
 refine exi_loop ?_
 refine exi_here ?_
 exact nrm_cut (s := (s54v.2.1, s54v.2.2.1, s54v.2.2.2.1, s54v.2.2.2.2)) (y55v.1, y55v.2) ⟨rfl, rfl, rfl, trivial⟩ (.sel 0 rfl (.sel 0 rfl (.sel 0 rfl (.sel 0 rfl (.sel 0 rfl (.nil _))))))
 intro s52v y53v
 refine sr ?_
 refine vm rfl rfl ?_
 refine simL_bind (fun s179v hs180v => ?_)
 refine simL_eff (re_call (vs := [.pointer (some ⟨y48v.1, 0, none⟩)]) (cap := []) (A := [obj y48v.1 76 [.map (some y53v.1), str s52v.2.1, .int .i64 s52v.2.2.1, .bool s52v.2.2.2], mapF (mapO y53v.1 enc9 encP y53v.2) FA89 y53v.2 s52v.1]) (rst := [obj y51v.1 76 [.map (some y51v.2.1), str s49v.2.1, .int .i64 s49v.2.2.1, .bool s49v.2.2.2], mapF (mapO y51v.2.1 enc9 encP y51v.2.2) FA89 y51v.2.2 s49v.1, F]) rfl rfl rfl rfl rfl rfl Tryz.call32 (.sel 1 rfl (.sel 2 rfl (.sel 0 rfl (.sel 0 rfl (.sel 0 rfl (.nil _)))))) (disk_Disk_Files.calls _ _ k y48v.1 y53v.1 y53v.2 s52v.1 s52v.2.1 s52v.2.2.1 s52v.2.2.2 ) hs180v) rfl rfl rfl ?_
 intro y181v
 refine va rfl rfl (simL_nil (nrm_then ?_))
 refine sim_cut (S := (List ((List UInt8) × (List UInt8 × Int))) × List UInt8 × Int × Bool × (List ((List UInt8) × (List UInt8 × Int))) × List UInt8 × Int × Bool) (Nat × Kps × Nat × Kps) (fun s y => [(9, .pointer (some ⟨y48v.1, 0, none⟩)), (10, .pointer (some ⟨y51v.1, 0, none⟩)), (14, .slice y181v.1 s179v.length y181v.2.1)]) (fun s y => [obj y48v.1 76 [.map (some y.1), str s.2.1, .int .i64 s.2.2.1, .bool s.2.2.2.1], obj y51v.1 76 [.map (some y.2.2.1), str s.2.2.2.2.2.1, .int .i64 s.2.2.2.2.2.2.1, .bool s.2.2.2.2.2.2.2], RowV 71 3 (V71w (y181v.2.2)) y181v.1 s179v y181v.2.1, mapF (mapO y.1 enc9 encP y.2.1) FA89 y.2.1 s.1, mapF (mapO y.2.2.1 enc9 encP y.2.2.2) FA89 y.2.2.2 s.2.2.2.2.1, y181v.2.2, F]) ?_ ?_
 refine sr ?_
 refine va rfl rfl (simL_nil (nrm_then ?_))
 refine sim_block ?_
 refine sim_loop (S := Int × (List ((List UInt8) × (List UInt8 × Int))) × List UInt8 × Int × Bool × (List ((List UInt8) × (List UInt8 × Int))) × List UInt8 × Int × Bool) (Nat × Kps × Nat × Kps) (fun k s => synodlaw6_SnapBeside.l2 x0 k s.1 s.2.1 s.2.2.1 s.2.2.2.1 s.2.2.2.2.1 s.2.2.2.2.2.1 s.2.2.2.2.2.2.1 s.2.2.2.2.2.2.2.1 s.2.2.2.2.2.2.2.2) (fun s y => [(0, .slice a0 x0.length c0), (9, .pointer (some ⟨y48v.1, 0, none⟩)), (10, .pointer (some ⟨y51v.1, 0, none⟩)), (14, .slice y181v.1 s179v.length y181v.2.1), (15, .int .i64 s.1)]) (fun s y => [obj y48v.1 76 [.map (some y.1), str s.2.2.1, .int .i64 s.2.2.2.1, .bool s.2.2.2.2.1], obj y51v.1 76 [.map (some y.2.2.1), str s.2.2.2.2.2.2.1, .int .i64 s.2.2.2.2.2.2.2.1, .bool s.2.2.2.2.2.2.2.2], RowV 71 3 (V71w (y181v.2.2)) y181v.1 s179v y181v.2.1, mapF (mapO y.1 enc9 encP y.2.1) FA89 y.2.1 s.2.1, mapF (mapO y.2.2.1 enc9 encP y.2.2.2) FA89 y.2.2.2 s.2.2.2.2.2.1, y181v.2.2, F]) (fun _ => by rw [synodlaw6_SnapBeside.l2]) ?_ k (0, s52v.1, s52v.2.1, s52v.2.2.1, s52v.2.2.2, s49v.1, s49v.2.1, s49v.2.2.1, s49v.2.2.2) (y53v.1, y53v.2, y51v.2.1, y51v.2.2) ⟨rfl, rfl, rfl, rfl, rfl, trivial⟩ (.sel 2 rfl (.sel 3 rfl (.sel 0 rfl (.sel 1 rfl (.sel 1 rfl (.sel 0 rfl (.sel 0 rfl (.nil _))))))))
 intro k s184v y185v
 refine sim_eq (by rw [synodlaw6_SnapBeside.l2]) ?_
 refine sim_seq (sr ?_)
 refine vm rfl rfl ?_
 refine vm rfl rfl ?_
 refine vq (q_len rfl rfl rfl Tryz.underlying44) rfl ?_
 refine vq (q_lss rfl rfl rfl) rfl (simL_nil (nrm_then ?_))
 refine sim_cond rfl (fun h195v => ?_) (fun h196v => ?_)
 refine sim_skip ?_
 refine nrm_then (sim_seq ?_)
 refine sim_block ?_
 refine sr ?_
 refine vm rfl rfl ?_
 refine vm rfl rfl ?_
 refine simL_ask (fun hi197v => ?_)
 obtain ⟨b198v, b198vo, r201v, ha199v, hV202v, hlr203v, hcell204v⟩ := RdV.pos h0 (Up.refl _) rfl (i := s184v.1.toNat) (by omega) dz54
 obtain ⟨a205v, c206v, a210v, c211v, rfl, ⟨he207v, hc208v, hm209v⟩, ⟨he212v, hc213v, hm214v⟩⟩ := hV202v
 refine vq (q_idx rfl rfl rfl ha199v Tryz.underlying44 Tryz.sizeOf54 hi197v.1 hi197v.2) rfl ?_
 refine vq (q_fa rfl rfl Tryz.underlying54 rfl rfl Tryz.sizeOf3 rfl) rfl ?_
 refine vq (q_load rfl rfl Tryz.isAgg3 (hcell204v 6 rfl 0 _ rfl)) rfl (simL_nil (nrm_then ?_))
 refine sim_block ?_
 refine sr ?_
 refine vq (q_eql rfl rfl rfl) rfl ?_
 refine va rfl rfl (simL_nil (nrm_then ?_))
 refine sim_cond rfl (fun h215v => ?_) (fun h216v => ?_)
 refine sr ?_
 refine vm rfl rfl ?_
 refine vm rfl rfl ?_
 refine vm rfl rfl ?_
 refine simL_ask (fun hi217v => ?_)
 obtain ⟨b218v, b218vo, r221v, ha219v, hV222v, hlr223v, hcell224v⟩ := RdV.pos h0 (Up.refl _) rfl (i := s184v.1.toNat) (by omega) dz54
 obtain ⟨a225v, c226v, a230v, c231v, rfl, ⟨he227v, hc228v, hm229v⟩, ⟨he232v, hc233v, hm234v⟩⟩ := hV222v
 refine vq (q_idx rfl rfl rfl ha219v Tryz.underlying44 Tryz.sizeOf54 hi217v.1 hi217v.2) rfl ?_
 refine vq (q_fa rfl rfl Tryz.underlying54 rfl rfl Tryz.sizeOf27 rfl) rfl ?_
 refine vq (q_loads (vs := [.int .i64 ((x0.getD s184v.1.toNat dz54).2.2.1), .int .i64 ((x0.getD s184v.1.toNat dz54).2.2.2.1), .slice a225v (((x0.getD s184v.1.toNat dz54).2.2.2.2.1).length) c226v]) rfl rfl Tryz.isAgg27 Tryz.sizeOf27 rfl (fun j v hj => cellAt_off (hcell224v 6 rfl (2 + j) v (cells_lit (off := 2) rfl j v hj)))) rfl ?_
 refine simL_bind (fun s235v hs236v => ?_)
 refine simL_eff (re_call (vs := [.pointer (some ⟨y48v.1, 0, none⟩), .agg #[.int .i64 ((x0.getD s184v.1.toNat dz54).2.2.1), .int .i64 ((x0.getD s184v.1.toNat dz54).2.2.2.1), .slice a225v (((x0.getD s184v.1.toNat dz54).2.2.2.2.1).length) c226v]]) (cap := []) (A := [obj y48v.1 76 [.map (some y185v.1), str s184v.2.2.1, .int .i64 s184v.2.2.2.1, .bool s184v.2.2.2.2.1], mapF (mapO y185v.1 enc9 encP y185v.2.1) FA89 y185v.2.1 s184v.2.1]) (rst := [obj y51v.1 76 [.map (some y185v.2.2.1), str s184v.2.2.2.2.2.2.1, .int .i64 s184v.2.2.2.2.2.2.2.1, .bool s184v.2.2.2.2.2.2.2.2], RowV 71 3 (V71w (y181v.2.2)) y181v.1 s179v y181v.2.1, mapF (mapO y185v.2.2.1 enc9 encP y185v.2.2.2) FA89 y185v.2.2.2 s184v.2.2.2.2.2.1, y181v.2.2, F]) rfl rfl rfl rfl rfl rfl Tryz.call10 (.sel 0 rfl (.sel 2 rfl (.sel 0 rfl (.sel 0 rfl (.sel 0 rfl (.sel 0 rfl (.sel 0 rfl (.nil _)))))))) (snap_Save.calls _ _ k y48v.1 y185v.1 y185v.2.1 s184v.2.1 s184v.2.2.1 s184v.2.2.2.1 s184v.2.2.2.2.1 ((x0.getD s184v.1.toNat dz54).2.2.1) ((x0.getD s184v.1.toNat dz54).2.2.2.1) a225v c226v ((x0.getD s184v.1.toNat dz54).2.2.2.2.1) (he227v.lend 4 rfl) hc228v hm229v (hgl.lend 4 rfl)) hs236v) rfl rfl rfl ?_
 intro y237v
 refine ny ?_
 refine vm rfl rfl ?_
 refine vm rfl rfl ?_
 refine vm rfl rfl ?_
 refine simL_ask (fun hi238v => ?_)
 obtain ⟨b239v, b239vo, r242v, ha240v, hV243v, hlr244v, hcell245v⟩ := RdV.pos h0 (Up.refl _) rfl (i := s184v.1.toNat) (by omega) dz54
 obtain ⟨a246v, c247v, a251v, c252v, rfl, ⟨he248v, hc249v, hm250v⟩, ⟨he253v, hc254v, hm255v⟩⟩ := hV243v
 refine vq (q_idx rfl rfl rfl ha240v Tryz.underlying44 Tryz.sizeOf54 hi238v.1 hi238v.2) rfl ?_
 refine vq (q_fa rfl rfl Tryz.underlying54 rfl rfl Tryz.sizeOf27 rfl) rfl ?_
 refine vq (q_loads (vs := [.int .i64 ((x0.getD s184v.1.toNat dz54).2.2.1), .int .i64 ((x0.getD s184v.1.toNat dz54).2.2.2.1), .slice a246v (((x0.getD s184v.1.toNat dz54).2.2.2.2.1).length) c247v]) rfl rfl Tryz.isAgg27 Tryz.sizeOf27 rfl (fun j v hj => cellAt_off (hcell245v 6 rfl (2 + j) v (cells_lit (off := 2) rfl j v hj)))) rfl ?_
 refine simL_bind (fun s256v hs257v => ?_)
 refine simL_eff (re_call (vs := [.pointer (some ⟨y51v.1, 0, none⟩), .agg #[.int .i64 ((x0.getD s184v.1.toNat dz54).2.2.1), .int .i64 ((x0.getD s184v.1.toNat dz54).2.2.2.1), .slice a246v (((x0.getD s184v.1.toNat dz54).2.2.2.2.1).length) c247v]]) (cap := []) (A := [obj y51v.1 76 [.map (some y185v.2.2.1), str s184v.2.2.2.2.2.2.1, .int .i64 s184v.2.2.2.2.2.2.2.1, .bool s184v.2.2.2.2.2.2.2.2], mapF (mapO y185v.2.2.1 enc9 encP y185v.2.2.2) FA89 y185v.2.2.2 s184v.2.2.2.2.2.1]) (rst := [obj y48v.1 76 [.map (some y237v.1), str s235v.2.2.1, .int .i64 s235v.2.2.2.1, .bool s235v.2.2.2.2], mapF (mapO y237v.1 enc9 encP y237v.2) FA89 y237v.2 s235v.2.1, RowV 71 3 (V71w (y181v.2.2)) y181v.1 s179v y181v.2.1, y181v.2.2, F]) rfl rfl rfl rfl rfl rfl Tryz.call10 (.sel 2 rfl (.sel 3 rfl (.sel 0 rfl (.sel 0 rfl (.sel 0 rfl (.sel 0 rfl (.sel 0 rfl (.nil _)))))))) (snap_Save.calls _ _ k y51v.1 y185v.2.2.1 y185v.2.2.2 s184v.2.2.2.2.2.1 s184v.2.2.2.2.2.2.1 s184v.2.2.2.2.2.2.2.1 s184v.2.2.2.2.2.2.2.2 ((x0.getD s184v.1.toNat dz54).2.2.1) ((x0.getD s184v.1.toNat dz54).2.2.2.1) a246v c247v ((x0.getD s184v.1.toNat dz54).2.2.2.2.1) (he248v.lend 4 rfl) hc249v hm250v (hgl.lend 4 rfl)) hs257v) rfl rfl rfl ?_
 intro y258v
 refine simL_nil (nrm_block (nrm_block (nrm_then (sim_region ?_))))
 refine vm rfl rfl ?_
 refine vq (q_add rfl rfl rfl) rfl ?_
 refine va rfl rfl (simL_nil ?_)
 exact nrm_again (s := (IntKind.i64.wrap (s184v.1 + 1), s235v.2.1, s235v.2.2.1, s235v.2.2.2.1, s235v.2.2.2.2, s256v.2.1, s256v.2.2.1, s256v.2.2.2.1, s256v.2.2.2.2)) (y237v.1, y237v.2, y258v.1, y258v.2) ⟨rfl, rfl, rfl, rfl, rfl, trivial⟩ (.sel 2 rfl (.sel 0 rfl (.sel 2 rfl (.sel 1 rfl (.sel 0 rfl (.sel 0 rfl (.sel 0 rfl (.nil _))))))))
 refine sr ?_
 refine vq (q_eql rfl rfl rfl) rfl ?_
 refine va rfl rfl (simL_nil (nrm_then ?_))
 refine sim_cond rfl (fun h259v => ?_) (fun h260v => ?_)
 refine sr ?_
 refine vm rfl rfl ?_
 refine vm rfl rfl ?_
 refine vm rfl rfl ?_
 refine simL_ask (fun hi261v => ?_)
 obtain ⟨b262v, b262vo, r265v, ha263v, hV266v, hlr267v, hcell268v⟩ := RdV.pos h0 (Up.refl _) rfl (i := s184v.1.toNat) (by omega) dz54
 obtain ⟨a269v, c270v, a274v, c275v, rfl, ⟨he271v, hc272v, hm273v⟩, ⟨he276v, hc277v, hm278v⟩⟩ := hV266v
 refine vq (q_idx rfl rfl rfl ha263v Tryz.underlying44 Tryz.sizeOf54 hi261v.1 hi261v.2) rfl ?_
 refine vq (q_fa rfl rfl Tryz.underlying54 rfl rfl Tryz.sizeOf3 rfl) rfl ?_
 refine vq (q_load rfl rfl Tryz.isAgg3 (hcell268v 6 rfl 1 _ rfl)) rfl ?_
 refine simL_bind (fun s279v hs280v => ?_)
 refine simL_eff (re_call (vs := [.pointer (some ⟨y48v.1, 0, none⟩), .int .i64 ((x0.getD s184v.1.toNat dz54).2.1)]) (cap := []) (A := [obj y48v.1 76 [.map (some y185v.1), str s184v.2.2.1, .int .i64 s184v.2.2.2.1, .bool s184v.2.2.2.2.1], mapF (mapO y185v.1 enc9 encP y185v.2.1) FA89 y185v.2.1 s184v.2.1]) (rst := [obj y51v.1 76 [.map (some y185v.2.2.1), str s184v.2.2.2.2.2.2.1, .int .i64 s184v.2.2.2.2.2.2.2.1, .bool s184v.2.2.2.2.2.2.2.2], RowV 71 3 (V71w (y181v.2.2)) y181v.1 s179v y181v.2.1, mapF (mapO y185v.2.2.1 enc9 encP y185v.2.2.2) FA89 y185v.2.2.2 s184v.2.2.2.2.2.1, y181v.2.2, F]) rfl rfl rfl rfl rfl rfl Tryz.call16 (.sel 0 rfl (.sel 2 rfl (.sel 0 rfl (.sel 0 rfl (.sel 0 rfl (.sel 0 rfl (.sel 0 rfl (.nil _)))))))) (snap_Keep.calls _ _ k y48v.1 y185v.1 y185v.2.1 s184v.2.1 s184v.2.2.1 s184v.2.2.2.1 s184v.2.2.2.2.1 ((x0.getD s184v.1.toNat dz54).2.1) (hgl.lend 4 rfl)) hs280v) rfl rfl rfl ?_
 intro y281v
 refine ny ?_
 refine vm rfl rfl ?_
 refine vm rfl rfl ?_
 refine vm rfl rfl ?_
 refine simL_ask (fun hi282v => ?_)
 obtain ⟨b283v, b283vo, r286v, ha284v, hV287v, hlr288v, hcell289v⟩ := RdV.pos h0 (Up.refl _) rfl (i := s184v.1.toNat) (by omega) dz54
 obtain ⟨a290v, c291v, a295v, c296v, rfl, ⟨he292v, hc293v, hm294v⟩, ⟨he297v, hc298v, hm299v⟩⟩ := hV287v
 refine vq (q_idx rfl rfl rfl ha284v Tryz.underlying44 Tryz.sizeOf54 hi282v.1 hi282v.2) rfl ?_
 refine vq (q_fa rfl rfl Tryz.underlying54 rfl rfl Tryz.sizeOf3 rfl) rfl ?_
 refine vq (q_load rfl rfl Tryz.isAgg3 (hcell289v 6 rfl 1 _ rfl)) rfl ?_
 refine simL_bind (fun s300v hs301v => ?_)
 refine simL_eff (re_call (vs := [.pointer (some ⟨y51v.1, 0, none⟩), .int .i64 ((x0.getD s184v.1.toNat dz54).2.1)]) (cap := []) (A := [obj y51v.1 76 [.map (some y185v.2.2.1), str s184v.2.2.2.2.2.2.1, .int .i64 s184v.2.2.2.2.2.2.2.1, .bool s184v.2.2.2.2.2.2.2.2], mapF (mapO y185v.2.2.1 enc9 encP y185v.2.2.2) FA89 y185v.2.2.2 s184v.2.2.2.2.2.1]) (rst := [obj y48v.1 76 [.map (some y281v.1), str s279v.2.2.2.1, .int .i64 s279v.2.2.2.2.1, .bool s279v.2.2.2.2.2], mapF (mapO y281v.1 enc9 encP y281v.2) FA89 y281v.2 s279v.2.2.1, RowV 71 3 (V71w (y181v.2.2)) y181v.1 s179v y181v.2.1, y181v.2.2, F]) rfl rfl rfl rfl rfl rfl Tryz.call16 (.sel 2 rfl (.sel 3 rfl (.sel 0 rfl (.sel 0 rfl (.sel 0 rfl (.sel 0 rfl (.sel 0 rfl (.nil _)))))))) (snap_Keep.calls _ _ k y51v.1 y185v.2.2.1 y185v.2.2.2 s184v.2.2.2.2.2.1 s184v.2.2.2.2.2.2.1 s184v.2.2.2.2.2.2.2.1 s184v.2.2.2.2.2.2.2.2 ((x0.getD s184v.1.toNat dz54).2.1) (hgl.lend 4 rfl)) hs301v) rfl rfl rfl ?_
 intro y302v
 refine simL_nil (nrm_block (nrm_block (nrm_then (sim_region ?_))))
 refine vm rfl rfl ?_
 refine vq (q_add rfl rfl rfl) rfl ?_
 refine va rfl rfl (simL_nil ?_)
 exact nrm_again (s := (IntKind.i64.wrap (s184v.1 + 1), s279v.2.2.1, s279v.2.2.2.1, s279v.2.2.2.2.1, s279v.2.2.2.2.2, s300v.2.2.1, s300v.2.2.2.1, s300v.2.2.2.2.1, s300v.2.2.2.2.2)) (y281v.1, y281v.2, y302v.1, y302v.2) ⟨rfl, rfl, rfl, rfl, rfl, trivial⟩ (.sel 2 rfl (.sel 0 rfl (.sel 2 rfl (.sel 1 rfl (.sel 0 rfl (.sel 0 rfl (.sel 0 rfl (.nil _))))))))
 refine sim_skip ?_
 refine nrm_block (nrm_block (nrm_then (sim_region ?_)))
 refine vm rfl rfl ?_
 refine vq (q_add rfl rfl rfl) rfl ?_
 refine va rfl rfl (simL_nil ?_)
 exact nrm_again (s := (IntKind.i64.wrap (s184v.1 + 1), s184v.2.1, s184v.2.2.1, s184v.2.2.2.1, s184v.2.2.2.2.1, s184v.2.2.2.2.2.1, s184v.2.2.2.2.2.2.1, s184v.2.2.2.2.2.2.2.1, s184v.2.2.2.2.2.2.2.2)) (y185v.1, y185v.2.1, y185v.2.2.1, y185v.2.2.2) ⟨rfl, rfl, rfl, rfl, rfl, trivial⟩ (.sel 0 rfl (.sel 0 rfl (.sel 0 rfl (.sel 0 rfl (.sel 0 rfl (.sel 0 rfl (.sel 0 rfl (.nil _))))))))
 refine sim_exi ?_
 refine exi_then ?_
 refine exi_loop ?_
 refine exi_here ?_
 exact nrm_cut (s := (s184v.2.1, s184v.2.2.1, s184v.2.2.2.1, s184v.2.2.2.2.1, s184v.2.2.2.2.2.1, s184v.2.2.2.2.2.2.1, s184v.2.2.2.2.2.2.2.1, s184v.2.2.2.2.2.2.2.2)) (y185v.1, y185v.2.1, y185v.2.2.1, y185v.2.2.2) ⟨rfl, rfl, rfl, trivial⟩ (.sel 0 rfl (.sel 0 rfl (.sel 0 rfl (.sel 0 rfl (.sel 0 rfl (.sel 0 rfl (.sel 0 rfl (.nil _))))))))
 intro s182v y183v
 refine sr ?_
 refine vm rfl rfl ?_
 refine simL_bind (fun s303v hs304v => ?_)
 refine simL_eff (re_call (vs := [.pointer (some ⟨y48v.1, 0, none⟩)]) (cap := []) (A := [obj y48v.1 76 [.map (some y183v.1), str s182v.2.1, .int .i64 s182v.2.2.1, .bool s182v.2.2.2.1], mapF (mapO y183v.1 enc9 encP y183v.2.1) FA89 y183v.2.1 s182v.1]) (rst := [obj y51v.1 76 [.map (some y183v.2.2.1), str s182v.2.2.2.2.2.1, .int .i64 s182v.2.2.2.2.2.2.1, .bool s182v.2.2.2.2.2.2.2], RowV 71 3 (V71w (y181v.2.2)) y181v.1 s179v y181v.2.1, mapF (mapO y183v.2.2.1 enc9 encP y183v.2.2.2) FA89 y183v.2.2.2 s182v.2.2.2.2.1, y181v.2.2, F]) rfl rfl rfl rfl rfl rfl Tryz.call15 (.sel 0 rfl (.sel 2 rfl (.sel 0 rfl (.sel 0 rfl (.sel 0 rfl (.sel 0 rfl (.sel 0 rfl (.nil _)))))))) (snap_Load.calls _ _ k y48v.1 y183v.1 y183v.2.1 s182v.1 s182v.2.1 s182v.2.2.1 s182v.2.2.2.1 (hgl.lend 4 rfl)) hs304v) rfl rfl rfl ?_
 intro y305v
 refine vm rfl rfl ?_
 refine vq (q_ext rfl rfl rfl) rfl ?_
 refine vq (q_ext rfl rfl rfl) rfl ?_
 refine vq (q_ext rfl rfl rfl) rfl ?_
 refine simL_eff (re_alloc rfl Tryz.zeroValue27 rfl) rfl rfl rfl ?_
 intro b306v
 refine simL_do (re_store 0 rfl rfl rfl Tryz.sizeOf27 rfl rfl (one_of (by rfl)) rfl rfl) rfl rfl ?_
 intro _
 refine va rfl rfl ?_
 refine va rfl rfl (nx ?_)
 refine vm rfl rfl ?_
 refine simL_bind (fun s307v hs308v => ?_)
 refine simL_eff (re_call (vs := [.pointer (some ⟨y51v.1, 0, none⟩)]) (cap := []) (A := [obj y51v.1 76 [.map (some y183v.2.2.1), str s182v.2.2.2.2.2.1, .int .i64 s182v.2.2.2.2.2.2.1, .bool s182v.2.2.2.2.2.2.2], mapF (mapO y183v.2.2.1 enc9 encP y183v.2.2.2) FA89 y183v.2.2.2 s182v.2.2.2.2.1]) (rst := [obj b306v 27 [.int .i64 s303v.1, .int .i64 s303v.2.1, .slice y305v.1 s303v.2.2.1.length y305v.2], Row 5 1 y305v.1 s303v.2.2.1.length y305v.2 (encB s303v.2.2.1), obj y48v.1 76 [.map (some y183v.1), str s182v.2.1, .int .i64 s182v.2.2.1, .bool s182v.2.2.2.1], mapF (mapO y183v.1 enc9 encP y183v.2.1) FA89 y183v.2.1 s182v.1, RowV 71 3 (V71w (y181v.2.2)) y181v.1 s179v y181v.2.1, y181v.2.2, F]) rfl rfl rfl rfl rfl rfl Tryz.call15 (.sel 4 rfl (.sel 5 rfl (.sel 0 rfl (.sel 0 rfl (.sel 0 rfl (.sel 0 rfl (.sel 0 rfl (.sel 0 rfl (.sel 0 rfl (.nil _)))))))))) (snap_Load.calls _ _ k y51v.1 y183v.2.2.1 y183v.2.2.2 s182v.2.2.2.2.1 s182v.2.2.2.2.2.1 s182v.2.2.2.2.2.2.1 s182v.2.2.2.2.2.2.2 (hgl.lend 6 rfl)) hs308v) rfl rfl rfl ?_
 intro y309v
 refine vm rfl rfl ?_
 refine vq (q_ext rfl rfl rfl) rfl ?_
 refine vq (q_ext rfl rfl rfl) rfl ?_
 refine vq (q_ext rfl rfl rfl) rfl ?_
 refine simL_eff (re_alloc rfl Tryz.zeroValue27 rfl) rfl rfl rfl ?_
 intro b310v
 refine simL_do (re_store 0 rfl rfl rfl Tryz.sizeOf27 rfl rfl (one_of (by rfl)) rfl rfl) rfl rfl ?_
 intro _
 refine va rfl rfl ?_
 refine va rfl rfl (nx ?_)
 refine vq (q_loado 4 rfl rfl Tryz.isAgg27 Tryz.sizeOf27 rfl rfl) rfl ?_
 refine vq (q_loado 0 rfl rfl Tryz.isAgg27 Tryz.sizeOf27 rfl rfl) rfl ?_
 refine simL_bind (fun s319v hs320v => ?_)
 refine simL_lend 5 rfl (fun hq311v hq312v hq313v hq314v => ?_)
 refine simL_lend 1 rfl (fun hq315v hq316v hq317v hq318v => ?_)
 refine simL_eff (re_call (vs := [.agg #[.int .i64 s303v.1, .int .i64 s303v.2.1, .slice y305v.1 s303v.2.2.1.length y305v.2], .agg #[.int .i64 s307v.1, .int .i64 s307v.2.1, .slice y309v.1 s307v.2.2.1.length y309v.2]]) (cap := []) (A := []) (rst := [obj b310v 27 [.int .i64 s307v.1, .int .i64 s307v.2.1, .slice y309v.1 s307v.2.2.1.length y309v.2], Row 5 1 y309v.1 s307v.2.2.1.length y309v.2 (encB s307v.2.2.1), obj y51v.1 76 [.map (some y183v.2.2.1), str s182v.2.2.2.2.2.1, .int .i64 s182v.2.2.2.2.2.2.1, .bool s182v.2.2.2.2.2.2.2], mapF (mapO y183v.2.2.1 enc9 encP y183v.2.2.2) FA89 y183v.2.2.2 s182v.2.2.2.2.1, obj b306v 27 [.int .i64 s303v.1, .int .i64 s303v.2.1, .slice y305v.1 s303v.2.2.1.length y305v.2], Row 5 1 y305v.1 s303v.2.2.1.length y305v.2 (encB s303v.2.2.1), obj y48v.1 76 [.map (some y183v.1), str s182v.2.1, .int .i64 s182v.2.2.1, .bool s182v.2.2.2.1], mapF (mapO y183v.1 enc9 encP y183v.2.1) FA89 y183v.2.1 s182v.1, RowV 71 3 (V71w (y181v.2.2)) y181v.1 s179v y181v.2.1, y181v.2.2, F]) rfl rfl rfl rfl rfl rfl Tryz.call18 (.sel 0 rfl (.sel 0 rfl (.sel 0 rfl (.sel 0 rfl (.sel 0 rfl (.sel 0 rfl (.sel 0 rfl (.sel 0 rfl (.sel 0 rfl (.sel 0 rfl (.sel 0 rfl (.nil _)))))))))))) (synodref_SameSnap.calls _ _ k s303v.1 s303v.2.1 y305v.1 y305v.2 s303v.2.2.1 s307v.1 s307v.2.1 y309v.1 y309v.2 s307v.2.2.1 (hq311v.lend 5 rfl) hq312v hq313v (hq315v.lend 1 rfl) hq316v hq317v) hs320v) rfl rfl rfl ?_
 intro y321v
 refine vm rfl rfl ?_
 refine simL_cut' 6 (S := Bool) (Unit) (fun s y => [(9, .pointer (some ⟨y48v.1, 0, none⟩)), (14, .slice y181v.1 s179v.length y181v.2.1), (17, .int .i64 s303v.2.2.2.1), (18, .int .i64 s303v.2.2.2.2), (20, .int .i64 s307v.2.2.2.1), (21, .int .i64 s307v.2.2.2.2), (204, .bool s)]) (fun s y => [obj y48v.1 76 [.map (some y183v.1), str s182v.2.1, .int .i64 s182v.2.2.1, .bool s182v.2.2.2.1], RowV 71 3 (V71w (y181v.2.2)) y181v.1 s179v y181v.2.1, mapF (mapO y183v.1 enc9 encP y183v.2.1) FA89 y183v.2.1 s182v.1, y181v.2.2, F]) ?_ ?_
 refine simL_caseb (fun hb345v => ?_) (fun hb346v => ?_)
 rw [hb345v]
 refine simL_valg (q_move rfl rfl) rfl rfl rfl rfl rfl rfl ?_
 refine simL_bind (fun s324v hs325v => ?_)
 refine simL_effg (re_call (vs := [.pointer (some ⟨y48v.1, 0, none⟩)]) (cap := []) (A := [obj y48v.1 76 [.map (some y183v.1), str s182v.2.1, .int .i64 s182v.2.2.1, .bool s182v.2.2.2.1], mapF (mapO y183v.1 enc9 encP y183v.2.1) FA89 y183v.2.1 s182v.1]) (rst := [obj b310v 27 [.int .i64 s307v.1, .int .i64 s307v.2.1, .slice y309v.1 s307v.2.2.1.length y309v.2], Row 5 1 y309v.1 s307v.2.2.1.length y309v.2 (encB s307v.2.2.1), obj y51v.1 76 [.map (some y183v.2.2.1), str s182v.2.2.2.2.2.1, .int .i64 s182v.2.2.2.2.2.2.1, .bool s182v.2.2.2.2.2.2.2], mapF (mapO y183v.2.2.1 enc9 encP y183v.2.2.2) FA89 y183v.2.2.2 s182v.2.2.2.2.1, obj b306v 27 [.int .i64 s303v.1, .int .i64 s303v.2.1, .slice y305v.1 s303v.2.2.1.length y305v.2], Row 5 1 y305v.1 s303v.2.2.1.length y305v.2 (encB s303v.2.2.1), RowV 71 3 (V71w (y181v.2.2)) y181v.1 s179v y181v.2.1, y181v.2.2, F]) rfl rfl rfl rfl rfl rfl Tryz.call14 (.sel 6 rfl (.sel 6 rfl (.sel 0 rfl (.sel 0 rfl (.sel 0 rfl (.sel 0 rfl (.sel 0 rfl (.sel 0 rfl (.sel 0 rfl (.sel 0 rfl (.sel 0 rfl (.nil _)))))))))))) (snap_List.calls _ _ k y48v.1 y183v.1 y183v.2.1 s182v.1 s182v.2.1 s182v.2.2.1 s182v.2.2.2.1 (hgl.lend 8 rfl)) hs325v) rfl rfl rfl rfl rfl rfl ?_
 intro y326v
 refine simL_valg (q_move rfl rfl) rfl rfl rfl rfl rfl rfl ?_
 refine simL_bind (fun s327v hs328v => ?_)
 refine simL_effg (re_call (vs := [.pointer (some ⟨y51v.1, 0, none⟩)]) (cap := []) (A := [obj y51v.1 76 [.map (some y183v.2.2.1), str s182v.2.2.2.2.2.1, .int .i64 s182v.2.2.2.2.2.2.1, .bool s182v.2.2.2.2.2.2.2], mapF (mapO y183v.2.2.1 enc9 encP y183v.2.2.2) FA89 y183v.2.2.2 s182v.2.2.2.2.1]) (rst := [RowV 3 1 (V3 tt) y326v.1 s324v y326v.2, obj y48v.1 76 [.map (some y183v.1), str s182v.2.1, .int .i64 s182v.2.2.1, .bool s182v.2.2.2.1], mapF (mapO y183v.1 enc9 encP y183v.2.1) FA89 y183v.2.1 s182v.1, obj b310v 27 [.int .i64 s307v.1, .int .i64 s307v.2.1, .slice y309v.1 s307v.2.2.1.length y309v.2], Row 5 1 y309v.1 s307v.2.2.1.length y309v.2 (encB s307v.2.2.1), obj b306v 27 [.int .i64 s303v.1, .int .i64 s303v.2.1, .slice y305v.1 s303v.2.2.1.length y305v.2], Row 5 1 y305v.1 s303v.2.2.1.length y305v.2 (encB s303v.2.2.1), RowV 71 3 (V71w (y181v.2.2)) y181v.1 s179v y181v.2.1, y181v.2.2, F]) rfl rfl rfl rfl rfl rfl Tryz.call14 (.sel 5 rfl (.sel 5 rfl (.sel 0 rfl (.sel 0 rfl (.sel 0 rfl (.sel 0 rfl (.sel 0 rfl (.sel 0 rfl (.sel 0 rfl (.sel 0 rfl (.sel 0 rfl (.sel 0 rfl (.nil _))))))))))))) (snap_List.calls _ _ k y51v.1 y183v.2.2.1 y183v.2.2.2 s182v.2.2.2.2.1 s182v.2.2.2.2.2.1 s182v.2.2.2.2.2.2.1 s182v.2.2.2.2.2.2.2 (hgl.lend 9 rfl)) hs328v) rfl rfl rfl rfl rfl rfl ?_
 intro y329v
 refine simL_openV 0 rfl (fun rs330v hl331v => ?_)
 refine simL_openV 3 rfl (fun rs332v hl333v => ?_)
 refine simL_bind (fun s342v hs343v => ?_)
 refine simL_lend 3 rfl (fun hq334v hq335v hq336v hq337v => ?_)
 refine simL_lend 0 rfl (fun hq338v hq339v hq340v hq341v => ?_)
 refine simL_effg (re_call (vs := [.slice y326v.1 s324v.length y326v.2, .slice y329v.1 s327v.length y329v.2]) (cap := []) (A := []) (rst := [Row 3 1 y329v.1 s327v.length y329v.2 rs330v.flatten, obj y51v.1 76 [.map (some y183v.2.2.1), str s182v.2.2.2.2.2.1, .int .i64 s182v.2.2.2.2.2.2.1, .bool s182v.2.2.2.2.2.2.2], mapF (mapO y183v.2.2.1 enc9 encP y183v.2.2.2) FA89 y183v.2.2.2 s182v.2.2.2.2.1, Row 3 1 y326v.1 s324v.length y326v.2 rs332v.flatten, obj y48v.1 76 [.map (some y183v.1), str s182v.2.1, .int .i64 s182v.2.2.1, .bool s182v.2.2.2.1], mapF (mapO y183v.1 enc9 encP y183v.2.1) FA89 y183v.2.1 s182v.1, obj b310v 27 [.int .i64 s307v.1, .int .i64 s307v.2.1, .slice y309v.1 s307v.2.2.1.length y309v.2], Row 5 1 y309v.1 s307v.2.2.1.length y309v.2 (encB s307v.2.2.1), obj b306v 27 [.int .i64 s303v.1, .int .i64 s303v.2.1, .slice y305v.1 s303v.2.2.1.length y305v.2], Row 5 1 y305v.1 s303v.2.2.1.length y305v.2 (encB s303v.2.2.1), RowV 71 3 (V71w (y181v.2.2)) y181v.1 s179v y181v.2.1, y181v.2.2, F]) rfl rfl rfl rfl rfl rfl Tryz.call17 (.sel 0 rfl (.sel 0 rfl (.sel 0 rfl (.sel 0 rfl (.sel 0 rfl (.sel 0 rfl (.sel 0 rfl (.sel 0 rfl (.sel 0 rfl (.sel 0 rfl (.sel 0 rfl (.sel 0 rfl (.sel 0 rfl (.nil _)))))))))))))) (synodref_SameInts.calls _ _ k y326v.1 y326v.2 s324v y329v.1 y329v.2 s327v ((Rd.asV hl333v hq334v).up (Up.lend 3 rfl) (fun _ _ h => h)) hq335v hq336v ((Rd.asV hl331v hq338v).up (Up.lend 0 rfl) (fun _ _ h => h)) hq339v hq340v) hs343v) rfl rfl rfl rfl rfl rfl ?_
 intro y344v
 refine vq (q_pick rfl rfl rfl rfl rfl) rfl (simL_nil ?_)
 exact nrm_cut (s := s342v) () ⟨rfl, rfl, rfl, rfl, rfl, rfl, rfl, trivial⟩ (.sel 4 rfl (.sel 9 rfl (.sel 4 rfl (.sel 8 rfl (.sel 8 rfl (.nil _))))))
 rw [hb346v]
 refine simL_skipd rfl rfl rfl rfl rfl rfl ?_
 refine simL_skipd rfl rfl rfl rfl rfl rfl ?_
 refine simL_skipd rfl rfl rfl rfl rfl rfl ?_
 refine simL_skipd rfl rfl rfl rfl rfl rfl ?_
 refine simL_skipd rfl rfl rfl rfl rfl rfl ?_
 refine vq (q_pick rfl rfl rfl rfl rfl) rfl (simL_nil ?_)
 exact nrm_cut (s := false) () ⟨rfl, rfl, rfl, rfl, rfl, rfl, rfl, trivial⟩ (.sel 6 rfl (.sel 7 rfl (.sel 6 rfl (.sel 6 rfl (.sel 6 rfl (.nil _))))))
 intro s322v y323v
 refine va rfl rfl (nx ?_)
 refine vm rfl rfl ?_
 refine simL_bind (fun s347v hs348v => ?_)
 refine simL_eff (re_call (vs := [.pointer (some ⟨y48v.1, 0, none⟩)]) (cap := []) (A := [obj y48v.1 76 [.map (some y183v.1), str s182v.2.1, .int .i64 s182v.2.2.1, .bool s182v.2.2.2.1], mapF (mapO y183v.1 enc9 encP y183v.2.1) FA89 y183v.2.1 s182v.1]) (rst := [RowV 71 3 (V71w (y181v.2.2)) y181v.1 s179v y181v.2.1, y181v.2.2, F]) rfl rfl rfl rfl rfl rfl Tryz.call32 (.sel 0 rfl (.sel 1 rfl (.sel 0 rfl (.sel 0 rfl (.sel 0 rfl (.nil _)))))) (disk_Disk_Files.calls _ _ k y48v.1 y183v.1 y183v.2.1 s182v.1 s182v.2.1 s182v.2.2.1 s182v.2.2.2.1 ) hs348v) rfl rfl rfl ?_
 intro y349v
 refine va rfl rfl (nx ?_)
 refine va rfl rfl (simL_nil (nrm_then ?_))
 refine sim_cutR (S := Int) (Unit) (fun s y => [(14, .slice y181v.1 s179v.length y181v.2.1), (17, .int .i64 s303v.2.2.2.1), (18, .int .i64 s303v.2.2.2.2), (20, .int .i64 s307v.2.2.2.1), (21, .int .i64 s307v.2.2.2.2), (22, .bool s322v), (24, .int .i64 s)]) (fun s y => [RowV 71 3 (V71w (y181v.2.2)) y181v.1 s179v y181v.2.1, y181v.2.2, F]) ?_ ?_
 refine sr ?_
 refine va rfl rfl (simL_nil (nrm_then ?_))
 refine sim_block ?_
 refine sim_loop (S := Int × Int) (Unit) (fun k s => synodlaw6_SnapBeside.l3 s179v s347v k s.1 s.2) (fun s y => [(14, .slice y181v.1 s179v.length y181v.2.1), (17, .int .i64 s303v.2.2.2.1), (18, .int .i64 s303v.2.2.2.2), (20, .int .i64 s307v.2.2.2.1), (21, .int .i64 s307v.2.2.2.2), (22, .bool s322v), (23, .slice y349v.1 s347v.length y349v.2.1), (24, .int .i64 s.1), (25, .int .i64 s.2)]) (fun s y => [RowV 71 3 (V71w (y181v.2.2)) y181v.1 s179v y181v.2.1, RowV 71 3 (V71w (y349v.2.2)) y349v.1 s347v y349v.2.1, y181v.2.2, y349v.2.2, F]) (fun _ => by rw [synodlaw6_SnapBeside.l3]) ?_ k (0, 0) () ⟨rfl, rfl, rfl, rfl, rfl, rfl, rfl, rfl, rfl, trivial⟩ (.sel 4 rfl (.sel 0 rfl (.sel 3 rfl (.sel 0 rfl (.sel 2 rfl (.nil _))))))
 intro k s352v y353v
 refine sim_eq (by rw [synodlaw6_SnapBeside.l3]) ?_
 refine sim_seq (sr ?_)
 refine vm rfl rfl ?_
 refine vm rfl rfl ?_
 refine vq (q_len rfl rfl rfl Tryz.underlying47) rfl ?_
 refine vq (q_lss rfl rfl rfl) rfl (simL_nil (nrm_then ?_))
 refine sim_cond rfl (fun h356v => ?_) (fun h357v => ?_)
 refine sim_skip ?_
 refine nrm_then (sim_seq ?_)
 refine sim_block ?_
 refine sr ?_
 refine vm rfl rfl ?_
 refine vm rfl rfl ?_
 refine simL_openV 1 rfl (fun rs366v hl367v => ?_)
 refine simL_ask (fun hi358v => ?_)
 refine simL_posV 1 rfl hl367v rfl (i := s352v.2.toNat) (by omega) dz71 (fun b359v b359vo r362v ha360v hV363v hlr364v hcell365v => ?_)
 obtain ⟨a368v, c369v, rfl, ⟨he370v, hc371v, hm372v⟩⟩ := hV363v
 refine vq (q_idx rfl rfl rfl ha360v Tryz.underlying47 Tryz.sizeOf71 hi358v.1 hi358v.2) rfl ?_
 refine vq (q_fa rfl rfl Tryz.underlying71 rfl rfl Tryz.sizeOf9 rfl) rfl ?_
 refine vq (q_load rfl rfl Tryz.isAgg9 (hcell365v 1 rfl 0 _ rfl)) rfl ?_
 refine simL_bind (fun s373v hs374v => ?_)
 refine simL_eff (re_call (vs := [str ((s347v.getD s352v.2.toNat dz71).1)]) (cap := []) (A := []) (rst := [RowV 71 3 (V71w (y181v.2.2)) y181v.1 s179v y181v.2.1, Row 71 3 y349v.1 s347v.length y349v.2.1 rs366v.flatten, y181v.2.2, y349v.2.2, F]) rfl rfl rfl rfl rfl rfl Tryz.call24 (.sel 0 rfl (.sel 0 rfl (.sel 0 rfl (.sel 0 rfl (.sel 0 rfl (.nil _)))))) (snap_Index.calls _ _ ((s347v.getD s352v.2.toNat dz71).1) (hgl.lend 4 rfl)) hs374v) rfl rfl rfl ?_
 intro y375v
 refine vm rfl rfl ?_
 refine vq (q_ext rfl rfl rfl) rfl ?_
 refine vq (q_ext rfl rfl rfl) rfl ?_
 refine va rfl rfl ?_
 refine va rfl rfl (simL_nil (nrm_then (sim_seq (sr ?_))))
 refine vm rfl rfl ?_
 refine vm rfl rfl ?_
 refine simL_cut' 7 (S := Bool) (Unit) (fun s y => [(14, .slice y181v.1 s179v.length y181v.2.1), (17, .int .i64 s303v.2.2.2.1), (18, .int .i64 s303v.2.2.2.2), (20, .int .i64 s307v.2.2.2.1), (21, .int .i64 s307v.2.2.2.2), (22, .bool s322v), (23, .slice y349v.1 s347v.length y349v.2.1), (24, .int .i64 s352v.1), (25, .int .i64 s352v.2), (230, .bool s)]) (fun s y => [RowV 71 3 (V71w (y181v.2.2)) y181v.1 s179v y181v.2.1, RowV 71 3 (V71w (y349v.2.2)) y349v.1 s347v y349v.2.1, y181v.2.2, y349v.2.2, F]) ?_ ?_
 refine simL_caseb (fun hb391v => ?_) (fun hb392v => ?_)
 rw [hb391v]
 refine simL_skipd rfl rfl rfl rfl rfl rfl ?_
 refine simL_skipd rfl rfl rfl rfl rfl rfl ?_
 refine simL_skipd rfl rfl rfl rfl rfl rfl ?_
 refine simL_skipd rfl rfl rfl rfl rfl rfl ?_
 refine simL_skipd rfl rfl rfl rfl rfl rfl ?_
 refine simL_skipd rfl rfl rfl rfl rfl rfl ?_
 refine vq (q_pick rfl rfl rfl rfl rfl) rfl (simL_nil ?_)
 exact nrm_cut (s := true) () ⟨rfl, rfl, rfl, rfl, rfl, rfl, rfl, rfl, rfl, rfl, trivial⟩ (.sel 0 rfl (.sel' 0 rfl (RowV.mk hl367v) (.sel 0 rfl (.sel 0 rfl (.sel 0 rfl (.nil _))))))
 rw [hb392v]
 refine simL_valg (q_move rfl rfl) rfl rfl rfl rfl rfl rfl ?_
 refine simL_valg (q_move rfl rfl) rfl rfl rfl rfl rfl rfl ?_
 refine simL_ask (fun hi378v => ?_)
 refine simL_posV 1 rfl hl367v rfl (i := s352v.2.toNat) (by omega) dz71 (fun b379v b379vo r382v ha380v hV383v hlr384v hcell385v => ?_)
 obtain ⟨a386v, c387v, rfl, ⟨he388v, hc389v, hm390v⟩⟩ := hV383v
 refine simL_valg (q_idx rfl rfl rfl ha380v Tryz.underlying47 Tryz.sizeOf71 hi378v.1 hi378v.2) rfl rfl rfl rfl rfl rfl ?_
 refine simL_valg (q_fa rfl rfl Tryz.underlying71 rfl rfl Tryz.sizeOf9 rfl) rfl rfl rfl rfl rfl rfl ?_
 refine simL_valg (q_load rfl rfl Tryz.isAgg9 (hcell385v 1 rfl 0 _ rfl)) rfl rfl rfl rfl rfl rfl ?_
 refine simL_valg (q_eqs rfl rfl rfl) rfl rfl rfl rfl rfl rfl ?_
 refine vq (q_pick rfl rfl rfl rfl rfl) rfl (simL_nil ?_)
 exact nrm_cut (s := decide (((s347v.getD s352v.2.toNat dz71).1) = ([115, 110, 97, 112, 46, 116, 109, 112] : List UInt8))) () ⟨rfl, rfl, rfl, rfl, rfl, rfl, rfl, rfl, rfl, rfl, trivial⟩ (.sel 0 rfl (.sel' 0 rfl (RowV.mk hl367v) (.sel 0 rfl (.sel 0 rfl (.sel 0 rfl (.nil _))))))
 intro s376v y377v
 refine simL_nil (nrm_then ?_)
 refine sim_condb rfl (fun h393v => ?_) (fun h394v => ?_)
 refine sim_exi ?_
 refine exi_then ?_
 refine exi_here ?_
 refine nrm_then (sim_region ?_)
 refine vm rfl rfl ?_
 refine vq (q_add rfl rfl rfl) rfl ?_
 refine va rfl rfl (simL_nil ?_)
 exact nrm_again (s := (s352v.1, IntKind.i64.wrap (s352v.2 + 1))) () ⟨rfl, rfl, rfl, rfl, rfl, rfl, rfl, rfl, rfl, trivial⟩ (.sel 0 rfl (.sel 0 rfl (.sel 0 rfl (.sel 0 rfl (.sel 0 rfl (.nil _))))))
 refine sim_skip ?_
 refine nrm_then (sim_seq ?_)
 refine sim_cut (S := Bool) (Unit) (fun s y => [(14, .slice y181v.1 s179v.length y181v.2.1), (17, .int .i64 s303v.2.2.2.1), (18, .int .i64 s303v.2.2.2.2), (20, .int .i64 s307v.2.2.2.1), (21, .int .i64 s307v.2.2.2.2), (22, .bool s322v), (23, .slice y349v.1 s347v.length y349v.2.1), (24, .int .i64 s352v.1), (25, .int .i64 s352v.2), (274, .bool s)]) (fun s y => [RowV 71 3 (V71w (y181v.2.2)) y181v.1 s179v y181v.2.1, RowV 71 3 (V71w (y349v.2.2)) y349v.1 s347v y349v.2.1, y181v.2.2, y349v.2.2, F]) ?_ ?_
 refine sim_openV 0 rfl (fun rs397v hl398v => ?_)
 refine sim_openV 1 rfl (fun rs399v hl400v => ?_)
 refine sim_if (fun hk401v => ?_) (fun hk401v => ?_)
 refine sim_draw (Γ := Unit) () [[], [], [1], [0, 1, 2], rL 4, rL 5, rL 5, rL 7, rL 8, rL 9, rL 5, rL 5, [0, 1, 2, 3, 4, 10, 11], [0, 1, 2, 3, 4, 10, 11, 12], [0, 1, 2, 3, 4, 10, 11, 12, 13], rL 15, rL 16, rL 17, rL 18, rL 18, rL 20, rL 21, rL 22, rL 18, rL 18, [0, 1, 2, 3, 4, 5, 6, 7, 8, 9, 10, 11, 12, 13, 14, 15, 16, 17, 23, 24], [0, 1, 2, 3, 4, 5, 6, 7, 8, 9, 10, 11, 12, 13, 14, 15, 16, 17, 23, 24, 25], [0, 1, 2, 3, 4, 5, 6, 7, 8, 9, 10, 11, 12, 13, 14, 15, 16, 17, 23, 24, 25, 26], rL 28, rL 29, rL 30, rL 31, rL 31, rL 33, rL 34, rL 35, rL 31, rL 31, [0, 1, 2, 3, 4, 5, 6, 7, 8, 9, 10, 11, 12, 13, 14, 15, 16, 17, 18, 19, 20, 21, 22, 23, 24, 25, 26, 27, 28, 29, 30, 36, 37], [0, 1, 2, 3, 4, 5, 6, 7, 8, 9, 10, 11, 12, 13, 14, 15, 16, 17, 18, 19, 20, 21, 22, 23, 24, 25, 26, 27, 28, 29, 30, 36, 37, 38], [0, 1, 2, 3, 4, 5, 6, 7, 8, 9, 10, 11, 12, 13, 14, 15, 16, 17, 18, 19, 20, 21, 22, 23, 24, 25, 26, 27, 28, 29, 30, 36, 37, 38, 39], rL 41, rL 42, rL 43] [] [0, 1, 2, 3, 4, 5, 6, 7, 8, 9, 10, 11, 12, 13, 14, 15, 16, 17, 18, 19, 20, 21, 22, 23, 24, 25, 26, 27, 28, 29, 30, 31, 32, 33, 34, 35, 36, 37, 38, 39, 40, 41, 42, 43] (fun i => [[0], [0], [0], [0], [0], [0], [0], [0], [0], [0], [0], [0], [0], [0], [0], [0], [0], [0], [0], [0], [0], [0], [0], [0], [0], [0], [0], [0], [0], [0], [0], [0], [0], [0], [0], [0], [0], [0], [0], [0], [0], [0], [0], [0]].getD i []) (fun i => [[], [], [], [], [], [], [], [], [], [], [], [], [], [], [], [], [], [], [], [], [], [], [], [], [], [], [], [], [], [], [], [], [], [], [], [], [], [], [], [], [], [], [], []].getD i []) (fun γ i => [.int .i64 s352v.1, .slice y181v.1 s179v.length y181v.2.1, .int .i64 (s179v.length : Int), .bool (decide ((s179v.length : Int) ≤ s352v.1)), .bool (decide ((s179v.length : Int) ≤ s352v.1)), undef, undef, undef, undef, undef, undef, undef, undef, undef, undef, undef, .bool true, .bool true, undef, undef, undef, undef, undef, undef, undef, undef, undef, undef, undef, .bool true, .bool true, undef, undef, undef, undef, undef, undef, undef, undef, undef, undef, undef, undef, .bool true].getD i undef) (fun j γ => [[Row 71 3 y181v.1 s179v.length y181v.2.1 rs397v.flatten, Row 71 3 y349v.1 s347v.length y349v.2.1 rs399v.flatten, y181v.2.2, y349v.2.2, F]].getD j []) (fun γ => [(14, .slice y181v.1 s179v.length y181v.2.1), (17, .int .i64 s303v.2.2.2.1), (18, .int .i64 s303v.2.2.2.2), (20, .int .i64 s307v.2.2.2.1), (21, .int .i64 s307v.2.2.2.2), (22, .bool s322v), (23, .slice y349v.1 s347v.length y349v.2.1), (24, .int .i64 s352v.1), (25, .int .i64 s352v.2), (236, undef), (237, undef), (238, undef), (239, undef), (240, undef), (241, undef), (242, undef), (243, undef), (244, undef), (245, undef), (246, undef), (249, undef), (250, undef), (251, undef), (252, undef), (253, undef), (254, undef), (255, undef), (256, undef), (257, undef), (258, undef), (259, undef), (262, undef), (263, undef), (264, undef), (265, undef), (266, undef), (267, undef), (268, undef), (269, undef), (270, undef), (271, undef), (272, undef), (273, undef), (274, .bool true)]) mixed (by decide) (by decide) (by decide) (by decide) (by decide) (by decide) (by decide) 294 rfl (by decide) (by decide) (by decide) (Ent.refl _) ?_ ?_ (fun _ => ⟨rfl, rfl, rfl, rfl, rfl, rfl, rfl, rfl, rfl, rfl, rfl, rfl, rfl, rfl, rfl, rfl, rfl, rfl, rfl, rfl, rfl, rfl, rfl, rfl, rfl, rfl, rfl, rfl, rfl, rfl, rfl, rfl, rfl, rfl, rfl, rfl, rfl, rfl, rfl, rfl, rfl, rfl, rfl, rfl, trivial⟩) ?_
 exact (aq rfl (fun γ => qm rfl (.o (s := 24) rfl (by decide) .nil) rfl) (aq rfl (fun γ => qm rfl (.o (s := 14) rfl (by decide) .nil) rfl) (aq rfl (fun γ => qp rfl rfl (.v 1 rfl rfl .nil) (q_len rfl rfl rfl Tryz.underlying47) rfl) (aq rfl (fun γ => qp rfl rfl (.v 0 rfl rfl (.v 2 rfl rfl .nil)) (q_geq rfl rfl rfl) rfl) (aq rfl (fun γ => qm rfl (.v 3 rfl rfl .nil) rfl) (aq rfl (fun γ => qn rfl rfl (.o (s := 23) rfl (by decide) (.v 4 rfl rfl .nil)) rfl rfl (beq_yes' (decide_eq_true hk401v)) rfl) (aq rfl (fun γ => qn rfl rfl (.o (s := 25) rfl (by decide) (.v 4 rfl rfl .nil)) rfl rfl (beq_yes' (decide_eq_true hk401v)) rfl) (aq rfl (fun γ => qn rfl rfl (.v 4 rfl rfl (.v 5 rfl rfl (.v 6 rfl rfl .nil))) rfl rfl (beq_yes' (decide_eq_true hk401v)) rfl) (aq rfl (fun γ => qn rfl rfl (.v 4 rfl rfl (.v 7 rfl rfl .nil)) rfl rfl (beq_yes' (decide_eq_true hk401v)) rfl) (aq rfl (fun γ => qn rfl rfl (.v 4 rfl rfl (.v 8 rfl rfl .nil)) rfl rfl (beq_yes' (decide_eq_true hk401v)) rfl) (aq rfl (fun γ => qn rfl rfl (.o (s := 14) rfl (by decide) (.v 4 rfl rfl .nil)) rfl rfl (beq_yes' (decide_eq_true hk401v)) rfl) (aq rfl (fun γ => qn rfl rfl (.o (s := 24) rfl (by decide) (.v 4 rfl rfl .nil)) rfl rfl (beq_yes' (decide_eq_true hk401v)) rfl) (aq rfl (fun γ => qn rfl rfl (.v 4 rfl rfl (.v 10 rfl rfl (.v 11 rfl rfl .nil))) rfl rfl (beq_yes' (decide_eq_true hk401v)) rfl) (aq rfl (fun γ => qn rfl rfl (.v 4 rfl rfl (.v 12 rfl rfl .nil)) rfl rfl (beq_yes' (decide_eq_true hk401v)) rfl) (aq rfl (fun γ => qn rfl rfl (.v 4 rfl rfl (.v 13 rfl rfl .nil)) rfl rfl (beq_yes' (decide_eq_true hk401v)) rfl) (aq rfl (fun γ => qn rfl rfl (.v 4 rfl rfl (.v 9 rfl rfl (.v 14 rfl rfl .nil))) rfl rfl (beq_yes' (decide_eq_true hk401v)) rfl) (aq rfl (fun γ => qp rfl rfl (.v 4 rfl rfl (.v 15 rfl rfl .nil)) (q_pick rfl rfl rfl rfl (bif_yes (decide_eq_true hk401v) _ _)) rfl) (aq rfl (fun γ => qm rfl (.v 16 rfl rfl .nil) rfl) (aq rfl (fun γ => qn rfl rfl (.o (s := 23) rfl (by decide) (.v 17 rfl rfl .nil)) rfl rfl rfl rfl) (aq rfl (fun γ => qn rfl rfl (.o (s := 25) rfl (by decide) (.v 17 rfl rfl .nil)) rfl rfl rfl rfl) (aq rfl (fun γ => qn rfl rfl (.v 17 rfl rfl (.v 18 rfl rfl (.v 19 rfl rfl .nil))) rfl rfl rfl rfl) (aq rfl (fun γ => qn rfl rfl (.v 17 rfl rfl (.v 20 rfl rfl .nil)) rfl rfl rfl rfl) (aq rfl (fun γ => qn rfl rfl (.v 17 rfl rfl (.v 21 rfl rfl .nil)) rfl rfl rfl rfl) (aq rfl (fun γ => qn rfl rfl (.o (s := 14) rfl (by decide) (.v 17 rfl rfl .nil)) rfl rfl rfl rfl) (aq rfl (fun γ => qn rfl rfl (.o (s := 24) rfl (by decide) (.v 17 rfl rfl .nil)) rfl rfl rfl rfl) (aq rfl (fun γ => qn rfl rfl (.v 17 rfl rfl (.v 23 rfl rfl (.v 24 rfl rfl .nil))) rfl rfl rfl rfl) (aq rfl (fun γ => qn rfl rfl (.v 17 rfl rfl (.v 25 rfl rfl .nil)) rfl rfl rfl rfl) (aq rfl (fun γ => qn rfl rfl (.v 17 rfl rfl (.v 26 rfl rfl .nil)) rfl rfl rfl rfl) (aq rfl (fun γ => qn rfl rfl (.v 17 rfl rfl (.v 22 rfl rfl (.v 27 rfl rfl .nil))) rfl rfl rfl rfl) (aq rfl (fun γ => qp rfl rfl (.v 17 rfl rfl (.v 28 rfl rfl .nil)) (q_pick rfl rfl rfl rfl rfl) rfl) (aq rfl (fun γ => qm rfl (.v 29 rfl rfl .nil) rfl) (aq rfl (fun γ => qn rfl rfl (.o (s := 23) rfl (by decide) (.v 30 rfl rfl .nil)) rfl rfl rfl rfl) (aq rfl (fun γ => qn rfl rfl (.o (s := 25) rfl (by decide) (.v 30 rfl rfl .nil)) rfl rfl rfl rfl) (aq rfl (fun γ => qn rfl rfl (.v 30 rfl rfl (.v 31 rfl rfl (.v 32 rfl rfl .nil))) rfl rfl rfl rfl) (aq rfl (fun γ => qn rfl rfl (.v 30 rfl rfl (.v 33 rfl rfl .nil)) rfl rfl rfl rfl) (aq rfl (fun γ => qn rfl rfl (.v 30 rfl rfl (.v 34 rfl rfl .nil)) rfl rfl rfl rfl) (aq rfl (fun γ => qn rfl rfl (.o (s := 14) rfl (by decide) (.v 30 rfl rfl .nil)) rfl rfl rfl rfl) (aq rfl (fun γ => qn rfl rfl (.o (s := 24) rfl (by decide) (.v 30 rfl rfl .nil)) rfl rfl rfl rfl) (aq rfl (fun γ => qn rfl rfl (.v 30 rfl rfl (.v 36 rfl rfl (.v 37 rfl rfl .nil))) rfl rfl rfl rfl) (aq rfl (fun γ => qn rfl rfl (.v 30 rfl rfl (.v 38 rfl rfl .nil)) rfl rfl rfl rfl) (aq rfl (fun γ => qn rfl rfl (.v 30 rfl rfl (.v 39 rfl rfl .nil)) rfl rfl rfl rfl) (aq rfl (fun γ => qn rfl rfl (.v 30 rfl rfl (.v 35 rfl rfl (.v 40 rfl rfl .nil))) rfl rfl rfl rfl) (aq rfl (fun γ => qn rfl rfl (.v 30 rfl rfl (.v 41 rfl rfl .nil)) rfl rfl rfl rfl) (aq rfl (fun γ => qp rfl rfl (.v 30 rfl rfl (.v 42 rfl rfl .nil)) (q_pick rfl rfl rfl rfl rfl) rfl) zA))))))))))))))))))))))))))))))))))))))))))))
 exact zA
 intro g402v
 exact nrm_cut (s := true) () ⟨rfl, rfl, rfl, rfl, rfl, rfl, rfl, rfl, rfl, rfl, trivial⟩ (.sel' 0 rfl (RowV.mk hl398v) (.sel' 0 rfl (RowV.mk hl400v) (.sel 0 rfl (.sel 0 rfl (.sel 0 rfl (.nil _))))))
 refine sim_ask (fun hi403v => ?_)
 refine sim_posV 1 rfl hl400v rfl (i := s352v.2.toNat) (by omega) dz71 (fun b404v b404vo r407v ha405v hV408v hlr409v hcell410v => ?_)
 obtain ⟨a411v, c412v, rfl, ⟨he413v, hc414v, hm415v⟩⟩ := hV408v
 refine sim_ask (fun hi416v => ?_)
 refine sim_posV 0 rfl hl398v rfl (i := s352v.1.toNat) (by omega) dz71 (fun b417v b417vo r420v ha418v hV421v hlr422v hcell423v => ?_)
 obtain ⟨a424v, c425v, rfl, ⟨he426v, hc427v, hm428v⟩⟩ := hV421v
 refine sim_if (fun hk429v => ?_) (fun hk429v => ?_)
 refine sim_ask (fun hi431v => ?_)
 refine sim_posV 1 rfl hl400v rfl (i := s352v.2.toNat) (by omega) dz71 (fun b432v b432vo r435v ha433v hV436v hlr437v hcell438v => ?_)
 obtain ⟨a439v, c440v, rfl, ⟨he441v, hc442v, hm443v⟩⟩ := hV436v
 refine sim_ask (fun hi444v => ?_)
 refine sim_posV 0 rfl hl398v rfl (i := s352v.1.toNat) (by omega) dz71 (fun b445v b445vo r448v ha446v hV449v hlr450v hcell451v => ?_)
 obtain ⟨a452v, c453v, rfl, ⟨he454v, hc455v, hm456v⟩⟩ := hV449v
 refine sim_if (fun hk457v => ?_) (fun hk457v => ?_)
 refine sim_ask (fun hi459v => ?_)
 refine sim_posV 1 rfl hl400v rfl (i := s352v.2.toNat) (by omega) dz71 (fun b460v b460vo r463v ha461v hV464v hlr465v hcell466v => ?_)
 obtain ⟨a467v, c468v, rfl, ⟨he469v, hc470v, hm471v⟩⟩ := hV464v
 refine sim_ask (fun hi472v => ?_)
 refine sim_posV 0 rfl hl398v rfl (i := s352v.1.toNat) (by omega) dz71 (fun b473v b473vo r476v ha474v hV477v hlr478v hcell479v => ?_)
 obtain ⟨a480v, c481v, rfl, ⟨he482v, hc483v, hm484v⟩⟩ := hV477v
 refine sim_bind (fun s485v hs486v => ?_)
 refine sim_draw (Γ := Unit) () [[], [], [1], [0, 1, 2], rL 4, rL 5, rL 5, rL 7, rL 8, rL 9, rL 5, rL 5, [0, 1, 2, 3, 4, 10, 11], [0, 1, 2, 3, 4, 10, 11, 12], [0, 1, 2, 3, 4, 10, 11, 12, 13], rL 15, rL 16, rL 17, rL 18, rL 18, rL 20, rL 21, rL 22, rL 18, rL 18, [0, 1, 2, 3, 4, 5, 6, 7, 8, 9, 10, 11, 12, 13, 14, 15, 16, 17, 23, 24], [0, 1, 2, 3, 4, 5, 6, 7, 8, 9, 10, 11, 12, 13, 14, 15, 16, 17, 23, 24, 25], [0, 1, 2, 3, 4, 5, 6, 7, 8, 9, 10, 11, 12, 13, 14, 15, 16, 17, 23, 24, 25, 26], rL 28, rL 29, rL 30, rL 31, rL 31, rL 33, rL 34, rL 35, rL 31, rL 31, [0, 1, 2, 3, 4, 5, 6, 7, 8, 9, 10, 11, 12, 13, 14, 15, 16, 17, 18, 19, 20, 21, 22, 23, 24, 25, 26, 27, 28, 29, 30, 36, 37], [0, 1, 2, 3, 4, 5, 6, 7, 8, 9, 10, 11, 12, 13, 14, 15, 16, 17, 18, 19, 20, 21, 22, 23, 24, 25, 26, 27, 28, 29, 30, 36, 37, 38], [0, 1, 2, 3, 4, 5, 6, 7, 8, 9, 10, 11, 12, 13, 14, 15, 16, 17, 18, 19, 20, 21, 22, 23, 24, 25, 26, 27, 28, 29, 30, 36, 37, 38, 39], rL 41, rL 42, rL 43] [] [0, 1, 2, 3, 4, 5, 6, 7, 8, 9, 10, 11, 12, 13, 14, 15, 16, 17, 18, 19, 20, 21, 22, 23, 24, 25, 26, 27, 28, 29, 30, 31, 32, 33, 34, 35, 36, 37, 38, 39, 40, 41, 42, 43] (fun i => [[0], [0], [0], [0], [0], [0], [0], [0], [0], [0], [0], [0], [0], [0], [0], [0], [0], [0], [0], [0], [0], [0], [0], [0], [0], [0], [0], [0], [0], [0], [0], [0], [0], [0], [0], [0], [0], [0], [0], [0], [0], [0], [0], [0]].getD i []) (fun i => [[], [], [], [], [], [], [], [], [], [], [], [], [], [], [], [], [], [], [], [], [], [], [], [], [], [], [], [], [], [], [], [], [], [], [], [], [], [], [], [], [], [], [], []].getD i []) (fun γ i => [.int .i64 s352v.1, .slice y181v.1 s179v.length y181v.2.1, .int .i64 (s179v.length : Int), .bool (decide ((s179v.length : Int) ≤ s352v.1)), .bool (decide ((s179v.length : Int) ≤ s352v.1)), .slice y349v.1 s347v.length y349v.2.1, .int .i64 s352v.2, .pointer (some ⟨b404v, b404vo + s352v.2.toNat * 3, none⟩), .pointer (some ⟨b404v, b404vo + s352v.2.toNat * 3 + 0, none⟩), str ((s347v.getD s352v.2.toNat dz71).1), .slice y181v.1 s179v.length y181v.2.1, .int .i64 s352v.1, .pointer (some ⟨b417v, b417vo + s352v.1.toNat * 3, none⟩), .pointer (some ⟨b417v, b417vo + s352v.1.toNat * 3 + 0, none⟩), str ((s179v.getD s352v.1.toNat dz71).1), .bool (!decide (((s347v.getD s352v.2.toNat dz71).1) = ((s179v.getD s352v.1.toNat dz71).1))), .bool (!decide (((s347v.getD s352v.2.toNat dz71).1) = ((s179v.getD s352v.1.toNat dz71).1))), .bool (!decide (((s347v.getD s352v.2.toNat dz71).1) = ((s179v.getD s352v.1.toNat dz71).1))), .slice y349v.1 s347v.length y349v.2.1, .int .i64 s352v.2, .pointer (some ⟨b432v, b432vo + s352v.2.toNat * 3, none⟩), .pointer (some ⟨b432v, b432vo + s352v.2.toNat * 3 + 2, none⟩), .int .i64 ((s347v.getD s352v.2.toNat dz71).2.2), .slice y181v.1 s179v.length y181v.2.1, .int .i64 s352v.1, .pointer (some ⟨b445v, b445vo + s352v.1.toNat * 3, none⟩), .pointer (some ⟨b445v, b445vo + s352v.1.toNat * 3 + 2, none⟩), .int .i64 ((s179v.getD s352v.1.toNat dz71).2.2), .bool (!decide ((s347v.getD s352v.2.toNat dz71).2.2 = (s179v.getD s352v.1.toNat dz71).2.2)), .bool (!decide ((s347v.getD s352v.2.toNat dz71).2.2 = (s179v.getD s352v.1.toNat dz71).2.2)), .bool (!decide ((s347v.getD s352v.2.toNat dz71).2.2 = (s179v.getD s352v.1.toNat dz71).2.2)), .slice y349v.1 s347v.length y349v.2.1, .int .i64 s352v.2, .pointer (some ⟨b460v, b460vo + s352v.2.toNat * 3, none⟩), .pointer (some ⟨b460v, b460vo + s352v.2.toNat * 3 + 1, none⟩), .slice a467v (((s347v.getD s352v.2.toNat dz71).2.1).length) c468v, .slice y181v.1 s179v.length y181v.2.1, .int .i64 s352v.1, .pointer (some ⟨b473v, b473vo + s352v.1.toNat * 3, none⟩), .pointer (some ⟨b473v, b473vo + s352v.1.toNat * 3 + 1, none⟩), .slice a480v (((s179v.getD s352v.1.toNat dz71).2.1).length) c481v, .bool s485v, .bool (!s485v), .bool (!s485v)].getD i undef) (fun j γ => [[Row 71 3 y181v.1 s179v.length y181v.2.1 rs397v.flatten, Row 71 3 y349v.1 s347v.length y349v.2.1 rs399v.flatten, y181v.2.2, y349v.2.2, F]].getD j []) (fun γ => [(14, .slice y181v.1 s179v.length y181v.2.1), (17, .int .i64 s303v.2.2.2.1), (18, .int .i64 s303v.2.2.2.2), (20, .int .i64 s307v.2.2.2.1), (21, .int .i64 s307v.2.2.2.2), (22, .bool s322v), (23, .slice y349v.1 s347v.length y349v.2.1), (24, .int .i64 s352v.1), (25, .int .i64 s352v.2), (236, .slice y349v.1 s347v.length y349v.2.1), (237, .int .i64 s352v.2), (238, .pointer (some ⟨b404v, b404vo + s352v.2.toNat * 3, none⟩)), (239, .pointer (some ⟨b404v, b404vo + s352v.2.toNat * 3 + 0, none⟩)), (240, str ((s347v.getD s352v.2.toNat dz71).1)), (241, .slice y181v.1 s179v.length y181v.2.1), (242, .int .i64 s352v.1), (243, .pointer (some ⟨b417v, b417vo + s352v.1.toNat * 3, none⟩)), (244, .pointer (some ⟨b417v, b417vo + s352v.1.toNat * 3 + 0, none⟩)), (245, str ((s179v.getD s352v.1.toNat dz71).1)), (246, .bool (!decide (((s347v.getD s352v.2.toNat dz71).1) = ((s179v.getD s352v.1.toNat dz71).1)))), (249, .slice y349v.1 s347v.length y349v.2.1), (250, .int .i64 s352v.2), (251, .pointer (some ⟨b432v, b432vo + s352v.2.toNat * 3, none⟩)), (252, .pointer (some ⟨b432v, b432vo + s352v.2.toNat * 3 + 2, none⟩)), (253, .int .i64 ((s347v.getD s352v.2.toNat dz71).2.2)), (254, .slice y181v.1 s179v.length y181v.2.1), (255, .int .i64 s352v.1), (256, .pointer (some ⟨b445v, b445vo + s352v.1.toNat * 3, none⟩)), (257, .pointer (some ⟨b445v, b445vo + s352v.1.toNat * 3 + 2, none⟩)), (258, .int .i64 ((s179v.getD s352v.1.toNat dz71).2.2)), (259, .bool (!decide ((s347v.getD s352v.2.toNat dz71).2.2 = (s179v.getD s352v.1.toNat dz71).2.2))), (262, .slice y349v.1 s347v.length y349v.2.1), (263, .int .i64 s352v.2), (264, .pointer (some ⟨b460v, b460vo + s352v.2.toNat * 3, none⟩)), (265, .pointer (some ⟨b460v, b460vo + s352v.2.toNat * 3 + 1, none⟩)), (266, .slice a467v (((s347v.getD s352v.2.toNat dz71).2.1).length) c468v), (267, .slice y181v.1 s179v.length y181v.2.1), (268, .int .i64 s352v.1), (269, .pointer (some ⟨b473v, b473vo + s352v.1.toNat * 3, none⟩)), (270, .pointer (some ⟨b473v, b473vo + s352v.1.toNat * 3 + 1, none⟩)), (271, .slice a480v (((s179v.getD s352v.1.toNat dz71).2.1).length) c481v), (272, .bool s485v), (273, .bool (!s485v)), (274, .bool (!s485v))]) mixed (by decide) (by decide) (by decide) (by decide) (by decide) (by decide) (by decide) 294 rfl (by decide) (by decide) (by decide) (Ent.refl _) ?_ ?_ (fun _ => ⟨rfl, rfl, rfl, rfl, rfl, rfl, rfl, rfl, rfl, rfl, rfl, rfl, rfl, rfl, rfl, rfl, rfl, rfl, rfl, rfl, rfl, rfl, rfl, rfl, rfl, rfl, rfl, rfl, rfl, rfl, rfl, rfl, rfl, rfl, rfl, rfl, rfl, rfl, rfl, rfl, rfl, rfl, rfl, rfl, trivial⟩) ?_
 exact (aq rfl (fun γ => qm rfl (.o (s := 24) rfl (by decide) .nil) rfl) (aq rfl (fun γ => qm rfl (.o (s := 14) rfl (by decide) .nil) rfl) (aq rfl (fun γ => qp rfl rfl (.v 1 rfl rfl .nil) (q_len rfl rfl rfl Tryz.underlying47) rfl) (aq rfl (fun γ => qp rfl rfl (.v 0 rfl rfl (.v 2 rfl rfl .nil)) (q_geq rfl rfl rfl) rfl) (aq rfl (fun γ => qm rfl (.v 3 rfl rfl .nil) rfl) (aq rfl (fun γ => qy rfl rfl (.o (s := 23) rfl (by decide) (.v 4 rfl rfl .nil)) rfl rfl (beq_no (decide_eq_false hk401v)) (q_move rfl rfl) rfl) (aq rfl (fun γ => qy rfl rfl (.o (s := 25) rfl (by decide) (.v 4 rfl rfl .nil)) rfl rfl (beq_no (decide_eq_false hk401v)) (q_move rfl rfl) rfl) (aq rfl (fun γ => qy rfl rfl (.v 4 rfl rfl (.v 5 rfl rfl (.v 6 rfl rfl .nil))) rfl rfl (beq_no (decide_eq_false hk401v)) (q_idx rfl rfl rfl ha405v Tryz.underlying47 Tryz.sizeOf71 hi403v.1 hi403v.2) rfl) (aq rfl (fun γ => qy rfl rfl (.v 4 rfl rfl (.v 7 rfl rfl .nil)) rfl rfl (beq_no (decide_eq_false hk401v)) (q_fa rfl rfl Tryz.underlying71 rfl rfl Tryz.sizeOf9 rfl) rfl) (aq rfl (fun γ => qy rfl rfl (.v 4 rfl rfl (.v 8 rfl rfl .nil)) rfl rfl (beq_no (decide_eq_false hk401v)) (q_load rfl rfl Tryz.isAgg9 (hcell410v 1 rfl 0 _ rfl)) rfl) (aq rfl (fun γ => qy rfl rfl (.o (s := 14) rfl (by decide) (.v 4 rfl rfl .nil)) rfl rfl (beq_no (decide_eq_false hk401v)) (q_move rfl rfl) rfl) (aq rfl (fun γ => qy rfl rfl (.o (s := 24) rfl (by decide) (.v 4 rfl rfl .nil)) rfl rfl (beq_no (decide_eq_false hk401v)) (q_move rfl rfl) rfl) (aq rfl (fun γ => qy rfl rfl (.v 4 rfl rfl (.v 10 rfl rfl (.v 11 rfl rfl .nil))) rfl rfl (beq_no (decide_eq_false hk401v)) (q_idx rfl rfl rfl ha418v Tryz.underlying47 Tryz.sizeOf71 hi416v.1 hi416v.2) rfl) (aq rfl (fun γ => qy rfl rfl (.v 4 rfl rfl (.v 12 rfl rfl .nil)) rfl rfl (beq_no (decide_eq_false hk401v)) (q_fa rfl rfl Tryz.underlying71 rfl rfl Tryz.sizeOf9 rfl) rfl) (aq rfl (fun γ => qy rfl rfl (.v 4 rfl rfl (.v 13 rfl rfl .nil)) rfl rfl (beq_no (decide_eq_false hk401v)) (q_load rfl rfl Tryz.isAgg9 (hcell423v 0 rfl 0 _ rfl)) rfl) (aq rfl (fun γ => qy rfl rfl (.v 4 rfl rfl (.v 9 rfl rfl (.v 14 rfl rfl .nil))) rfl rfl (beq_no (decide_eq_false hk401v)) (q_nes rfl rfl rfl) rfl) (aq rfl (fun γ => qp rfl rfl (.v 4 rfl rfl (.v 15 rfl rfl .nil)) (q_pick rfl rfl rfl rfl (bif_no (decide_eq_false hk401v) _ _)) rfl) (aq rfl (fun γ => qm rfl (.v 16 rfl rfl .nil) rfl) (aq rfl (fun γ => qy rfl rfl (.o (s := 23) rfl (by decide) (.v 17 rfl rfl .nil)) rfl rfl (beq_no (ndec_no hk429v)) (q_move rfl rfl) rfl) (aq rfl (fun γ => qy rfl rfl (.o (s := 25) rfl (by decide) (.v 17 rfl rfl .nil)) rfl rfl (beq_no (ndec_no hk429v)) (q_move rfl rfl) rfl) (aq rfl (fun γ => qy rfl rfl (.v 17 rfl rfl (.v 18 rfl rfl (.v 19 rfl rfl .nil))) rfl rfl (beq_no (ndec_no hk429v)) (q_idx rfl rfl rfl ha433v Tryz.underlying47 Tryz.sizeOf71 hi431v.1 hi431v.2) rfl) (aq rfl (fun γ => qy rfl rfl (.v 17 rfl rfl (.v 20 rfl rfl .nil)) rfl rfl (beq_no (ndec_no hk429v)) (q_fa rfl rfl Tryz.underlying71 rfl rfl Tryz.sizeOf3 rfl) rfl) (aq rfl (fun γ => qy rfl rfl (.v 17 rfl rfl (.v 21 rfl rfl .nil)) rfl rfl (beq_no (ndec_no hk429v)) (q_load rfl rfl Tryz.isAgg3 (hcell438v 1 rfl 2 _ rfl)) rfl) (aq rfl (fun γ => qy rfl rfl (.o (s := 14) rfl (by decide) (.v 17 rfl rfl .nil)) rfl rfl (beq_no (ndec_no hk429v)) (q_move rfl rfl) rfl) (aq rfl (fun γ => qy rfl rfl (.o (s := 24) rfl (by decide) (.v 17 rfl rfl .nil)) rfl rfl (beq_no (ndec_no hk429v)) (q_move rfl rfl) rfl) (aq rfl (fun γ => qy rfl rfl (.v 17 rfl rfl (.v 23 rfl rfl (.v 24 rfl rfl .nil))) rfl rfl (beq_no (ndec_no hk429v)) (q_idx rfl rfl rfl ha446v Tryz.underlying47 Tryz.sizeOf71 hi444v.1 hi444v.2) rfl) (aq rfl (fun γ => qy rfl rfl (.v 17 rfl rfl (.v 25 rfl rfl .nil)) rfl rfl (beq_no (ndec_no hk429v)) (q_fa rfl rfl Tryz.underlying71 rfl rfl Tryz.sizeOf3 rfl) rfl) (aq rfl (fun γ => qy rfl rfl (.v 17 rfl rfl (.v 26 rfl rfl .nil)) rfl rfl (beq_no (ndec_no hk429v)) (q_load rfl rfl Tryz.isAgg3 (hcell451v 0 rfl 2 _ rfl)) rfl) (aq rfl (fun γ => qy rfl rfl (.v 17 rfl rfl (.v 22 rfl rfl (.v 27 rfl rfl .nil))) rfl rfl (beq_no (ndec_no hk429v)) (q_neq rfl rfl rfl) rfl) (aq rfl (fun γ => qp rfl rfl (.v 17 rfl rfl (.v 28 rfl rfl .nil)) (q_pick rfl rfl rfl rfl (bif_no (ndec_no hk429v) _ _)) rfl) (aq rfl (fun γ => qm rfl (.v 29 rfl rfl .nil) rfl) (aq rfl (fun γ => qy rfl rfl (.o (s := 23) rfl (by decide) (.v 30 rfl rfl .nil)) rfl rfl (beq_no (ndec_no hk457v)) (q_move rfl rfl) rfl) (aq rfl (fun γ => qy rfl rfl (.o (s := 25) rfl (by decide) (.v 30 rfl rfl .nil)) rfl rfl (beq_no (ndec_no hk457v)) (q_move rfl rfl) rfl) (aq rfl (fun γ => qy rfl rfl (.v 30 rfl rfl (.v 31 rfl rfl (.v 32 rfl rfl .nil))) rfl rfl (beq_no (ndec_no hk457v)) (q_idx rfl rfl rfl ha461v Tryz.underlying47 Tryz.sizeOf71 hi459v.1 hi459v.2) rfl) (aq rfl (fun γ => qy rfl rfl (.v 30 rfl rfl (.v 33 rfl rfl .nil)) rfl rfl (beq_no (ndec_no hk457v)) (q_fa rfl rfl Tryz.underlying71 rfl rfl Tryz.sizeOf25 rfl) rfl) (aq rfl (fun γ => qy rfl rfl (.v 30 rfl rfl (.v 34 rfl rfl .nil)) rfl rfl (beq_no (ndec_no hk457v)) (q_load rfl rfl Tryz.isAgg25 (hcell466v 1 rfl 1 _ rfl)) rfl) (aq rfl (fun γ => qy rfl rfl (.o (s := 14) rfl (by decide) (.v 30 rfl rfl .nil)) rfl rfl (beq_no (ndec_no hk457v)) (q_move rfl rfl) rfl) (aq rfl (fun γ => qy rfl rfl (.o (s := 24) rfl (by decide) (.v 30 rfl rfl .nil)) rfl rfl (beq_no (ndec_no hk457v)) (q_move rfl rfl) rfl) (aq rfl (fun γ => qy rfl rfl (.v 30 rfl rfl (.v 36 rfl rfl (.v 37 rfl rfl .nil))) rfl rfl (beq_no (ndec_no hk457v)) (q_idx rfl rfl rfl ha474v Tryz.underlying47 Tryz.sizeOf71 hi472v.1 hi472v.2) rfl) (aq rfl (fun γ => qy rfl rfl (.v 30 rfl rfl (.v 38 rfl rfl .nil)) rfl rfl (beq_no (ndec_no hk457v)) (q_fa rfl rfl Tryz.underlying71 rfl rfl Tryz.sizeOf25 rfl) rfl) (aq rfl (fun γ => qy rfl rfl (.v 30 rfl rfl (.v 39 rfl rfl .nil)) rfl rfl (beq_no (ndec_no hk457v)) (q_load rfl rfl Tryz.isAgg25 (hcell479v 0 rfl 1 _ rfl)) rfl) (aq rfl (fun γ => qy rfl rfl (.v 30 rfl rfl (.v 35 rfl rfl (.v 40 rfl rfl .nil))) rfl rfl (beq_no (ndec_no hk457v)) (RE.rq (re_call (val := fun (r : Bool) (y : Unit) => .bool r) (B := fun _ _ => []) (vs := [.slice a467v (((s347v.getD s352v.2.toNat dz71).2.1).length) c468v, .slice a480v (((s179v.getD s352v.1.toNat dz71).2.1).length) c481v]) (cap := []) (A := []) (rst := [Row 71 3 y181v.1 s179v.length y181v.2.1 rs397v.flatten, Row 71 3 y349v.1 s347v.length y349v.2.1 rs399v.flatten, y181v.2.2, y349v.2.2, F]) rfl rfl rfl rfl rfl rfl Tryz.call33 (.sel 0 rfl (.sel 0 rfl (.sel 0 rfl (.sel 0 rfl (.sel 0 rfl (.nil _)))))) (synodref_SameBytes.calls _ _ k a467v c468v ((s347v.getD s352v.2.toNat dz71).2.1) a480v c481v ((s179v.getD s352v.1.toNat dz71).2.1) (he469v.rd.lend 3 rfl) hc470v hm471v (he482v.rd.lend 2 rfl) hc483v hm484v) hs486v) (fun _ => by rfl) (fun _ => by exact ((.sel 0 rfl (.sel 0 rfl (.sel 0 rfl (.sel 0 rfl (.sel 0 rfl (.nil _))))))))) rfl) (aq rfl (fun γ => qy rfl rfl (.v 30 rfl rfl (.v 41 rfl rfl .nil)) rfl rfl (beq_no (ndec_no hk457v)) (q_not rfl rfl) rfl) (aq rfl (fun γ => qp rfl rfl (.v 30 rfl rfl (.v 42 rfl rfl .nil)) (q_pick rfl rfl rfl rfl (bif_no (ndec_no hk457v) _ _)) rfl) zA))))))))))))))))))))))))))))))))))))))))))))
 exact zA
 intro g488v
 exact nrm_cut (s := !s485v) () ⟨rfl, rfl, rfl, rfl, rfl, rfl, rfl, rfl, rfl, rfl, trivial⟩ (.sel' 0 rfl (RowV.mk hl398v) (.sel' 0 rfl (RowV.mk hl400v) (.sel 0 rfl (.sel 0 rfl (.sel 0 rfl (.nil _))))))
 refine sim_draw (Γ := Unit) () [[], [], [1], [0, 1, 2], rL 4, rL 5, rL 5, rL 7, rL 8, rL 9, rL 5, rL 5, [0, 1, 2, 3, 4, 10, 11], [0, 1, 2, 3, 4, 10, 11, 12], [0, 1, 2, 3, 4, 10, 11, 12, 13], rL 15, rL 16, rL 17, rL 18, rL 18, rL 20, rL 21, rL 22, rL 18, rL 18, [0, 1, 2, 3, 4, 5, 6, 7, 8, 9, 10, 11, 12, 13, 14, 15, 16, 17, 23, 24], [0, 1, 2, 3, 4, 5, 6, 7, 8, 9, 10, 11, 12, 13, 14, 15, 16, 17, 23, 24, 25], [0, 1, 2, 3, 4, 5, 6, 7, 8, 9, 10, 11, 12, 13, 14, 15, 16, 17, 23, 24, 25, 26], rL 28, rL 29, rL 30, rL 31, rL 31, rL 33, rL 34, rL 35, rL 31, rL 31, [0, 1, 2, 3, 4, 5, 6, 7, 8, 9, 10, 11, 12, 13, 14, 15, 16, 17, 18, 19, 20, 21, 22, 23, 24, 25, 26, 27, 28, 29, 30, 36, 37], [0, 1, 2, 3, 4, 5, 6, 7, 8, 9, 10, 11, 12, 13, 14, 15, 16, 17, 18, 19, 20, 21, 22, 23, 24, 25, 26, 27, 28, 29, 30, 36, 37, 38], [0, 1, 2, 3, 4, 5, 6, 7, 8, 9, 10, 11, 12, 13, 14, 15, 16, 17, 18, 19, 20, 21, 22, 23, 24, 25, 26, 27, 28, 29, 30, 36, 37, 38, 39], rL 41, rL 42, rL 43] [] [0, 1, 2, 3, 4, 5, 6, 7, 8, 9, 10, 11, 12, 13, 14, 15, 16, 17, 18, 19, 20, 21, 22, 23, 24, 25, 26, 27, 28, 29, 30, 31, 32, 33, 34, 35, 36, 37, 38, 39, 40, 41, 42, 43] (fun i => [[0], [0], [0], [0], [0], [0], [0], [0], [0], [0], [0], [0], [0], [0], [0], [0], [0], [0], [0], [0], [0], [0], [0], [0], [0], [0], [0], [0], [0], [0], [0], [0], [0], [0], [0], [0], [0], [0], [0], [0], [0], [0], [0], [0]].getD i []) (fun i => [[], [], [], [], [], [], [], [], [], [], [], [], [], [], [], [], [], [], [], [], [], [], [], [], [], [], [], [], [], [], [], [], [], [], [], [], [], [], [], [], [], [], [], []].getD i []) (fun γ i => [.int .i64 s352v.1, .slice y181v.1 s179v.length y181v.2.1, .int .i64 (s179v.length : Int), .bool (decide ((s179v.length : Int) ≤ s352v.1)), .bool (decide ((s179v.length : Int) ≤ s352v.1)), .slice y349v.1 s347v.length y349v.2.1, .int .i64 s352v.2, .pointer (some ⟨b404v, b404vo + s352v.2.toNat * 3, none⟩), .pointer (some ⟨b404v, b404vo + s352v.2.toNat * 3 + 0, none⟩), str ((s347v.getD s352v.2.toNat dz71).1), .slice y181v.1 s179v.length y181v.2.1, .int .i64 s352v.1, .pointer (some ⟨b417v, b417vo + s352v.1.toNat * 3, none⟩), .pointer (some ⟨b417v, b417vo + s352v.1.toNat * 3 + 0, none⟩), str ((s179v.getD s352v.1.toNat dz71).1), .bool (!decide (((s347v.getD s352v.2.toNat dz71).1) = ((s179v.getD s352v.1.toNat dz71).1))), .bool (!decide (((s347v.getD s352v.2.toNat dz71).1) = ((s179v.getD s352v.1.toNat dz71).1))), .bool (!decide (((s347v.getD s352v.2.toNat dz71).1) = ((s179v.getD s352v.1.toNat dz71).1))), .slice y349v.1 s347v.length y349v.2.1, .int .i64 s352v.2, .pointer (some ⟨b432v, b432vo + s352v.2.toNat * 3, none⟩), .pointer (some ⟨b432v, b432vo + s352v.2.toNat * 3 + 2, none⟩), .int .i64 ((s347v.getD s352v.2.toNat dz71).2.2), .slice y181v.1 s179v.length y181v.2.1, .int .i64 s352v.1, .pointer (some ⟨b445v, b445vo + s352v.1.toNat * 3, none⟩), .pointer (some ⟨b445v, b445vo + s352v.1.toNat * 3 + 2, none⟩), .int .i64 ((s179v.getD s352v.1.toNat dz71).2.2), .bool (!decide ((s347v.getD s352v.2.toNat dz71).2.2 = (s179v.getD s352v.1.toNat dz71).2.2)), .bool (!decide ((s347v.getD s352v.2.toNat dz71).2.2 = (s179v.getD s352v.1.toNat dz71).2.2)), .bool (!decide ((s347v.getD s352v.2.toNat dz71).2.2 = (s179v.getD s352v.1.toNat dz71).2.2)), undef, undef, undef, undef, undef, undef, undef, undef, undef, undef, undef, undef, .bool true].getD i undef) (fun j γ => [[Row 71 3 y181v.1 s179v.length y181v.2.1 rs397v.flatten, Row 71 3 y349v.1 s347v.length y349v.2.1 rs399v.flatten, y181v.2.2, y349v.2.2, F]].getD j []) (fun γ => [(14, .slice y181v.1 s179v.length y181v.2.1), (17, .int .i64 s303v.2.2.2.1), (18, .int .i64 s303v.2.2.2.2), (20, .int .i64 s307v.2.2.2.1), (21, .int .i64 s307v.2.2.2.2), (22, .bool s322v), (23, .slice y349v.1 s347v.length y349v.2.1), (24, .int .i64 s352v.1), (25, .int .i64 s352v.2), (236, .slice y349v.1 s347v.length y349v.2.1), (237, .int .i64 s352v.2), (238, .pointer (some ⟨b404v, b404vo + s352v.2.toNat * 3, none⟩)), (239, .pointer (some ⟨b404v, b404vo + s352v.2.toNat * 3 + 0, none⟩)), (240, str ((s347v.getD s352v.2.toNat dz71).1)), (241, .slice y181v.1 s179v.length y181v.2.1), (242, .int .i64 s352v.1), (243, .pointer (some ⟨b417v, b417vo + s352v.1.toNat * 3, none⟩)), (244, .pointer (some ⟨b417v, b417vo + s352v.1.toNat * 3 + 0, none⟩)), (245, str ((s179v.getD s352v.1.toNat dz71).1)), (246, .bool (!decide (((s347v.getD s352v.2.toNat dz71).1) = ((s179v.getD s352v.1.toNat dz71).1)))), (249, .slice y349v.1 s347v.length y349v.2.1), (250, .int .i64 s352v.2), (251, .pointer (some ⟨b432v, b432vo + s352v.2.toNat * 3, none⟩)), (252, .pointer (some ⟨b432v, b432vo + s352v.2.toNat * 3 + 2, none⟩)), (253, .int .i64 ((s347v.getD s352v.2.toNat dz71).2.2)), (254, .slice y181v.1 s179v.length y181v.2.1), (255, .int .i64 s352v.1), (256, .pointer (some ⟨b445v, b445vo + s352v.1.toNat * 3, none⟩)), (257, .pointer (some ⟨b445v, b445vo + s352v.1.toNat * 3 + 2, none⟩)), (258, .int .i64 ((s179v.getD s352v.1.toNat dz71).2.2)), (259, .bool (!decide ((s347v.getD s352v.2.toNat dz71).2.2 = (s179v.getD s352v.1.toNat dz71).2.2))), (262, undef), (263, undef), (264, undef), (265, undef), (266, undef), (267, undef), (268, undef), (269, undef), (270, undef), (271, undef), (272, undef), (273, undef), (274, .bool true)]) mixed (by decide) (by decide) (by decide) (by decide) (by decide) (by decide) (by decide) 294 rfl (by decide) (by decide) (by decide) (Ent.refl _) ?_ ?_ (fun _ => ⟨rfl, rfl, rfl, rfl, rfl, rfl, rfl, rfl, rfl, rfl, rfl, rfl, rfl, rfl, rfl, rfl, rfl, rfl, rfl, rfl, rfl, rfl, rfl, rfl, rfl, rfl, rfl, rfl, rfl, rfl, rfl, rfl, rfl, rfl, rfl, rfl, rfl, rfl, rfl, rfl, rfl, rfl, rfl, rfl, trivial⟩) ?_
 exact (aq rfl (fun γ => qm rfl (.o (s := 24) rfl (by decide) .nil) rfl) (aq rfl (fun γ => qm rfl (.o (s := 14) rfl (by decide) .nil) rfl) (aq rfl (fun γ => qp rfl rfl (.v 1 rfl rfl .nil) (q_len rfl rfl rfl Tryz.underlying47) rfl) (aq rfl (fun γ => qp rfl rfl (.v 0 rfl rfl (.v 2 rfl rfl .nil)) (q_geq rfl rfl rfl) rfl) (aq rfl (fun γ => qm rfl (.v 3 rfl rfl .nil) rfl) (aq rfl (fun γ => qy rfl rfl (.o (s := 23) rfl (by decide) (.v 4 rfl rfl .nil)) rfl rfl (beq_no (decide_eq_false hk401v)) (q_move rfl rfl) rfl) (aq rfl (fun γ => qy rfl rfl (.o (s := 25) rfl (by decide) (.v 4 rfl rfl .nil)) rfl rfl (beq_no (decide_eq_false hk401v)) (q_move rfl rfl) rfl) (aq rfl (fun γ => qy rfl rfl (.v 4 rfl rfl (.v 5 rfl rfl (.v 6 rfl rfl .nil))) rfl rfl (beq_no (decide_eq_false hk401v)) (q_idx rfl rfl rfl ha405v Tryz.underlying47 Tryz.sizeOf71 hi403v.1 hi403v.2) rfl) (aq rfl (fun γ => qy rfl rfl (.v 4 rfl rfl (.v 7 rfl rfl .nil)) rfl rfl (beq_no (decide_eq_false hk401v)) (q_fa rfl rfl Tryz.underlying71 rfl rfl Tryz.sizeOf9 rfl) rfl) (aq rfl (fun γ => qy rfl rfl (.v 4 rfl rfl (.v 8 rfl rfl .nil)) rfl rfl (beq_no (decide_eq_false hk401v)) (q_load rfl rfl Tryz.isAgg9 (hcell410v 1 rfl 0 _ rfl)) rfl) (aq rfl (fun γ => qy rfl rfl (.o (s := 14) rfl (by decide) (.v 4 rfl rfl .nil)) rfl rfl (beq_no (decide_eq_false hk401v)) (q_move rfl rfl) rfl) (aq rfl (fun γ => qy rfl rfl (.o (s := 24) rfl (by decide) (.v 4 rfl rfl .nil)) rfl rfl (beq_no (decide_eq_false hk401v)) (q_move rfl rfl) rfl) (aq rfl (fun γ => qy rfl rfl (.v 4 rfl rfl (.v 10 rfl rfl (.v 11 rfl rfl .nil))) rfl rfl (beq_no (decide_eq_false hk401v)) (q_idx rfl rfl rfl ha418v Tryz.underlying47 Tryz.sizeOf71 hi416v.1 hi416v.2) rfl) (aq rfl (fun γ => qy rfl rfl (.v 4 rfl rfl (.v 12 rfl rfl .nil)) rfl rfl (beq_no (decide_eq_false hk401v)) (q_fa rfl rfl Tryz.underlying71 rfl rfl Tryz.sizeOf9 rfl) rfl) (aq rfl (fun γ => qy rfl rfl (.v 4 rfl rfl (.v 13 rfl rfl .nil)) rfl rfl (beq_no (decide_eq_false hk401v)) (q_load rfl rfl Tryz.isAgg9 (hcell423v 0 rfl 0 _ rfl)) rfl) (aq rfl (fun γ => qy rfl rfl (.v 4 rfl rfl (.v 9 rfl rfl (.v 14 rfl rfl .nil))) rfl rfl (beq_no (decide_eq_false hk401v)) (q_nes rfl rfl rfl) rfl) (aq rfl (fun γ => qp rfl rfl (.v 4 rfl rfl (.v 15 rfl rfl .nil)) (q_pick rfl rfl rfl rfl (bif_no (decide_eq_false hk401v) _ _)) rfl) (aq rfl (fun γ => qm rfl (.v 16 rfl rfl .nil) rfl) (aq rfl (fun γ => qy rfl rfl (.o (s := 23) rfl (by decide) (.v 17 rfl rfl .nil)) rfl rfl (beq_no (ndec_no hk429v)) (q_move rfl rfl) rfl) (aq rfl (fun γ => qy rfl rfl (.o (s := 25) rfl (by decide) (.v 17 rfl rfl .nil)) rfl rfl (beq_no (ndec_no hk429v)) (q_move rfl rfl) rfl) (aq rfl (fun γ => qy rfl rfl (.v 17 rfl rfl (.v 18 rfl rfl (.v 19 rfl rfl .nil))) rfl rfl (beq_no (ndec_no hk429v)) (q_idx rfl rfl rfl ha433v Tryz.underlying47 Tryz.sizeOf71 hi431v.1 hi431v.2) rfl) (aq rfl (fun γ => qy rfl rfl (.v 17 rfl rfl (.v 20 rfl rfl .nil)) rfl rfl (beq_no (ndec_no hk429v)) (q_fa rfl rfl Tryz.underlying71 rfl rfl Tryz.sizeOf3 rfl) rfl) (aq rfl (fun γ => qy rfl rfl (.v 17 rfl rfl (.v 21 rfl rfl .nil)) rfl rfl (beq_no (ndec_no hk429v)) (q_load rfl rfl Tryz.isAgg3 (hcell438v 1 rfl 2 _ rfl)) rfl) (aq rfl (fun γ => qy rfl rfl (.o (s := 14) rfl (by decide) (.v 17 rfl rfl .nil)) rfl rfl (beq_no (ndec_no hk429v)) (q_move rfl rfl) rfl) (aq rfl (fun γ => qy rfl rfl (.o (s := 24) rfl (by decide) (.v 17 rfl rfl .nil)) rfl rfl (beq_no (ndec_no hk429v)) (q_move rfl rfl) rfl) (aq rfl (fun γ => qy rfl rfl (.v 17 rfl rfl (.v 23 rfl rfl (.v 24 rfl rfl .nil))) rfl rfl (beq_no (ndec_no hk429v)) (q_idx rfl rfl rfl ha446v Tryz.underlying47 Tryz.sizeOf71 hi444v.1 hi444v.2) rfl) (aq rfl (fun γ => qy rfl rfl (.v 17 rfl rfl (.v 25 rfl rfl .nil)) rfl rfl (beq_no (ndec_no hk429v)) (q_fa rfl rfl Tryz.underlying71 rfl rfl Tryz.sizeOf3 rfl) rfl) (aq rfl (fun γ => qy rfl rfl (.v 17 rfl rfl (.v 26 rfl rfl .nil)) rfl rfl (beq_no (ndec_no hk429v)) (q_load rfl rfl Tryz.isAgg3 (hcell451v 0 rfl 2 _ rfl)) rfl) (aq rfl (fun γ => qy rfl rfl (.v 17 rfl rfl (.v 22 rfl rfl (.v 27 rfl rfl .nil))) rfl rfl (beq_no (ndec_no hk429v)) (q_neq rfl rfl rfl) rfl) (aq rfl (fun γ => qp rfl rfl (.v 17 rfl rfl (.v 28 rfl rfl .nil)) (q_pick rfl rfl rfl rfl (bif_no (ndec_no hk429v) _ _)) rfl) (aq rfl (fun γ => qm rfl (.v 29 rfl rfl .nil) rfl) (aq rfl (fun γ => qn rfl rfl (.o (s := 23) rfl (by decide) (.v 30 rfl rfl .nil)) rfl rfl (beq_yes' (ndec_yes hk457v)) rfl) (aq rfl (fun γ => qn rfl rfl (.o (s := 25) rfl (by decide) (.v 30 rfl rfl .nil)) rfl rfl (beq_yes' (ndec_yes hk457v)) rfl) (aq rfl (fun γ => qn rfl rfl (.v 30 rfl rfl (.v 31 rfl rfl (.v 32 rfl rfl .nil))) rfl rfl (beq_yes' (ndec_yes hk457v)) rfl) (aq rfl (fun γ => qn rfl rfl (.v 30 rfl rfl (.v 33 rfl rfl .nil)) rfl rfl (beq_yes' (ndec_yes hk457v)) rfl) (aq rfl (fun γ => qn rfl rfl (.v 30 rfl rfl (.v 34 rfl rfl .nil)) rfl rfl (beq_yes' (ndec_yes hk457v)) rfl) (aq rfl (fun γ => qn rfl rfl (.o (s := 14) rfl (by decide) (.v 30 rfl rfl .nil)) rfl rfl (beq_yes' (ndec_yes hk457v)) rfl) (aq rfl (fun γ => qn rfl rfl (.o (s := 24) rfl (by decide) (.v 30 rfl rfl .nil)) rfl rfl (beq_yes' (ndec_yes hk457v)) rfl) (aq rfl (fun γ => qn rfl rfl (.v 30 rfl rfl (.v 36 rfl rfl (.v 37 rfl rfl .nil))) rfl rfl (beq_yes' (ndec_yes hk457v)) rfl) (aq rfl (fun γ => qn rfl rfl (.v 30 rfl rfl (.v 38 rfl rfl .nil)) rfl rfl (beq_yes' (ndec_yes hk457v)) rfl) (aq rfl (fun γ => qn rfl rfl (.v 30 rfl rfl (.v 39 rfl rfl .nil)) rfl rfl (beq_yes' (ndec_yes hk457v)) rfl) (aq rfl (fun γ => qn rfl rfl (.v 30 rfl rfl (.v 35 rfl rfl (.v 40 rfl rfl .nil))) rfl rfl (beq_yes' (ndec_yes hk457v)) rfl) (aq rfl (fun γ => qn rfl rfl (.v 30 rfl rfl (.v 41 rfl rfl .nil)) rfl rfl (beq_yes' (ndec_yes hk457v)) rfl) (aq rfl (fun γ => qp rfl rfl (.v 30 rfl rfl (.v 42 rfl rfl .nil)) (q_pick rfl rfl rfl rfl (bif_yes (ndec_yes hk457v) _ _)) rfl) zA))))))))))))))))))))))))))))))))))))))))))))
 exact zA
 intro g458v
 exact nrm_cut (s := true) () ⟨rfl, rfl, rfl, rfl, rfl, rfl, rfl, rfl, rfl, rfl, trivial⟩ (.sel' 0 rfl (RowV.mk hl398v) (.sel' 0 rfl (RowV.mk hl400v) (.sel 0 rfl (.sel 0 rfl (.sel 0 rfl (.nil _))))))
 refine sim_draw (Γ := Unit) () [[], [], [1], [0, 1, 2], rL 4, rL 5, rL 5, rL 7, rL 8, rL 9, rL 5, rL 5, [0, 1, 2, 3, 4, 10, 11], [0, 1, 2, 3, 4, 10, 11, 12], [0, 1, 2, 3, 4, 10, 11, 12, 13], rL 15, rL 16, rL 17, rL 18, rL 18, rL 20, rL 21, rL 22, rL 18, rL 18, [0, 1, 2, 3, 4, 5, 6, 7, 8, 9, 10, 11, 12, 13, 14, 15, 16, 17, 23, 24], [0, 1, 2, 3, 4, 5, 6, 7, 8, 9, 10, 11, 12, 13, 14, 15, 16, 17, 23, 24, 25], [0, 1, 2, 3, 4, 5, 6, 7, 8, 9, 10, 11, 12, 13, 14, 15, 16, 17, 23, 24, 25, 26], rL 28, rL 29, rL 30, rL 31, rL 31, rL 33, rL 34, rL 35, rL 31, rL 31, [0, 1, 2, 3, 4, 5, 6, 7, 8, 9, 10, 11, 12, 13, 14, 15, 16, 17, 18, 19, 20, 21, 22, 23, 24, 25, 26, 27, 28, 29, 30, 36, 37], [0, 1, 2, 3, 4, 5, 6, 7, 8, 9, 10, 11, 12, 13, 14, 15, 16, 17, 18, 19, 20, 21, 22, 23, 24, 25, 26, 27, 28, 29, 30, 36, 37, 38], [0, 1, 2, 3, 4, 5, 6, 7, 8, 9, 10, 11, 12, 13, 14, 15, 16, 17, 18, 19, 20, 21, 22, 23, 24, 25, 26, 27, 28, 29, 30, 36, 37, 38, 39], rL 41, rL 42, rL 43] [] [0, 1, 2, 3, 4, 5, 6, 7, 8, 9, 10, 11, 12, 13, 14, 15, 16, 17, 18, 19, 20, 21, 22, 23, 24, 25, 26, 27, 28, 29, 30, 31, 32, 33, 34, 35, 36, 37, 38, 39, 40, 41, 42, 43] (fun i => [[0], [0], [0], [0], [0], [0], [0], [0], [0], [0], [0], [0], [0], [0], [0], [0], [0], [0], [0], [0], [0], [0], [0], [0], [0], [0], [0], [0], [0], [0], [0], [0], [0], [0], [0], [0], [0], [0], [0], [0], [0], [0], [0], [0]].getD i []) (fun i => [[], [], [], [], [], [], [], [], [], [], [], [], [], [], [], [], [], [], [], [], [], [], [], [], [], [], [], [], [], [], [], [], [], [], [], [], [], [], [], [], [], [], [], []].getD i []) (fun γ i => [.int .i64 s352v.1, .slice y181v.1 s179v.length y181v.2.1, .int .i64 (s179v.length : Int), .bool (decide ((s179v.length : Int) ≤ s352v.1)), .bool (decide ((s179v.length : Int) ≤ s352v.1)), .slice y349v.1 s347v.length y349v.2.1, .int .i64 s352v.2, .pointer (some ⟨b404v, b404vo + s352v.2.toNat * 3, none⟩), .pointer (some ⟨b404v, b404vo + s352v.2.toNat * 3 + 0, none⟩), str ((s347v.getD s352v.2.toNat dz71).1), .slice y181v.1 s179v.length y181v.2.1, .int .i64 s352v.1, .pointer (some ⟨b417v, b417vo + s352v.1.toNat * 3, none⟩), .pointer (some ⟨b417v, b417vo + s352v.1.toNat * 3 + 0, none⟩), str ((s179v.getD s352v.1.toNat dz71).1), .bool (!decide (((s347v.getD s352v.2.toNat dz71).1) = ((s179v.getD s352v.1.toNat dz71).1))), .bool (!decide (((s347v.getD s352v.2.toNat dz71).1) = ((s179v.getD s352v.1.toNat dz71).1))), .bool (!decide (((s347v.getD s352v.2.toNat dz71).1) = ((s179v.getD s352v.1.toNat dz71).1))), undef, undef, undef, undef, undef, undef, undef, undef, undef, undef, undef, .bool true, .bool true, undef, undef, undef, undef, undef, undef, undef, undef, undef, undef, undef, undef, .bool true].getD i undef) (fun j γ => [[Row 71 3 y181v.1 s179v.length y181v.2.1 rs397v.flatten, Row 71 3 y349v.1 s347v.length y349v.2.1 rs399v.flatten, y181v.2.2, y349v.2.2, F]].getD j []) (fun γ => [(14, .slice y181v.1 s179v.length y181v.2.1), (17, .int .i64 s303v.2.2.2.1), (18, .int .i64 s303v.2.2.2.2), (20, .int .i64 s307v.2.2.2.1), (21, .int .i64 s307v.2.2.2.2), (22, .bool s322v), (23, .slice y349v.1 s347v.length y349v.2.1), (24, .int .i64 s352v.1), (25, .int .i64 s352v.2), (236, .slice y349v.1 s347v.length y349v.2.1), (237, .int .i64 s352v.2), (238, .pointer (some ⟨b404v, b404vo + s352v.2.toNat * 3, none⟩)), (239, .pointer (some ⟨b404v, b404vo + s352v.2.toNat * 3 + 0, none⟩)), (240, str ((s347v.getD s352v.2.toNat dz71).1)), (241, .slice y181v.1 s179v.length y181v.2.1), (242, .int .i64 s352v.1), (243, .pointer (some ⟨b417v, b417vo + s352v.1.toNat * 3, none⟩)), (244, .pointer (some ⟨b417v, b417vo + s352v.1.toNat * 3 + 0, none⟩)), (245, str ((s179v.getD s352v.1.toNat dz71).1)), (246, .bool (!decide (((s347v.getD s352v.2.toNat dz71).1) = ((s179v.getD s352v.1.toNat dz71).1)))), (249, undef), (250, undef), (251, undef), (252, undef), (253, undef), (254, undef), (255, undef), (256, undef), (257, undef), (258, undef), (259, undef), (262, undef), (263, undef), (264, undef), (265, undef), (266, undef), (267, undef), (268, undef), (269, undef), (270, undef), (271, undef), (272, undef), (273, undef), (274, .bool true)]) mixed (by decide) (by decide) (by decide) (by decide) (by decide) (by decide) (by decide) 294 rfl (by decide) (by decide) (by decide) (Ent.refl _) ?_ ?_ (fun _ => ⟨rfl, rfl, rfl, rfl, rfl, rfl, rfl, rfl, rfl, rfl, rfl, rfl, rfl, rfl, rfl, rfl, rfl, rfl, rfl, rfl, rfl, rfl, rfl, rfl, rfl, rfl, rfl, rfl, rfl, rfl, rfl, rfl, rfl, rfl, rfl, rfl, rfl, rfl, rfl, rfl, rfl, rfl, rfl, rfl, trivial⟩) ?_
 exact (aq rfl (fun γ => qm rfl (.o (s := 24) rfl (by decide) .nil) rfl) (aq rfl (fun γ => qm rfl (.o (s := 14) rfl (by decide) .nil) rfl) (aq rfl (fun γ => qp rfl rfl (.v 1 rfl rfl .nil) (q_len rfl rfl rfl Tryz.underlying47) rfl) (aq rfl (fun γ => qp rfl rfl (.v 0 rfl rfl (.v 2 rfl rfl .nil)) (q_geq rfl rfl rfl) rfl) (aq rfl (fun γ => qm rfl (.v 3 rfl rfl .nil) rfl) (aq rfl (fun γ => qy rfl rfl (.o (s := 23) rfl (by decide) (.v 4 rfl rfl .nil)) rfl rfl (beq_no (decide_eq_false hk401v)) (q_move rfl rfl) rfl) (aq rfl (fun γ => qy rfl rfl (.o (s := 25) rfl (by decide) (.v 4 rfl rfl .nil)) rfl rfl (beq_no (decide_eq_false hk401v)) (q_move rfl rfl) rfl) (aq rfl (fun γ => qy rfl rfl (.v 4 rfl rfl (.v 5 rfl rfl (.v 6 rfl rfl .nil))) rfl rfl (beq_no (decide_eq_false hk401v)) (q_idx rfl rfl rfl ha405v Tryz.underlying47 Tryz.sizeOf71 hi403v.1 hi403v.2) rfl) (aq rfl (fun γ => qy rfl rfl (.v 4 rfl rfl (.v 7 rfl rfl .nil)) rfl rfl (beq_no (decide_eq_false hk401v)) (q_fa rfl rfl Tryz.underlying71 rfl rfl Tryz.sizeOf9 rfl) rfl) (aq rfl (fun γ => qy rfl rfl (.v 4 rfl rfl (.v 8 rfl rfl .nil)) rfl rfl (beq_no (decide_eq_false hk401v)) (q_load rfl rfl Tryz.isAgg9 (hcell410v 1 rfl 0 _ rfl)) rfl) (aq rfl (fun γ => qy rfl rfl (.o (s := 14) rfl (by decide) (.v 4 rfl rfl .nil)) rfl rfl (beq_no (decide_eq_false hk401v)) (q_move rfl rfl) rfl) (aq rfl (fun γ => qy rfl rfl (.o (s := 24) rfl (by decide) (.v 4 rfl rfl .nil)) rfl rfl (beq_no (decide_eq_false hk401v)) (q_move rfl rfl) rfl) (aq rfl (fun γ => qy rfl rfl (.v 4 rfl rfl (.v 10 rfl rfl (.v 11 rfl rfl .nil))) rfl rfl (beq_no (decide_eq_false hk401v)) (q_idx rfl rfl rfl ha418v Tryz.underlying47 Tryz.sizeOf71 hi416v.1 hi416v.2) rfl) (aq rfl (fun γ => qy rfl rfl (.v 4 rfl rfl (.v 12 rfl rfl .nil)) rfl rfl (beq_no (decide_eq_false hk401v)) (q_fa rfl rfl Tryz.underlying71 rfl rfl Tryz.sizeOf9 rfl) rfl) (aq rfl (fun γ => qy rfl rfl (.v 4 rfl rfl (.v 13 rfl rfl .nil)) rfl rfl (beq_no (decide_eq_false hk401v)) (q_load rfl rfl Tryz.isAgg9 (hcell423v 0 rfl 0 _ rfl)) rfl) (aq rfl (fun γ => qy rfl rfl (.v 4 rfl rfl (.v 9 rfl rfl (.v 14 rfl rfl .nil))) rfl rfl (beq_no (decide_eq_false hk401v)) (q_nes rfl rfl rfl) rfl) (aq rfl (fun γ => qp rfl rfl (.v 4 rfl rfl (.v 15 rfl rfl .nil)) (q_pick rfl rfl rfl rfl (bif_no (decide_eq_false hk401v) _ _)) rfl) (aq rfl (fun γ => qm rfl (.v 16 rfl rfl .nil) rfl) (aq rfl (fun γ => qn rfl rfl (.o (s := 23) rfl (by decide) (.v 17 rfl rfl .nil)) rfl rfl (beq_yes' (ndec_yes hk429v)) rfl) (aq rfl (fun γ => qn rfl rfl (.o (s := 25) rfl (by decide) (.v 17 rfl rfl .nil)) rfl rfl (beq_yes' (ndec_yes hk429v)) rfl) (aq rfl (fun γ => qn rfl rfl (.v 17 rfl rfl (.v 18 rfl rfl (.v 19 rfl rfl .nil))) rfl rfl (beq_yes' (ndec_yes hk429v)) rfl) (aq rfl (fun γ => qn rfl rfl (.v 17 rfl rfl (.v 20 rfl rfl .nil)) rfl rfl (beq_yes' (ndec_yes hk429v)) rfl) (aq rfl (fun γ => qn rfl rfl (.v 17 rfl rfl (.v 21 rfl rfl .nil)) rfl rfl (beq_yes' (ndec_yes hk429v)) rfl) (aq rfl (fun γ => qn rfl rfl (.o (s := 14) rfl (by decide) (.v 17 rfl rfl .nil)) rfl rfl (beq_yes' (ndec_yes hk429v)) rfl) (aq rfl (fun γ => qn rfl rfl (.o (s := 24) rfl (by decide) (.v 17 rfl rfl .nil)) rfl rfl (beq_yes' (ndec_yes hk429v)) rfl) (aq rfl (fun γ => qn rfl rfl (.v 17 rfl rfl (.v 23 rfl rfl (.v 24 rfl rfl .nil))) rfl rfl (beq_yes' (ndec_yes hk429v)) rfl) (aq rfl (fun γ => qn rfl rfl (.v 17 rfl rfl (.v 25 rfl rfl .nil)) rfl rfl (beq_yes' (ndec_yes hk429v)) rfl) (aq rfl (fun γ => qn rfl rfl (.v 17 rfl rfl (.v 26 rfl rfl .nil)) rfl rfl (beq_yes' (ndec_yes hk429v)) rfl) (aq rfl (fun γ => qn rfl rfl (.v 17 rfl rfl (.v 22 rfl rfl (.v 27 rfl rfl .nil))) rfl rfl (beq_yes' (ndec_yes hk429v)) rfl) (aq rfl (fun γ => qp rfl rfl (.v 17 rfl rfl (.v 28 rfl rfl .nil)) (q_pick rfl rfl rfl rfl (bif_yes (ndec_yes hk429v) _ _)) rfl) (aq rfl (fun γ => qm rfl (.v 29 rfl rfl .nil) rfl) (aq rfl (fun γ => qn rfl rfl (.o (s := 23) rfl (by decide) (.v 30 rfl rfl .nil)) rfl rfl rfl rfl) (aq rfl (fun γ => qn rfl rfl (.o (s := 25) rfl (by decide) (.v 30 rfl rfl .nil)) rfl rfl rfl rfl) (aq rfl (fun γ => qn rfl rfl (.v 30 rfl rfl (.v 31 rfl rfl (.v 32 rfl rfl .nil))) rfl rfl rfl rfl) (aq rfl (fun γ => qn rfl rfl (.v 30 rfl rfl (.v 33 rfl rfl .nil)) rfl rfl rfl rfl) (aq rfl (fun γ => qn rfl rfl (.v 30 rfl rfl (.v 34 rfl rfl .nil)) rfl rfl rfl rfl) (aq rfl (fun γ => qn rfl rfl (.o (s := 14) rfl (by decide) (.v 30 rfl rfl .nil)) rfl rfl rfl rfl) (aq rfl (fun γ => qn rfl rfl (.o (s := 24) rfl (by decide) (.v 30 rfl rfl .nil)) rfl rfl rfl rfl) (aq rfl (fun γ => qn rfl rfl (.v 30 rfl rfl (.v 36 rfl rfl (.v 37 rfl rfl .nil))) rfl rfl rfl rfl) (aq rfl (fun γ => qn rfl rfl (.v 30 rfl rfl (.v 38 rfl rfl .nil)) rfl rfl rfl rfl) (aq rfl (fun γ => qn rfl rfl (.v 30 rfl rfl (.v 39 rfl rfl .nil)) rfl rfl rfl rfl) (aq rfl (fun γ => qn rfl rfl (.v 30 rfl rfl (.v 35 rfl rfl (.v 40 rfl rfl .nil))) rfl rfl rfl rfl) (aq rfl (fun γ => qn rfl rfl (.v 30 rfl rfl (.v 41 rfl rfl .nil)) rfl rfl rfl rfl) (aq rfl (fun γ => qp rfl rfl (.v 30 rfl rfl (.v 42 rfl rfl .nil)) (q_pick rfl rfl rfl rfl rfl) rfl) zA))))))))))))))))))))))))))))))))))))))))))))
 exact zA
 intro g430v
 exact nrm_cut (s := true) () ⟨rfl, rfl, rfl, rfl, rfl, rfl, rfl, rfl, rfl, rfl, trivial⟩ (.sel' 0 rfl (RowV.mk hl398v) (.sel' 0 rfl (RowV.mk hl400v) (.sel 0 rfl (.sel 0 rfl (.sel 0 rfl (.nil _))))))
 intro s395v y396v
 refine sim_condb rfl (fun h489v => ?_) (fun h490v => ?_)
 refine sr ?_
 refine va rfl rfl (simL_nil (nrm_then (sim_rtn ?_)))
 refine rtn_then ?_
 refine rtn_block ?_
 refine rtn_then ?_
 refine rtn_loop ?_
 refine rtn_block ?_
 refine rtn_cutR ?_
 exact rtn_fn () rfl rfl rfl (.sel 4 rfl (.nil _))
 refine sim_skip ?_
 refine nrm_then (sim_region ?_)
 refine vm rfl rfl ?_
 refine vq (q_add rfl rfl rfl) rfl ?_
 refine va rfl rfl (simL_nil (nrm_block (nrm_then (sim_region ?_))))
 refine vm rfl rfl ?_
 refine vq (q_add rfl rfl rfl) rfl ?_
 refine va rfl rfl (simL_nil ?_)
 exact nrm_again (s := (IntKind.i64.wrap (s352v.1 + 1), IntKind.i64.wrap (s352v.2 + 1))) () ⟨rfl, rfl, rfl, rfl, rfl, rfl, rfl, rfl, rfl, trivial⟩ (.sel 0 rfl (.sel 0 rfl (.sel 0 rfl (.sel 0 rfl (.sel 0 rfl (.nil _))))))
 refine sim_exi ?_
 refine exi_then ?_
 refine exi_loop ?_
 refine exi_here ?_
 exact nrm_cutR (s := s352v.1) () ⟨rfl, rfl, rfl, rfl, rfl, rfl, rfl, trivial⟩ (.sel 0 rfl (.sel 1 rfl (.sel 2 rfl (.nil _))))
 intro s350v y351v
 refine sr ?_
 refine vm rfl rfl ?_
 refine vm rfl rfl ?_
 refine simL_valc (b := s322v) (fun hb500v => RQ.sub (E' := [(17, .int .i64 s303v.2.2.2.1)]) ⟨rfl, trivial⟩ (q_move rfl rfl)) rfl rfl rfl rfl rfl ?_
 refine simL_valc (b := s322v) (fun hb499v => RQ.sub (E' := [(20, .int .i64 s307v.2.2.2.1)]) ⟨rfl, trivial⟩ (q_move rfl rfl)) rfl rfl rfl rfl rfl ?_
 refine simL_valc (b := s322v) (fun hb498v => RQ.sub (E' := [(279, .int .i64 s303v.2.2.2.1), (280, .int .i64 s307v.2.2.2.1)]) ⟨lk_cv rfl hb498v, lk_cv rfl hb498v, trivial⟩ (q_eql rfl rfl rfl)) rfl rfl rfl rfl rfl ?_
 refine vq (q_and rfl rfl rfl) rfl ?_
 refine vm rfl rfl ?_
 refine simL_valc (b := s322v && (decide (s303v.2.2.2.1 = s307v.2.2.2.1))) (fun hb497v => RQ.sub (E' := [(18, .int .i64 s303v.2.2.2.2)]) ⟨rfl, trivial⟩ (q_move rfl rfl)) rfl rfl rfl rfl rfl ?_
 refine simL_valc (b := s322v && (decide (s303v.2.2.2.1 = s307v.2.2.2.1))) (fun hb496v => RQ.sub (E' := [(21, .int .i64 s307v.2.2.2.2)]) ⟨rfl, trivial⟩ (q_move rfl rfl)) rfl rfl rfl rfl rfl ?_
 refine simL_valc (b := s322v && (decide (s303v.2.2.2.1 = s307v.2.2.2.1))) (fun hb495v => RQ.sub (E' := [(284, .int .i64 s303v.2.2.2.2), (285, .int .i64 s307v.2.2.2.2)]) ⟨lk_cv rfl hb495v, lk_cv rfl hb495v, trivial⟩ (q_eql rfl rfl rfl)) rfl rfl rfl rfl rfl ?_
 refine vq (q_and rfl rfl rfl) rfl ?_
 refine vm rfl rfl ?_
 refine simL_valc (b := (s322v && (decide (s303v.2.2.2.1 = s307v.2.2.2.1))) && (decide (s303v.2.2.2.2 = s307v.2.2.2.2))) (fun hb494v => RQ.sub (E' := [(24, .int .i64 s350v)]) ⟨rfl, trivial⟩ (q_move rfl rfl)) rfl rfl rfl rfl rfl ?_
 refine simL_valc (b := (s322v && (decide (s303v.2.2.2.1 = s307v.2.2.2.1))) && (decide (s303v.2.2.2.2 = s307v.2.2.2.2))) (fun hb493v => RQ.sub (E' := [(14, .slice y181v.1 s179v.length y181v.2.1)]) ⟨rfl, trivial⟩ (q_move rfl rfl)) rfl rfl rfl rfl rfl ?_
 refine simL_valc (b := (s322v && (decide (s303v.2.2.2.1 = s307v.2.2.2.1))) && (decide (s303v.2.2.2.2 = s307v.2.2.2.2))) (fun hb492v => RQ.sub (E' := [(290, .slice y181v.1 s179v.length y181v.2.1)]) ⟨lk_cv rfl hb492v, trivial⟩ (q_len rfl rfl rfl Tryz.underlying47)) rfl rfl rfl rfl rfl ?_
 refine simL_valc (b := (s322v && (decide (s303v.2.2.2.1 = s307v.2.2.2.1))) && (decide (s303v.2.2.2.2 = s307v.2.2.2.2))) (fun hb491v => RQ.sub (E' := [(289, .int .i64 s350v), (291, .int .i64 (s179v.length : Int))]) ⟨lk_cv rfl hb491v, lk_cv rfl hb491v, trivial⟩ (q_eql rfl rfl rfl)) rfl rfl rfl rfl rfl ?_
 refine vq (q_and rfl rfl rfl) rfl ?_
 refine va rfl rfl (simL_nil (nrm_then (sim_rtn ?_)))
 exact rtn_fn () rfl rfl rfl (.sel 2 rfl (.nil _))
end Go.Proofs.YtjkjlggbikeliaaGreatDoor

namespace Go.Proofs.YtjkjlggbikeliaaGreatDoor
set_option linter.unusedVariables false
set_option linter.unusedSimpArgs false
open Go.RowKit

theorem w64 {n : Int} (h0 : -9223372036854775808 ≤ n) (h1 : n ≤ 9223372036854775807) : IntKind.i64.wrap n = n := by rw [IntKind.wrap_i64]; omega
theorem w8 {n : Int} (h0 : 0 ≤ n) (h1 : n < 256) : IntKind.u8.wrap n = n := by rw [IntKind.wrap_u8]; omega
theorem wraps_i64 (n : Int) (h₀ : 0 ≤ n) (h₁ : n < 2 ^ 63) : IntKind.i64.wrap n = n := by rw [IntKind.wrap_i64]; omega
theorem and127 {n : Int} (h0 : 0 ≤ n) (h1 : n < 2 ^ 63) : bitsV .and .i64 n 127 = n % 128 := bits_mask .i64 63 (by decide) wraps_i64 7 (by decide) n h0 h1
theorem and127b {n : Int} (h0 : 0 ≤ n) (h1 : n < 256) : bitsV .and .u8 n 127 = n % 128 := bits_mask .u8 8 (by decide) wraps_u8 7 (by decide) n h0 h1
theorem or128 {n : Int} (h0 : 0 ≤ n) (h1 : n < 128) : bitsV .or .i64 n 128 = n + 128 := by
  obtain ⟨a, rfl⟩ := Int.eq_ofNat_of_zero_le h0
  have ha : a < 128 := by omega
  have e := (bits_nat .i64 63 (by decide) wraps_i64 a 128 (by omega) (by decide)).2
  show bits .or .i64 (a : Int) ((128 : Nat) : Int) = _
  rw [e]
  have h2 := Nat.two_pow_add_eq_or_of_lt (i := 7) (b := a) ha 1
  have : a ||| 128 = 128 + a := by rw [Nat.or_comm]; simpa using h2.symm
  rw [this]; omega
theorem shr7 (n : Nat) : Int.fdiv (n : Int) (2 ^ (min (7 : Int).toNat IntKind.i64.bits)) = ((n / 128 : Nat) : Int) := by
  show Int.fdiv (n : Int) 128 = _
  rw [Int.fdiv_eq_ediv_of_nonneg _ (by decide)]
  simp
theorem byte_cast (b : UInt8) : byte (b.toNat : Int) = b := by simp [byte]
theorem getD_lt (l : List UInt8) (i : Nat) : (l.getD i 0).toNat < 256 := UInt8.toNat_lt _

def sv (n : Nat) : List UInt8 := if h : n < 128 then [UInt8.ofNat n] else UInt8.ofNat (n % 128 + 128) :: sv (n / 128)
theorem sv_lt {n : Nat} (h : n < 128) : sv n = [UInt8.ofNat n] := by rw [sv]; simp [h]
theorem sv_ge {n : Nat} (h : 128 ≤ n) : sv n = UInt8.ofNat (n % 128 + 128) :: sv (n / 128) := by rw [sv]; simp [Nat.not_lt.2 h]
theorem sv_ne (n : Nat) : sv n ≠ [] := by rw [sv]; split <;> simp
theorem sv_pos (n : Nat) : 0 < (sv n).length := List.length_pos_iff.2 (sv_ne n)
theorem sv_len : ∀ (j n : Nat), n < 128 ^ (j + 1) → (sv n).length ≤ j + 1
  | 0, n, h => by rw [sv_lt (by simpa using h)]; simp
  | j + 1, n, h => by
    by_cases hn : n < 128
    · rw [sv_lt hn]; simp
    · rw [sv_ge (by omega)]
      have := sv_len j (n / 128) (by rw [Nat.pow_succ] at h; exact Nat.div_lt_of_lt_mul (by rw [Nat.mul_comm]; exact h))
      simp; omega
theorem sv9 {n : Nat} (h : n < 2 ^ 63) : (sv n).length ≤ 9 := sv_len 8 n (by omega)
def lead : List UInt8 → Nat
  | [] => 0
  | b :: l => if 128 ≤ b.toNat then lead l + 1 else 0
def val7 : Nat → List UInt8 → Nat
  | 0, l => (l.getD 0 0).toNat % 128
  | k + 1, l => (l.getD 0 0).toNat % 128 + 128 * val7 k (l.drop 1)
theorem lead_le : ∀ l : List UInt8, lead l ≤ l.length
  | [] => Nat.le_refl _
  | b :: l => by simp only [lead]; have := lead_le l; split <;> simp <;> omega
theorem lead_spec : ∀ (l : List UInt8) (i : Nat), i < lead l → 128 ≤ (l.getD i 0).toNat
  | [], i, h => by simp [lead] at h
  | b :: l, i, h => by
    simp only [lead] at h
    split at h
    · cases i with
      | zero => simpa
      | succ i => simpa using lead_spec l i (by omega)
    · omega
theorem lead_stop : ∀ (l : List UInt8), lead l < l.length → (l.getD (lead l) 0).toNat < 128
  | [], h => by simp [lead] at h
  | b :: l, h => by
    simp only [lead] at h ⊢
    split
    · rename_i hb; rw [if_pos hb] at h; simpa using lead_stop l (by simpa using h)
    · simp; omega
def dec (l : List UInt8) : Int × Int × Int :=
  if l = [] then (0, 0, 2) else
  if 9 ≤ lead l then (0, 0, 4) else
  if l.length ≤ lead l then (0, 0, 2) else
  if 0 < lead l ∧ (l.getD (lead l) 0).toNat = 0 then (0, 0, 4) else
  if 2 ^ 62 < val7 (lead l) l then (0, 0, 1) else (((val7 (lead l) l : Nat) : Int), ((lead l + 1 : Nat) : Int), (0 : Int))
end Go.Proofs.YtjkjlggbikeliaaGreatDoor

namespace Go.Proofs.YtjkjlggbikeliaaGreatDoor
set_option linter.unusedVariables false
set_option linter.unusedSimpArgs false
open Go.RowKit

theorem size_loop : ∀ (j n c k : Nat), n < 128 ^ (j + 1) → j + 1 ≤ k → c + j < 1000 → wire_Size.l0 k (n : Int) (c : Int) = some (((c + ((sv n).length - 1) : Nat)) : Int)
  | j, n, c, 0, _, hk, _ => by omega
  | j, n, c, k + 1, h, hk, hc => by
    simp only [wire_Size.l0]
    by_cases hn : n < 128
    · rw [if_neg (by omega), sv_lt hn]; simp
    · rw [if_pos (by omega), shr7]
      cases j with
      | zero => simp at h; omega
      | succ j =>
        rw [w64 (by omega) (by omega)]
        have := size_loop j (n / 128) (c + 1) k (by rw [Nat.pow_succ] at h; exact Nat.div_lt_of_lt_mul (by rw [Nat.mul_comm]; exact h)) (by omega) (by omega)
        have e : ((c : Int) + 1) = ((c + 1 : Nat) : Int) := by simp
        rw [e, this, sv_ge (n := n) (by omega)]
        have := sv_pos (n / 128)
        simp only [List.length_cons, Option.some.injEq, Int.ofNat_inj]
        omega
def okN (x : Int) : Prop := 0 ≤ x ∧ x ≤ 4611686018427387904
instance (x : Int) : Decidable (okN x) := by unfold okN; exact inferInstance
def sizeV (x : Int) : Int := if okN x then ((sv x.toNat).length : Nat) else 0
theorem guard_okN (x : Int) : ((decide (x < (0 : Int))) || (decide ((4611686018427387904 : Int) < x))) = true ↔ ¬ okN x := by
  unfold okN; simp; omega
theorem wire_Size_eq {k : Nat} (hk : 10 ≤ k) (x : Int) : wire_Size.f k x = some (sizeV x) := by
  unfold wire_Size.f sizeV
  by_cases h : okN x
  · rw [if_neg (by rw [guard_okN]; simpa using h), if_pos h]
    obtain ⟨n, rfl⟩ := Int.eq_ofNat_of_zero_le h.1
    have h2 : n ≤ 4611686018427387904 := by have := h.2; omega
    have := size_loop 8 n 1 k (by omega) (by omega) (by omega)
    have e : ((1 : Nat) : Int) = 1 := rfl
    rw [e] at this
    rw [this]
    have := sv_pos n
    simp; omega
  · rw [if_pos ((guard_okN x).2 h), if_neg h]
/-! The bytes, one by one. -/
theorem u8_127 {n : Nat} (hn : n < 2 ^ 63) : IntKind.u8.wrap (bitsV .or .i64 (bitsV .and .i64 (n : Int) 127) 128) = ((n % 128 + 128 : Nat) : Int) := by
  rw [and127 (by omega) (by omega), or128 (by omega) (by omega), w8 (by omega) (by omega)]
  simp
theorem sevens_loop {S : Type} (step : S → Int → Option S) : ∀ (j n : Nat) (s : S) (k : Nat), n < 128 ^ (j + 1) → j + 1 ≤ k → n < 2 ^ 63 → ((wire_sevens_1.l0 step k (n : Int) s).bind fun r => step r.2 (IntKind.u8.wrap r.1)) = foldO step s ((sv n).map fun b => (b.toNat : Int))
  | j, n, s, 0, _, hk, _ => by omega
  | j, n, s, k + 1, h, hk, hs => by
    simp only [wire_sevens_1.l0]
    by_cases hn : n < 128
    · rw [if_neg (by omega), sv_lt hn]
      have e : (UInt8.ofNat n).toNat = n := by rw [UInt8.toNat_ofNat']; omega
      simp only [Option.bind_some, List.map_cons, List.map_nil, foldO, e]
      rw [w8 (by omega) (by omega)]
      cases step s (n : Int) <;> rfl
    · rw [if_pos (by omega), shr7, u8_127 hs, sv_ge (by omega)]
      have e : (UInt8.ofNat (n % 128 + 128)).toNat = n % 128 + 128 := by rw [UInt8.toNat_ofNat']; omega
      simp only [List.map_cons, foldO, e]
      cases j with
      | zero => simp at h; omega
      | succ j =>
        cases step s ((n % 128 + 128 : Nat) : Int) with
        | none => rfl
        | some s' => exact sevens_loop step j (n / 128) s' k (by rw [Nat.pow_succ] at h; exact Nat.div_lt_of_lt_mul (by rw [Nat.mul_comm]; exact h)) (by omega) (by omega)
theorem sevens_eq {S : Type} {k : Nat} (hk : 10 ≤ k) (step : S → Int → Option S) (s : S) {n : Nat} (hn : n < 2 ^ 63) : wire_sevens_1.f k step s (n : Int) = foldO step s ((sv n).map fun b => (b.toNat : Int)) := by
  rw [← sevens_loop step 8 n s k (by omega) (by omega) hn]
  unfold wire_sevens_1.f
  congr 1
  funext r
  cases step r.2 (IntKind.u8.wrap r.1) <;> rfl
def apStep (s : List UInt8) (x : Int) : Option (List UInt8) := if 0 ≤ x ∧ x < 256 then (if (s.length + ([(byte x)] : List UInt8).length) * 1 ≤ 140737488355328 then (some (s ++ ([(byte x)] : List UInt8))) else none) else none
theorem ap_fold : ∀ (l s : List UInt8), s.length + l.length ≤ 140737488355328 → foldO apStep s (l.map fun b => (b.toNat : Int)) = some (s ++ l)
  | [], s, _ => by simp [foldO]
  | b :: l, s, h => by
    have hb := UInt8.toNat_lt b
    simp only [List.length_cons] at h
    simp only [List.map_cons, foldO, apStep]
    rw [if_pos (by omega), if_pos (by simp; omega)]
    simp only [Option.bind_some, byte_cast]
    rw [ap_fold l (s ++ [b]) (by simp; omega)]
    simp
def bytesV (x : Int) : List UInt8 := if okN x then sv x.toNat else []
def erV (x : Int) : Int := if okN x then 0 else 1
theorem sizeV_zero (x : Int) : sizeV x = 0 ↔ ¬ okN x := by
  unfold sizeV
  have := sv_pos x.toNat
  split
  · rename_i h; simp only [h, not_true_eq_false, iff_false]; omega
  · rename_i h; simp [h]
/-! Two byte lists. -/
end Go.Proofs.YtjkjlggbikeliaaGreatDoor

namespace Go.Proofs.YtjkjlggbikeliaaGreatDoor
set_option linter.unusedVariables false
set_option linter.unusedSimpArgs false
open Go.RowKit

def part7 : Nat → List UInt8 → Nat
  | 0, _ => 0
  | i + 1, l => part7 i l + (l.getD i 0).toNat % 128 * 128 ^ i
theorem part7_lt : ∀ (i : Nat) (l : List UInt8), part7 i l < 128 ^ i
  | 0, l => by simp [part7]
  | i + 1, l => by
    have := part7_lt i l
    have h2 := Nat.mod_lt (l.getD i 0).toNat (show 128 > 0 by decide)
    simp only [part7]
    rw [Nat.pow_succ]
    have h3 : (l.getD i 0).toNat % 128 * 128 ^ i ≤ 127 * 128 ^ i := Nat.mul_le_mul_right _ (by omega)
    omega
theorem part7_cons : ∀ (i : Nat) (b : UInt8) (l : List UInt8), part7 (i + 1) (b :: l) = b.toNat % 128 + 128 * part7 i l
  | 0, b, l => by simp [part7]
  | i + 1, b, l => by
    rw [part7, part7_cons i b l, part7]
    simp only [List.getD_cons_succ]
    rw [Nat.pow_succ, Nat.mul_add, Nat.add_assoc]
    congr 2
    rw [Nat.mul_comm (128 ^ i) 128, ← Nat.mul_assoc, ← Nat.mul_assoc, Nat.mul_comm _ 128]
theorem val7_part : ∀ (k : Nat) (l : List UInt8), val7 k l = part7 (k + 1) l
  | 0, l => by simp [val7, part7]
  | k + 1, [] => by
    have z : ∀ k, val7 k ([] : List UInt8) = 0 := by
      intro k; induction k with
      | zero => rfl
      | succ k ih => simp [val7, ih]
    have z2 : ∀ k, part7 k ([] : List UInt8) = 0 := by
      intro k; induction k with
      | zero => rfl
      | succ k ih => simp [part7, ih]
    rw [z, z2]
  | k + 1, b :: l => by
    rw [part7_cons, val7, val7_part k]
    simp
theorem getD_drop (l : List UInt8) (p i : Nat) : l.getD (p + i) 0 = (l.drop p).getD i 0 := by simp [List.getD_eq_getElem?_getD, List.getElem?_drop]
theorem or_join {n c i : Nat} (hn : n < 128 ^ i) (hc : c < 128) (hi : i ≤ 8) : bitsV .or .i64 (n : Int) ((c * 128 ^ i : Nat) : Int) = ((n + c * 128 ^ i : Nat) : Int) := by
  have hp : (128 : Nat) ^ i = 2 ^ (7 * i) := by rw [Nat.pow_mul]
  have hle : (128 : Nat) ^ i ≤ 128 ^ 8 := Nat.pow_le_pow_right (by decide) hi
  have hcm : c * 128 ^ i ≤ 127 * 128 ^ i := Nat.mul_le_mul_right _ (by omega)
  have e := (bits_nat .i64 63 (by decide) wraps_i64 n (c * 128 ^ i) (by omega) (by omega)).2
  show bits .or .i64 _ _ = _
  rw [e, Nat.or_comm, Nat.mul_comm, hp, ← Nat.two_pow_add_eq_or_of_lt (by rw [← hp]; exact hn) c, Nat.add_comm]
theorem step_val {c i : Nat} (hc : c < 256) (hi : i ≤ 8) : IntKind.i64.wrap ((IntKind.i64.wrap (bitsV .and .u8 (c : Int) 127)) * 2 ^ (min (IntKind.i64.wrap (7 * (i : Int))).toNat IntKind.i64.bits)) = ((c % 128 * 128 ^ i : Nat) : Int) := by
  have e1 : IntKind.i64.wrap (7 * (i : Int)) = ((7 * i : Nat) : Int) := by rw [w64 (by omega) (by omega)]; simp
  have e2 : bitsV .and .u8 (c : Int) 127 = ((c % 128 : Nat) : Int) := by rw [and127b (by omega) (by omega)]; simp
  have e3 : min ((7 * i : Nat) : Int).toNat IntKind.i64.bits = 7 * i := by
    show min ((7 * i : Nat) : Int).toNat 64 = 7 * i
    simp; omega
  have hp : (128 : Nat) ^ i = 2 ^ (7 * i) := by rw [Nat.pow_mul]
  have hle : (128 : Nat) ^ i ≤ 128 ^ 8 := Nat.pow_le_pow_right (by decide) hi
  have hcm : c % 128 * 128 ^ i ≤ 127 * 128 ^ i := Nat.mul_le_mul_right _ (by omega)
  rw [e1, e2, e3, w64 (n := ((c % 128 : Nat) : Int)) (by omega) (by omega)]
  have e4 : ((c % 128 : Nat) : Int) * 2 ^ (7 * i) = ((c % 128 * 128 ^ i : Nat) : Int) := by rw [hp]; simp
  rw [e4, w64 (by omega) (by omega)]
theorem dec_stop {l : List UInt8} {i : Nat} (hi : lead l = i) (h9 : i < 9) (hlt : i < l.length) :
    dec l = if 0 < i ∧ (l.getD i 0).toNat = 0 then (0, 0, 4) else if 2 ^ 62 < part7 (i + 1) l then (0, 0, 1) else (((part7 (i + 1) l : Nat) : Int), ((i + 1 : Nat) : Int), (0 : Int)) := by
  have hne : l ≠ [] := by rintro rfl; simp at hlt
  unfold dec
  rw [if_neg hne, hi, if_neg (by omega), if_neg (by omega), val7_part]
theorem dec_nine {l : List UInt8} (h9 : 9 ≤ lead l) : dec l = (0, 0, 4) := by
  have hne : l ≠ [] := by rintro rfl; simp [lead] at h9
  unfold dec
  rw [if_neg hne, if_pos h9]
theorem dec_short {l : List UInt8} (h9 : lead l < 9) (hl : l.length ≤ lead l) : dec l = (0, 0, 2) := by
  unfold dec
  by_cases hne : l = []
  · rw [if_pos hne]
  · rw [if_neg hne, if_neg (by omega), if_pos hl]
def decAt (b : List UInt8) (at_ : Int) : Int × Int × Int := if at_ < 0 ∨ (b.length : Int) ≤ at_ then (0, 0, 2) else dec (b.drop at_.toNat)
theorem guard_at (b : List UInt8) (x : Int) : ((decide (x < (0 : Int))) || (decide ((b.length : Int) ≤ x))) = true ↔ (x < 0 ∨ (b.length : Int) ≤ x) := by simp
theorem int_loop (b : List UInt8) (p : Nat) (hp : p < b.length) (hb : b.length < 2 ^ 62) : ∀ (d i k : Nat), i + d = 9 → d + 1 ≤ k → i ≤ lead (b.drop p) →
    (orR (wire_Int.l0 b (p : Int) k ((part7 i (b.drop p) : Nat) : Int) (i : Int)) fun _ => some ((0 : Int), (0 : Int), (4 : Int))) = some (dec (b.drop p))
  | d, i, 0, _, hk, _ => by omega
  | 0, i, k + 1, hd, hk, hl => by
    have hne : b.drop p ≠ [] := by intro e; have := congrArg List.length e; simp at this; omega
    simp only [wire_Int.l0]
    rw [if_neg (by omega)]
    simp only [orR, Option.some.injEq]
    unfold dec
    rw [if_neg hne, if_pos (by omega)]
  | d + 1, i, k + 1, hd, hk, hl => by
    have hne : b.drop p ≠ [] := by intro e; have := congrArg List.length e; simp at this; omega
    have hlen : (b.drop p).length = b.length - p := by simp
    have hll := lead_le (b.drop p)
    simp only [wire_Int.l0]
    rw [if_pos (by omega)]
    by_cases hend : b.length - p ≤ i
    · rw [w64 (n := (b.length : Int) - (p : Int)) (by omega) (by omega), if_pos (by omega)]
      simp only [orR, Option.some.injEq]
      unfold dec
      rw [if_neg hne, if_neg (by omega), if_pos (by omega)]
    · have epi : IntKind.i64.wrap ((p : Int) + (i : Int)) = ((p + i : Nat) : Int) := by rw [w64 (by omega) (by omega)]; simp
      have e7 : IntKind.i64.wrap (7 * (i : Int)) = ((7 * i : Nat) : Int) := by rw [w64 (by omega) (by omega)]; simp
      have ei1 : IntKind.i64.wrap ((i : Int) + 1) = ((i + 1 : Nat) : Int) := by rw [w64 (by omega) (by omega)]; simp
      have hc := getD_lt (b.drop p) i
      have hlt := part7_lt i (b.drop p)
      have hst := step_val (c := ((b.drop p).getD i 0).toNat) (i := i) hc (by omega)
      have hor := or_join (c := ((b.drop p).getD i 0).toNat % 128) (i := i) hlt (Nat.mod_lt _ (by decide)) (by omega)
      have hnext : part7 i (b.drop p) + ((b.drop p).getD i 0).toNat % 128 * 128 ^ i = part7 (i + 1) (b.drop p) := rfl
      rw [hnext] at hor
      rw [w64 (n := (b.length : Int) - (p : Int)) (by omega) (by omega), if_neg (by omega)]
      rw [epi, if_pos (by omega)]
      rw [if_pos (by rw [e7]; omega)]
      simp only [Int.toNat_natCast, getD_drop]
      rw [hst, hor, ei1]
      by_cases hcont : 128 ≤ ((b.drop p).getD i 0).toNat
      · rw [if_pos (by omega)]
        refine int_loop b p hp hb d (i + 1) k (by omega) (by omega) ?_
        refine Classical.byContradiction fun hx => ?_
        have hi : lead (b.drop p) = i := by omega
        have := lead_stop (b.drop p) (by omega)
        rw [hi] at this
        omega
      · have hi : lead (b.drop p) = i := by
          refine Nat.le_antisymm (Nat.not_lt.1 fun hx => ?_) hl
          exact hcont (lead_spec _ i hx)
        rw [dec_stop hi (by omega) (by omega), if_neg (by omega)]
        by_cases hz : 0 < i ∧ ((b.drop p).getD i 0).toNat = 0
        · rw [if_pos (by simp only [Bool.and_eq_true, decide_eq_true_eq]; omega), if_pos hz]
          rfl
        · rw [if_neg (by simp only [Bool.and_eq_true, decide_eq_true_eq]; omega), if_neg hz]
          by_cases hbig : 2 ^ 62 < part7 (i + 1) (b.drop p)
          · rw [if_pos (by omega), if_pos hbig]; rfl
          · rw [if_neg (by omega), if_neg hbig]; rfl
theorem wire_Int_eq {k : Nat} (hk : 10 ≤ k) {b : List UInt8} (hb : b.length < 2 ^ 62) (x : Int) : wire_Int.f k b x = some (decAt b x) := by
  unfold wire_Int.f decAt
  by_cases h : x < 0 ∨ (b.length : Int) ≤ x
  · rw [if_pos ((guard_at b x).2 h), if_pos h]
  · rw [if_neg (by rw [guard_at]; exact h), if_neg h]
    obtain ⟨p, rfl⟩ := Int.eq_ofNat_of_zero_le (show 0 ≤ x by omega)
    exact int_loop b p (by omega) hb 9 0 k (by omega) hk (Nat.zero_le _)
end Go.Proofs.YtjkjlggbikeliaaGreatDoor

namespace Go.Proofs.YtjkjlggbikeliaaGreatDoor
set_option linter.unusedVariables false
set_option linter.unusedSimpArgs false
open Go.RowKit
theorem bytesV_len (x : Int) : (bytesV x).length ≤ 9 := by
  unfold bytesV
  split
  · rename_i h; have := h.2; exact sv9 (by omega)
  · simp
theorem errV_zero (x : Int) : erV x = 0 ↔ okN x := by unfold erV; split <;> simp_all
theorem dec_ok {l : List UInt8} (h : (dec l).2.2 = 0) : ∃ i, lead l = i ∧ i < 9 ∧ i < l.length ∧ ¬ (0 < i ∧ (l.getD i 0).toNat = 0) ∧ part7 (i + 1) l ≤ 2 ^ 62 ∧ dec l = (((part7 (i + 1) l : Nat) : Int), ((i + 1 : Nat) : Int), (0 : Int)) := by
  by_cases h9 : 9 ≤ lead l
  · rw [dec_nine h9] at h; simp at h
  by_cases hs : l.length ≤ lead l
  · rw [dec_short (by omega) hs] at h; simp at h
  rw [dec_stop rfl (by omega) (by omega)] at h
  by_cases hz : 0 < lead l ∧ (l.getD (lead l) 0).toNat = 0
  · rw [if_pos hz] at h; simp at h
  rw [if_neg hz] at h
  by_cases hb : 2 ^ 62 < part7 (lead l + 1) l
  · rw [if_pos hb] at h; simp at h
  refine ⟨lead l, rfl, by omega, by omega, hz, by omega, ?_⟩
  rw [dec_stop rfl (by omega) (by omega), if_neg hz, if_neg hb]
theorem dec_bad {l : List UInt8} (h : ¬ (dec l).2.2 = 0) : (dec l).1 = 0 ∧ (dec l).2.1 = 0 := by
  by_cases h9 : 9 ≤ lead l
  · rw [dec_nine h9]; exact ⟨rfl, rfl⟩
  by_cases hs : l.length ≤ lead l
  · rw [dec_short (by omega) hs]; exact ⟨rfl, rfl⟩
  rw [dec_stop rfl (by omega) (by omega)] at h ⊢
  by_cases hz : 0 < lead l ∧ (l.getD (lead l) 0).toNat = 0
  · rw [if_pos hz]; exact ⟨rfl, rfl⟩
  rw [if_neg hz] at h ⊢
  by_cases hb : 2 ^ 62 < part7 (lead l + 1) l
  · rw [if_pos hb]; exact ⟨rfl, rfl⟩
  · rw [if_neg hb] at h; exact absurd rfl h
theorem cutN (l : List UInt8) (p n : Nat) : cut l (p : Int) ((p + n : Nat) : Int) = (l.drop p).take n := by
  simp only [cut, Int.toNat_natCast]
  rw [List.drop_take]
  congr 1
  omega
end Go.Proofs.YtjkjlggbikeliaaGreatDoor

namespace Go.Proofs.YtjkjlggbikeliaaGreatDoor
set_option linter.unusedVariables false
set_option linter.unusedSimpArgs false
open Go.RowKit
theorem wfresh_eq {x : List UInt8} (h : x.length ≤ 140737488355328) : wire_fresh.f x = some x := by
  unfold wire_fresh.f
  rw [if_pos (by omega)]
  simp [copyB]
/-! ### The reader -/
theorem decAt_ok {b : List UInt8} {p : Nat} (h : (decAt b (p : Int)).2.2 = 0) : ∃ n j : Nat, decAt b (p : Int) = ((n : Int), (j : Int), 0) ∧ 1 ≤ j ∧ p + j ≤ b.length ∧ n ≤ 2 ^ 62 := by
  unfold decAt at h ⊢
  by_cases hat : (p : Int) < 0 ∨ (b.length : Int) ≤ (p : Int)
  · rw [if_pos hat] at h; simp at h
  · rw [if_neg hat] at h ⊢
    obtain ⟨i, hi, h9, hlt, hz, hv, hd⟩ := dec_ok h
    simp only [Int.toNat_natCast, List.length_drop] at hlt hv hd ⊢
    exact ⟨_, _, hd, by omega, by omega, hv⟩
theorem decAt_bad {b : List UInt8} {p : Int} (h : ¬ (decAt b p).2.2 = 0) : (decAt b p).1 = 0 ∧ (decAt b p).2.1 = 0 := by
  unfold decAt at h ⊢
  by_cases hat : p < 0 ∨ (b.length : Int) ≤ p
  · rw [if_pos hat]; exact ⟨rfl, rfl⟩
  · rw [if_neg hat] at h ⊢; exact dec_bad h
def rNum (b : List UInt8) (p : Nat) (e : Int) : Int × Int × Int := if e = 0 then decAt b (p : Int) else (0, 0, e)
theorem rNum_ok {b : List UInt8} {p : Nat} {e : Int} (h : (rNum b p e).2.2 = 0) : ∃ n j : Nat, rNum b p e = ((n : Int), (j : Int), 0) ∧ 1 ≤ j ∧ p + j ≤ b.length ∧ n ≤ 2 ^ 62 := by
  unfold rNum at h ⊢
  by_cases he : e = 0
  · rw [if_pos he] at h ⊢; exact decAt_ok h
  · rw [if_neg he] at h; exact absurd h he
theorem rNum_bad {b : List UInt8} {p : Nat} {e : Int} (h : ¬ (rNum b p e).2.2 = 0) : (rNum b p e).1 = 0 ∧ (rNum b p e).2.1 = 0 := by
  unfold rNum at h ⊢
  by_cases he : e = 0
  · rw [if_pos he] at h ⊢; exact decAt_bad h
  · rw [if_neg he]; exact ⟨rfl, rfl⟩
theorem look_eq {k : Nat} (hk : 12 ≤ k) {b : List UInt8} (hb : b.length < 2 ^ 62) (p : Nat) (e : Int) :
    wire_Reader_look.f k b (p : Int) e = some ((rNum b p e).1, (rNum b p e).2.1, decide ((rNum b p e).2.2 = 0), (p : Int), (rNum b p e).2.2) := by
  unfold wire_Reader_look.f rNum
  by_cases he : e = 0
  · rw [if_pos he, if_pos he, wire_Int_eq (by omega) hb]; rfl
  · rw [if_neg he, if_neg he]; simp [he]
def rPos (b : List UInt8) (p : Nat) (e : Int) : Nat := p + (rNum b p e).2.1.toNat
theorem rPos_le {b : List UInt8} {p : Nat} {e : Int} (hp : p ≤ b.length) : rPos b p e ≤ b.length := by
  unfold rPos
  by_cases h : (rNum b p e).2.2 = 0
  · obtain ⟨n, j, hd, h1, h2, h3⟩ := rNum_ok h
    rw [hd]; simpa using h2
  · rw [(rNum_bad h).2]; simpa using hp
theorem rInt_eq {k : Nat} (hk : 12 ≤ k) {b : List UInt8} (hb : b.length < 2 ^ 62) (p : Nat) (e : Int) (hp : p ≤ b.length) :
    wire_Reader_Int.f k b (p : Int) e = some ((rNum b p e).1, ((rPos b p e : Nat) : Int), (rNum b p e).2.2) := by
  unfold wire_Reader_Int.f rPos
  rw [look_eq hk hb]
  simp only [Option.bind_some]
  by_cases h : (rNum b p e).2.2 = 0
  · obtain ⟨n, j, hd, h1, h2, h3⟩ := rNum_ok h
    rw [hd]
    simp only [decide_true, Bool.not_true, Bool.false_eq_true, if_false, Int.toNat_natCast]
    rw [w64 (by omega) (by omega)]
    simp
  · obtain ⟨h1, h2⟩ := rNum_bad h
    rw [if_pos (by simp [h]), h1, h2]
    rfl
def rBytes (b : List UInt8) (p : Nat) (e : Int) (most : Int) : List UInt8 × Nat × Int :=
  let d := rNum b p e
  if d.2.2 = 0 then
    if max most 0 < d.1 then ([], p, 3) else
    if (b.length : Int) - (rPos b p e : Nat) < d.1 then ([], p, 2) else ((b.drop (rPos b p e)).take d.1.toNat, rPos b p e + d.1.toNat, 0)
  else ([], p, d.2.2)
theorem rBytes_eq {k : Nat} (hk : 12 ≤ k) {b : List UInt8} (hb : b.length < 2 ^ 47) (p : Nat) (e most : Int) (hp : p ≤ b.length) :
    wire_Reader_Bytes.f k b (p : Int) e most = some ((rBytes b p e most).1, (((rBytes b p e most).2.1 : Nat) : Int), (rBytes b p e most).2.2) := by
  unfold wire_Reader_Bytes.f rBytes rPos
  rw [look_eq hk (by omega)]
  simp only [Option.bind_some]
  by_cases h : (rNum b p e).2.2 = 0
  · obtain ⟨n, j, hd, h1, h2, h3⟩ := rNum_ok h
    rw [hd]
    simp only [decide_true, Bool.not_true, Bool.false_eq_true, if_false, if_true, Int.toNat_natCast]
    by_cases hn : max most 0 < (n : Int)
    · rw [if_pos hn, if_pos hn]
    · rw [if_neg hn, if_neg hn]
      have e1 : IntKind.i64.wrap ((b.length : Int) - (p : Int)) = (b.length : Int) - (p : Int) := w64 (by omega) (by omega)
      have e2 : IntKind.i64.wrap (((b.length : Int) - (p : Int)) - (j : Int)) = (b.length : Int) - ((p + j : Nat) : Int) := by rw [w64 (by omega) (by omega)]; omega
      have e3 : IntKind.i64.wrap ((p : Int) + (j : Int)) = ((p + j : Nat) : Int) := by rw [w64 (by omega) (by omega)]; simp
      rw [e1, e2]
      by_cases hs : (b.length : Int) - ((p + j : Nat) : Int) < (n : Int)
      · rw [if_pos hs, if_pos hs]
      · have e4 : IntKind.i64.wrap (((p + j : Nat) : Int) + (n : Int)) = ((p + j + n : Nat) : Int) := by rw [w64 (by omega) (by omega)]; simp
        rw [if_neg hs, if_neg hs, e3, e4, if_pos (by omega), cutN, wfresh_eq (by rw [List.length_take, List.length_drop]; omega)]
        rfl
  · rw [if_pos (by simp [h])]; simp [h]
theorem rBytes_le {b : List UInt8} {p : Nat} {e most : Int} (hp : p ≤ b.length) : (rBytes b p e most).2.1 ≤ b.length ∧ (rBytes b p e most).1.length ≤ b.length := by
  unfold rBytes
  simp only []
  have := rPos_le (e := e) hp
  split
  · split
    · exact ⟨hp, by simp⟩
    · split
      · exact ⟨hp, by simp⟩
      · rename_i h1 h2 h3
        refine ⟨by simp only []; omega, ?_⟩
        simp only [List.length_take, List.length_drop]; omega
  · exact ⟨hp, by simp⟩
end Go.Proofs.YtjkjlggbikeliaaGreatDoor

namespace Go.Proofs.YtjkjlggbikeliaaGreatDoor
set_option linter.unusedVariables false
set_option linter.unusedSimpArgs false
open Go.RowKit
def wNum (b : List UInt8) (e x : Int) : List UInt8 × Int := if e = 0 then (b ++ bytesV x, erV x) else (b, e)
def wBytes (b : List UInt8) (e : Int) (l : List UInt8) (most : Int) : List UInt8 × Int :=
  if e = 0 then (if max most 0 < (l.length : Int) then (b, 3) else (b ++ bytesV (l.length : Int) ++ l, 0)) else (b, e)
theorem wInt_eq {k : Nat} (hk : 10 ≤ k) {b : List UInt8} (hb : b.length + 9 ≤ 140737488355328) (e x : Int) : wire_Writer_Int.f k b e x = some (wNum b e x) := by
  unfold wire_Writer_Int.f wNum
  by_cases he : e = 0
  · rw [if_pos he, if_pos he, wire_Size_eq hk, Option.bind_some]
    unfold bytesV erV
    by_cases h : okN x
    · obtain ⟨n, rfl⟩ := Int.eq_ofNat_of_zero_le h.1
      have h2 : n ≤ 4611686018427387904 := by have := h.2; omega
      have hl := sv9 (n := n) (by omega)
      rw [if_neg (by rw [sizeV_zero]; simpa using h), if_pos h, if_pos h]
      show ((wire_sevens_1.f k apStep b (n : Int)).bind _) = _
      rw [sevens_eq hk _ _ (by omega), ap_fold _ _ (by omega), he]
      rfl
    · rw [if_pos ((sizeV_zero x).2 h), if_neg h, if_neg h]; simp
  · rw [if_neg he, if_neg he]
theorem okN_len {l : List UInt8} (h : l.length < 2 ^ 47) : okN (l.length : Int) := ⟨by omega, by omega⟩
theorem wBytes_eq {k : Nat} (hk : 10 ≤ k) {b l : List UInt8} (hb : b.length + 9 + l.length < 140737488355328) (e most : Int) : wire_Writer_Bytes.f k b e l most = some (wBytes b e l most) := by
  unfold wire_Writer_Bytes.f wBytes
  by_cases he : e = 0
  · by_cases hm : max most 0 < (l.length : Int)
    · rw [if_pos (by simp [he]; omega), if_pos he, if_pos hm]; rfl
    · have hn := okN_len (l := l) (by omega)
      have hl := bytesV_len (l.length : Int)
      rw [if_neg (by simp; omega), if_pos he, if_neg hm, Option.bind_some, if_pos he, wInt_eq hk (by omega), Option.bind_some]
      unfold wNum
      rw [if_pos he, (errV_zero _).2 hn]
      simp only []
      rw [if_pos (by rw [List.length_append]; omega)]
  · rw [if_neg (by simp [he]), if_neg he, Option.bind_some, if_neg he]
def wDone (b : List UInt8) (e : Int) : List UInt8 × Int := if e = 0 then (b, 0) else ([], e)
theorem wDone_eq {b : List UInt8} (hb : b.length ≤ 140737488355328) (e : Int) : wire_Writer_Done.f b e = some (wDone b e) := by
  unfold wire_Writer_Done.f wDone
  by_cases he : e = 0
  · rw [if_pos he, if_pos he, wfresh_eq hb]; rfl
  · rw [if_neg he, if_neg he]
end Go.Proofs.YtjkjlggbikeliaaGreatDoor

namespace Go.Proofs.YtjkjlggbikeliaaGreatDoor
set_option linter.unusedVariables false
set_option linter.unusedSimpArgs false
open Go.RowKit
def rg (x l : Int) : Prop := l ≤ x ∧ x ≤ 4611686018427387904
instance (x l : Int) : Decidable (rg x l) := by unfold rg; infer_instance
theorem rg_ok {x l : Int} (h : rg x l) (hl : 0 ≤ l) : okN x := ⟨Int.le_trans hl h.1, h.2⟩
theorem cwithin (x l : Int) : codec_within.f x l = some (decide (rg x l)) := by
  have : (decide (l ≤ x) && decide (x ≤ 4611686018427387904)) = decide (rg x l) := by rw [Bool.eq_iff_iff, Bool.and_eq_true, decide_eq_true_iff, decide_eq_true_iff, decide_eq_true_iff]; rfl
  unfold codec_within.f; rw [this]
/-! ### Checks -/
def noneP (i t : Int) (d : List UInt8) : Prop := (i = 0 ∧ t = 0) ∧ (d.length : Int) = 0
instance (i t : Int) (d : List UInt8) : Decidable (noneP i t d) := by unfold noneP; infer_instance
def chkP (i t : Int) (d : List UInt8) : Int := if noneP i t d then 0 else if ¬ (rg i 1 ∧ rg t 1) then 1 else if 524288 < (d.length : Int) then 3 else 0
theorem cnone (i t : Int) (d : List UInt8) : codec_none.f i t d = some (decide (noneP i t d)) := by
  unfold codec_none.f noneP; congr 1; rw [Bool.eq_iff_iff]; simp
theorem cP (i t : Int) (d : List UInt8) : codec_Snaps_Check.f i t d = some (chkP i t d) := by
  unfold codec_Snaps_Check.f chkP
  simp only [cwithin, cnone, Option.bind_some]
  by_cases h0 : noneP i t d
  · simp [h0]
  · by_cases h1 : rg i 1 <;> by_cases h2 : rg t 1 <;> simp [h0, h1, h2] <;> split <;> rfl
end Go.Proofs.YtjkjlggbikeliaaGreatDoor

namespace Go.Proofs.YtjkjlggbikeliaaGreatDoor
set_option linter.unusedVariables false
set_option linter.unusedSimpArgs false
open Go.RowKit
theorem wNum0 {x : Int} (h : okN x) (b : List UInt8) : wNum b 0 x = (b ++ bytesV x, 0) := by unfold wNum; rw [if_pos rfl, (errV_zero x).2 h]
theorem wBytes0 {d : List UInt8} {m : Int} (h : (d.length : Int) ≤ m) (b : List UInt8) : wBytes b 0 d m = (b ++ bytesV (d.length : Int) ++ d, 0) := by
  unfold wBytes; rw [if_pos rfl, if_neg (by omega)]
theorem wDone0 (b : List UInt8) : wDone b 0 = (b, 0) := by unfold wDone; rw [if_pos rfl]
theorem wI {k : Nat} (hk : 10 ≤ k) {b : List UInt8} (hb : b.length ≤ 100000000) {x : Int} (h : okN x) : wire_Writer_Int.f k b 0 x = some (b ++ bytesV x, 0) := by
  rw [wInt_eq hk (by omega), wNum0 h]
theorem wB {k : Nat} (hk : 10 ≤ k) {b d : List UInt8} (hb : b.length ≤ 100000000) {m : Int} (h : (d.length : Int) ≤ m) (hd : d.length ≤ 100000000) : wire_Writer_Bytes.f k b 0 d m = some (b ++ bytesV (d.length : Int) ++ d, 0) := by
  rw [wBytes_eq hk (by omega), wBytes0 h]
theorem wD {b : List UInt8} (hb : b.length ≤ 100000000) : wire_Writer_Done.f b 0 = some (b, 0) := by rw [wDone_eq (by omega), wDone0]
/-! ### Texts -/
def bB (d : List UInt8) : List UInt8 := bytesV (d.length : Int) ++ d
def txP (i t : Int) (d : List UInt8) : List UInt8 := bytesV i ++ (bytesV t ++ bB d)
theorem chkP_ok {i t : Int} {d : List UInt8} (h : chkP i t d = 0) : rg i 0 ∧ rg t 0 ∧ (d.length : Int) ≤ 524288 := by
  unfold chkP at h
  split at h
  · rename_i h1
    obtain ⟨⟨rfl, rfl⟩, h3⟩ := h1
    refine ⟨?_, ?_, by omega⟩ <;> (unfold rg; omega)
  · split at h
    · omega
    · split at h
      · omega
      · rename_i h1 h2 h3
        have h2 := Classical.not_not.1 h2
        unfold rg at *
        omega
def putV (c : Int) (t : List UInt8) : List UInt8 × Int := if c = 0 then (t, 0) else ([], c)
theorem cPutP {k : Nat} (hk : 10 ≤ k) (i t : Int) (d : List UInt8) : codec_Snaps_Put.f k i t d = some (putV (chkP i t d) (txP i t d)) := by
  unfold codec_Snaps_Put.f codec_text_codec_Snaps_Put_1.f codec_Snaps_Put_1.f putV
  rw [cP, Option.bind_some]
  by_cases h : chkP i t d = 0
  · obtain ⟨h1, h2, h4⟩ := chkP_ok h
    have b1 := bytesV_len i; have b2 := bytesV_len t; have b4 := bytesV_len (d.length : Int)
    rw [if_pos h, if_pos h, show wire_NewWriter.f = some ([], 0) from rfl]
    simp only [Option.bind_some]
    rw [wI hk (by simp) (rg_ok h1 (by decide)), Option.bind_some, wI hk (by simp; omega) (rg_ok h2 (by decide)), Option.bind_some, wB hk (by simp; omega) h4 (by omega), Option.bind_some]
    simp only [Option.bind_some]
    rw [wD (by simp; omega)]
    simp [txP, bB]
  · rw [if_neg h, if_neg h]; rfl
end Go.Proofs.YtjkjlggbikeliaaGreatDoor

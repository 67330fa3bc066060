/- Texts that lead to the law WalNames: G5. Conditions: as each says. -/
import Derived.Test.YtndjkejhacfpdaaGreatDoorM6
namespace Go.Proofs.YtndjkejhacfpdaaGreatDoor
open Go.RowKit
set_option linter.unusedVariables false
set_option linter.unusedSimpArgs false
set_option maxRecDepth 20000
set_option maxHeartbeats 20000000
def wal_Open.l2 (s87v : List Int) : Nat → Int → List ((List UInt8) × (List UInt8 × Int)) → List UInt8 → Int → Bool → Int → List Int → Int → Int → Int → Int → Int → Int → List (Ty144) → Bool → Bool → Option ((List ((List UInt8) × (List UInt8 × Int))) × List UInt8 × Int × Bool × Int × List Int × Int × Int × Int × Int × Int × Int × (List (Ty144)) × Bool × Bool)
  | 0, _, _, _, _, _, _, _, _, _, _, _, _, _, _, _, _ => none
  | k + 1, z92v, z93v, z94v, z95v, z96v, z97v, z98v, z99v, z100v, z101v, z102v, z103v, z104v, z105v, z106v, z107v => if z92v < (s87v.length : Int) then (if 0 ≤ z92v ∧ z92v < (s87v.length : Int) then ((wal_Wal_read_s.f k z93v z94v z95v z96v z97v z98v z99v z100v z101v z102v z103v z104v z105v z106v (s87v.getD z92v.toNat (0 : Int))).bind fun s124v => (wal_Open.l2 s87v k (IntKind.i64.wrap (z92v + 1)) s124v.2.1 s124v.2.2.1 s124v.2.2.2.1 s124v.2.2.2.2.1 s124v.2.2.2.2.2.1 s124v.2.2.2.2.2.2.1 s124v.2.2.2.2.2.2.2.1 s124v.2.2.2.2.2.2.2.2.1 s124v.2.2.2.2.2.2.2.2.2.1 s124v.2.2.2.2.2.2.2.2.2.2.1 s124v.2.2.2.2.2.2.2.2.2.2.2.1 s124v.2.2.2.2.2.2.2.2.2.2.2.2.1 s124v.2.2.2.2.2.2.2.2.2.2.2.2.2.1 s124v.2.2.2.2.2.2.2.2.2.2.2.2.2.2 s124v.1)) else none) else (some (z93v, z94v, z95v, z96v, z97v, z98v, z99v, z100v, z101v, z102v, z103v, z104v, z105v, z106v, z107v))
def wal_Open.l1 (s7v : List Int) : Nat → Int → Option (Unit)
  | 0, _ => none
  | k + 1, z53v => if z53v < (s7v.length : Int) then (if 0 ≤ z53v ∧ z53v < (s7v.length : Int) then (if 0 ≤ (0 : Int) ∧ (0 : Int) < (s7v.length : Int) then (if (s7v.getD z53v.toNat (0 : Int)) = IntKind.i64.wrap ((s7v.getD (0 : Int).toNat (0 : Int)) + z53v) then (wal_Open.l1 s7v k (IntKind.i64.wrap (z53v + 1))) else ((wal_must.f (12 : Int)).bind fun s76v => (wal_Open.l1 s7v k (IntKind.i64.wrap (z53v + 1))))) else none) else none) else (some ())
def wal_Open.l0 (s9v : List (List UInt8)) : Nat → Int → List Int → Option (List Int)
  | 0, _, _ => none
  | k + 1, z14v, z15v => if z14v < (s9v.length : Int) then (if 0 ≤ z14v ∧ z14v < (s9v.length : Int) then ((wal_Number.f k (s9v.getD z14v.toNat ([] : List UInt8))).bind fun s28v => (if s28v.2 = true then (if (z15v.length + ([s28v.1] : List Int).length) * 8 ≤ 140737488355328 then (wal_Open.l0 s9v k (IntKind.i64.wrap (z14v + 1)) (z15v ++ ([s28v.1] : List Int))) else none) else (wal_Open.l0 s9v k (IntKind.i64.wrap (z14v + 1)) z15v))) else none) else (some z15v)
def wal_Open.f (k : Nat) (x0_0 : List ((List UInt8) × (List UInt8 × Int))) (x0_1 : List UInt8) (x0_2 : Int) (x0_3 : Bool) (x1 : Int) : Option (Bool × Int × List Int × Int × Int × Int × Int × Int × Int × (List (Ty144)) × Bool × Bool × Int × (List ((List UInt8) × (List UInt8 × Int))) × List UInt8 × Int × Bool) := if ((decide (x1 < (64 : Int))) || (decide ((1048576 : Int) < x1))) = true then (some (false, (0 : Int), ([] : List Int), (0 : Int), (0 : Int), (0 : Int), (0 : Int), (0 : Int), (0 : Int), ([] : List (Ty144)), false, false, 15, x0_0, x0_1, x0_2, x0_3)) else (((disk_Disk_List.f x0_0 x0_1 x0_2 x0_3).bind fun s9v => (wal_Open.l0 s9v k 0 ([] : List Int))).bind fun s7v => (if (s7v.length : Int) = (0 : Int) then ((wal_Wal_begin_s.f k x0_0 x0_1 x0_2 x0_3 x1 s7v (0 : Int) (0 : Int) (0 : Int) (0 : Int) (0 : Int) (0 : Int) ([] : List (Ty144)) false (1 : Int)).bind fun s46v => (some (true, s46v.2.2.2.2.1, s46v.2.2.2.2.2.1, s46v.2.2.2.2.2.2.1, s46v.2.2.2.2.2.2.2.1, s46v.2.2.2.2.2.2.2.2.1, s46v.2.2.2.2.2.2.2.2.2.1, s46v.2.2.2.2.2.2.2.2.2.2.1, s46v.2.2.2.2.2.2.2.2.2.2.2.1, s46v.2.2.2.2.2.2.2.2.2.2.2.2.1, s46v.2.2.2.2.2.2.2.2.2.2.2.2.2, false, 0, s46v.1, s46v.2.1, s46v.2.2.1, s46v.2.2.2.1))) else ((wal_Open.l1 s7v k 0).bind fun s49v => (((slices_Clone__int_int.f s7v).bind fun s87v => (wal_Open.l2 s87v k 0 x0_0 x0_1 x0_2 x0_3 x1 s7v 0 0 0 0 0 0 ([] : List (Ty144)) false false)).bind fun s79v => (if 0 ≤ IntKind.i64.wrap ((s79v.2.2.2.2.2.1.length : Int) - 1) ∧ IntKind.i64.wrap ((s79v.2.2.2.2.2.1.length : Int) - 1) < (s79v.2.2.2.2.2.1.length : Int) then ((wal_name.f k (s79v.2.2.2.2.2.1.getD (IntKind.i64.wrap ((s79v.2.2.2.2.2.1.length : Int) - 1)).toNat (0 : Int))).bind fun s139v => ((disk_Disk_Sync.f s79v.1 s79v.2.1 s79v.2.2.1 s79v.2.2.2.1 s139v).bind fun s142v => ((wal_must.f s142v.1).bind fun s145v => (some (true, s79v.2.2.2.2.1, s79v.2.2.2.2.2.1, s79v.2.2.2.2.2.2.1, s79v.2.2.2.2.2.2.2.1, s79v.2.2.2.2.2.2.2.2.1, s79v.2.2.2.2.2.2.2.2.2.1, s79v.2.2.2.2.2.2.2.2.2.2.1, s79v.2.2.2.2.2.2.2.2.2.2.2.1, s79v.2.2.2.2.2.2.2.2.2.2.2.2.1, s79v.2.2.2.2.2.2.2.2.2.2.2.2.2.1, s79v.2.2.2.2.2.2.2.2.2.2.2.2.2.2, 0, s142v.2.1, s142v.2.2.1, s142v.2.2.2.1, s142v.2.2.2.2))))) else none)))))
theorem wal_Open.calls (W : World) (F : HA) (k : Nat) (b0 : Nat) (m0_0 : Nat) (q0_0 : Kps) (x0_0 : List ((List UInt8) × (List UInt8 × Int))) (x0_1 : List UInt8) (x0_2 : Int) (x0_3 : Bool) (x1 : Int) (hgl : Glb Tryz.prog F) :
    Fn Tryz.prog W 15 [.pointer (some ⟨b0, 0, none⟩), .int .i64 x1] [obj b0 97 [.map (some m0_0), str x0_1, .int .i64 x0_2, .bool x0_3], mapF (mapO m0_0 enc9 encP q0_0) FA109 q0_0 x0_0] F (wal_Open.f k x0_0 x0_1 x0_2 x0_3 x1) (fun (r : Bool × Int × List Int × Int × Int × Int × Int × Int × Int × (List (Ty144)) × Bool × Bool × Int × (List ((List UInt8) × (List UInt8 × Int))) × List UInt8 × Int × Bool) (y : Nat × Option Addr × Nat × Option Addr × Nat × HA × Nat × Kps) => .tuple #[.pointer (optA r.1 y.1), .bool r.2.2.2.2.2.2.2.2.2.2.2.1, .int .i64 r.2.2.2.2.2.2.2.2.2.2.2.2.1]) (fun r y => [whenA r.1 [obj y.1 91 [.pointer (some ⟨b0, 0, none⟩), .int .i64 r.2.1, .slice y.2.1 r.2.2.1.length y.2.2.1, .int .i64 r.2.2.2.1, .int .i64 r.2.2.2.2.1, .int .i64 r.2.2.2.2.2.1, .int .i64 r.2.2.2.2.2.2.1, .int .i64 r.2.2.2.2.2.2.2.1, .int .i64 r.2.2.2.2.2.2.2.2.1, .slice y.2.2.2.1 r.2.2.2.2.2.2.2.2.2.1.length y.2.2.2.2.1, .bool r.2.2.2.2.2.2.2.2.2.2.1], RowV 3 1 (V3 tt) y.2.1 r.2.2.1 y.2.2.1, RowV 144 5 (V144 (y.2.2.2.2.2.1)) y.2.2.2.1 r.2.2.2.2.2.2.2.2.2.1 y.2.2.2.2.1, y.2.2.2.2.2.1], obj b0 97 [.map (some y.2.2.2.2.2.2.1), str r.2.2.2.2.2.2.2.2.2.2.2.2.2.2.1, .int .i64 r.2.2.2.2.2.2.2.2.2.2.2.2.2.2.2.1, .bool r.2.2.2.2.2.2.2.2.2.2.2.2.2.2.2.2], mapF (mapO y.2.2.2.2.2.2.1 enc9 encP y.2.2.2.2.2.2.2) FA109 y.2.2.2.2.2.2.2 r.2.2.2.2.2.2.2.2.2.2.2.2.2.1]) := by
 unfold wal_Open.f
 refine fn_introD 116 Tryz.func15 rfl Tryz.ntmps15 rfl ?_
 refine sr ?_
 refine simL_eff (re_alloc rfl Tryz.zeroValue36 rfl) rfl rfl rfl ?_
 intro b1v
 refine simL_eff (re_alloc rfl Tryz.zeroValue4 rfl) rfl rfl rfl ?_
 intro b2v
 refine simL_eff (re_alloc rfl Tryz.zeroValue23 rfl) rfl rfl rfl ?_
 intro b3v
 refine simL_nil (nrm_then (sim_seq (sr ?_)))
 refine vm rfl rfl ?_
 refine vq (q_lss rfl rfl rfl) rfl ?_
 refine vm rfl rfl ?_
 refine simL_valc (b := decide (x1 < (64 : Int))) (fun hb151v => RQ.sub (E' := [(1, .int .i64 x1)]) ⟨rfl, trivial⟩ (q_move rfl rfl)) rfl rfl rfl rfl rfl ?_
 refine simL_valc (b := decide (x1 < (64 : Int))) (fun hb150v => RQ.sub (E' := [(18, .int .i64 x1)]) ⟨lk_cv rfl hb150v, trivial⟩ (q_gtr rfl rfl rfl)) rfl rfl rfl rfl rfl ?_
 refine vq (q_or rfl rfl rfl) rfl (simL_nil (nrm_then ?_))
 refine sim_condb rfl (fun h4v => ?_) (fun h5v => ?_)
 refine sr ?_
 refine simL_do (re_store 2 rfl rfl rfl Tryz.sizeOf36 rfl rfl (one_of (by rfl)) rfl rfl) rfl rfl ?_
 intro _
 refine simL_do (re_store 1 rfl rfl rfl Tryz.sizeOf4 rfl rfl (one_of (by rfl)) rfl rfl) rfl rfl ?_
 intro _
 refine simL_do (re_store 0 rfl rfl rfl Tryz.sizeOf23 rfl rfl (one_of (by rfl)) rfl rfl) rfl rfl ?_
 intro _
 refine simL_nil (nrm_then (sim_rtn ?_))
 refine rtn_then ?_
 exact rtn_fnD0 (vs := [.pointer none, .bool false, .int .i64 15]) (0, none, 0, none, 0, tt, m0_0, q0_0) rfl ⟨⟨b1v, rfl, load_one Tryz.isAgg36 (.obj 2 rfl rfl)⟩, ⟨b2v, rfl, load_one Tryz.isAgg4 (.obj 1 rfl rfl)⟩, ⟨b3v, rfl, load_one Tryz.isAgg23 (.obj 0 rfl rfl)⟩, trivial⟩ rfl (.when_no rfl (.sel 3 rfl (.sel 3 rfl (.sel 3 rfl (.nil _)))))
 refine sim_skip ?_
 refine nrm_then (sr ?_)
 refine vq (q_mkfn rfl rfl rfl) rfl ?_
 refine simL_defer (cap := [.pointer (some ⟨b1v, 0, none⟩), .pointer (some ⟨b2v, 0, none⟩), .pointer (some ⟨b3v, 0, none⟩)]) rfl rfl rfl rfl rfl rfl rfl ?_
 refine nx ?_
 refine vm rfl rfl ?_
 refine vm rfl rfl ?_
 refine vq (q_build (v := .agg #[.pointer (some ⟨b0, 0, none⟩), .int .i64 x1, .slice none 0 0, .int .i64 0, .int .i64 0, .int .i64 0, .int .i64 0, .int .i64 0, .int .i64 0, .slice none 0 0, .bool false]) rfl rfl (fun _ => by kernel_rfl)) rfl ?_
 refine simL_eff (re_box rfl rfl rfl) rfl rfl rfl ?_
 intro b6v
 refine simL_do (re_store 3 rfl rfl rfl Tryz.sizeOf36 rfl rfl (one_of (by rfl)) rfl rfl) rfl rfl ?_
 intro _
 refine simL_nil (nrm_then ?_)
 refine sim_cut (S := List Int) (Option Addr × Nat) (fun s y => [(4, .pointer (some ⟨b1v, 0, none⟩)), (5, .pointer (some ⟨b2v, 0, none⟩)), (6, .pointer (some ⟨b3v, 0, none⟩))]) (fun s y => [obj b0 97 [.map (some m0_0), str x0_1, .int .i64 x0_2, .bool x0_3], obj b6v 91 [.pointer (some ⟨b0, 0, none⟩), .int .i64 x1, .slice y.1 s.length y.2, .int .i64 0, .int .i64 0, .int .i64 0, .int .i64 0, .int .i64 0, .int .i64 0, .slice none 0 0, .bool false], obj b3v 23 [.int .i64 0], obj b2v 4 [.bool false], obj b1v 36 [.pointer (some ⟨b6v, 0, none⟩)], mapF (mapO m0_0 enc9 encP q0_0) FA109 q0_0 x0_0, RowV 3 1 (V3 tt) y.1 s y.2, F]) ?_ ?_
 refine sr ?_
 refine vm rfl rfl ?_
 refine simL_bind (fun s9v hs10v => ?_)
 refine simL_eff (re_call (vs := [.pointer (some ⟨b0, 0, none⟩)]) (cap := []) (A := [obj b0 97 [.map (some m0_0), str x0_1, .int .i64 x0_2, .bool x0_3], mapF (mapO m0_0 enc9 encP q0_0) FA109 q0_0 x0_0]) (rst := [obj b6v 91 [.pointer (some ⟨b0, 0, none⟩), .int .i64 x1, .slice none 0 0, .int .i64 0, .int .i64 0, .int .i64 0, .int .i64 0, .int .i64 0, .int .i64 0, .slice none 0 0, .bool false], obj b3v 23 [.int .i64 0], obj b2v 4 [.bool false], obj b1v 36 [.pointer (some ⟨b6v, 0, none⟩)], F]) rfl rfl rfl rfl rfl rfl Tryz.call29 (.sel 4 rfl (.sel 4 rfl (.sel 0 rfl (.sel 0 rfl (.sel 0 rfl (.sel 0 rfl (.sel 0 rfl (.nil _)))))))) (disk_Disk_List.calls _ _ b0 m0_0 q0_0 x0_0 x0_1 x0_2 x0_3 ) hs10v) rfl rfl rfl ?_
 intro y11v
 refine vq (q_len rfl rfl rfl Tryz.underlying60) rfl ?_
 refine vm rfl rfl (simL_nil (nrm_then ?_))
 refine sim_block ?_
 refine sim_loop (S := Int × List Int) (Option Addr × Nat) (fun k s => wal_Open.l0 s9v k s.1 s.2) (fun s y => [(4, .pointer (some ⟨b1v, 0, none⟩)), (5, .pointer (some ⟨b2v, 0, none⟩)), (6, .pointer (some ⟨b3v, 0, none⟩)), (27, .slice y11v.1 s9v.length y11v.2), (28, .int .i64 (s9v.length : Int)), (29, .int .i64 s.1)]) (fun s y => [obj b0 97 [.map (some m0_0), str x0_1, .int .i64 x0_2, .bool x0_3], obj b6v 91 [.pointer (some ⟨b0, 0, none⟩), .int .i64 x1, .slice y.1 s.2.length y.2, .int .i64 0, .int .i64 0, .int .i64 0, .int .i64 0, .int .i64 0, .int .i64 0, .slice none 0 0, .bool false], obj b3v 23 [.int .i64 0], obj b2v 4 [.bool false], obj b1v 36 [.pointer (some ⟨b6v, 0, none⟩)], RowV 9 1 (V9 tt) y11v.1 s9v y11v.2, mapF (mapO m0_0 enc9 encP q0_0) FA109 q0_0 x0_0, RowV 3 1 (V3 tt) y.1 s.2 y.2, F]) (fun _ => by rw [wal_Open.l0]) ?_ k (0, ([] : List Int)) (none, 0) ⟨rfl, rfl, rfl, rfl, rfl, rfl, trivial⟩ (.sel 1 rfl (.sel 2 rfl (.sel 2 rfl (.sel 2 rfl (.sel 2 rfl (.sel 0 rfl (.sel 0 rfl (.rowV_nil (.sel 0 rfl (.nil _))))))))))
 intro k s12v y13v
 refine sim_eq (by rw [wal_Open.l0]) ?_
 refine sr ?_
 refine vq (q_lss rfl rfl rfl) rfl (simL_nil (nrm_then (sim_seq ?_)))
 refine sim_cond rfl (fun h16v => ?_) (fun h17v => ?_)
 refine sim_skip ?_
 refine nrm_then (sim_seq ?_)
 refine sim_block ?_
 refine sr ?_
 refine simL_openV 5 rfl (fun rs26v hl27v => ?_)
 refine simL_ask (fun hi18v => ?_)
 refine simL_posV 5 rfl hl27v rfl (i := s12v.1.toNat) (by omega) ([] : List UInt8) (fun b19v b19vo r22v ha20v hV23v hlr24v hcell25v => ?_)
 obtain rfl := hV23v
 refine vq (q_idx rfl rfl rfl ha20v Tryz.underlying60 Tryz.sizeOf9 hi18v.1 hi18v.2) rfl ?_
 refine vq (q_load rfl rfl Tryz.isAgg9 (hcell25v 5 rfl 0 _ rfl)) rfl ?_
 refine va rfl rfl (nx ?_)
 refine vm rfl rfl ?_
 refine simL_bind (fun s28v hs29v => ?_)
 refine simL_eff (re_call (vs := [str (s9v.getD s12v.1.toNat ([] : List UInt8))]) (cap := []) (A := []) (rst := [obj b0 97 [.map (some m0_0), str x0_1, .int .i64 x0_2, .bool x0_3], obj b6v 91 [.pointer (some ⟨b0, 0, none⟩), .int .i64 x1, .slice y13v.1 s12v.2.length y13v.2, .int .i64 0, .int .i64 0, .int .i64 0, .int .i64 0, .int .i64 0, .int .i64 0, .slice none 0 0, .bool false], obj b3v 23 [.int .i64 0], obj b2v 4 [.bool false], obj b1v 36 [.pointer (some ⟨b6v, 0, none⟩)], Row 9 1 y11v.1 s9v.length y11v.2 rs26v.flatten, mapF (mapO m0_0 enc9 encP q0_0) FA109 q0_0 x0_0, RowV 3 1 (V3 tt) y13v.1 s12v.2 y13v.2, F]) rfl rfl rfl rfl rfl rfl Tryz.call11 (.sel 0 rfl (.sel 0 rfl (.sel 0 rfl (.sel 0 rfl (.sel 0 rfl (.sel 0 rfl (.sel 0 rfl (.sel 0 rfl (.sel 0 rfl (.nil _)))))))))) (wal_Number.calls _ _ k (s9v.getD s12v.1.toNat ([] : List UInt8)) ) hs29v) rfl rfl rfl ?_
 intro y30v
 refine vm rfl rfl ?_
 refine vq (q_ext rfl rfl rfl) rfl ?_
 refine vq (q_ext rfl rfl rfl) rfl ?_
 refine va rfl rfl ?_
 refine va rfl rfl (nx ?_)
 refine vm rfl rfl (simL_nil (nrm_then ?_))
 refine sim_condb rfl (fun h31v => ?_) (fun h32v => ?_)
 refine sim_openV 7 rfl (fun rs33v hl34v => ?_)
 have hlb36v : ListV 1 (V3 tt) ([s28v.1] : List Int) [[.int .i64 s28v.1]] := ⟨⟨rfl, one_of (by rfl), rfl⟩, trivial⟩
 refine sim_ask (fun hb40v => ?_)
 refine sim_draw (Γ := Nat × (Option Addr × Nat)) (0, (none, 0)) [[], [], [1], [1, 2], [1, 2, 3], [], [5], [1, 2, 3, 4, 5, 6], rL 8, rL 9, rL 10] [6, 7, 10] [0, 1, 2, 3, 4, 5, 8, 9] (fun i => [[0, 1, 2], [0, 1], [0, 1], [0, 1], [0, 1], [0], [], [], [2], [2], []].getD i []) (fun i => [[], [], [], [], [], [], rL 6, rL 7, [], [], rL 10].getD i []) (fun γ i => [.pointer (some ⟨b6v, 0, none⟩), .pointer (some ⟨b6v, 0, none⟩), .pointer (some ⟨b6v, 0, none⟩), .pointer (some ⟨b6v, 2, none⟩), .slice y13v.1 s12v.2.length y13v.2, .int .i64 s28v.1, .slice (some ⟨γ.1, 0, none⟩) (([s28v.1] : List Int).length) 1, .slice γ.2.1 ((s12v.2 ++ ([s28v.1] : List Int)).length) γ.2.2, .pointer (some ⟨b6v, 0, none⟩), .pointer (some ⟨b6v, 2, none⟩), undef].getD i undef) (fun j γ => [[obj b0 97 [.map (some m0_0), str x0_1, .int .i64 x0_2, .bool x0_3], obj b6v 91 [.pointer (some ⟨b0, 0, none⟩), .int .i64 x1, .slice y13v.1 s12v.2.length y13v.2, .int .i64 0, .int .i64 0, .int .i64 0, .int .i64 0, .int .i64 0, .int .i64 0, .slice none 0 0, .bool false], obj b3v 23 [.int .i64 0], obj b2v 4 [.bool false], obj b1v 36 [.pointer (some ⟨b6v, 0, none⟩)], Row 9 1 y11v.1 s9v.length y11v.2 rs26v.flatten, mapF (mapO m0_0 enc9 encP q0_0) FA109 q0_0 x0_0, Row 3 1 y13v.1 s12v.2.length y13v.2 rs33v.flatten, F], [Row 3 1 (some ⟨γ.1, 0, none⟩) ([s28v.1] : List Int).length 1 [[.int .i64 s28v.1]].flatten, obj b0 97 [.map (some m0_0), str x0_1, .int .i64 x0_2, .bool x0_3], obj b6v 91 [.pointer (some ⟨b0, 0, none⟩), .int .i64 x1, .slice y13v.1 s12v.2.length y13v.2, .int .i64 0, .int .i64 0, .int .i64 0, .int .i64 0, .int .i64 0, .int .i64 0, .slice none 0 0, .bool false], obj b3v 23 [.int .i64 0], obj b2v 4 [.bool false], obj b1v 36 [.pointer (some ⟨b6v, 0, none⟩)], Row 9 1 y11v.1 s9v.length y11v.2 rs26v.flatten, mapF (mapO m0_0 enc9 encP q0_0) FA109 q0_0 x0_0, Row 3 1 y13v.1 s12v.2.length y13v.2 rs33v.flatten, F], [Row 3 1 (some ⟨γ.1, 0, none⟩) ([s28v.1] : List Int).length 1 [[.int .i64 s28v.1]].flatten, obj b0 97 [.map (some m0_0), str x0_1, .int .i64 x0_2, .bool x0_3], obj b6v 91 [.pointer (some ⟨b0, 0, none⟩), .int .i64 x1, .slice y13v.1 s12v.2.length y13v.2, .int .i64 0, .int .i64 0, .int .i64 0, .int .i64 0, .int .i64 0, .int .i64 0, .slice none 0 0, .bool false], obj b3v 23 [.int .i64 0], obj b2v 4 [.bool false], obj b1v 36 [.pointer (some ⟨b6v, 0, none⟩)], Row 9 1 y11v.1 s9v.length y11v.2 rs26v.flatten, mapF (mapO m0_0 enc9 encP q0_0) FA109 q0_0 x0_0, RowV 3 1 (V3 tt) γ.2.1 (s12v.2 ++ ([s28v.1] : List Int)) γ.2.2, F], [Row 3 1 (some ⟨γ.1, 0, none⟩) ([s28v.1] : List Int).length 1 [[.int .i64 s28v.1]].flatten, obj b0 97 [.map (some m0_0), str x0_1, .int .i64 x0_2, .bool x0_3], obj b6v 91 [.pointer (some ⟨b0, 0, none⟩), .int .i64 x1, .slice γ.2.1 ((s12v.2 ++ ([s28v.1] : List Int)).length) γ.2.2, .int .i64 0, .int .i64 0, .int .i64 0, .int .i64 0, .int .i64 0, .int .i64 0, .slice none 0 0, .bool false], obj b3v 23 [.int .i64 0], obj b2v 4 [.bool false], obj b1v 36 [.pointer (some ⟨b6v, 0, none⟩)], Row 9 1 y11v.1 s9v.length y11v.2 rs26v.flatten, mapF (mapO m0_0 enc9 encP q0_0) FA109 q0_0 x0_0, RowV 3 1 (V3 tt) γ.2.1 (s12v.2 ++ ([s28v.1] : List Int)) γ.2.2, F]].getD j []) (fun γ => [(4, .pointer (some ⟨b1v, 0, none⟩)), (5, .pointer (some ⟨b2v, 0, none⟩)), (6, .pointer (some ⟨b3v, 0, none⟩)), (27, .slice y11v.1 s9v.length y11v.2), (28, .int .i64 (s9v.length : Int)), (29, .int .i64 s12v.1)]) mixed (by decide) (by decide) (by decide) (by decide) (by decide) (by decide) (by decide) 116 rfl (by decide) (by decide) (by decide) (Ent.refl _) ?_ ?_ (fun _ => ⟨rfl, rfl, rfl, rfl, rfl, rfl, trivial⟩) ?_
 exact (ac (fun γ => (ac (qp rfl rfl (.o (s := 4) rfl (by decide) .nil) (q_load rfl rfl Tryz.isAgg36 (.obj 4 rfl rfl)) rfl) (ac (qp rfl rfl (.o (s := 4) rfl (by decide) .nil) (q_load rfl rfl Tryz.isAgg36 (.obj 5 rfl rfl)) rfl) (ac (qp rfl rfl (.o (s := 4) rfl (by decide) .nil) (q_load rfl rfl Tryz.isAgg36 (.obj 5 rfl rfl)) rfl) zA)))) (ac (fun γ => (ac (qp rfl rfl (.o (s := 4) rfl (by decide) .nil) (q_load rfl rfl Tryz.isAgg36 (.obj 4 rfl rfl)) rfl) (ac (qp rfl rfl (.o (s := 4) rfl (by decide) .nil) (q_load rfl rfl Tryz.isAgg36 (.obj 5 rfl rfl)) rfl) zA))) (ac (fun γ => (ac (qp rfl rfl (.v 1 rfl rfl .nil) (q_nil rfl rfl) rfl) (ac (qp rfl rfl (.v 1 rfl rfl .nil) (q_nil rfl rfl) rfl) zA))) (ac (fun γ => (ac (qp rfl rfl (.v 2 rfl rfl .nil) (q_fa rfl rfl Tryz.underlying91 rfl rfl Tryz.sizeOf78 rfl) rfl) (ac (qp rfl rfl (.v 2 rfl rfl .nil) (q_fa rfl rfl Tryz.underlying91 rfl rfl Tryz.sizeOf78 rfl) rfl) zA))) (ac (fun γ => (ac (qp rfl rfl (.v 3 rfl rfl .nil) (q_load rfl rfl Tryz.isAgg78 (.obj 1 rfl rfl)) rfl) (ac (qp rfl rfl (.v 3 rfl rfl .nil) (q_load rfl rfl Tryz.isAgg78 (.obj 2 rfl rfl)) rfl) zA))) (aq rfl (fun γ => qm rfl (.o (s := 9) rfl (by decide) .nil) rfl) (aq rfl (fun γ => qp rfl rfl (.v 0 rfl rfl .nil) (q_nil rfl rfl) rfl) (aq rfl (fun γ => qp rfl rfl (.v 8 rfl rfl .nil) (q_fa rfl rfl Tryz.underlying91 rfl rfl Tryz.sizeOf78 rfl) rfl) zA))))))))
 exact (ac (fun γ => eo (Z := Nat) (fun z => (z, γ.2)) rfl rfl (.v 5 rfl rfl .nil) (re_litV (V := (V3 tt)) (xs := ([s28v.1] : List Int)) [[.int .i64 s28v.1]] rfl rfl Tryz.underlying78 elt3 rfl (by kernel_rfl) rfl hlb36v rfl rfl) (fun _ => ⟨rfl, rfl, rfl, rfl, rfl, rfl, trivial⟩) (fun _ => .inr rfl) (fun z => Ent.refl _)) (ac (fun γ => eo (Z := Option Addr × Nat) (fun z => (γ.1, z)) rfl rfl (.v 4 rfl rfl (.v 6 rfl rfl .nil)) (re_appendV 8 rfl rfl rfl Tryz.underlying78 elt3 rfl hl34v (RdsV.row hlb36v 0 rfl) hb40v) (fun _ => ⟨rfl, rfl, rfl, rfl, rfl, rfl, rfl, trivial⟩) (fun _ => .inr rfl) (fun z => Ent.refl _)) (ac (fun γ => eo (Z := Unit) (fun z => (γ.1, γ.2)) rfl rfl (.v 7 rfl rfl (.v 9 rfl rfl .nil)) (re_store 2 rfl rfl rfl Tryz.sizeOf78 rfl rfl (one_of (by rfl)) rfl rfl) (fun _ => ⟨rfl, rfl, rfl, rfl, rfl, rfl, rfl, rfl, rfl, rfl, trivial⟩) (fun _ => .inl rfl) (fun z => Ent.refl _)) zA)))
 intro g41v
 refine nrm_block (nrm_then (sim_region ?_))
 refine vq (q_add rfl rfl rfl) rfl ?_
 refine vm rfl rfl (simL_nil ?_)
 exact nrm_again (s := (IntKind.i64.wrap (s12v.1 + 1), s12v.2 ++ ([s28v.1] : List Int))) (g41v.2.1, g41v.2.2) ⟨rfl, rfl, rfl, rfl, rfl, rfl, trivial⟩ (.sel 1 rfl (.sel 1 rfl (.sel 1 rfl (.sel 1 rfl (.sel 1 rfl (.sel' 1 rfl (RowV.mk hl27v) (.sel 1 rfl (.sel 1 rfl (.sel 1 rfl (.nil _))))))))))
 refine sim_skip ?_
 refine nrm_block (nrm_then (sim_region ?_))
 refine vq (q_add rfl rfl rfl) rfl ?_
 refine vm rfl rfl (simL_nil ?_)
 exact nrm_again (s := (IntKind.i64.wrap (s12v.1 + 1), s12v.2)) (y13v.1, y13v.2) ⟨rfl, rfl, rfl, rfl, rfl, rfl, trivial⟩ (.sel 0 rfl (.sel 0 rfl (.sel 0 rfl (.sel 0 rfl (.sel 0 rfl (.sel' 0 rfl (RowV.mk hl27v) (.sel 0 rfl (.sel 0 rfl (.sel 0 rfl (.nil _))))))))))
 refine sim_exi ?_
 refine exi_then ?_
 refine exi_loop ?_
 refine exi_here ?_
 exact nrm_cut (s := s12v.2) (y13v.1, y13v.2) ⟨rfl, rfl, rfl, trivial⟩ (.sel 0 rfl (.sel 0 rfl (.sel 0 rfl (.sel 0 rfl (.sel 0 rfl (.sel 1 rfl (.sel 1 rfl (.sel 1 rfl (.nil _)))))))))
 intro s7v y8v
 refine sim_seq (sr ?_)
 refine vq (q_load rfl rfl Tryz.isAgg36 (.obj 4 rfl rfl)) rfl ?_
 refine vn rfl rfl ?_
 refine vq (q_fa rfl rfl Tryz.underlying91 rfl rfl Tryz.sizeOf78 rfl) rfl ?_
 refine vq (q_load rfl rfl Tryz.isAgg78 (.obj 1 rfl rfl)) rfl ?_
 refine vq (q_len rfl rfl rfl Tryz.underlying78) rfl ?_
 refine vq (q_eql rfl rfl rfl) rfl (simL_nil (nrm_then ?_))
 refine sim_cond rfl (fun h42v => ?_) (fun h43v => ?_)
 refine sr ?_
 refine vq (q_load rfl rfl Tryz.isAgg36 (.obj 4 rfl rfl)) rfl ?_
 refine simL_openV 6 rfl (fun rs44v hl45v => ?_)
 refine simL_bind (fun s46v hs47v => ?_)
 refine simL_eff (re_call (vs := [.pointer (some ⟨b6v, 0, none⟩), .int .i64 1]) (cap := []) (A := [obj b0 97 [.map (some m0_0), str x0_1, .int .i64 x0_2, .bool x0_3], mapF (mapO m0_0 enc9 encP q0_0) FA109 q0_0 x0_0, obj b6v 91 [.pointer (some ⟨b0, 0, none⟩), .int .i64 x1, .slice y8v.1 s7v.length y8v.2, .int .i64 0, .int .i64 0, .int .i64 0, .int .i64 0, .int .i64 0, .int .i64 0, .slice none 0 0, .bool false], RowV 3 1 (V3 tt) y8v.1 s7v y8v.2, RowV 144 5 (V144 (tt)) none ([] : List (Ty144)) 0, tt]) (rst := [obj b3v 23 [.int .i64 0], obj b2v 4 [.bool false], obj b1v 36 [.pointer (some ⟨b6v, 0, none⟩)], F]) rfl rfl rfl rfl rfl rfl Tryz.call42 (.sel 0 rfl (.sel 4 rfl (.sel 0 rfl (.sel' 3 rfl (RowV.mk hl45v) (.rowV_nil (.tt_in (.sel 0 rfl (.sel 0 rfl (.sel 0 rfl (.sel 0 rfl (.nil _))))))))))) (wal_Wal_begin_s.calls _ _ k b6v b0 m0_0 q0_0 x0_0 x0_1 x0_2 x0_3 x1 y8v.1 y8v.2 s7v (0 : Int) (0 : Int) (0 : Int) (0 : Int) (0 : Int) (0 : Int) none 0 ([] : List (Ty144)) tt false (1 : Int) (hgl.lend 3 rfl)) hs47v) rfl rfl rfl ?_
 intro y48v
 refine nx ?_
 refine vq (q_load rfl rfl Tryz.isAgg36 (.obj 8 rfl rfl)) rfl ?_
 refine simL_do (re_store 8 rfl rfl rfl Tryz.sizeOf36 rfl rfl (one_of (by rfl)) rfl rfl) rfl rfl ?_
 intro _
 refine simL_do (re_store 7 rfl rfl rfl Tryz.sizeOf4 rfl rfl (one_of (by rfl)) rfl rfl) rfl rfl ?_
 intro _
 refine simL_do (re_store 6 rfl rfl rfl Tryz.sizeOf23 rfl rfl (one_of (by rfl)) rfl rfl) rfl rfl ?_
 intro _
 refine simL_nil (nrm_then (sim_rtn ?_))
 refine rtn_then ?_
 exact rtn_fnD1 (vs := [.pointer (some ⟨b6v, 0, none⟩), .bool false, .int .i64 0]) 40 [.pointer (some ⟨b1v, 0, none⟩), .pointer (some ⟨b2v, 0, none⟩), .pointer (some ⟨b3v, 0, none⟩)] (wal_Open_1.quiet b1v b2v b3v) Tryz.call40 (b6v, y48v.2.2.1, y48v.2.2.2.1, y48v.2.2.2.2.1, y48v.2.2.2.2.2.1, y48v.2.2.2.2.2.2, y48v.1, y48v.2.1) rfl ⟨⟨b1v, rfl, load_one Tryz.isAgg36 (.obj 8 rfl rfl)⟩, ⟨b2v, rfl, load_one Tryz.isAgg4 (.obj 7 rfl rfl)⟩, ⟨b3v, rfl, load_one Tryz.isAgg23 (.obj 6 rfl rfl)⟩, trivial⟩ rfl (.when_yes rfl (.sel 2 rfl (.sel 2 rfl (.sel 2 rfl (.sel 2 rfl (.sel 0 rfl (.sel 0 rfl (.sel 3 rfl (.nil _)))))))))
 refine sim_skip ?_
 refine nrm_then ?_
 refine sim_cut (S := Unit) (Unit) (fun s y => [(4, .pointer (some ⟨b1v, 0, none⟩)), (5, .pointer (some ⟨b2v, 0, none⟩)), (6, .pointer (some ⟨b3v, 0, none⟩))]) (fun s y => [obj b0 97 [.map (some m0_0), str x0_1, .int .i64 x0_2, .bool x0_3], obj b6v 91 [.pointer (some ⟨b0, 0, none⟩), .int .i64 x1, .slice y8v.1 s7v.length y8v.2, .int .i64 0, .int .i64 0, .int .i64 0, .int .i64 0, .int .i64 0, .int .i64 0, .slice none 0 0, .bool false], obj b3v 23 [.int .i64 0], obj b2v 4 [.bool false], obj b1v 36 [.pointer (some ⟨b6v, 0, none⟩)], mapF (mapO m0_0 enc9 encP q0_0) FA109 q0_0 x0_0, RowV 3 1 (V3 tt) y8v.1 s7v y8v.2, F]) ?_ ?_
 refine sr ?_
 refine vq (q_load rfl rfl Tryz.isAgg36 (.obj 4 rfl rfl)) rfl ?_
 refine vn rfl rfl ?_
 refine vq (q_fa rfl rfl Tryz.underlying91 rfl rfl Tryz.sizeOf78 rfl) rfl ?_
 refine vq (q_load rfl rfl Tryz.isAgg78 (.obj 1 rfl rfl)) rfl ?_
 refine vq (q_len rfl rfl rfl Tryz.underlying78) rfl ?_
 refine vm rfl rfl (simL_nil (nrm_then ?_))
 refine sim_block ?_
 refine sim_loop (S := Int) (Unit) (fun k s => wal_Open.l1 s7v k s) (fun s y => [(4, .pointer (some ⟨b1v, 0, none⟩)), (5, .pointer (some ⟨b2v, 0, none⟩)), (6, .pointer (some ⟨b3v, 0, none⟩)), (62, .slice y8v.1 s7v.length y8v.2), (63, .int .i64 (s7v.length : Int)), (64, .int .i64 s)]) (fun s y => [obj b0 97 [.map (some m0_0), str x0_1, .int .i64 x0_2, .bool x0_3], obj b6v 91 [.pointer (some ⟨b0, 0, none⟩), .int .i64 x1, .slice y8v.1 s7v.length y8v.2, .int .i64 0, .int .i64 0, .int .i64 0, .int .i64 0, .int .i64 0, .int .i64 0, .slice none 0 0, .bool false], obj b3v 23 [.int .i64 0], obj b2v 4 [.bool false], obj b1v 36 [.pointer (some ⟨b6v, 0, none⟩)], RowV 3 1 (V3 tt) y8v.1 s7v y8v.2, mapF (mapO m0_0 enc9 encP q0_0) FA109 q0_0 x0_0, F]) (fun _ => by rw [wal_Open.l1]) ?_ k 0 () ⟨rfl, rfl, rfl, rfl, rfl, rfl, trivial⟩ (.sel 0 rfl (.sel 0 rfl (.sel 0 rfl (.sel 0 rfl (.sel 0 rfl (.sel 1 rfl (.sel 0 rfl (.sel 0 rfl (.nil _)))))))))
 intro k s51v y52v
 refine sim_eq (by rw [wal_Open.l1]) ?_
 refine sr ?_
 refine vq (q_lss rfl rfl rfl) rfl (simL_nil (nrm_then (sim_seq ?_)))
 refine sim_cond rfl (fun h54v => ?_) (fun h55v => ?_)
 refine sim_skip ?_
 refine nrm_then (sim_seq ?_)
 refine sim_block ?_
 refine sr ?_
 refine vm rfl rfl ?_
 refine simL_openV 5 rfl (fun rs64v hl65v => ?_)
 refine simL_ask (fun hi56v => ?_)
 refine simL_posV 5 rfl hl65v rfl (i := s51v.toNat) (by omega) (0 : Int) (fun b57v b57vo r60v ha58v hV61v hlr62v hcell63v => ?_)
 obtain rfl := hV61v
 refine vq (q_idx rfl rfl rfl ha58v Tryz.underlying78 Tryz.sizeOf3 hi56v.1 hi56v.2) rfl ?_
 refine vq (q_load rfl rfl Tryz.isAgg3 (hcell63v 5 rfl 0 _ rfl)) rfl ?_
 refine va rfl rfl ?_
 refine va rfl rfl (nx ?_)
 refine vm rfl rfl ?_
 refine vq (q_load rfl rfl Tryz.isAgg36 (.obj 4 rfl rfl)) rfl ?_
 refine vn rfl rfl ?_
 refine vq (q_fa rfl rfl Tryz.underlying91 rfl rfl Tryz.sizeOf78 rfl) rfl ?_
 refine vq (q_load rfl rfl Tryz.isAgg78 (.obj 1 rfl rfl)) rfl ?_
 refine simL_ask (fun hi66v => ?_)
 refine simL_posV 5 rfl hl65v rfl (i := (0 : Int).toNat) (by omega) (0 : Int) (fun b67v b67vo r70v ha68v hV71v hlr72v hcell73v => ?_)
 obtain rfl := hV71v
 refine vq (q_idx rfl rfl rfl ha68v Tryz.underlying78 Tryz.sizeOf3 hi66v.1 hi66v.2) rfl ?_
 refine vq (q_load rfl rfl Tryz.isAgg3 (hcell73v 5 rfl 0 _ rfl)) rfl ?_
 refine vm rfl rfl ?_
 refine vq (q_add rfl rfl rfl) rfl ?_
 refine vq (q_neq rfl rfl rfl) rfl (simL_nil (nrm_then ?_))
 refine sim_condn rfl (fun h74v => ?_) (fun h75v => ?_)
 refine sim_skip ?_
 refine nrm_block (nrm_then (sim_region ?_))
 refine vq (q_add rfl rfl rfl) rfl ?_
 refine vm rfl rfl (simL_nil ?_)
 exact nrm_again (s := IntKind.i64.wrap (s51v + 1)) () ⟨rfl, rfl, rfl, rfl, rfl, rfl, trivial⟩ (.sel 0 rfl (.sel 0 rfl (.sel 0 rfl (.sel 0 rfl (.sel 0 rfl (.sel' 0 rfl (RowV.mk hl65v) (.sel 0 rfl (.sel 0 rfl (.nil _)))))))))
 refine sim_region ?_
 refine simL_bind (fun s76v hs77v => ?_)
 refine simL_eff (re_call (vs := [.int .i64 12]) (cap := []) (A := []) (rst := [obj b0 97 [.map (some m0_0), str x0_1, .int .i64 x0_2, .bool x0_3], obj b6v 91 [.pointer (some ⟨b0, 0, none⟩), .int .i64 x1, .slice y8v.1 s7v.length y8v.2, .int .i64 0, .int .i64 0, .int .i64 0, .int .i64 0, .int .i64 0, .int .i64 0, .slice none 0 0, .bool false], obj b3v 23 [.int .i64 0], obj b2v 4 [.bool false], obj b1v 36 [.pointer (some ⟨b6v, 0, none⟩)], Row 3 1 y8v.1 s7v.length y8v.2 rs64v.flatten, mapF (mapO m0_0 enc9 encP q0_0) FA109 q0_0 x0_0, F]) rfl rfl rfl rfl rfl rfl Tryz.call43 (.sel 0 rfl (.sel 0 rfl (.sel 0 rfl (.sel 0 rfl (.sel 0 rfl (.sel 0 rfl (.sel 0 rfl (.sel 0 rfl (.nil _))))))))) (wal_must.calls _ _ (12 : Int) ) hs77v) rfl rfl rfl ?_
 intro y78v
 refine simL_nil (nrm_block (nrm_then (sim_region ?_)))
 refine vq (q_add rfl rfl rfl) rfl ?_
 refine vm rfl rfl (simL_nil ?_)
 exact nrm_again (s := IntKind.i64.wrap (s51v + 1)) () ⟨rfl, rfl, rfl, rfl, rfl, rfl, trivial⟩ (.sel 0 rfl (.sel 0 rfl (.sel 0 rfl (.sel 0 rfl (.sel 0 rfl (.sel' 0 rfl (RowV.mk hl65v) (.sel 0 rfl (.sel 0 rfl (.nil _)))))))))
 refine sim_exi ?_
 refine exi_then ?_
 refine exi_loop ?_
 refine exi_here ?_
 exact nrm_cut (s := ()) () ⟨rfl, rfl, rfl, trivial⟩ (.sel 0 rfl (.sel 0 rfl (.sel 0 rfl (.sel 0 rfl (.sel 0 rfl (.sel 1 rfl (.sel 0 rfl (.sel 0 rfl (.nil _)))))))))
 intro s49v y50v
 refine sim_cut (S := (List ((List UInt8) × (List UInt8 × Int))) × List UInt8 × Int × Bool × Int × List Int × Int × Int × Int × Int × Int × Int × (List (Ty144)) × Bool × Bool) (Nat × Kps × Option Addr × Nat × HA × Option Addr × Nat) (fun s y => [(4, .pointer (some ⟨b1v, 0, none⟩)), (5, .pointer (some ⟨b2v, 0, none⟩)), (6, .pointer (some ⟨b3v, 0, none⟩))]) (fun s y => [obj b0 97 [.map (some y.1), str s.2.1, .int .i64 s.2.2.1, .bool s.2.2.2.1], obj b6v 91 [.pointer (some ⟨b0, 0, none⟩), .int .i64 s.2.2.2.2.1, .slice y.2.2.1 s.2.2.2.2.2.1.length y.2.2.2.1, .int .i64 s.2.2.2.2.2.2.1, .int .i64 s.2.2.2.2.2.2.2.1, .int .i64 s.2.2.2.2.2.2.2.2.1, .int .i64 s.2.2.2.2.2.2.2.2.2.1, .int .i64 s.2.2.2.2.2.2.2.2.2.2.1, .int .i64 s.2.2.2.2.2.2.2.2.2.2.2.1, .slice y.2.2.2.2.2.1 s.2.2.2.2.2.2.2.2.2.2.2.2.1.length y.2.2.2.2.2.2, .bool s.2.2.2.2.2.2.2.2.2.2.2.2.2.1], obj b3v 23 [.int .i64 0], obj b2v 4 [.bool s.2.2.2.2.2.2.2.2.2.2.2.2.2.2], obj b1v 36 [.pointer (some ⟨b6v, 0, none⟩)], mapF (mapO y.1 enc9 encP y.2.1) FA109 y.2.1 s.1, RowV 3 1 (V3 tt) y.2.2.1 s.2.2.2.2.2.1 y.2.2.2.1, RowV 144 5 (V144 (y.2.2.2.2.1)) y.2.2.2.2.2.1 s.2.2.2.2.2.2.2.2.2.2.2.2.1 y.2.2.2.2.2.2, y.2.2.2.2.1, F]) ?_ ?_
 refine sr ?_
 refine vq (q_load rfl rfl Tryz.isAgg36 (.obj 4 rfl rfl)) rfl ?_
 refine vn rfl rfl ?_
 refine vq (q_fa rfl rfl Tryz.underlying91 rfl rfl Tryz.sizeOf78 rfl) rfl ?_
 refine vq (q_load rfl rfl Tryz.isAgg78 (.obj 1 rfl rfl)) rfl ?_
 refine simL_openV 6 rfl (fun rs81v hl82v => ?_)
 refine simL_bind (fun s87v hs88v => ?_)
 refine simL_lend 6 rfl (fun hq83v hq84v hq85v hq86v => ?_)
 refine simL_eff (re_call (vs := [.slice y8v.1 s7v.length y8v.2]) (cap := []) (A := []) (rst := [obj b0 97 [.map (some m0_0), str x0_1, .int .i64 x0_2, .bool x0_3], obj b6v 91 [.pointer (some ⟨b0, 0, none⟩), .int .i64 x1, .slice y8v.1 s7v.length y8v.2, .int .i64 0, .int .i64 0, .int .i64 0, .int .i64 0, .int .i64 0, .int .i64 0, .slice none 0 0, .bool false], obj b3v 23 [.int .i64 0], obj b2v 4 [.bool false], obj b1v 36 [.pointer (some ⟨b6v, 0, none⟩)], mapF (mapO m0_0 enc9 encP q0_0) FA109 q0_0 x0_0, Row 3 1 y8v.1 s7v.length y8v.2 rs81v.flatten, F]) rfl rfl rfl rfl rfl rfl Tryz.call44 (.sel 0 rfl (.sel 0 rfl (.sel 0 rfl (.sel 0 rfl (.sel 0 rfl (.sel 0 rfl (.sel 0 rfl (.sel 0 rfl (.nil _))))))))) (slices_Clone__int_int.calls _ _ y8v.1 y8v.2 s7v ((Rd.asV hl82v hq83v).up (Up.lend 6 rfl) (fun _ _ h => h)) hq84v hq85v) hs88v) rfl rfl rfl ?_
 intro y89v
 refine vq (q_len rfl rfl rfl Tryz.underlying78) rfl ?_
 refine vm rfl rfl (simL_nil (nrm_then ?_))
 refine sim_block ?_
 refine sim_loop (S := Int × (List ((List UInt8) × (List UInt8 × Int))) × List UInt8 × Int × Bool × Int × List Int × Int × Int × Int × Int × Int × Int × (List (Ty144)) × Bool × Bool) (Nat × Kps × Option Addr × Nat × HA × Option Addr × Nat) (fun k s => wal_Open.l2 s87v k s.1 s.2.1 s.2.2.1 s.2.2.2.1 s.2.2.2.2.1 s.2.2.2.2.2.1 s.2.2.2.2.2.2.1 s.2.2.2.2.2.2.2.1 s.2.2.2.2.2.2.2.2.1 s.2.2.2.2.2.2.2.2.2.1 s.2.2.2.2.2.2.2.2.2.2.1 s.2.2.2.2.2.2.2.2.2.2.2.1 s.2.2.2.2.2.2.2.2.2.2.2.2.1 s.2.2.2.2.2.2.2.2.2.2.2.2.2.1 s.2.2.2.2.2.2.2.2.2.2.2.2.2.2.1 s.2.2.2.2.2.2.2.2.2.2.2.2.2.2.2) (fun s y => [(4, .pointer (some ⟨b1v, 0, none⟩)), (5, .pointer (some ⟨b2v, 0, none⟩)), (6, .pointer (some ⟨b3v, 0, none⟩)), (85, .slice y89v.1 s87v.length y89v.2), (86, .int .i64 (s87v.length : Int)), (87, .int .i64 s.1)]) (fun s y => [obj b0 97 [.map (some y.1), str s.2.2.1, .int .i64 s.2.2.2.1, .bool s.2.2.2.2.1], obj b6v 91 [.pointer (some ⟨b0, 0, none⟩), .int .i64 s.2.2.2.2.2.1, .slice y.2.2.1 s.2.2.2.2.2.2.1.length y.2.2.2.1, .int .i64 s.2.2.2.2.2.2.2.1, .int .i64 s.2.2.2.2.2.2.2.2.1, .int .i64 s.2.2.2.2.2.2.2.2.2.1, .int .i64 s.2.2.2.2.2.2.2.2.2.2.1, .int .i64 s.2.2.2.2.2.2.2.2.2.2.2.1, .int .i64 s.2.2.2.2.2.2.2.2.2.2.2.2.1, .slice y.2.2.2.2.2.1 s.2.2.2.2.2.2.2.2.2.2.2.2.2.1.length y.2.2.2.2.2.2, .bool s.2.2.2.2.2.2.2.2.2.2.2.2.2.2.1], obj b3v 23 [.int .i64 0], obj b2v 4 [.bool s.2.2.2.2.2.2.2.2.2.2.2.2.2.2.2], obj b1v 36 [.pointer (some ⟨b6v, 0, none⟩)], RowV 3 1 (V3 tt) y89v.1 s87v y89v.2, mapF (mapO y.1 enc9 encP y.2.1) FA109 y.2.1 s.2.1, RowV 3 1 (V3 tt) y.2.2.1 s.2.2.2.2.2.2.1 y.2.2.2.1, RowV 144 5 (V144 (y.2.2.2.2.1)) y.2.2.2.2.2.1 s.2.2.2.2.2.2.2.2.2.2.2.2.2.1 y.2.2.2.2.2.2, y.2.2.2.2.1, F]) (fun _ => by rw [wal_Open.l2]) ?_ k (0, x0_0, x0_1, x0_2, x0_3, x1, s7v, 0, 0, 0, 0, 0, 0, ([] : List (Ty144)), false, false) (m0_0, q0_0, y8v.1, y8v.2, tt, none, 0) ⟨rfl, rfl, rfl, rfl, rfl, rfl, trivial⟩ (.sel 1 rfl (.sel 1 rfl (.sel 1 rfl (.sel 1 rfl (.sel 1 rfl (.sel 0 rfl (.sel 0 rfl (.sel' 0 rfl (RowV.mk hl82v) (.rowV_nil (.tt_in (.sel 0 rfl (.nil _))))))))))))
 intro k s90v y91v
 refine sim_eq (by rw [wal_Open.l2]) ?_
 refine sr ?_
 refine vq (q_lss rfl rfl rfl) rfl (simL_nil (nrm_then (sim_seq ?_)))
 refine sim_cond rfl (fun h108v => ?_) (fun h109v => ?_)
 refine sim_skip ?_
 refine nrm_then (sim_seq ?_)
 refine sim_block ?_
 refine sr ?_
 refine simL_openV 5 rfl (fun rs118v hl119v => ?_)
 refine simL_ask (fun hi110v => ?_)
 refine simL_posV 5 rfl hl119v rfl (i := s90v.1.toNat) (by omega) (0 : Int) (fun b111v b111vo r114v ha112v hV115v hlr116v hcell117v => ?_)
 obtain rfl := hV115v
 refine vq (q_idx rfl rfl rfl ha112v Tryz.underlying78 Tryz.sizeOf3 hi110v.1 hi110v.2) rfl ?_
 refine vq (q_load rfl rfl Tryz.isAgg3 (hcell117v 5 rfl 0 _ rfl)) rfl ?_
 refine va rfl rfl (ny ?_)
 refine vq (q_load rfl rfl Tryz.isAgg36 (.obj 4 rfl rfl)) rfl ?_
 refine vm rfl rfl ?_
 refine simL_openV 7 rfl (fun rs120v hl121v => ?_)
 refine simL_openV 8 rfl (fun rs122v hl123v => ?_)
 refine simL_bind (fun s124v hs125v => ?_)
 refine simL_eff (re_call (vs := [.pointer (some ⟨b6v, 0, none⟩), .int .i64 (s87v.getD s90v.1.toNat (0 : Int))]) (cap := []) (A := [obj b0 97 [.map (some y91v.1), str s90v.2.2.1, .int .i64 s90v.2.2.2.1, .bool s90v.2.2.2.2.1], mapF (mapO y91v.1 enc9 encP y91v.2.1) FA109 y91v.2.1 s90v.2.1, obj b6v 91 [.pointer (some ⟨b0, 0, none⟩), .int .i64 s90v.2.2.2.2.2.1, .slice y91v.2.2.1 s90v.2.2.2.2.2.2.1.length y91v.2.2.2.1, .int .i64 s90v.2.2.2.2.2.2.2.1, .int .i64 s90v.2.2.2.2.2.2.2.2.1, .int .i64 s90v.2.2.2.2.2.2.2.2.2.1, .int .i64 s90v.2.2.2.2.2.2.2.2.2.2.1, .int .i64 s90v.2.2.2.2.2.2.2.2.2.2.2.1, .int .i64 s90v.2.2.2.2.2.2.2.2.2.2.2.2.1, .slice y91v.2.2.2.2.2.1 s90v.2.2.2.2.2.2.2.2.2.2.2.2.2.1.length y91v.2.2.2.2.2.2, .bool s90v.2.2.2.2.2.2.2.2.2.2.2.2.2.2.1], RowV 3 1 (V3 tt) y91v.2.2.1 s90v.2.2.2.2.2.2.1 y91v.2.2.2.1, RowV 144 5 (V144 (y91v.2.2.2.2.1)) y91v.2.2.2.2.2.1 s90v.2.2.2.2.2.2.2.2.2.2.2.2.2.1 y91v.2.2.2.2.2.2, y91v.2.2.2.2.1]) (rst := [obj b3v 23 [.int .i64 0], obj b2v 4 [.bool s90v.2.2.2.2.2.2.2.2.2.2.2.2.2.2.2], obj b1v 36 [.pointer (some ⟨b6v, 0, none⟩)], Row 3 1 y89v.1 s87v.length y89v.2 rs118v.flatten, F]) rfl rfl rfl rfl rfl rfl Tryz.call45 (.sel 0 rfl (.sel 5 rfl (.sel 0 rfl (.sel' 4 rfl (RowV.mk hl121v) (.sel' 4 rfl (RowV.mk hl123v) (.sel 4 rfl (.sel 0 rfl (.sel 0 rfl (.sel 0 rfl (.sel 0 rfl (.sel 0 rfl (.nil _)))))))))))) (wal_Wal_read_s.calls _ _ k b6v b0 y91v.1 y91v.2.1 s90v.2.1 s90v.2.2.1 s90v.2.2.2.1 s90v.2.2.2.2.1 s90v.2.2.2.2.2.1 y91v.2.2.1 y91v.2.2.2.1 s90v.2.2.2.2.2.2.1 s90v.2.2.2.2.2.2.2.1 s90v.2.2.2.2.2.2.2.2.1 s90v.2.2.2.2.2.2.2.2.2.1 s90v.2.2.2.2.2.2.2.2.2.2.1 s90v.2.2.2.2.2.2.2.2.2.2.2.1 s90v.2.2.2.2.2.2.2.2.2.2.2.2.1 y91v.2.2.2.2.2.1 y91v.2.2.2.2.2.2 s90v.2.2.2.2.2.2.2.2.2.2.2.2.2.1 y91v.2.2.2.2.1 s90v.2.2.2.2.2.2.2.2.2.2.2.2.2.2.1 (s87v.getD s90v.1.toNat (0 : Int)) (hgl.lend 4 rfl)) hs125v) rfl rfl rfl ?_
 intro y126v
 refine simL_do (re_store 7 rfl rfl rfl Tryz.sizeOf4 rfl rfl (one_of (by rfl)) rfl rfl) rfl rfl ?_
 intro _
 refine simL_nil (nrm_block (nrm_then (sim_region ?_)))
 refine vq (q_add rfl rfl rfl) rfl ?_
 refine vm rfl rfl (simL_nil ?_)
 exact nrm_again (s := (IntKind.i64.wrap (s90v.1 + 1), s124v.2.1, s124v.2.2.1, s124v.2.2.2.1, s124v.2.2.2.2.1, s124v.2.2.2.2.2.1, s124v.2.2.2.2.2.2.1, s124v.2.2.2.2.2.2.2.1, s124v.2.2.2.2.2.2.2.2.1, s124v.2.2.2.2.2.2.2.2.2.1, s124v.2.2.2.2.2.2.2.2.2.2.1, s124v.2.2.2.2.2.2.2.2.2.2.2.1, s124v.2.2.2.2.2.2.2.2.2.2.2.2.1, s124v.2.2.2.2.2.2.2.2.2.2.2.2.2.1, s124v.2.2.2.2.2.2.2.2.2.2.2.2.2.2, s124v.1)) (y126v.1, y126v.2.1, y126v.2.2.1, y126v.2.2.2.1, y126v.2.2.2.2.2.2, y126v.2.2.2.2.1, y126v.2.2.2.2.2.1) ⟨rfl, rfl, rfl, rfl, rfl, rfl, trivial⟩ (.sel 0 rfl (.sel 1 rfl (.sel 4 rfl (.sel 4 rfl (.sel 4 rfl (.sel' 4 rfl (RowV.mk hl119v) (.sel 0 rfl (.sel 0 rfl (.sel 0 rfl (.sel 0 rfl (.sel 0 rfl (.nil _))))))))))))
 refine sim_exi ?_
 refine exi_then ?_
 refine exi_loop ?_
 refine exi_here ?_
 exact nrm_cut (s := (s90v.2.1, s90v.2.2.1, s90v.2.2.2.1, s90v.2.2.2.2.1, s90v.2.2.2.2.2.1, s90v.2.2.2.2.2.2.1, s90v.2.2.2.2.2.2.2.1, s90v.2.2.2.2.2.2.2.2.1, s90v.2.2.2.2.2.2.2.2.2.1, s90v.2.2.2.2.2.2.2.2.2.2.1, s90v.2.2.2.2.2.2.2.2.2.2.2.1, s90v.2.2.2.2.2.2.2.2.2.2.2.2.1, s90v.2.2.2.2.2.2.2.2.2.2.2.2.2.1, s90v.2.2.2.2.2.2.2.2.2.2.2.2.2.2.1, s90v.2.2.2.2.2.2.2.2.2.2.2.2.2.2.2)) (y91v.1, y91v.2.1, y91v.2.2.1, y91v.2.2.2.1, y91v.2.2.2.2.1, y91v.2.2.2.2.2.1, y91v.2.2.2.2.2.2) ⟨rfl, rfl, rfl, trivial⟩ (.sel 0 rfl (.sel 0 rfl (.sel 0 rfl (.sel 0 rfl (.sel 0 rfl (.sel 1 rfl (.sel 1 rfl (.sel 1 rfl (.sel 1 rfl (.sel 1 rfl (.nil _)))))))))))
 intro s79v y80v
 refine sim_seq ?_
 refine sim_openV 6 rfl (fun rs127v hl128v => ?_)
 refine sim_openV 7 rfl (fun rs129v hl130v => ?_)
 refine sim_ask (fun hi131v => ?_)
 refine sim_posV 6 rfl hl128v rfl (i := (IntKind.i64.wrap ((s79v.2.2.2.2.2.1.length : Int) - 1)).toNat) (by omega) (0 : Int) (fun b132v b132vo r135v ha133v hV136v hlr137v hcell138v => ?_)
 obtain rfl := hV136v
 refine sim_bind (fun s139v hs140v => ?_)
 refine sim_bind (fun s142v hs143v => ?_)
 refine sim_bind (fun s145v hs146v => ?_)
 refine sim_draw (Γ := (Nat × Kps)) (0, ([] : Kps)) [[], [0], [0, 1], [0, 1, 2], [], [4], [4, 5], [4, 5, 6], [], [8], [8, 9], [8, 9, 10], [8, 9, 10, 11], [8, 9, 10, 11, 12], [4, 5, 6, 7, 8, 9, 10, 11, 12, 13], [4, 5, 6, 7, 8, 9, 10, 11, 12, 13, 14], [4, 5, 6, 7, 8, 9, 10, 11, 12, 13, 14, 15], rL 17, rL 18] [16, 17, 18] [0, 1, 2, 3, 4, 5, 6, 7, 8, 9, 10, 11, 12, 13, 14, 15] (fun i => [[0, 1], [0, 1], [0, 1], [0, 1], [0], [0], [0], [0], [0], [0], [0], [0], [0], [0], [0], [0], [], [], []].getD i []) (fun i => [[], [], [], [], [], [], [], [], [], [], [], [], [], [], [], [], rL 16, rL 17, rL 18].getD i []) (fun γ i => [.pointer (some ⟨b6v, 0, none⟩), .pointer (some ⟨b6v, 0, none⟩), .pointer (some ⟨b6v, 0, none⟩), .pointer (some ⟨b0, 0, none⟩), .pointer (some ⟨b6v, 0, none⟩), .pointer (some ⟨b6v, 0, none⟩), .pointer (some ⟨b6v, 2, none⟩), .slice y80v.2.2.1 s79v.2.2.2.2.2.1.length y80v.2.2.2.1, .pointer (some ⟨b6v, 0, none⟩), .pointer (some ⟨b6v, 0, none⟩), .pointer (some ⟨b6v, 2, none⟩), .slice y80v.2.2.1 s79v.2.2.2.2.2.1.length y80v.2.2.2.1, .int .i64 (s79v.2.2.2.2.2.1.length : Int), .int .i64 (IntKind.i64.wrap ((s79v.2.2.2.2.2.1.length : Int) - 1)), .pointer (some ⟨b132v, b132vo + (IntKind.i64.wrap ((s79v.2.2.2.2.2.1.length : Int) - 1)).toNat * 1, none⟩), .int .i64 (s79v.2.2.2.2.2.1.getD (IntKind.i64.wrap ((s79v.2.2.2.2.2.1.length : Int) - 1)).toNat (0 : Int)), str s139v, .int .i64 s142v.1, .tuple #[]].getD i undef) (fun j γ => [[obj b0 97 [.map (some y80v.1), str s79v.2.1, .int .i64 s79v.2.2.1, .bool s79v.2.2.2.1], obj b6v 91 [.pointer (some ⟨b0, 0, none⟩), .int .i64 s79v.2.2.2.2.1, .slice y80v.2.2.1 s79v.2.2.2.2.2.1.length y80v.2.2.2.1, .int .i64 s79v.2.2.2.2.2.2.1, .int .i64 s79v.2.2.2.2.2.2.2.1, .int .i64 s79v.2.2.2.2.2.2.2.2.1, .int .i64 s79v.2.2.2.2.2.2.2.2.2.1, .int .i64 s79v.2.2.2.2.2.2.2.2.2.2.1, .int .i64 s79v.2.2.2.2.2.2.2.2.2.2.2.1, .slice y80v.2.2.2.2.2.1 s79v.2.2.2.2.2.2.2.2.2.2.2.2.1.length y80v.2.2.2.2.2.2, .bool s79v.2.2.2.2.2.2.2.2.2.2.2.2.2.1], obj b3v 23 [.int .i64 0], obj b2v 4 [.bool s79v.2.2.2.2.2.2.2.2.2.2.2.2.2.2], obj b1v 36 [.pointer (some ⟨b6v, 0, none⟩)], mapF (mapO y80v.1 enc9 encP y80v.2.1) FA109 y80v.2.1 s79v.1, Row 3 1 y80v.2.2.1 s79v.2.2.2.2.2.1.length y80v.2.2.2.1 rs127v.flatten, Row 144 5 y80v.2.2.2.2.2.1 s79v.2.2.2.2.2.2.2.2.2.2.2.2.1.length y80v.2.2.2.2.2.2 rs129v.flatten, y80v.2.2.2.2.1, F], [obj b0 97 [.map (some y80v.1), str s79v.2.1, .int .i64 s79v.2.2.1, .bool s79v.2.2.2.1], obj b6v 91 [.pointer (some ⟨b0, 0, none⟩), .int .i64 s79v.2.2.2.2.1, .slice y80v.2.2.1 s79v.2.2.2.2.2.1.length y80v.2.2.2.1, .int .i64 s79v.2.2.2.2.2.2.1, .int .i64 s79v.2.2.2.2.2.2.2.1, .int .i64 s79v.2.2.2.2.2.2.2.2.1, .int .i64 s79v.2.2.2.2.2.2.2.2.2.1, .int .i64 s79v.2.2.2.2.2.2.2.2.2.2.1, .int .i64 s79v.2.2.2.2.2.2.2.2.2.2.2.1, .slice y80v.2.2.2.2.2.1 s79v.2.2.2.2.2.2.2.2.2.2.2.2.1.length y80v.2.2.2.2.2.2, .bool s79v.2.2.2.2.2.2.2.2.2.2.2.2.2.1], obj b3v 23 [.int .i64 0], obj b2v 4 [.bool s79v.2.2.2.2.2.2.2.2.2.2.2.2.2.2], obj b1v 36 [.pointer (some ⟨b6v, 0, none⟩)], mapF (mapO y80v.1 enc9 encP y80v.2.1) FA109 y80v.2.1 s79v.1, Row 3 1 y80v.2.2.1 s79v.2.2.2.2.2.1.length y80v.2.2.2.1 rs127v.flatten, Row 144 5 y80v.2.2.2.2.2.1 s79v.2.2.2.2.2.2.2.2.2.2.2.2.1.length y80v.2.2.2.2.2.2 rs129v.flatten, y80v.2.2.2.2.1, F], [obj b0 97 [.map (some γ.1), str s142v.2.2.1, .int .i64 s142v.2.2.2.1, .bool s142v.2.2.2.2], mapF (mapO γ.1 enc9 encP γ.2) FA109 γ.2 s142v.2.1, obj b6v 91 [.pointer (some ⟨b0, 0, none⟩), .int .i64 s79v.2.2.2.2.1, .slice y80v.2.2.1 s79v.2.2.2.2.2.1.length y80v.2.2.2.1, .int .i64 s79v.2.2.2.2.2.2.1, .int .i64 s79v.2.2.2.2.2.2.2.1, .int .i64 s79v.2.2.2.2.2.2.2.2.1, .int .i64 s79v.2.2.2.2.2.2.2.2.2.1, .int .i64 s79v.2.2.2.2.2.2.2.2.2.2.1, .int .i64 s79v.2.2.2.2.2.2.2.2.2.2.2.1, .slice y80v.2.2.2.2.2.1 s79v.2.2.2.2.2.2.2.2.2.2.2.2.1.length y80v.2.2.2.2.2.2, .bool s79v.2.2.2.2.2.2.2.2.2.2.2.2.2.1], obj b3v 23 [.int .i64 0], obj b2v 4 [.bool s79v.2.2.2.2.2.2.2.2.2.2.2.2.2.2], obj b1v 36 [.pointer (some ⟨b6v, 0, none⟩)], Row 3 1 y80v.2.2.1 s79v.2.2.2.2.2.1.length y80v.2.2.2.1 rs127v.flatten, Row 144 5 y80v.2.2.2.2.2.1 s79v.2.2.2.2.2.2.2.2.2.2.2.2.1.length y80v.2.2.2.2.2.2 rs129v.flatten, y80v.2.2.2.2.1, F], [obj b0 97 [.map (some γ.1), str s142v.2.2.1, .int .i64 s142v.2.2.2.1, .bool s142v.2.2.2.2], mapF (mapO γ.1 enc9 encP γ.2) FA109 γ.2 s142v.2.1, obj b6v 91 [.pointer (some ⟨b0, 0, none⟩), .int .i64 s79v.2.2.2.2.1, .slice y80v.2.2.1 s79v.2.2.2.2.2.1.length y80v.2.2.2.1, .int .i64 s79v.2.2.2.2.2.2.1, .int .i64 s79v.2.2.2.2.2.2.2.1, .int .i64 s79v.2.2.2.2.2.2.2.2.1, .int .i64 s79v.2.2.2.2.2.2.2.2.2.1, .int .i64 s79v.2.2.2.2.2.2.2.2.2.2.1, .int .i64 s79v.2.2.2.2.2.2.2.2.2.2.2.1, .slice y80v.2.2.2.2.2.1 s79v.2.2.2.2.2.2.2.2.2.2.2.2.1.length y80v.2.2.2.2.2.2, .bool s79v.2.2.2.2.2.2.2.2.2.2.2.2.2.1], obj b3v 23 [.int .i64 0], obj b2v 4 [.bool s79v.2.2.2.2.2.2.2.2.2.2.2.2.2.2], obj b1v 36 [.pointer (some ⟨b6v, 0, none⟩)], Row 3 1 y80v.2.2.1 s79v.2.2.2.2.2.1.length y80v.2.2.2.1 rs127v.flatten, Row 144 5 y80v.2.2.2.2.2.1 s79v.2.2.2.2.2.2.2.2.2.2.2.2.1.length y80v.2.2.2.2.2.2 rs129v.flatten, y80v.2.2.2.2.1, F]].getD j []) (fun γ => [(4, .pointer (some ⟨b1v, 0, none⟩)), (5, .pointer (some ⟨b2v, 0, none⟩)), (6, .pointer (some ⟨b3v, 0, none⟩))]) mixed (by decide) (by decide) (by decide) (by decide) (by decide) (by decide) (by decide) 116 rfl (by decide) (by decide) (by decide) (Ent.refl _) ?_ ?_ (fun _ => ⟨rfl, rfl, rfl, trivial⟩) ?_
 exact (ac (fun γ => (ac (qp rfl rfl (.o (s := 4) rfl (by decide) .nil) (q_load rfl rfl Tryz.isAgg36 (.obj 4 rfl rfl)) rfl) (ac (qp rfl rfl (.o (s := 4) rfl (by decide) .nil) (q_load rfl rfl Tryz.isAgg36 (.obj 4 rfl rfl)) rfl) zA))) (ac (fun γ => (ac (qp rfl rfl (.v 0 rfl rfl .nil) (q_nil rfl rfl) rfl) (ac (qp rfl rfl (.v 0 rfl rfl .nil) (q_nil rfl rfl) rfl) zA))) (ac (fun γ => (ac (qp rfl rfl (.v 1 rfl rfl .nil) (q_fa rfl rfl Tryz.underlying91 rfl rfl Tryz.sizeOf39 rfl) rfl) (ac (qp rfl rfl (.v 1 rfl rfl .nil) (q_fa rfl rfl Tryz.underlying91 rfl rfl Tryz.sizeOf39 rfl) rfl) zA))) (ac (fun γ => (ac (qp rfl rfl (.v 2 rfl rfl .nil) (q_load rfl rfl Tryz.isAgg39 (.obj 1 rfl rfl)) rfl) (ac (qp rfl rfl (.v 2 rfl rfl .nil) (q_load rfl rfl Tryz.isAgg39 (.obj 1 rfl rfl)) rfl) zA))) (aq rfl (fun γ => qp rfl rfl (.o (s := 4) rfl (by decide) .nil) (q_load rfl rfl Tryz.isAgg36 (.obj 4 rfl rfl)) rfl) (aq rfl (fun γ => qp rfl rfl (.v 4 rfl rfl .nil) (q_nil rfl rfl) rfl) (aq rfl (fun γ => qp rfl rfl (.v 5 rfl rfl .nil) (q_fa rfl rfl Tryz.underlying91 rfl rfl Tryz.sizeOf78 rfl) rfl) (aq rfl (fun γ => qp rfl rfl (.v 6 rfl rfl .nil) (q_load rfl rfl Tryz.isAgg78 (.obj 1 rfl rfl)) rfl) (aq rfl (fun γ => qp rfl rfl (.o (s := 4) rfl (by decide) .nil) (q_load rfl rfl Tryz.isAgg36 (.obj 4 rfl rfl)) rfl) (aq rfl (fun γ => qp rfl rfl (.v 8 rfl rfl .nil) (q_nil rfl rfl) rfl) (aq rfl (fun γ => qp rfl rfl (.v 9 rfl rfl .nil) (q_fa rfl rfl Tryz.underlying91 rfl rfl Tryz.sizeOf78 rfl) rfl) (aq rfl (fun γ => qp rfl rfl (.v 10 rfl rfl .nil) (q_load rfl rfl Tryz.isAgg78 (.obj 1 rfl rfl)) rfl) (aq rfl (fun γ => qp rfl rfl (.v 11 rfl rfl .nil) (q_len rfl rfl rfl Tryz.underlying78) rfl) (aq rfl (fun γ => qp rfl rfl (.v 12 rfl rfl .nil) (q_sub rfl rfl rfl) rfl) (aq rfl (fun γ => qp rfl rfl (.v 7 rfl rfl (.v 13 rfl rfl .nil)) (q_idx rfl rfl rfl ha133v Tryz.underlying78 Tryz.sizeOf3 hi131v.1 hi131v.2) rfl) (aq rfl (fun γ => qp rfl rfl (.v 14 rfl rfl .nil) (q_load rfl rfl Tryz.isAgg3 (hcell138v 6 rfl 0 _ rfl)) rfl) zA))))))))))))))))
 exact (ac (fun γ => eo (Z := Unit) (fun z => γ) rfl rfl (.v 15 rfl rfl .nil) (re_call (val := fun (r : List UInt8) (y : Unit) => str r) (B := fun _ _ => []) (vs := [.int .i64 (s79v.2.2.2.2.2.1.getD (IntKind.i64.wrap ((s79v.2.2.2.2.2.1.length : Int) - 1)).toNat (0 : Int))]) (cap := []) (A := []) (rst := [obj b0 97 [.map (some y80v.1), str s79v.2.1, .int .i64 s79v.2.2.1, .bool s79v.2.2.2.1], obj b6v 91 [.pointer (some ⟨b0, 0, none⟩), .int .i64 s79v.2.2.2.2.1, .slice y80v.2.2.1 s79v.2.2.2.2.2.1.length y80v.2.2.2.1, .int .i64 s79v.2.2.2.2.2.2.1, .int .i64 s79v.2.2.2.2.2.2.2.1, .int .i64 s79v.2.2.2.2.2.2.2.2.1, .int .i64 s79v.2.2.2.2.2.2.2.2.2.1, .int .i64 s79v.2.2.2.2.2.2.2.2.2.2.1, .int .i64 s79v.2.2.2.2.2.2.2.2.2.2.2.1, .slice y80v.2.2.2.2.2.1 s79v.2.2.2.2.2.2.2.2.2.2.2.2.1.length y80v.2.2.2.2.2.2, .bool s79v.2.2.2.2.2.2.2.2.2.2.2.2.2.1], obj b3v 23 [.int .i64 0], obj b2v 4 [.bool s79v.2.2.2.2.2.2.2.2.2.2.2.2.2.2], obj b1v 36 [.pointer (some ⟨b6v, 0, none⟩)], mapF (mapO y80v.1 enc9 encP y80v.2.1) FA109 y80v.2.1 s79v.1, Row 3 1 y80v.2.2.1 s79v.2.2.2.2.2.1.length y80v.2.2.2.1 rs127v.flatten, Row 144 5 y80v.2.2.2.2.2.1 s79v.2.2.2.2.2.2.2.2.2.2.2.2.1.length y80v.2.2.2.2.2.2 rs129v.flatten, y80v.2.2.2.2.1, F]) rfl rfl rfl rfl rfl rfl Tryz.call47 (.sel 0 rfl (.sel 0 rfl (.sel 0 rfl (.sel 0 rfl (.sel 0 rfl (.sel 0 rfl (.sel 0 rfl (.sel 0 rfl (.sel 0 rfl (.sel 0 rfl (.nil _))))))))))) (wal_name.calls _ _ k (s79v.2.2.2.2.2.1.getD (IntKind.i64.wrap ((s79v.2.2.2.2.2.1.length : Int) - 1)).toNat (0 : Int)) (hgl.lend 9 rfl)) hs140v) (fun _ => ⟨rfl, rfl, rfl, rfl, rfl, rfl, rfl, rfl, rfl, rfl, rfl, rfl, rfl, rfl, rfl, rfl, trivial⟩) (fun _ => .inr rfl) (fun z => Ent.refl _)) (ac (fun γ => eo (Z := Nat × Kps) (fun z => z) rfl rfl (.v 3 rfl rfl (.v 16 rfl rfl .nil)) (re_call (vs := [.pointer (some ⟨b0, 0, none⟩), str s139v]) (cap := []) (A := [obj b0 97 [.map (some y80v.1), str s79v.2.1, .int .i64 s79v.2.2.1, .bool s79v.2.2.2.1], mapF (mapO y80v.1 enc9 encP y80v.2.1) FA109 y80v.2.1 s79v.1]) (rst := [obj b6v 91 [.pointer (some ⟨b0, 0, none⟩), .int .i64 s79v.2.2.2.2.1, .slice y80v.2.2.1 s79v.2.2.2.2.2.1.length y80v.2.2.2.1, .int .i64 s79v.2.2.2.2.2.2.1, .int .i64 s79v.2.2.2.2.2.2.2.1, .int .i64 s79v.2.2.2.2.2.2.2.2.1, .int .i64 s79v.2.2.2.2.2.2.2.2.2.1, .int .i64 s79v.2.2.2.2.2.2.2.2.2.2.1, .int .i64 s79v.2.2.2.2.2.2.2.2.2.2.2.1, .slice y80v.2.2.2.2.2.1 s79v.2.2.2.2.2.2.2.2.2.2.2.2.1.length y80v.2.2.2.2.2.2, .bool s79v.2.2.2.2.2.2.2.2.2.2.2.2.2.1], obj b3v 23 [.int .i64 0], obj b2v 4 [.bool s79v.2.2.2.2.2.2.2.2.2.2.2.2.2.2], obj b1v 36 [.pointer (some ⟨b6v, 0, none⟩)], Row 3 1 y80v.2.2.1 s79v.2.2.2.2.2.1.length y80v.2.2.2.1 rs127v.flatten, Row 144 5 y80v.2.2.2.2.2.1 s79v.2.2.2.2.2.2.2.2.2.2.2.2.1.length y80v.2.2.2.2.2.2 rs129v.flatten, y80v.2.2.2.2.1, F]) rfl rfl rfl rfl rfl rfl Tryz.call46 (.sel 0 rfl (.sel 4 rfl (.sel 0 rfl (.sel 0 rfl (.sel 0 rfl (.sel 0 rfl (.sel 0 rfl (.sel 0 rfl (.sel 0 rfl (.sel 0 rfl (.nil _))))))))))) (disk_Disk_Sync.calls _ _ b0 y80v.1 y80v.2.1 s79v.1 s79v.2.1 s79v.2.2.1 s79v.2.2.2.1 s139v ) hs143v) (fun _ => ⟨rfl, rfl, rfl, rfl, rfl, rfl, rfl, rfl, rfl, rfl, rfl, rfl, rfl, rfl, rfl, rfl, rfl, trivial⟩) (fun _ => .inr rfl) (fun z => Ent.refl _)) (ac (fun γ => eo (Z := Unit) (fun z => γ) rfl rfl (.v 17 rfl rfl .nil) (re_call (vs := [.int .i64 s142v.1]) (cap := []) (A := []) (rst := [obj b0 97 [.map (some γ.1), str s142v.2.2.1, .int .i64 s142v.2.2.2.1, .bool s142v.2.2.2.2], mapF (mapO γ.1 enc9 encP γ.2) FA109 γ.2 s142v.2.1, obj b6v 91 [.pointer (some ⟨b0, 0, none⟩), .int .i64 s79v.2.2.2.2.1, .slice y80v.2.2.1 s79v.2.2.2.2.2.1.length y80v.2.2.2.1, .int .i64 s79v.2.2.2.2.2.2.1, .int .i64 s79v.2.2.2.2.2.2.2.1, .int .i64 s79v.2.2.2.2.2.2.2.2.1, .int .i64 s79v.2.2.2.2.2.2.2.2.2.1, .int .i64 s79v.2.2.2.2.2.2.2.2.2.2.1, .int .i64 s79v.2.2.2.2.2.2.2.2.2.2.2.1, .slice y80v.2.2.2.2.2.1 s79v.2.2.2.2.2.2.2.2.2.2.2.2.1.length y80v.2.2.2.2.2.2, .bool s79v.2.2.2.2.2.2.2.2.2.2.2.2.2.1], obj b3v 23 [.int .i64 0], obj b2v 4 [.bool s79v.2.2.2.2.2.2.2.2.2.2.2.2.2.2], obj b1v 36 [.pointer (some ⟨b6v, 0, none⟩)], Row 3 1 y80v.2.2.1 s79v.2.2.2.2.2.1.length y80v.2.2.2.1 rs127v.flatten, Row 144 5 y80v.2.2.2.2.2.1 s79v.2.2.2.2.2.2.2.2.2.2.2.2.1.length y80v.2.2.2.2.2.2 rs129v.flatten, y80v.2.2.2.2.1, F]) rfl rfl rfl rfl rfl rfl Tryz.call43 (.sel 0 rfl (.sel 0 rfl (.sel 0 rfl (.sel 0 rfl (.sel 0 rfl (.sel 0 rfl (.sel 0 rfl (.sel 0 rfl (.sel 0 rfl (.sel 0 rfl (.nil _))))))))))) (wal_must.calls _ _ s142v.1 ) hs146v) (fun _ => ⟨rfl, rfl, rfl, rfl, rfl, rfl, rfl, rfl, rfl, rfl, rfl, rfl, rfl, rfl, rfl, rfl, rfl, rfl, trivial⟩) (fun _ => .inr rfl) (fun z => Ent.refl _)) zA)))
 intro g148v
 refine nrm_then (sim_seq ?_)
 refine sim_draw (Γ := Unit) () [[], [], [0], [0, 1, 2], rL 4] [2, 3, 4] [0, 1] (fun i => [[0], [0, 1], [], [], []].getD i []) (fun i => [[], [], [0, 1], [0, 1, 2], rL 4].getD i []) (fun γ i => [.pointer (some ⟨b6v, 0, none⟩), .bool s79v.2.2.2.2.2.2.2.2.2.2.2.2.2.2, undef, undef, undef].getD i undef) (fun j γ => [[obj b0 97 [.map (some g148v.1), str s142v.2.2.1, .int .i64 s142v.2.2.2.1, .bool s142v.2.2.2.2], mapF (mapO g148v.1 enc9 encP g148v.2) FA109 g148v.2 s142v.2.1, obj b6v 91 [.pointer (some ⟨b0, 0, none⟩), .int .i64 s79v.2.2.2.2.1, .slice y80v.2.2.1 s79v.2.2.2.2.2.1.length y80v.2.2.2.1, .int .i64 s79v.2.2.2.2.2.2.1, .int .i64 s79v.2.2.2.2.2.2.2.1, .int .i64 s79v.2.2.2.2.2.2.2.2.1, .int .i64 s79v.2.2.2.2.2.2.2.2.2.1, .int .i64 s79v.2.2.2.2.2.2.2.2.2.2.1, .int .i64 s79v.2.2.2.2.2.2.2.2.2.2.2.1, .slice y80v.2.2.2.2.2.1 s79v.2.2.2.2.2.2.2.2.2.2.2.2.1.length y80v.2.2.2.2.2.2, .bool s79v.2.2.2.2.2.2.2.2.2.2.2.2.2.1], obj b3v 23 [.int .i64 0], obj b2v 4 [.bool s79v.2.2.2.2.2.2.2.2.2.2.2.2.2.2], obj b1v 36 [.pointer (some ⟨b6v, 0, none⟩)], Row 3 1 y80v.2.2.1 s79v.2.2.2.2.2.1.length y80v.2.2.2.1 rs127v.flatten, Row 144 5 y80v.2.2.2.2.2.1 s79v.2.2.2.2.2.2.2.2.2.2.2.2.1.length y80v.2.2.2.2.2.2 rs129v.flatten, y80v.2.2.2.2.1, F], [obj b0 97 [.map (some g148v.1), str s142v.2.2.1, .int .i64 s142v.2.2.2.1, .bool s142v.2.2.2.2], mapF (mapO g148v.1 enc9 encP g148v.2) FA109 g148v.2 s142v.2.1, obj b6v 91 [.pointer (some ⟨b0, 0, none⟩), .int .i64 s79v.2.2.2.2.1, .slice y80v.2.2.1 s79v.2.2.2.2.2.1.length y80v.2.2.2.1, .int .i64 s79v.2.2.2.2.2.2.1, .int .i64 s79v.2.2.2.2.2.2.2.1, .int .i64 s79v.2.2.2.2.2.2.2.2.1, .int .i64 s79v.2.2.2.2.2.2.2.2.2.1, .int .i64 s79v.2.2.2.2.2.2.2.2.2.2.1, .int .i64 s79v.2.2.2.2.2.2.2.2.2.2.2.1, .slice y80v.2.2.2.2.2.1 s79v.2.2.2.2.2.2.2.2.2.2.2.2.1.length y80v.2.2.2.2.2.2, .bool s79v.2.2.2.2.2.2.2.2.2.2.2.2.2.1], obj b3v 23 [.int .i64 0], obj b2v 4 [.bool s79v.2.2.2.2.2.2.2.2.2.2.2.2.2.2], obj b1v 36 [.pointer (some ⟨b6v, 0, none⟩)], Row 3 1 y80v.2.2.1 s79v.2.2.2.2.2.1.length y80v.2.2.2.1 rs127v.flatten, Row 144 5 y80v.2.2.2.2.2.1 s79v.2.2.2.2.2.2.2.2.2.2.2.2.1.length y80v.2.2.2.2.2.2 rs129v.flatten, y80v.2.2.2.2.1, F], [obj b0 97 [.map (some g148v.1), str s142v.2.2.1, .int .i64 s142v.2.2.2.1, .bool s142v.2.2.2.2], mapF (mapO g148v.1 enc9 encP g148v.2) FA109 g148v.2 s142v.2.1, obj b6v 91 [.pointer (some ⟨b0, 0, none⟩), .int .i64 s79v.2.2.2.2.1, .slice y80v.2.2.1 s79v.2.2.2.2.2.1.length y80v.2.2.2.1, .int .i64 s79v.2.2.2.2.2.2.1, .int .i64 s79v.2.2.2.2.2.2.2.1, .int .i64 s79v.2.2.2.2.2.2.2.2.1, .int .i64 s79v.2.2.2.2.2.2.2.2.2.1, .int .i64 s79v.2.2.2.2.2.2.2.2.2.2.1, .int .i64 s79v.2.2.2.2.2.2.2.2.2.2.2.1, .slice y80v.2.2.2.2.2.1 s79v.2.2.2.2.2.2.2.2.2.2.2.2.1.length y80v.2.2.2.2.2.2, .bool s79v.2.2.2.2.2.2.2.2.2.2.2.2.2.1], obj b3v 23 [.int .i64 0], obj b2v 4 [.bool s79v.2.2.2.2.2.2.2.2.2.2.2.2.2.2], obj b1v 36 [.pointer (some ⟨b6v, 0, none⟩)], Row 3 1 y80v.2.2.1 s79v.2.2.2.2.2.1.length y80v.2.2.2.1 rs127v.flatten, Row 144 5 y80v.2.2.2.2.2.1 s79v.2.2.2.2.2.2.2.2.2.2.2.2.1.length y80v.2.2.2.2.2.2 rs129v.flatten, y80v.2.2.2.2.1, F], [obj b0 97 [.map (some g148v.1), str s142v.2.2.1, .int .i64 s142v.2.2.2.1, .bool s142v.2.2.2.2], mapF (mapO g148v.1 enc9 encP g148v.2) FA109 g148v.2 s142v.2.1, obj b6v 91 [.pointer (some ⟨b0, 0, none⟩), .int .i64 s79v.2.2.2.2.1, .slice y80v.2.2.1 s79v.2.2.2.2.2.1.length y80v.2.2.2.1, .int .i64 s79v.2.2.2.2.2.2.1, .int .i64 s79v.2.2.2.2.2.2.2.1, .int .i64 s79v.2.2.2.2.2.2.2.2.1, .int .i64 s79v.2.2.2.2.2.2.2.2.2.1, .int .i64 s79v.2.2.2.2.2.2.2.2.2.2.1, .int .i64 s79v.2.2.2.2.2.2.2.2.2.2.2.1, .slice y80v.2.2.2.2.2.1 s79v.2.2.2.2.2.2.2.2.2.2.2.2.1.length y80v.2.2.2.2.2.2, .bool s79v.2.2.2.2.2.2.2.2.2.2.2.2.2.1], obj b3v 23 [.int .i64 0], obj b2v 4 [.bool s79v.2.2.2.2.2.2.2.2.2.2.2.2.2.2], obj b1v 36 [.pointer (some ⟨b6v, 0, none⟩)], Row 3 1 y80v.2.2.1 s79v.2.2.2.2.2.1.length y80v.2.2.2.1 rs127v.flatten, Row 144 5 y80v.2.2.2.2.2.1 s79v.2.2.2.2.2.2.2.2.2.2.2.2.1.length y80v.2.2.2.2.2.2 rs129v.flatten, y80v.2.2.2.2.1, F]].getD j []) (fun γ => [(4, .pointer (some ⟨b1v, 0, none⟩)), (5, .pointer (some ⟨b2v, 0, none⟩)), (6, .pointer (some ⟨b3v, 0, none⟩))]) mixed (by decide) (by decide) (by decide) (by decide) (by decide) (by decide) (by decide) 116 rfl (by decide) (by decide) (by decide) (Ent.refl _) ?_ ?_ (fun _ => ⟨rfl, rfl, rfl, trivial⟩) ?_
 exact (aq rfl (fun γ => qp rfl rfl (.o (s := 4) rfl (by decide) .nil) (q_load rfl rfl Tryz.isAgg36 (.obj 5 rfl rfl)) rfl) (ac (fun γ => (ac (qp rfl rfl (.o (s := 5) rfl (by decide) .nil) (q_load rfl rfl Tryz.isAgg4 (.obj 4 rfl rfl)) rfl) (ac (qp rfl rfl (.o (s := 5) rfl (by decide) .nil) (q_load rfl rfl Tryz.isAgg4 (.obj 4 rfl rfl)) rfl) zA))) zA))
 exact (ac (fun γ => eo (Z := Unit) (fun z => ()) rfl rfl (.o (s := 4) rfl (by decide) (.v 0 rfl rfl .nil)) (re_store 5 rfl rfl rfl Tryz.sizeOf36 rfl rfl (one_of (by rfl)) rfl rfl) (fun _ => ⟨rfl, rfl, trivial⟩) (fun _ => .inl rfl) (fun z => Ent.refl _)) (ac (fun γ => eo (Z := Unit) (fun z => ()) rfl rfl (.o (s := 5) rfl (by decide) (.v 1 rfl rfl .nil)) (re_store 4 rfl rfl rfl Tryz.sizeOf4 rfl rfl (one_of (by rfl)) rfl rfl) (fun _ => ⟨rfl, rfl, rfl, trivial⟩) (fun _ => .inl rfl) (fun z => Ent.refl _)) (ac (fun γ => eo (Z := Unit) (fun z => ()) rfl rfl (.o (s := 6) rfl (by decide) .nil) (re_store 3 rfl rfl rfl Tryz.sizeOf23 rfl rfl (one_of (by rfl)) rfl rfl) (fun _ => ⟨rfl, rfl, rfl, rfl, trivial⟩) (fun _ => .inl rfl) (fun z => Ent.refl _)) zA)))
 intro g149v
 refine nrm_then (sim_rtn ?_)
 exact rtn_fnD1 (vs := [.pointer (some ⟨b6v, 0, none⟩), .bool s79v.2.2.2.2.2.2.2.2.2.2.2.2.2.2, .int .i64 0]) 40 [.pointer (some ⟨b1v, 0, none⟩), .pointer (some ⟨b2v, 0, none⟩), .pointer (some ⟨b3v, 0, none⟩)] (wal_Open_1.quiet b1v b2v b3v) Tryz.call40 (b6v, y80v.2.2.1, y80v.2.2.2.1, y80v.2.2.2.2.2.1, y80v.2.2.2.2.2.2, y80v.2.2.2.2.1, g148v.1, g148v.2) rfl ⟨⟨b1v, rfl, load_one Tryz.isAgg36 (.obj 5 rfl rfl)⟩, ⟨b2v, rfl, load_one Tryz.isAgg4 (.obj 4 rfl rfl)⟩, ⟨b3v, rfl, load_one Tryz.isAgg23 (.obj 3 rfl rfl)⟩, trivial⟩ rfl (.when_yes rfl (.sel 2 rfl (.sel' 5 rfl (RowV.mk hl128v) (.sel' 5 rfl (RowV.mk hl130v) (.sel 5 rfl (.sel 0 rfl (.sel 0 rfl (.sel 3 rfl (.nil _)))))))))
theorem wal_Open.callsT (W : World) (F : HA) (k : Nat) (b0 : Nat) (m0_0 : Nat) (q0_0 : Kps) (x0_0 : List ((List UInt8) × (List UInt8 × Int))) (x0_1 : List UInt8) (x0_2 : Int) (x0_3 : Bool) (x1 : Int) (hgl : Glb Tryz.prog F) :
    Fn Tryz.prog W 15 [.pointer (some ⟨b0, 0, none⟩), .int .i64 x1] [obj b0 97 [.map (some m0_0), str x0_1, .int .i64 x0_2, .bool x0_3], mapF (mapO m0_0 enc9 encP q0_0) FA109 q0_0 x0_0] F ((wal_Open.f k x0_0 x0_1 x0_2 x0_3 x1).filter fun (r : Bool × Int × List Int × Int × Int × Int × Int × Int × Int × (List (Ty144)) × Bool × Bool × Int × (List ((List UInt8) × (List UInt8 × Int))) × List UInt8 × Int × Bool) => r.1 == true) (fun (r : Bool × Int × List Int × Int × Int × Int × Int × Int × Int × (List (Ty144)) × Bool × Bool × Int × (List ((List UInt8) × (List UInt8 × Int))) × List UInt8 × Int × Bool) (y : Nat × Option Addr × Nat × Option Addr × Nat × HA × Nat × Kps) => .tuple #[.pointer (some ⟨y.1, 0, none⟩), .bool r.2.2.2.2.2.2.2.2.2.2.2.1, .int .i64 r.2.2.2.2.2.2.2.2.2.2.2.2.1]) (fun r y => [obj y.1 91 [.pointer (some ⟨b0, 0, none⟩), .int .i64 r.2.1, .slice y.2.1 r.2.2.1.length y.2.2.1, .int .i64 r.2.2.2.1, .int .i64 r.2.2.2.2.1, .int .i64 r.2.2.2.2.2.1, .int .i64 r.2.2.2.2.2.2.1, .int .i64 r.2.2.2.2.2.2.2.1, .int .i64 r.2.2.2.2.2.2.2.2.1, .slice y.2.2.2.1 r.2.2.2.2.2.2.2.2.2.1.length y.2.2.2.2.1, .bool r.2.2.2.2.2.2.2.2.2.2.1], RowV 3 1 (V3 tt) y.2.1 r.2.2.1 y.2.2.1, RowV 144 5 (V144 (y.2.2.2.2.2.1)) y.2.2.2.1 r.2.2.2.2.2.2.2.2.2.1 y.2.2.2.2.1, y.2.2.2.2.2.1, obj b0 97 [.map (some y.2.2.2.2.2.2.1), str r.2.2.2.2.2.2.2.2.2.2.2.2.2.2.1, .int .i64 r.2.2.2.2.2.2.2.2.2.2.2.2.2.2.2.1, .bool r.2.2.2.2.2.2.2.2.2.2.2.2.2.2.2.2], mapF (mapO y.2.2.2.2.2.2.1 enc9 encP y.2.2.2.2.2.2.2) FA109 y.2.2.2.2.2.2.2 r.2.2.2.2.2.2.2.2.2.2.2.2.2.1]) :=
  Fn.when (wal_Open.calls W F k b0 m0_0 q0_0 x0_0 x0_1 x0_2 x0_3 x1 hgl) _ true (fun r y h => by simp only [h]; rfl) (fun r y h => (Ent.when_yo h _))
theorem wal_Open.callsN (W : World) (F : HA) (k : Nat) (b0 : Nat) (m0_0 : Nat) (q0_0 : Kps) (x0_0 : List ((List UInt8) × (List UInt8 × Int))) (x0_1 : List UInt8) (x0_2 : Int) (x0_3 : Bool) (x1 : Int) (hgl : Glb Tryz.prog F) :
    Fn Tryz.prog W 15 [.pointer (some ⟨b0, 0, none⟩), .int .i64 x1] [obj b0 97 [.map (some m0_0), str x0_1, .int .i64 x0_2, .bool x0_3], mapF (mapO m0_0 enc9 encP q0_0) FA109 q0_0 x0_0] F ((wal_Open.f k x0_0 x0_1 x0_2 x0_3 x1).filter fun (r : Bool × Int × List Int × Int × Int × Int × Int × Int × Int × (List (Ty144)) × Bool × Bool × Int × (List ((List UInt8) × (List UInt8 × Int))) × List UInt8 × Int × Bool) => r.1 == false) (fun (r : Bool × Int × List Int × Int × Int × Int × Int × Int × Int × (List (Ty144)) × Bool × Bool × Int × (List ((List UInt8) × (List UInt8 × Int))) × List UInt8 × Int × Bool) (y : Nat × Option Addr × Nat × Option Addr × Nat × HA × Nat × Kps) => .tuple #[.pointer none, .bool r.2.2.2.2.2.2.2.2.2.2.2.1, .int .i64 r.2.2.2.2.2.2.2.2.2.2.2.2.1]) (fun r y => [obj b0 97 [.map (some y.2.2.2.2.2.2.1), str r.2.2.2.2.2.2.2.2.2.2.2.2.2.2.1, .int .i64 r.2.2.2.2.2.2.2.2.2.2.2.2.2.2.2.1, .bool r.2.2.2.2.2.2.2.2.2.2.2.2.2.2.2.2], mapF (mapO y.2.2.2.2.2.2.1 enc9 encP y.2.2.2.2.2.2.2) FA109 y.2.2.2.2.2.2.2 r.2.2.2.2.2.2.2.2.2.2.2.2.2.1]) :=
  Fn.when (wal_Open.calls W F k b0 m0_0 q0_0 x0_0 x0_1 x0_2 x0_3 x1 hgl) _ false (fun r y h => by simp only [h]; rfl) (fun r y h => (Ent.when_no_ h _))

def synodref_Num.f (x0 : Int) : Option (Int) := some x0
theorem synodref_Num.calls (W : World) (F : HA) (x0 : Int)  :
    Fn Tryz.prog W 13 [.int .i64 x0] [] F (synodref_Num.f x0) (fun (r : Int) (y : Unit) => .int .i64 r) (fun r y => []) := by
 unfold synodref_Num.f
 refine fn_intro 4 Tryz.func13 rfl Tryz.ntmps13 rfl ?_
 refine sr ?_
 refine va rfl rfl (nx ?_)
 refine vm rfl rfl ?_
 refine va rfl rfl (simL_nil (nrm_then (sim_rtn ?_)))
 exact rtn_fn () rfl rfl rfl (.sel 0 rfl (.nil _))

def slices_Clone__byte_byte.f (x0 : List UInt8) : Option (List UInt8) := if (([] : List UInt8).length + x0.length) * 1 ≤ 140737488355328 then (some (([] : List UInt8) ++ x0)) else none
theorem slices_Clone__byte_byte.calls (W : World) (F : HA) (a0 : Option Addr) (c0 : Nat) (x0 : List UInt8) (h0 : Rd F a0 (encB x0)) (hc0 : x0.length ≤ c0) (hm0 : c0 ≤ maxLen) :
    Fn Tryz.prog W 82 [.slice a0 x0.length c0] [] F (slices_Clone__byte_byte.f x0) (fun (r : List UInt8) (y : Option Addr × Nat) => .slice y.1 r.length y.2) (fun r y => [Row 5 1 y.1 r.length y.2 (encB r)]) := by
 unfold slices_Clone__byte_byte.f
 refine fn_intro 8 Tryz.func82 rfl Tryz.ntmps82 rfl ?_
 rcases a0 with _ | p0
 have hx : x0 = [] := rd_none h0
 subst hx
 refine sim_eq (o' := some ([] : List UInt8)) (by simp) ?_
 refine sr ?_
 refine va rfl rfl (simL_nil (nrm_then (sim_seq (sr ?_))))
 refine vm rfl rfl ?_
 refine vq (q_slnilT rfl rfl Tryz.underlying33) rfl (simL_nil (nrm_then ?_))
 refine sim_true rfl ?_
 refine sr ?_
 refine va rfl rfl (simL_nil (nrm_then (sim_rtn ?_)))
 refine rtn_then ?_
 exact rtn_fn (none, 0) rfl rfl rfl (.row_nil (.sel 0 rfl (.nil _)))
 refine sr ?_
 refine va rfl rfl (simL_nil (nrm_then (sim_seq (sr ?_))))
 refine vm rfl rfl ?_
 refine vq (q_slnilF rfl rfl Tryz.underlying33) rfl (simL_nil (nrm_then ?_))
 refine sim_false rfl ?_
 refine sim_skip ?_
 refine nrm_then (sr ?_)
 refine simL_eff (re_lit0 rfl Tryz.underlying33 elt5) rfl rfl rfl ?_
 intro b1v
 refine vm rfl rfl ?_
 refine simL_ask (fun hb3v => ?_)
 refine simL_eff (re_appendb 0 rfl rfl rfl Tryz.underlying33 elt5 rfl (h0.rds 0 rfl) hb3v) rfl rfl rfl ?_
 intro y2v
 refine va rfl rfl (simL_nil (nrm_then (sim_rtn ?_)))
 exact rtn_fn (y2v.1, y2v.2) rfl rfl rfl (.sel 0 rfl (.sel 0 rfl (.nil _)))

def wal_Wal_check_s.l1 (x1_6 : List (Ty35)) : Nat → Int → Int → Int → Option ((Unit) ⊕ (Int))
  | 0, _, _, _ => none
  | k + 1, z64v, z65v, z66v => if z66v < (x1_6.length : Int) then (if 0 ≤ z66v ∧ z66v < (x1_6.length : Int) then (if IntKind.i64.wrap (z65v + 1) < (x1_6.getD z66v.toNat dz35).2.1 then (some (.inr 13)) else (wal_Wal_check_s.l1 x1_6 k (min z64v (IntKind.i64.wrap (((x1_6.getD z66v.toNat dz35).2.1) - 1))) ((x1_6.getD z66v.toNat dz35).2.1) (IntKind.i64.wrap (z66v + 1)))) else none) else (some (.inl ()))
def wal_Wal_check_s.l0 (x1_6 : List (Ty35)) : Nat → Int → Option ((Unit) ⊕ (Int))
  | 0, _ => none
  | k + 1, z17v => if z17v < (x1_6.length : Int) then (if 0 ≤ z17v ∧ z17v < (x1_6.length : Int) then ((codec_Entries_Check.f ((x1_6.getD z17v.toNat dz35).1) ((x1_6.getD z17v.toNat dz35).2.1) ((x1_6.getD z17v.toNat dz35).2.2.1) ((x1_6.getD z17v.toNat dz35).2.2.2)).bind fun s34v => (if s34v = (0 : Int) then (wal_Wal_check_s.l0 x1_6 k (IntKind.i64.wrap (z17v + 1))) else (some (.inr s34v)))) else none) else (some (.inl ()))
def wal_Wal_check_s.f (k : Nat) (xp1_0 : List ((List UInt8) × (List UInt8 × Int))) (xp1_1 : List UInt8) (xp1_2 : Int) (xp1_3 : Bool) (xp0_1 : Int) (xp0_2 : List Int) (xp0_3 : Int) (xp0_4 : Int) (xp0_5 : Int) (xp0_6 : Int) (xp0_7 : Int) (xp0_8 : Int) (xp0_9 : List (Ty144)) (xp0_10 : Bool) (x1_0 : Bool) (x1_1 : Int) (x1_2 : Int) (x1_3 : Int) (x1_4 : Int) (x1_5 : Int) (x1_6 : List (Ty35)) : Option (Int) := orR (if x1_0 = true then ((codec_States_Check.f x1_1 x1_2 x1_3).bind fun s6v => (if s6v = (0 : Int) then (some (.inl ())) else (some (.inr s6v)))) else (some (.inl ()))) fun s2v => (if (((((decide (x1_4 < (0 : Int))) || (decide ((4611686018427387904 : Int) < x1_4))) || (decide (x1_5 < (0 : Int)))) || (decide ((4611686018427387904 : Int) < x1_5))) || (!((decide (x1_4 = (0 : Int))) == (decide (x1_5 = (0 : Int)))))) = true then (some 1) else (orR (wal_Wal_check_s.l0 x1_6 k 0) fun s13v => ((wal_story_last_s.f xp1_0 xp1_1 xp1_2 xp1_3 xp0_1 xp0_2 xp0_3 xp0_4 xp0_5 xp0_6 xp0_7 xp0_8 xp0_9 xp0_10).bind fun s39v => (((if ((!decide (x1_4 = (0 : Int))) == true) = true then (wal_story_has_s.f xp1_0 xp1_1 xp1_2 xp1_3 xp0_1 xp0_2 xp0_3 xp0_4 xp0_5 xp0_6 xp0_7 xp0_8 xp0_9 xp0_10 x1_4 x1_5) else some false).bind fun s44v => (if ((!decide (x1_4 = (0 : Int))) && (!s44v)) = true then (some (x1_4, x1_4)) else (some (xp0_7, s39v.1)))).bind fun s42v => (orR (wal_Wal_check_s.l1 x1_6 k s42v.1 s42v.2 0) fun s60v => (some 0))))))
theorem wal_Wal_check_s.calls (W : World) (F : HA) (k : Nat) (bp0 : Nat) (bp1 : Nat) (mp1_0 : Nat) (qp1_0 : Kps) (xp1_0 : List ((List UInt8) × (List UInt8 × Int))) (xp1_1 : List UInt8) (xp1_2 : Int) (xp1_3 : Bool) (xp0_1 : Int) (ap0_2 : Option Addr) (cp0_2 : Nat) (xp0_2 : List Int) (xp0_3 : Int) (xp0_4 : Int) (xp0_5 : Int) (xp0_6 : Int) (xp0_7 : Int) (xp0_8 : Int) (ap0_9 : Option Addr) (cp0_9 : Nat) (xp0_9 : List (Ty144)) (xp0_10 : Bool) (x1_0 : Bool) (x1_1 : Int) (x1_2 : Int) (x1_3 : Int) (x1_4 : Int) (x1_5 : Int) (a1_6 : Option Addr) (c1_6 : Nat) (x1_6 : List (Ty35)) (hp0_2 : RdV F 1 (V3 tt) ap0_2 xp0_2) (hcp0_2 : xp0_2.length ≤ cp0_2) (hmp0_2 : cp0_2 ≤ maxLen) (hp0_9 : RdV F 5 (V144 F) ap0_9 xp0_9) (hcp0_9 : xp0_9.length ≤ cp0_9) (hmp0_9 : cp0_9 ≤ maxLen) (h1_6 : RdV F 4 (V35 F) a1_6 x1_6) (hc1_6 : x1_6.length ≤ c1_6) (hm1_6 : c1_6 ≤ maxLen) :
    Fn Tryz.prog W 48 [.pointer (some ⟨bp0, 0, none⟩), .agg #[.bool x1_0, .int .i64 x1_1, .int .i64 x1_2, .int .i64 x1_3, .int .i64 x1_4, .int .i64 x1_5, .slice a1_6 x1_6.length c1_6]] [obj bp1 97 [.map (some mp1_0), str xp1_1, .int .i64 xp1_2, .bool xp1_3], mapF (mapO mp1_0 enc9 encP qp1_0) FA109 qp1_0 xp1_0, obj bp0 91 [.pointer (some ⟨bp1, 0, none⟩), .int .i64 xp0_1, .slice ap0_2 xp0_2.length cp0_2, .int .i64 xp0_3, .int .i64 xp0_4, .int .i64 xp0_5, .int .i64 xp0_6, .int .i64 xp0_7, .int .i64 xp0_8, .slice ap0_9 xp0_9.length cp0_9, .bool xp0_10]] F (wal_Wal_check_s.f k xp1_0 xp1_1 xp1_2 xp1_3 xp0_1 xp0_2 xp0_3 xp0_4 xp0_5 xp0_6 xp0_7 xp0_8 xp0_9 xp0_10 x1_0 x1_1 x1_2 x1_3 x1_4 x1_5 x1_6) (fun (r : Int) (y : Unit) => .int .i64 r) (fun r y => [obj bp1 97 [.map (some mp1_0), str xp1_1, .int .i64 xp1_2, .bool xp1_3], mapF (mapO mp1_0 enc9 encP qp1_0) FA109 qp1_0 xp1_0, obj bp0 91 [.pointer (some ⟨bp1, 0, none⟩), .int .i64 xp0_1, .slice ap0_2 xp0_2.length cp0_2, .int .i64 xp0_3, .int .i64 xp0_4, .int .i64 xp0_5, .int .i64 xp0_6, .int .i64 xp0_7, .int .i64 xp0_8, .slice ap0_9 xp0_9.length cp0_9, .bool xp0_10]]) := by
 unfold wal_Wal_check_s.f
 refine fn_intro 114 Tryz.func48 rfl Tryz.ntmps48 rfl ?_
 refine sr ?_
 refine simL_eff (re_box rfl rfl rfl) rfl rfl rfl ?_
 intro b1v
 refine va rfl rfl (simL_nil (nrm_then ?_))
 refine sim_cutR (S := Unit) (Unit) (fun s y => [(0, .pointer (some ⟨bp0, 0, none⟩)), (3, .pointer (some ⟨b1v, 0, none⟩))]) (fun s y => [obj b1v 45 [.bool x1_0, .int .i64 x1_1, .int .i64 x1_2, .int .i64 x1_3, .int .i64 x1_4, .int .i64 x1_5, .slice a1_6 x1_6.length c1_6], obj bp1 97 [.map (some mp1_0), str xp1_1, .int .i64 xp1_2, .bool xp1_3], obj bp0 91 [.pointer (some ⟨bp1, 0, none⟩), .int .i64 xp0_1, .slice ap0_2 xp0_2.length cp0_2, .int .i64 xp0_3, .int .i64 xp0_4, .int .i64 xp0_5, .int .i64 xp0_6, .int .i64 xp0_7, .int .i64 xp0_8, .slice ap0_9 xp0_9.length cp0_9, .bool xp0_10], mapF (mapO mp1_0 enc9 encP qp1_0) FA109 qp1_0 xp1_0, F]) ?_ ?_
 refine sr ?_
 refine vq (q_fa rfl rfl Tryz.underlying45 rfl rfl Tryz.sizeOf4 rfl) rfl ?_
 refine vq (q_load rfl rfl Tryz.isAgg4 (.obj 0 rfl rfl)) rfl (simL_nil (nrm_then ?_))
 refine sim_condb rfl (fun h4v => ?_) (fun h5v => ?_)
 refine sr ?_
 refine vq (q_build (v := .agg #[]) rfl rfl (fun _ => by kernel_rfl)) rfl ?_
 refine vq (q_fa rfl rfl Tryz.underlying45 rfl rfl Tryz.sizeOf43 rfl) rfl ?_
 refine vq (q_loads (vs := [.int .i64 x1_1, .int .i64 x1_2, .int .i64 x1_3]) rfl rfl Tryz.isAgg43 Tryz.sizeOf43 rfl (cells_obj 0 rfl (cells_lit rfl))) rfl ?_
 refine simL_bind (fun s6v hs7v => ?_)
 refine simL_eff (re_call (vs := [.agg #[], .agg #[.int .i64 x1_1, .int .i64 x1_2, .int .i64 x1_3]]) (cap := []) (A := []) (rst := [obj b1v 45 [.bool x1_0, .int .i64 x1_1, .int .i64 x1_2, .int .i64 x1_3, .int .i64 x1_4, .int .i64 x1_5, .slice a1_6 x1_6.length c1_6], obj bp1 97 [.map (some mp1_0), str xp1_1, .int .i64 xp1_2, .bool xp1_3], mapF (mapO mp1_0 enc9 encP qp1_0) FA109 qp1_0 xp1_0, obj bp0 91 [.pointer (some ⟨bp1, 0, none⟩), .int .i64 xp0_1, .slice ap0_2 xp0_2.length cp0_2, .int .i64 xp0_3, .int .i64 xp0_4, .int .i64 xp0_5, .int .i64 xp0_6, .int .i64 xp0_7, .int .i64 xp0_8, .slice ap0_9 xp0_9.length cp0_9, .bool xp0_10], F]) rfl rfl rfl rfl rfl rfl Tryz.call78 (.sel 0 rfl (.sel 0 rfl (.sel 0 rfl (.sel 0 rfl (.sel 0 rfl (.nil _)))))) (codec_States_Check.calls _ _ x1_1 x1_2 x1_3 ) hs7v) rfl rfl rfl ?_
 intro y8v
 refine va rfl rfl (nx ?_)
 refine vm rfl rfl ?_
 refine vq (q_neq rfl rfl rfl) rfl (simL_nil (nrm_then ?_))
 refine sim_condn rfl (fun h9v => ?_) (fun h10v => ?_)
 refine sim_skip ?_
 exact nrm_cutR (s := ()) () ⟨rfl, rfl, trivial⟩ (.sel 0 rfl (.sel 0 rfl (.sel 1 rfl (.sel 0 rfl (.sel 0 rfl (.nil _))))))
 refine sr ?_
 refine vm rfl rfl ?_
 refine va rfl rfl (simL_nil (nrm_then (sim_rtn ?_)))
 refine rtn_cutR ?_
 exact rtn_fn () rfl rfl rfl (.sel 1 rfl (.sel 1 rfl (.sel 1 rfl (.sel 1 rfl (.nil _)))))
 refine sim_skip ?_
 exact nrm_cutR (s := ()) () ⟨rfl, rfl, trivial⟩ (.sel 0 rfl (.sel 0 rfl (.sel 1 rfl (.sel 0 rfl (.sel 0 rfl (.nil _))))))
 intro s2v y3v
 refine sim_seq (sr ?_)
 refine vq (q_fa rfl rfl Tryz.underlying45 rfl rfl Tryz.sizeOf3 rfl) rfl ?_
 refine vq (q_load rfl rfl Tryz.isAgg3 (.obj 0 rfl rfl)) rfl ?_
 refine vq (q_lss rfl rfl rfl) rfl ?_
 refine vm rfl rfl ?_
 refine simL_valc (b := decide (x1_4 < (0 : Int))) (fun hb101v => RQ.sub (E' := [(3, .pointer (some ⟨b1v, 0, none⟩))]) ⟨rfl, trivial⟩ (q_fa rfl rfl Tryz.underlying45 rfl rfl Tryz.sizeOf3 rfl)) rfl rfl rfl rfl rfl ?_
 refine simL_valc (b := decide (x1_4 < (0 : Int))) (fun hb100v => RQ.sub (E' := [(27, .pointer (some ⟨b1v, 4, none⟩))]) ⟨lk_cv rfl hb100v, trivial⟩ (q_load rfl rfl Tryz.isAgg3 (.obj 0 rfl rfl))) rfl rfl rfl rfl rfl ?_
 refine simL_valc (b := decide (x1_4 < (0 : Int))) (fun hb99v => RQ.sub (E' := [(28, .int .i64 x1_4)]) ⟨lk_cv rfl hb99v, trivial⟩ (q_gtr rfl rfl rfl)) rfl rfl rfl rfl rfl ?_
 refine vq (q_or rfl rfl rfl) rfl ?_
 refine vm rfl rfl ?_
 refine simL_valc (b := (decide (x1_4 < (0 : Int))) || (decide ((4611686018427387904 : Int) < x1_4))) (fun hb98v => RQ.sub (E' := [(3, .pointer (some ⟨b1v, 0, none⟩))]) ⟨rfl, trivial⟩ (q_fa rfl rfl Tryz.underlying45 rfl rfl Tryz.sizeOf3 rfl)) rfl rfl rfl rfl rfl ?_
 refine simL_valc (b := (decide (x1_4 < (0 : Int))) || (decide ((4611686018427387904 : Int) < x1_4))) (fun hb97v => RQ.sub (E' := [(32, .pointer (some ⟨b1v, 5, none⟩))]) ⟨lk_cv rfl hb97v, trivial⟩ (q_load rfl rfl Tryz.isAgg3 (.obj 0 rfl rfl))) rfl rfl rfl rfl rfl ?_
 refine simL_valc (b := (decide (x1_4 < (0 : Int))) || (decide ((4611686018427387904 : Int) < x1_4))) (fun hb96v => RQ.sub (E' := [(33, .int .i64 x1_5)]) ⟨lk_cv rfl hb96v, trivial⟩ (q_lss rfl rfl rfl)) rfl rfl rfl rfl rfl ?_
 refine vq (q_or rfl rfl rfl) rfl ?_
 refine vm rfl rfl ?_
 refine simL_valc (b := ((decide (x1_4 < (0 : Int))) || (decide ((4611686018427387904 : Int) < x1_4))) || (decide (x1_5 < (0 : Int)))) (fun hb95v => RQ.sub (E' := [(3, .pointer (some ⟨b1v, 0, none⟩))]) ⟨rfl, trivial⟩ (q_fa rfl rfl Tryz.underlying45 rfl rfl Tryz.sizeOf3 rfl)) rfl rfl rfl rfl rfl ?_
 refine simL_valc (b := ((decide (x1_4 < (0 : Int))) || (decide ((4611686018427387904 : Int) < x1_4))) || (decide (x1_5 < (0 : Int)))) (fun hb94v => RQ.sub (E' := [(37, .pointer (some ⟨b1v, 5, none⟩))]) ⟨lk_cv rfl hb94v, trivial⟩ (q_load rfl rfl Tryz.isAgg3 (.obj 0 rfl rfl))) rfl rfl rfl rfl rfl ?_
 refine simL_valc (b := ((decide (x1_4 < (0 : Int))) || (decide ((4611686018427387904 : Int) < x1_4))) || (decide (x1_5 < (0 : Int)))) (fun hb93v => RQ.sub (E' := [(38, .int .i64 x1_5)]) ⟨lk_cv rfl hb93v, trivial⟩ (q_gtr rfl rfl rfl)) rfl rfl rfl rfl rfl ?_
 refine vq (q_or rfl rfl rfl) rfl ?_
 refine vm rfl rfl ?_
 refine simL_valc (b := (((decide (x1_4 < (0 : Int))) || (decide ((4611686018427387904 : Int) < x1_4))) || (decide (x1_5 < (0 : Int)))) || (decide ((4611686018427387904 : Int) < x1_5))) (fun hb92v => RQ.sub (E' := [(3, .pointer (some ⟨b1v, 0, none⟩))]) ⟨rfl, trivial⟩ (q_fa rfl rfl Tryz.underlying45 rfl rfl Tryz.sizeOf3 rfl)) rfl rfl rfl rfl rfl ?_
 refine simL_valc (b := (((decide (x1_4 < (0 : Int))) || (decide ((4611686018427387904 : Int) < x1_4))) || (decide (x1_5 < (0 : Int)))) || (decide ((4611686018427387904 : Int) < x1_5))) (fun hb91v => RQ.sub (E' := [(42, .pointer (some ⟨b1v, 4, none⟩))]) ⟨lk_cv rfl hb91v, trivial⟩ (q_load rfl rfl Tryz.isAgg3 (.obj 0 rfl rfl))) rfl rfl rfl rfl rfl ?_
 refine simL_valc (b := (((decide (x1_4 < (0 : Int))) || (decide ((4611686018427387904 : Int) < x1_4))) || (decide (x1_5 < (0 : Int)))) || (decide ((4611686018427387904 : Int) < x1_5))) (fun hb90v => RQ.sub (E' := [(43, .int .i64 x1_4)]) ⟨lk_cv rfl hb90v, trivial⟩ (q_eql rfl rfl rfl)) rfl rfl rfl rfl rfl ?_
 refine simL_valc (b := (((decide (x1_4 < (0 : Int))) || (decide ((4611686018427387904 : Int) < x1_4))) || (decide (x1_5 < (0 : Int)))) || (decide ((4611686018427387904 : Int) < x1_5))) (fun hb89v => RQ.sub (E' := [(3, .pointer (some ⟨b1v, 0, none⟩))]) ⟨rfl, trivial⟩ (q_fa rfl rfl Tryz.underlying45 rfl rfl Tryz.sizeOf3 rfl)) rfl rfl rfl rfl rfl ?_
 refine simL_valc (b := (((decide (x1_4 < (0 : Int))) || (decide ((4611686018427387904 : Int) < x1_4))) || (decide (x1_5 < (0 : Int)))) || (decide ((4611686018427387904 : Int) < x1_5))) (fun hb88v => RQ.sub (E' := [(45, .pointer (some ⟨b1v, 5, none⟩))]) ⟨lk_cv rfl hb88v, trivial⟩ (q_load rfl rfl Tryz.isAgg3 (.obj 0 rfl rfl))) rfl rfl rfl rfl rfl ?_
 refine simL_valc (b := (((decide (x1_4 < (0 : Int))) || (decide ((4611686018427387904 : Int) < x1_4))) || (decide (x1_5 < (0 : Int)))) || (decide ((4611686018427387904 : Int) < x1_5))) (fun hb87v => RQ.sub (E' := [(46, .int .i64 x1_5)]) ⟨lk_cv rfl hb87v, trivial⟩ (q_eql rfl rfl rfl)) rfl rfl rfl rfl rfl ?_
 refine simL_valc (b := (((decide (x1_4 < (0 : Int))) || (decide ((4611686018427387904 : Int) < x1_4))) || (decide (x1_5 < (0 : Int)))) || (decide ((4611686018427387904 : Int) < x1_5))) (fun hb86v => RQ.sub (E' := [(44, .bool (decide (x1_4 = (0 : Int)))), (47, .bool (decide (x1_5 = (0 : Int))))]) ⟨lk_cv rfl hb86v, lk_cv rfl hb86v, trivial⟩ (q_neb rfl rfl rfl Tryz.underlying4)) rfl rfl rfl rfl rfl ?_
 refine vq (q_or rfl rfl rfl) rfl (simL_nil (nrm_then ?_))
 refine sim_condb rfl (fun h11v => ?_) (fun h12v => ?_)
 refine sr ?_
 refine va rfl rfl (simL_nil (nrm_then (sim_rtn ?_)))
 refine rtn_then ?_
 exact rtn_fn () rfl rfl rfl (.sel 1 rfl (.sel 2 rfl (.sel 1 rfl (.sel 1 rfl (.nil _)))))
 refine sim_skip ?_
 refine nrm_then ?_
 refine sim_cutR (S := Unit) (Unit) (fun s y => [(0, .pointer (some ⟨bp0, 0, none⟩)), (3, .pointer (some ⟨b1v, 0, none⟩))]) (fun s y => [obj b1v 45 [.bool x1_0, .int .i64 x1_1, .int .i64 x1_2, .int .i64 x1_3, .int .i64 x1_4, .int .i64 x1_5, .slice a1_6 x1_6.length c1_6], obj bp1 97 [.map (some mp1_0), str xp1_1, .int .i64 xp1_2, .bool xp1_3], obj bp0 91 [.pointer (some ⟨bp1, 0, none⟩), .int .i64 xp0_1, .slice ap0_2 xp0_2.length cp0_2, .int .i64 xp0_3, .int .i64 xp0_4, .int .i64 xp0_5, .int .i64 xp0_6, .int .i64 xp0_7, .int .i64 xp0_8, .slice ap0_9 xp0_9.length cp0_9, .bool xp0_10], mapF (mapO mp1_0 enc9 encP qp1_0) FA109 qp1_0 xp1_0, F]) ?_ ?_
 refine sr ?_
 refine vq (q_fa rfl rfl Tryz.underlying45 rfl rfl Tryz.sizeOf32 rfl) rfl ?_
 refine vq (q_load rfl rfl Tryz.isAgg32 (.obj 0 rfl rfl)) rfl ?_
 refine vq (q_len rfl rfl rfl Tryz.underlying32) rfl ?_
 refine vm rfl rfl (simL_nil (nrm_then ?_))
 refine sim_block ?_
 refine sim_loop (S := Int) (Unit) (fun k s => wal_Wal_check_s.l0 x1_6 k s) (fun s y => [(0, .pointer (some ⟨bp0, 0, none⟩)), (3, .pointer (some ⟨b1v, 0, none⟩)), (51, .slice a1_6 x1_6.length c1_6), (52, .int .i64 (x1_6.length : Int)), (53, .int .i64 s)]) (fun s y => [obj b1v 45 [.bool x1_0, .int .i64 x1_1, .int .i64 x1_2, .int .i64 x1_3, .int .i64 x1_4, .int .i64 x1_5, .slice a1_6 x1_6.length c1_6], obj bp1 97 [.map (some mp1_0), str xp1_1, .int .i64 xp1_2, .bool xp1_3], obj bp0 91 [.pointer (some ⟨bp1, 0, none⟩), .int .i64 xp0_1, .slice ap0_2 xp0_2.length cp0_2, .int .i64 xp0_3, .int .i64 xp0_4, .int .i64 xp0_5, .int .i64 xp0_6, .int .i64 xp0_7, .int .i64 xp0_8, .slice ap0_9 xp0_9.length cp0_9, .bool xp0_10], mapF (mapO mp1_0 enc9 encP qp1_0) FA109 qp1_0 xp1_0, F]) (fun _ => by rw [wal_Wal_check_s.l0]) ?_ k 0 () ⟨rfl, rfl, rfl, rfl, rfl, trivial⟩ (.sel 0 rfl (.sel 0 rfl (.sel 0 rfl (.sel 0 rfl (.sel 0 rfl (.nil _))))))
 intro k s15v y16v
 refine sim_eq (by rw [wal_Wal_check_s.l0]) ?_
 refine sr ?_
 refine vq (q_lss rfl rfl rfl) rfl (simL_nil (nrm_then (sim_seq ?_)))
 refine sim_cond rfl (fun h18v => ?_) (fun h19v => ?_)
 refine sim_skip ?_
 refine nrm_then (sim_seq ?_)
 refine sim_block ?_
 refine sr ?_
 refine simL_ask (fun hi20v => ?_)
 obtain ⟨b21v, b21vo, r24v, ha22v, hV25v, hlr26v, hcell27v⟩ := RdV.pos h1_6 (Up.refl _) rfl (i := s15v.toNat) (by omega) dz35
 obtain ⟨a28v, c29v, rfl, ⟨he30v, hc31v, hm32v⟩⟩ := hV25v
 refine vq (q_idx rfl rfl rfl ha22v Tryz.underlying32 Tryz.sizeOf35 hi20v.1 hi20v.2) rfl ?_
 refine vq (q_loads rfl rfl Tryz.isAgg35 Tryz.sizeOf35 rfl (fun j v hj => hcell27v 4 rfl j v hj)) rfl ?_
 refine simL_eff (re_alloc rfl Tryz.zeroValue35 rfl) rfl rfl rfl ?_
 intro b33v
 refine simL_do (re_store 0 rfl rfl rfl Tryz.sizeOf35 rfl rfl (one_of (by rfl)) rfl rfl) rfl rfl ?_
 intro _
 refine nx ?_
 refine vq (q_build (v := .agg #[]) rfl rfl (fun _ => by kernel_rfl)) rfl ?_
 refine vq (q_loado 0 rfl rfl Tryz.isAgg35 Tryz.sizeOf35 rfl rfl) rfl ?_
 refine simL_bind (fun s34v hs35v => ?_)
 refine simL_eff (re_call (vs := [.agg #[], .agg #[.int .i64 ((x1_6.getD s15v.toNat dz35).1), .int .i64 ((x1_6.getD s15v.toNat dz35).2.1), .int .i64 ((x1_6.getD s15v.toNat dz35).2.2.1), .slice a28v (((x1_6.getD s15v.toNat dz35).2.2.2).length) c29v]]) (cap := []) (A := []) (rst := [obj b33v 35 [.int .i64 ((x1_6.getD s15v.toNat dz35).1), .int .i64 ((x1_6.getD s15v.toNat dz35).2.1), .int .i64 ((x1_6.getD s15v.toNat dz35).2.2.1), .slice a28v (((x1_6.getD s15v.toNat dz35).2.2.2).length) c29v], obj b1v 45 [.bool x1_0, .int .i64 x1_1, .int .i64 x1_2, .int .i64 x1_3, .int .i64 x1_4, .int .i64 x1_5, .slice a1_6 x1_6.length c1_6], obj bp1 97 [.map (some mp1_0), str xp1_1, .int .i64 xp1_2, .bool xp1_3], obj bp0 91 [.pointer (some ⟨bp1, 0, none⟩), .int .i64 xp0_1, .slice ap0_2 xp0_2.length cp0_2, .int .i64 xp0_3, .int .i64 xp0_4, .int .i64 xp0_5, .int .i64 xp0_6, .int .i64 xp0_7, .int .i64 xp0_8, .slice ap0_9 xp0_9.length cp0_9, .bool xp0_10], mapF (mapO mp1_0 enc9 encP qp1_0) FA109 qp1_0 xp1_0, F]) rfl rfl rfl rfl rfl rfl Tryz.call79 (.sel 0 rfl (.sel 0 rfl (.sel 0 rfl (.sel 0 rfl (.sel 0 rfl (.sel 0 rfl (.nil _))))))) (codec_Entries_Check.calls _ _ ((x1_6.getD s15v.toNat dz35).1) ((x1_6.getD s15v.toNat dz35).2.1) ((x1_6.getD s15v.toNat dz35).2.2.1) a28v c29v ((x1_6.getD s15v.toNat dz35).2.2.2) (he30v.lend 5 rfl) hc31v hm32v) hs35v) rfl rfl rfl ?_
 intro y36v
 refine va rfl rfl (nx ?_)
 refine vm rfl rfl ?_
 refine vq (q_neq rfl rfl rfl) rfl (simL_nil (nrm_then ?_))
 refine sim_condn rfl (fun h37v => ?_) (fun h38v => ?_)
 refine sim_skip ?_
 refine nrm_block (nrm_then (sim_region ?_))
 refine vq (q_add rfl rfl rfl) rfl ?_
 refine vm rfl rfl (simL_nil ?_)
 exact nrm_again (s := IntKind.i64.wrap (s15v + 1)) () ⟨rfl, rfl, rfl, rfl, rfl, trivial⟩ (.sel 1 rfl (.sel 1 rfl (.sel 1 rfl (.sel 1 rfl (.sel 1 rfl (.nil _))))))
 refine sr ?_
 refine vm rfl rfl ?_
 refine va rfl rfl (simL_nil (nrm_then (sim_rtn ?_)))
 refine rtn_block ?_
 refine rtn_then ?_
 refine rtn_loop ?_
 refine rtn_block ?_
 refine rtn_cutR ?_
 exact rtn_fn () rfl rfl rfl (.sel 2 rfl (.sel 3 rfl (.sel 2 rfl (.sel 2 rfl (.nil _)))))
 refine sim_exi ?_
 refine exi_then ?_
 refine exi_loop ?_
 refine exi_here ?_
 exact nrm_cutR (s := ()) () ⟨rfl, rfl, trivial⟩ (.sel 0 rfl (.sel 0 rfl (.sel 0 rfl (.sel 0 rfl (.sel 0 rfl (.nil _))))))
 intro s13v y14v
 refine sr ?_
 refine vm rfl rfl ?_
 refine vn rfl rfl ?_
 refine vq (q_fa rfl rfl Tryz.underlying91 rfl rfl Tryz.sizeOf89 rfl) rfl ?_
 refine vq (q_fa rfl rfl Tryz.underlying89 rfl rfl Tryz.sizeOf3 rfl) rfl ?_
 refine vq (q_load rfl rfl Tryz.isAgg3 (.obj 2 rfl rfl)) rfl ?_
 refine va rfl rfl (nx ?_)
 refine vm rfl rfl ?_
 refine vn rfl rfl ?_
 refine vq (q_fa rfl rfl Tryz.underlying91 rfl rfl Tryz.sizeOf89 rfl) rfl ?_
 refine simL_bind (fun s39v hs40v => ?_)
 refine simL_eff (re_call (vs := [.pointer (some ⟨bp0, 4, none⟩)]) (cap := []) (A := [obj bp1 97 [.map (some mp1_0), str xp1_1, .int .i64 xp1_2, .bool xp1_3], mapF (mapO mp1_0 enc9 encP qp1_0) FA109 qp1_0 xp1_0, obj bp0 91 [.pointer (some ⟨bp1, 0, none⟩), .int .i64 xp0_1, .slice ap0_2 xp0_2.length cp0_2, .int .i64 xp0_3, .int .i64 xp0_4, .int .i64 xp0_5, .int .i64 xp0_6, .int .i64 xp0_7, .int .i64 xp0_8, .slice ap0_9 xp0_9.length cp0_9, .bool xp0_10]]) (rst := [obj b1v 45 [.bool x1_0, .int .i64 x1_1, .int .i64 x1_2, .int .i64 x1_3, .int .i64 x1_4, .int .i64 x1_5, .slice a1_6 x1_6.length c1_6], F]) rfl rfl rfl rfl rfl rfl Tryz.call61 (.sel 1 rfl (.sel 2 rfl (.sel 1 rfl (.sel 0 rfl (.sel 0 rfl (.nil _)))))) (wal_story_last_s.calls _ _ bp0 bp1 mp1_0 qp1_0 xp1_0 xp1_1 xp1_2 xp1_3 xp0_1 ap0_2 cp0_2 xp0_2 xp0_3 xp0_4 xp0_5 xp0_6 xp0_7 xp0_8 ap0_9 cp0_9 xp0_9 xp0_10 (hp0_2.up (Up.lend 1 rfl) (fun _ _ h => h)) hcp0_2 hmp0_2 (hp0_9.up (Up.lend 1 rfl) (V144.up (Up.lend 1 rfl))) hcp0_9 hmp0_9) hs40v) rfl rfl rfl ?_
 intro y41v
 refine vm rfl rfl ?_
 refine vq (q_ext rfl rfl rfl) rfl ?_
 refine vq (q_ext rfl rfl rfl) rfl ?_
 refine va rfl rfl ?_
 refine va rfl rfl (simL_nil (nrm_then ?_))
 refine sim_cut (S := Int × Int) (Unit) (fun s y => [(3, .pointer (some ⟨b1v, 0, none⟩)), (9, .int .i64 s.1), (10, .int .i64 s.2)]) (fun s y => [obj bp1 97 [.map (some mp1_0), str xp1_1, .int .i64 xp1_2, .bool xp1_3], obj bp0 91 [.pointer (some ⟨bp1, 0, none⟩), .int .i64 xp0_1, .slice ap0_2 xp0_2.length cp0_2, .int .i64 xp0_3, .int .i64 xp0_4, .int .i64 xp0_5, .int .i64 xp0_6, .int .i64 xp0_7, .int .i64 xp0_8, .slice ap0_9 xp0_9.length cp0_9, .bool xp0_10], obj b1v 45 [.bool x1_0, .int .i64 x1_1, .int .i64 x1_2, .int .i64 x1_3, .int .i64 x1_4, .int .i64 x1_5, .slice a1_6 x1_6.length c1_6], mapF (mapO mp1_0 enc9 encP qp1_0) FA109 qp1_0 xp1_0, F]) ?_ ?_
 refine sim_seq ?_
 refine sim_bind (fun s44v hs45v => ?_)
 refine sim_draw (Γ := Unit) () [[], [0], [0, 1], [0, 1, 2], rL 4, rL 5, rL 6, rL 4, [0, 1, 2, 3, 7], rL 4, [0, 1, 2, 3, 9], rL 11, rL 12, rL 13] [] [0, 1, 2, 3, 4, 5, 6, 7, 8, 9, 10, 11, 12, 13] (fun i => [[0], [0], [0], [0], [0], [0], [0], [0], [0], [0], [0], [0], [0], [0]].getD i []) (fun i => [[], [], [], [], [], [], [], [], [], [], [], [], [], []].getD i []) (fun γ i => [.pointer (some ⟨b1v, 4, none⟩), .int .i64 x1_4, .bool (!decide (x1_4 = (0 : Int))), .bool (!decide (x1_4 = (0 : Int))), cv ((!decide (x1_4 = (0 : Int))) == true) (.pointer (some ⟨bp0, 0, none⟩)), cv ((!decide (x1_4 = (0 : Int))) == true) (.pointer (some ⟨bp0, 0, none⟩)), cv ((!decide (x1_4 = (0 : Int))) == true) (.pointer (some ⟨bp0, 4, none⟩)), cv ((!decide (x1_4 = (0 : Int))) == true) (.pointer (some ⟨b1v, 4, none⟩)), cv ((!decide (x1_4 = (0 : Int))) == true) (.int .i64 x1_4), cv ((!decide (x1_4 = (0 : Int))) == true) (.pointer (some ⟨b1v, 5, none⟩)), cv ((!decide (x1_4 = (0 : Int))) == true) (.int .i64 x1_5), cv ((!decide (x1_4 = (0 : Int))) == true) (.bool s44v), cv ((!decide (x1_4 = (0 : Int))) == true) (.bool (!s44v)), .bool ((!decide (x1_4 = (0 : Int))) && (!s44v))].getD i undef) (fun j γ => [[obj bp1 97 [.map (some mp1_0), str xp1_1, .int .i64 xp1_2, .bool xp1_3], mapF (mapO mp1_0 enc9 encP qp1_0) FA109 qp1_0 xp1_0, obj bp0 91 [.pointer (some ⟨bp1, 0, none⟩), .int .i64 xp0_1, .slice ap0_2 xp0_2.length cp0_2, .int .i64 xp0_3, .int .i64 xp0_4, .int .i64 xp0_5, .int .i64 xp0_6, .int .i64 xp0_7, .int .i64 xp0_8, .slice ap0_9 xp0_9.length cp0_9, .bool xp0_10], obj b1v 45 [.bool x1_0, .int .i64 x1_1, .int .i64 x1_2, .int .i64 x1_3, .int .i64 x1_4, .int .i64 x1_5, .slice a1_6 x1_6.length c1_6], F]].getD j []) (fun γ => [(3, .pointer (some ⟨b1v, 0, none⟩)), (9, .int .i64 xp0_7), (10, .int .i64 s39v.1), (89, .bool ((!decide (x1_4 = (0 : Int))) && (!s44v)))]) mixed (by decide) (by decide) (by decide) (by decide) (by decide) (by decide) (by decide) 114 rfl (by decide) (by decide) (by decide) (Ent.refl _) ?_ ?_ (fun _ => ⟨rfl, rfl, rfl, rfl, trivial⟩) ?_
 exact (aq rfl (fun γ => qp rfl rfl (.o (s := 3) rfl (by decide) .nil) (q_fa rfl rfl Tryz.underlying45 rfl rfl Tryz.sizeOf3 rfl) rfl) (aq rfl (fun γ => qp rfl rfl (.v 0 rfl rfl .nil) (q_load rfl rfl Tryz.isAgg3 (.obj 3 rfl rfl)) rfl) (aq rfl (fun γ => qp rfl rfl (.v 1 rfl rfl .nil) (q_neq rfl rfl rfl) rfl) (aq rfl (fun γ => qm rfl (.v 2 rfl rfl .nil) rfl) (aq rfl (fun γ => QOb.grd (b := !decide (x1_4 = (0 : Int))) [(0, .pointer (some ⟨bp0, 0, none⟩)), (79, .bool (!decide (x1_4 = (0 : Int))))] rfl rfl rfl rfl (.o (s := 0) rfl (by decide) (.v 3 rfl rfl .nil)) (fun hb47v => RQ.sub (E' := [(0, .pointer (some ⟨bp0, 0, none⟩))]) ⟨rfl, trivial⟩ (q_move rfl rfl)) rfl) (aq rfl (fun γ => QOb.grd (b := !decide (x1_4 = (0 : Int))) [(79, .bool (!decide (x1_4 = (0 : Int)))), (80, cv ((!decide (x1_4 = (0 : Int))) == true) (.pointer (some ⟨bp0, 0, none⟩)))] rfl rfl rfl rfl (.v 3 rfl rfl (.v 4 rfl rfl .nil)) (fun hb48v => RQ.sub (E' := [(80, .pointer (some ⟨bp0, 0, none⟩))]) ⟨lk_cv rfl hb48v, trivial⟩ (q_nil rfl rfl)) rfl) (aq rfl (fun γ => QOb.grd (b := !decide (x1_4 = (0 : Int))) [(79, .bool (!decide (x1_4 = (0 : Int)))), (81, cv ((!decide (x1_4 = (0 : Int))) == true) (.pointer (some ⟨bp0, 0, none⟩)))] rfl rfl rfl rfl (.v 3 rfl rfl (.v 5 rfl rfl .nil)) (fun hb49v => RQ.sub (E' := [(81, .pointer (some ⟨bp0, 0, none⟩))]) ⟨lk_cv rfl hb49v, trivial⟩ (q_fa rfl rfl Tryz.underlying91 rfl rfl Tryz.sizeOf89 rfl)) rfl) (aq rfl (fun γ => QOb.grd (b := !decide (x1_4 = (0 : Int))) [(3, .pointer (some ⟨b1v, 0, none⟩)), (79, .bool (!decide (x1_4 = (0 : Int))))] rfl rfl rfl rfl (.o (s := 3) rfl (by decide) (.v 3 rfl rfl .nil)) (fun hb50v => RQ.sub (E' := [(3, .pointer (some ⟨b1v, 0, none⟩))]) ⟨rfl, trivial⟩ (q_fa rfl rfl Tryz.underlying45 rfl rfl Tryz.sizeOf3 rfl)) rfl) (aq rfl (fun γ => QOb.grd (b := !decide (x1_4 = (0 : Int))) [(79, .bool (!decide (x1_4 = (0 : Int)))), (83, cv ((!decide (x1_4 = (0 : Int))) == true) (.pointer (some ⟨b1v, 4, none⟩)))] rfl rfl rfl rfl (.v 3 rfl rfl (.v 7 rfl rfl .nil)) (fun hb51v => RQ.sub (E' := [(83, .pointer (some ⟨b1v, 4, none⟩))]) ⟨lk_cv rfl hb51v, trivial⟩ (q_load rfl rfl Tryz.isAgg3 (.obj 3 rfl rfl))) rfl) (aq rfl (fun γ => QOb.grd (b := !decide (x1_4 = (0 : Int))) [(3, .pointer (some ⟨b1v, 0, none⟩)), (79, .bool (!decide (x1_4 = (0 : Int))))] rfl rfl rfl rfl (.o (s := 3) rfl (by decide) (.v 3 rfl rfl .nil)) (fun hb52v => RQ.sub (E' := [(3, .pointer (some ⟨b1v, 0, none⟩))]) ⟨rfl, trivial⟩ (q_fa rfl rfl Tryz.underlying45 rfl rfl Tryz.sizeOf3 rfl)) rfl) (aq rfl (fun γ => QOb.grd (b := !decide (x1_4 = (0 : Int))) [(79, .bool (!decide (x1_4 = (0 : Int)))), (85, cv ((!decide (x1_4 = (0 : Int))) == true) (.pointer (some ⟨b1v, 5, none⟩)))] rfl rfl rfl rfl (.v 3 rfl rfl (.v 9 rfl rfl .nil)) (fun hb53v => RQ.sub (E' := [(85, .pointer (some ⟨b1v, 5, none⟩))]) ⟨lk_cv rfl hb53v, trivial⟩ (q_load rfl rfl Tryz.isAgg3 (.obj 3 rfl rfl))) rfl) (aq rfl (fun γ => QOb.grd (b := !decide (x1_4 = (0 : Int))) [(79, .bool (!decide (x1_4 = (0 : Int)))), (82, cv ((!decide (x1_4 = (0 : Int))) == true) (.pointer (some ⟨bp0, 4, none⟩))), (84, cv ((!decide (x1_4 = (0 : Int))) == true) (.int .i64 x1_4)), (86, cv ((!decide (x1_4 = (0 : Int))) == true) (.int .i64 x1_5))] rfl rfl rfl rfl (.v 3 rfl rfl (.v 6 rfl rfl (.v 8 rfl rfl (.v 10 rfl rfl .nil)))) (fun hb54v => RQ.sub (E' := [(82, .pointer (some ⟨bp0, 4, none⟩)), (84, .int .i64 x1_4), (86, .int .i64 x1_5)]) ⟨lk_cv rfl hb54v, lk_cv rfl hb54v, lk_cv rfl hb54v, trivial⟩ (RE.rq (re_call (vs := [.pointer (some ⟨bp0, 4, none⟩), .int .i64 x1_4, .int .i64 x1_5]) (cap := []) (A := [obj bp1 97 [.map (some mp1_0), str xp1_1, .int .i64 xp1_2, .bool xp1_3], mapF (mapO mp1_0 enc9 encP qp1_0) FA109 qp1_0 xp1_0, obj bp0 91 [.pointer (some ⟨bp1, 0, none⟩), .int .i64 xp0_1, .slice ap0_2 xp0_2.length cp0_2, .int .i64 xp0_3, .int .i64 xp0_4, .int .i64 xp0_5, .int .i64 xp0_6, .int .i64 xp0_7, .int .i64 xp0_8, .slice ap0_9 xp0_9.length cp0_9, .bool xp0_10]]) (rst := [obj b1v 45 [.bool x1_0, .int .i64 x1_1, .int .i64 x1_2, .int .i64 x1_3, .int .i64 x1_4, .int .i64 x1_5, .slice a1_6 x1_6.length c1_6], F]) rfl rfl rfl rfl rfl rfl Tryz.call80 (.sel 0 rfl (.sel 0 rfl (.sel 0 rfl (.sel 0 rfl (.sel 0 rfl (.nil _)))))) (wal_story_has_s.calls _ _ bp0 bp1 mp1_0 qp1_0 xp1_0 xp1_1 xp1_2 xp1_3 xp0_1 ap0_2 cp0_2 xp0_2 xp0_3 xp0_4 xp0_5 xp0_6 xp0_7 xp0_8 ap0_9 cp0_9 xp0_9 xp0_10 x1_4 x1_5 (hp0_2.up (Up.lend 1 rfl) (fun _ _ h => h)) hcp0_2 hmp0_2 (hp0_9.up (Up.lend 1 rfl) (V144.up (Up.lend 1 rfl))) hcp0_9 hmp0_9) (by rw [if_pos hb54v] at hs45v; exact hs45v)) (fun _ => rfl) (fun _ => (.sel 0 rfl (.sel 0 rfl (.sel 0 rfl (.sel 0 rfl (.sel 0 rfl (.nil _))))))))) rfl) (aq rfl (fun γ => QOb.grd (b := !decide (x1_4 = (0 : Int))) [(79, .bool (!decide (x1_4 = (0 : Int)))), (87, cv ((!decide (x1_4 = (0 : Int))) == true) (.bool s44v))] rfl rfl rfl rfl (.v 3 rfl rfl (.v 11 rfl rfl .nil)) (fun hb55v => RQ.sub (E' := [(87, .bool s44v)]) ⟨lk_cv rfl hb55v, trivial⟩ (q_not rfl rfl)) rfl) (aq rfl (fun γ => qp rfl rfl (.v 3 rfl rfl (.v 12 rfl rfl .nil)) (q_and rfl rfl rfl) rfl) zA))))))))))))))
 exact zA
 intro g56v
 refine nrm_then ?_
 refine sim_condb rfl (fun h57v => ?_) (fun h58v => ?_)
 refine sim_draw (Γ := Unit) () [[], [0], [], [2], [0, 1], rL 5] [] [0, 1, 2, 3, 4, 5] (fun i => [[0], [0], [0], [0], [0], [0]].getD i []) (fun i => [[], [], [], [], [], []].getD i []) (fun γ i => [.pointer (some ⟨b1v, 4, none⟩), .int .i64 x1_4, .pointer (some ⟨b1v, 4, none⟩), .int .i64 x1_4, .int .i64 x1_4, .int .i64 x1_4].getD i undef) (fun j γ => [[obj bp1 97 [.map (some mp1_0), str xp1_1, .int .i64 xp1_2, .bool xp1_3], mapF (mapO mp1_0 enc9 encP qp1_0) FA109 qp1_0 xp1_0, obj bp0 91 [.pointer (some ⟨bp1, 0, none⟩), .int .i64 xp0_1, .slice ap0_2 xp0_2.length cp0_2, .int .i64 xp0_3, .int .i64 xp0_4, .int .i64 xp0_5, .int .i64 xp0_6, .int .i64 xp0_7, .int .i64 xp0_8, .slice ap0_9 xp0_9.length cp0_9, .bool xp0_10], obj b1v 45 [.bool x1_0, .int .i64 x1_1, .int .i64 x1_2, .int .i64 x1_3, .int .i64 x1_4, .int .i64 x1_5, .slice a1_6 x1_6.length c1_6], F]].getD j []) (fun γ => [(3, .pointer (some ⟨b1v, 0, none⟩)), (9, .int .i64 x1_4), (10, .int .i64 x1_4)]) mixed (by decide) (by decide) (by decide) (by decide) (by decide) (by decide) (by decide) 114 rfl (by decide) (by decide) (by decide) (Ent.refl _) ?_ ?_ (fun _ => ⟨rfl, rfl, rfl, trivial⟩) ?_
 exact (aq rfl (fun γ => qp rfl rfl (.o (s := 3) rfl (by decide) .nil) (q_fa rfl rfl Tryz.underlying45 rfl rfl Tryz.sizeOf3 rfl) rfl) (aq rfl (fun γ => qp rfl rfl (.v 0 rfl rfl .nil) (q_load rfl rfl Tryz.isAgg3 (.obj 3 rfl rfl)) rfl) (aq rfl (fun γ => qp rfl rfl (.o (s := 3) rfl (by decide) .nil) (q_fa rfl rfl Tryz.underlying45 rfl rfl Tryz.sizeOf3 rfl) rfl) (aq rfl (fun γ => qp rfl rfl (.v 2 rfl rfl .nil) (q_load rfl rfl Tryz.isAgg3 (.obj 3 rfl rfl)) rfl) (aq rfl (fun γ => qp rfl rfl (.v 1 rfl rfl .nil) (q_asg rfl rfl) rfl) (aq rfl (fun γ => qp rfl rfl (.v 3 rfl rfl .nil) (q_asg rfl rfl) rfl) zA))))))
 exact zA
 intro g59v
 exact nrm_cut (s := (x1_4, x1_4)) () ⟨rfl, rfl, rfl, trivial⟩ (.sel 0 rfl (.sel 1 rfl (.sel 1 rfl (.sel 0 rfl (.sel 0 rfl (.nil _))))))
 refine sim_skip ?_
 exact nrm_cut (s := (xp0_7, s39v.1)) () ⟨rfl, rfl, rfl, trivial⟩ (.sel 0 rfl (.sel 1 rfl (.sel 1 rfl (.sel 0 rfl (.sel 0 rfl (.nil _))))))
 intro s42v y43v
 refine sim_cutR (S := Unit) (Unit) (fun s y => []) (fun s y => [obj bp1 97 [.map (some mp1_0), str xp1_1, .int .i64 xp1_2, .bool xp1_3], obj bp0 91 [.pointer (some ⟨bp1, 0, none⟩), .int .i64 xp0_1, .slice ap0_2 xp0_2.length cp0_2, .int .i64 xp0_3, .int .i64 xp0_4, .int .i64 xp0_5, .int .i64 xp0_6, .int .i64 xp0_7, .int .i64 xp0_8, .slice ap0_9 xp0_9.length cp0_9, .bool xp0_10], mapF (mapO mp1_0 enc9 encP qp1_0) FA109 qp1_0 xp1_0, F]) ?_ ?_
 refine sr ?_
 refine vq (q_fa rfl rfl Tryz.underlying45 rfl rfl Tryz.sizeOf32 rfl) rfl ?_
 refine vq (q_load rfl rfl Tryz.isAgg32 (.obj 2 rfl rfl)) rfl ?_
 refine vq (q_len rfl rfl rfl Tryz.underlying32) rfl ?_
 refine vm rfl rfl (simL_nil (nrm_then ?_))
 refine sim_block ?_
 refine sim_loop (S := Int × Int × Int) (Unit) (fun k s => wal_Wal_check_s.l1 x1_6 k s.1 s.2.1 s.2.2) (fun s y => [(9, .int .i64 s.1), (10, .int .i64 s.2.1), (95, .slice a1_6 x1_6.length c1_6), (96, .int .i64 (x1_6.length : Int)), (97, .int .i64 s.2.2)]) (fun s y => [obj bp1 97 [.map (some mp1_0), str xp1_1, .int .i64 xp1_2, .bool xp1_3], obj bp0 91 [.pointer (some ⟨bp1, 0, none⟩), .int .i64 xp0_1, .slice ap0_2 xp0_2.length cp0_2, .int .i64 xp0_3, .int .i64 xp0_4, .int .i64 xp0_5, .int .i64 xp0_6, .int .i64 xp0_7, .int .i64 xp0_8, .slice ap0_9 xp0_9.length cp0_9, .bool xp0_10], mapF (mapO mp1_0 enc9 encP qp1_0) FA109 qp1_0 xp1_0, F]) (fun _ => by rw [wal_Wal_check_s.l1]) ?_ k (s42v.1, s42v.2, 0) () ⟨rfl, rfl, rfl, rfl, rfl, trivial⟩ (.sel 0 rfl (.sel 0 rfl (.sel 1 rfl (.sel 1 rfl (.nil _)))))
 intro k s62v y63v
 refine sim_eq (by rw [wal_Wal_check_s.l1]) ?_
 refine sr ?_
 refine vq (q_lss rfl rfl rfl) rfl (simL_nil (nrm_then (sim_seq ?_)))
 refine sim_cond rfl (fun h67v => ?_) (fun h68v => ?_)
 refine sim_skip ?_
 refine nrm_then (sim_seq ?_)
 refine sim_block ?_
 refine sr ?_
 refine simL_ask (fun hi69v => ?_)
 obtain ⟨b70v, b70vo, r73v, ha71v, hV74v, hlr75v, hcell76v⟩ := RdV.pos h1_6 (Up.refl _) rfl (i := s62v.2.2.toNat) (by omega) dz35
 obtain ⟨a77v, c78v, rfl, ⟨he79v, hc80v, hm81v⟩⟩ := hV74v
 refine vq (q_idx rfl rfl rfl ha71v Tryz.underlying32 Tryz.sizeOf35 hi69v.1 hi69v.2) rfl ?_
 refine vq (q_loads rfl rfl Tryz.isAgg35 Tryz.sizeOf35 rfl (fun j v hj => hcell76v 3 rfl j v hj)) rfl ?_
 refine simL_eff (re_alloc rfl Tryz.zeroValue35 rfl) rfl rfl rfl ?_
 intro b82v
 refine simL_do (re_store 0 rfl rfl rfl Tryz.sizeOf35 rfl rfl (one_of (by rfl)) rfl rfl) rfl rfl ?_
 intro _
 refine simL_nil (nrm_then (sim_seq (sr ?_)))
 refine vq (q_fa rfl rfl Tryz.underlying35 rfl rfl Tryz.sizeOf3 rfl) rfl ?_
 refine vq (q_load rfl rfl Tryz.isAgg3 (.obj 0 rfl rfl)) rfl ?_
 refine vm rfl rfl ?_
 refine vq (q_add rfl rfl rfl) rfl ?_
 refine vq (q_gtr rfl rfl rfl) rfl (simL_nil (nrm_then ?_))
 refine sim_cond rfl (fun h83v => ?_) (fun h84v => ?_)
 refine sr ?_
 refine va rfl rfl (simL_nil (nrm_then (sim_rtn ?_)))
 refine rtn_then ?_
 refine rtn_block ?_
 refine rtn_then ?_
 refine rtn_loop ?_
 refine rtn_block ?_
 refine rtn_cutR ?_
 exact rtn_fn () rfl rfl rfl (.sel 1 rfl (.sel 2 rfl (.sel 1 rfl (.sel 1 rfl (.nil _)))))
 refine sim_skip ?_
 refine nrm_then ?_
 refine sim_draw (Γ := Unit) () [[], [], [1], [1, 2], rL 4, [], [5], rL 5, rL 8] [] [0, 1, 2, 3, 4, 5, 6, 7, 8] (fun i => [[0], [0], [0], [0], [0], [0], [0], [0], [0]].getD i []) (fun i => [[], [], [], [], [], [], [], [], []].getD i []) (fun γ i => [.int .i64 s62v.1, .pointer (some ⟨b82v, 1, none⟩), .int .i64 ((x1_6.getD s62v.2.2.toNat dz35).2.1), .int .i64 (IntKind.i64.wrap (((x1_6.getD s62v.2.2.toNat dz35).2.1) - 1)), .int .i64 (min s62v.1 (IntKind.i64.wrap (((x1_6.getD s62v.2.2.toNat dz35).2.1) - 1))), .pointer (some ⟨b82v, 1, none⟩), .int .i64 ((x1_6.getD s62v.2.2.toNat dz35).2.1), .int .i64 (min s62v.1 (IntKind.i64.wrap (((x1_6.getD s62v.2.2.toNat dz35).2.1) - 1))), .int .i64 ((x1_6.getD s62v.2.2.toNat dz35).2.1)].getD i undef) (fun j γ => [[obj b82v 35 [.int .i64 ((x1_6.getD s62v.2.2.toNat dz35).1), .int .i64 ((x1_6.getD s62v.2.2.toNat dz35).2.1), .int .i64 ((x1_6.getD s62v.2.2.toNat dz35).2.2.1), .slice a77v (((x1_6.getD s62v.2.2.toNat dz35).2.2.2).length) c78v], obj bp1 97 [.map (some mp1_0), str xp1_1, .int .i64 xp1_2, .bool xp1_3], obj bp0 91 [.pointer (some ⟨bp1, 0, none⟩), .int .i64 xp0_1, .slice ap0_2 xp0_2.length cp0_2, .int .i64 xp0_3, .int .i64 xp0_4, .int .i64 xp0_5, .int .i64 xp0_6, .int .i64 xp0_7, .int .i64 xp0_8, .slice ap0_9 xp0_9.length cp0_9, .bool xp0_10], mapF (mapO mp1_0 enc9 encP qp1_0) FA109 qp1_0 xp1_0, F]].getD j []) (fun γ => [(9, .int .i64 (min s62v.1 (IntKind.i64.wrap (((x1_6.getD s62v.2.2.toNat dz35).2.1) - 1)))), (10, .int .i64 ((x1_6.getD s62v.2.2.toNat dz35).2.1)), (95, .slice a1_6 x1_6.length c1_6), (96, .int .i64 (x1_6.length : Int)), (97, .int .i64 s62v.2.2)]) mixed (by decide) (by decide) (by decide) (by decide) (by decide) (by decide) (by decide) 114 rfl (by decide) (by decide) (by decide) (Ent.refl _) ?_ ?_ (fun _ => ⟨rfl, rfl, rfl, rfl, rfl, trivial⟩) ?_
 exact (aq rfl (fun γ => qm rfl (.o (s := 9) rfl (by decide) .nil) rfl) (aq rfl (fun γ => qp rfl rfl (.o (s := 13) rfl (by decide) .nil) (q_fa rfl rfl Tryz.underlying35 rfl rfl Tryz.sizeOf3 rfl) rfl) (aq rfl (fun γ => qp rfl rfl (.v 1 rfl rfl .nil) (q_load rfl rfl Tryz.isAgg3 (.obj 0 rfl rfl)) rfl) (aq rfl (fun γ => qp rfl rfl (.v 2 rfl rfl .nil) (q_sub rfl rfl rfl) rfl) (aq rfl (fun γ => qp rfl rfl (.v 0 rfl rfl (.v 3 rfl rfl .nil)) (q_min rfl rfl rfl) rfl) (aq rfl (fun γ => qp rfl rfl (.o (s := 13) rfl (by decide) .nil) (q_fa rfl rfl Tryz.underlying35 rfl rfl Tryz.sizeOf3 rfl) rfl) (aq rfl (fun γ => qp rfl rfl (.v 5 rfl rfl .nil) (q_load rfl rfl Tryz.isAgg3 (.obj 0 rfl rfl)) rfl) (aq rfl (fun γ => qp rfl rfl (.v 4 rfl rfl .nil) (q_asg rfl rfl) rfl) (aq rfl (fun γ => qp rfl rfl (.v 6 rfl rfl .nil) (q_asg rfl rfl) rfl) zA)))))))))
 exact zA
 intro g85v
 refine nrm_block (nrm_then (sim_region ?_))
 refine vq (q_add rfl rfl rfl) rfl ?_
 refine vm rfl rfl (simL_nil ?_)
 exact nrm_again (s := (min s62v.1 (IntKind.i64.wrap (((x1_6.getD s62v.2.2.toNat dz35).2.1) - 1)), (x1_6.getD s62v.2.2.toNat dz35).2.1, IntKind.i64.wrap (s62v.2.2 + 1))) () ⟨rfl, rfl, rfl, rfl, rfl, trivial⟩ (.sel 1 rfl (.sel 1 rfl (.sel 1 rfl (.sel 1 rfl (.nil _)))))
 refine sim_exi ?_
 refine exi_then ?_
 refine exi_loop ?_
 refine exi_here ?_
 exact nrm_cutR (s := ()) () trivial (.sel 0 rfl (.sel 0 rfl (.sel 0 rfl (.sel 0 rfl (.nil _)))))
 intro s60v y61v
 refine sr ?_
 refine va rfl rfl (simL_nil (nrm_then (sim_rtn ?_)))
 exact rtn_fn () rfl rfl rfl (.sel 0 rfl (.sel 1 rfl (.sel 0 rfl (.sel 0 rfl (.nil _)))))

theorem wal_Wal_guarded_1.quiet (b0 b1 : Nat) : QuietD Tryz.prog 81 [.pointer (some ⟨b0, 0, none⟩), .pointer (some ⟨b1, 0, none⟩)] := by
  refine quietD_of 11 Tryz.func81 rfl Tryz.ntmps81 rfl (fun _ _ => rfl) rfl rfl rfl ((wal_caught_s.f).bind fun s1v => (if s1v = (0 : Int) then (some ()) else (none))) (by rfl) (fun W F => ?_)
  refine simL_bind (fun s1v hs2v => ?_)
  refine simL_eff (re_call (vs := [.nilIface]) (cap := []) (A := []) (rst := [F]) rfl rfl rfl rfl rfl rfl Tryz.call41 (.sel 0 rfl (.nil _)) (wal_caught_s.calls _ _  ) hs2v) rfl rfl rfl ?_
  intro y3v
  refine va rfl rfl ?_
  refine simL_nil ?_
  refine nrm_then ?_
  refine sim_seq ?_
  refine sim_region ?_
  refine vm rfl rfl ?_
  refine vq (q_neq rfl rfl rfl) rfl ?_
  refine simL_nil ?_
  refine nrm_then ?_
  refine sim_condn rfl (fun h4v => ?_) (fun h5v => ?_)
  refine sim_skip ?_
  exact nrm_fn () rfl rfl rfl (.sel 0 rfl (.nil _))
  exact sim_none

def wal_Wal_records_s.l0 (x1_6 : List (Ty35)) : Nat → List (Ty102) → Int → Option ((List (Ty102)))
  | 0, _, _ => none
  | k + 1, z53v, z54v => if z54v < (x1_6.length : Int) then (if 0 ≤ z54v ∧ z54v < (x1_6.length : Int) then ((slices_Clone__byte_byte.f ((x1_6.getD z54v.toNat dz35).2.2.2)).bind fun s71v => (if (z53v.length + ([((2 : Int), (0 : Int), (0 : Int), (0 : Int), (0 : Int), (0 : Int), (0 : Int), (x1_6.getD z54v.toNat dz35).1, (x1_6.getD z54v.toNat dz35).2.1, (x1_6.getD z54v.toNat dz35).2.2.1, s71v)] : List (Ty102)).length) * 104 ≤ 140737488355328 then (wal_Wal_records_s.l0 x1_6 k (z53v ++ ([((2 : Int), (0 : Int), (0 : Int), (0 : Int), (0 : Int), (0 : Int), (0 : Int), (x1_6.getD z54v.toNat dz35).1, (x1_6.getD z54v.toNat dz35).2.1, (x1_6.getD z54v.toNat dz35).2.2.1, s71v)] : List (Ty102))) (IntKind.i64.wrap (z54v + 1))) else none)) else none) else (some z53v)
def wal_Wal_records_s.f (k : Nat) (xp1_0 : List ((List UInt8) × (List UInt8 × Int))) (xp1_1 : List UInt8) (xp1_2 : Int) (xp1_3 : Bool) (xp0_1 : Int) (xp0_2 : List Int) (xp0_3 : Int) (xp0_4 : Int) (xp0_5 : Int) (xp0_6 : Int) (xp0_7 : Int) (xp0_8 : Int) (xp0_9 : List (Ty144)) (xp0_10 : Bool) (x1_0 : Bool) (x1_1 : Int) (x1_2 : Int) (x1_3 : Int) (x1_4 : Int) (x1_5 : Int) (x1_6 : List (Ty35)) : Option ((List (Ty102))) := ((if x1_0 = true then (some ((!decide (x1_1 = xp0_4)) || (!decide (x1_2 = xp0_5)))) else (some false)).bind fun s5v => (if s5v = true then (if ([((1 : Int), (0 : Int), x1_1, x1_2, xp0_6, (0 : Int), (0 : Int), (0 : Int), (0 : Int), (0 : Int), ([] : List UInt8))] : List (Ty102)).length * 104 ≤ 140737488355328 then (some ([((1 : Int), (0 : Int), x1_1, x1_2, xp0_6, (0 : Int), (0 : Int), (0 : Int), (0 : Int), (0 : Int), ([] : List UInt8))] : List (Ty102))) else none) else (some ([] : List (Ty102))))).bind fun s3v => (((if ((!decide (x1_4 = (0 : Int))) == true) = true then (wal_story_has_s.f xp1_0 xp1_1 xp1_2 xp1_3 xp0_1 xp0_2 xp0_3 xp0_4 xp0_5 xp0_6 xp0_7 xp0_8 xp0_9 xp0_10 x1_4 x1_5) else some false).bind fun s28v => (if ((!decide (x1_4 = (0 : Int))) && (!s28v)) = true then (if (s3v.length + ([((3 : Int), (0 : Int), (0 : Int), (0 : Int), (0 : Int), x1_4, x1_5, (0 : Int), (0 : Int), (0 : Int), ([] : List UInt8))] : List (Ty102)).length) * 104 ≤ 140737488355328 then (some (s3v ++ ([((3 : Int), (0 : Int), (0 : Int), (0 : Int), (0 : Int), x1_4, x1_5, (0 : Int), (0 : Int), (0 : Int), ([] : List UInt8))] : List (Ty102)))) else none) else (some s3v))).bind fun s24v => ((wal_Wal_records_s.l0 x1_6 k s24v 0).bind fun s49v => ((if (x1_0 && (!decide (x1_3 = xp0_6))) = true then (if (s49v.length + ([((1 : Int), (0 : Int), x1_1, x1_2, x1_3, (0 : Int), (0 : Int), (0 : Int), (0 : Int), (0 : Int), ([] : List UInt8))] : List (Ty102)).length) * 104 ≤ 140737488355328 then (some (s49v ++ ([((1 : Int), (0 : Int), x1_1, x1_2, x1_3, (0 : Int), (0 : Int), (0 : Int), (0 : Int), (0 : Int), ([] : List UInt8))] : List (Ty102)))) else none) else (some s49v)).bind fun s88v => (some s88v))))
theorem wal_Wal_records_s.calls (W : World) (F : HA) (k : Nat) (bp0 : Nat) (bp1 : Nat) (mp1_0 : Nat) (qp1_0 : Kps) (xp1_0 : List ((List UInt8) × (List UInt8 × Int))) (xp1_1 : List UInt8) (xp1_2 : Int) (xp1_3 : Bool) (xp0_1 : Int) (ap0_2 : Option Addr) (cp0_2 : Nat) (xp0_2 : List Int) (xp0_3 : Int) (xp0_4 : Int) (xp0_5 : Int) (xp0_6 : Int) (xp0_7 : Int) (xp0_8 : Int) (ap0_9 : Option Addr) (cp0_9 : Nat) (xp0_9 : List (Ty144)) (xp0_10 : Bool) (x1_0 : Bool) (x1_1 : Int) (x1_2 : Int) (x1_3 : Int) (x1_4 : Int) (x1_5 : Int) (a1_6 : Option Addr) (c1_6 : Nat) (x1_6 : List (Ty35)) (hp0_2 : RdV F 1 (V3 tt) ap0_2 xp0_2) (hcp0_2 : xp0_2.length ≤ cp0_2) (hmp0_2 : cp0_2 ≤ maxLen) (hp0_9 : RdV F 5 (V144 F) ap0_9 xp0_9) (hcp0_9 : xp0_9.length ≤ cp0_9) (hmp0_9 : cp0_9 ≤ maxLen) (h1_6 : RdV F 4 (V35 F) a1_6 x1_6) (hc1_6 : x1_6.length ≤ c1_6) (hm1_6 : c1_6 ≤ maxLen) :
    Fn Tryz.prog W 51 [.pointer (some ⟨bp0, 0, none⟩), .agg #[.bool x1_0, .int .i64 x1_1, .int .i64 x1_2, .int .i64 x1_3, .int .i64 x1_4, .int .i64 x1_5, .slice a1_6 x1_6.length c1_6]] [obj bp1 97 [.map (some mp1_0), str xp1_1, .int .i64 xp1_2, .bool xp1_3], mapF (mapO mp1_0 enc9 encP qp1_0) FA109 qp1_0 xp1_0, obj bp0 91 [.pointer (some ⟨bp1, 0, none⟩), .int .i64 xp0_1, .slice ap0_2 xp0_2.length cp0_2, .int .i64 xp0_3, .int .i64 xp0_4, .int .i64 xp0_5, .int .i64 xp0_6, .int .i64 xp0_7, .int .i64 xp0_8, .slice ap0_9 xp0_9.length cp0_9, .bool xp0_10]] F (wal_Wal_records_s.f k xp1_0 xp1_1 xp1_2 xp1_3 xp0_1 xp0_2 xp0_3 xp0_4 xp0_5 xp0_6 xp0_7 xp0_8 xp0_9 xp0_10 x1_0 x1_1 x1_2 x1_3 x1_4 x1_5 x1_6) (fun (r : (List (Ty102))) (y : Option Addr × Nat × HA) => .slice y.1 r.length y.2.1) (fun r y => [RowV 102 11 (V102 (y.2.2)) y.1 r y.2.1, y.2.2, obj bp1 97 [.map (some mp1_0), str xp1_1, .int .i64 xp1_2, .bool xp1_3], mapF (mapO mp1_0 enc9 encP qp1_0) FA109 qp1_0 xp1_0, obj bp0 91 [.pointer (some ⟨bp1, 0, none⟩), .int .i64 xp0_1, .slice ap0_2 xp0_2.length cp0_2, .int .i64 xp0_3, .int .i64 xp0_4, .int .i64 xp0_5, .int .i64 xp0_6, .int .i64 xp0_7, .int .i64 xp0_8, .slice ap0_9 xp0_9.length cp0_9, .bool xp0_10]]) := by
 unfold wal_Wal_records_s.f
 refine fn_intro 99 Tryz.func51 rfl Tryz.ntmps51 rfl ?_
 refine sr ?_
 refine simL_eff (re_box rfl rfl rfl) rfl rfl rfl ?_
 intro b1v
 refine va rfl rfl (nx ?_)
 refine va rfl rfl (nx ?_)
 refine vm rfl rfl ?_
 refine vn rfl rfl ?_
 refine vq (q_fa rfl rfl Tryz.underlying91 rfl rfl Tryz.sizeOf89 rfl) rfl ?_
 refine vq (q_fa rfl rfl Tryz.underlying89 rfl rfl Tryz.sizeOf43 rfl) rfl ?_
 refine vq (q_loads (vs := [.int .i64 xp0_4, .int .i64 xp0_5, .int .i64 xp0_6]) rfl rfl Tryz.isAgg43 Tryz.sizeOf43 rfl (cells_obj 3 rfl (cells_lit rfl))) rfl ?_
 refine simL_eff (re_alloc rfl Tryz.zeroValue43 rfl) rfl rfl rfl ?_
 intro b2v
 refine simL_do (re_store 0 rfl rfl rfl Tryz.sizeOf43 rfl rfl (one_of (by rfl)) rfl rfl) rfl rfl ?_
 intro _
 refine simL_nil (nrm_then ?_)
 refine sim_cut (S := (List (Ty102))) (Option Addr × Nat) (fun s y => [(0, .pointer (some ⟨bp0, 0, none⟩)), (3, .pointer (some ⟨b1v, 0, none⟩)), (5, .slice y.1 s.length y.2), (6, .pointer (some ⟨b2v, 0, none⟩))]) (fun s y => [obj b2v 43 [.int .i64 xp0_4, .int .i64 xp0_5, .int .i64 xp0_6], obj b1v 45 [.bool x1_0, .int .i64 x1_1, .int .i64 x1_2, .int .i64 x1_3, .int .i64 x1_4, .int .i64 x1_5, .slice a1_6 x1_6.length c1_6], obj bp1 97 [.map (some mp1_0), str xp1_1, .int .i64 xp1_2, .bool xp1_3], obj bp0 91 [.pointer (some ⟨bp1, 0, none⟩), .int .i64 xp0_1, .slice ap0_2 xp0_2.length cp0_2, .int .i64 xp0_3, .int .i64 xp0_4, .int .i64 xp0_5, .int .i64 xp0_6, .int .i64 xp0_7, .int .i64 xp0_8, .slice ap0_9 xp0_9.length cp0_9, .bool xp0_10], RowV 102 11 (V102 (tt)) y.1 s y.2, mapF (mapO mp1_0 enc9 encP qp1_0) FA109 qp1_0 xp1_0, tt, F]) ?_ ?_
 refine sr ?_
 refine vq (q_fa rfl rfl Tryz.underlying45 rfl rfl Tryz.sizeOf4 rfl) rfl ?_
 refine vq (q_load rfl rfl Tryz.isAgg4 (.obj 1 rfl rfl)) rfl ?_
 refine vm rfl rfl ?_
 refine simL_cut' 15 (S := Bool) (Unit) (fun s y => [(0, .pointer (some ⟨bp0, 0, none⟩)), (3, .pointer (some ⟨b1v, 0, none⟩)), (5, .slice none 0 0), (6, .pointer (some ⟨b2v, 0, none⟩)), (32, .bool s)]) (fun s y => [obj b2v 43 [.int .i64 xp0_4, .int .i64 xp0_5, .int .i64 xp0_6], obj b1v 45 [.bool x1_0, .int .i64 x1_1, .int .i64 x1_2, .int .i64 x1_3, .int .i64 x1_4, .int .i64 x1_5, .slice a1_6 x1_6.length c1_6], obj bp1 97 [.map (some mp1_0), str xp1_1, .int .i64 xp1_2, .bool xp1_3], obj bp0 91 [.pointer (some ⟨bp1, 0, none⟩), .int .i64 xp0_1, .slice ap0_2 xp0_2.length cp0_2, .int .i64 xp0_3, .int .i64 xp0_4, .int .i64 xp0_5, .int .i64 xp0_6, .int .i64 xp0_7, .int .i64 xp0_8, .slice ap0_9 xp0_9.length cp0_9, .bool xp0_10], mapF (mapO mp1_0 enc9 encP qp1_0) FA109 qp1_0 xp1_0, F]) ?_ ?_
 refine simL_caseb (fun hb13v => ?_) (fun hb14v => ?_)
 rw [hb13v]
 refine simL_valg (q_fa rfl rfl Tryz.underlying45 rfl rfl Tryz.sizeOf43 rfl) rfl rfl rfl rfl rfl rfl ?_
 refine simL_valg (q_fa rfl rfl Tryz.underlying43 rfl rfl Tryz.sizeOf3 rfl) rfl rfl rfl rfl rfl rfl ?_
 refine simL_valg (q_load rfl rfl Tryz.isAgg3 (.obj 1 rfl rfl)) rfl rfl rfl rfl rfl rfl ?_
 refine simL_valg (q_fa rfl rfl Tryz.underlying43 rfl rfl Tryz.sizeOf3 rfl) rfl rfl rfl rfl rfl rfl ?_
 refine simL_valg (q_load rfl rfl Tryz.isAgg3 (.obj 0 rfl rfl)) rfl rfl rfl rfl rfl rfl ?_
 refine simL_valg (q_neq rfl rfl rfl) rfl rfl rfl rfl rfl rfl ?_
 refine simL_valg (q_move rfl rfl) rfl rfl rfl rfl rfl rfl ?_
 refine simL_valc (b := !decide (x1_1 = xp0_4)) (fun hb12v => RQ.sub (E' := [(3, .pointer (some ⟨b1v, 0, none⟩))]) ⟨rfl, trivial⟩ (q_fa rfl rfl Tryz.underlying45 rfl rfl Tryz.sizeOf43 rfl)) rfl rfl rfl rfl rfl ?_
 refine simL_valc (b := !decide (x1_1 = xp0_4)) (fun hb11v => RQ.sub (E' := [(25, .pointer (some ⟨b1v, 1, none⟩))]) ⟨lk_cv rfl hb11v, trivial⟩ (q_fa rfl rfl Tryz.underlying43 rfl rfl Tryz.sizeOf3 rfl)) rfl rfl rfl rfl rfl ?_
 refine simL_valc (b := !decide (x1_1 = xp0_4)) (fun hb10v => RQ.sub (E' := [(26, .pointer (some ⟨b1v, 2, none⟩))]) ⟨lk_cv rfl hb10v, trivial⟩ (q_load rfl rfl Tryz.isAgg3 (.obj 1 rfl rfl))) rfl rfl rfl rfl rfl ?_
 refine simL_valc (b := !decide (x1_1 = xp0_4)) (fun hb9v => RQ.sub (E' := [(6, .pointer (some ⟨b2v, 0, none⟩))]) ⟨rfl, trivial⟩ (q_fa rfl rfl Tryz.underlying43 rfl rfl Tryz.sizeOf3 rfl)) rfl rfl rfl rfl rfl ?_
 refine simL_valc (b := !decide (x1_1 = xp0_4)) (fun hb8v => RQ.sub (E' := [(28, .pointer (some ⟨b2v, 1, none⟩))]) ⟨lk_cv rfl hb8v, trivial⟩ (q_load rfl rfl Tryz.isAgg3 (.obj 0 rfl rfl))) rfl rfl rfl rfl rfl ?_
 refine simL_valc (b := !decide (x1_1 = xp0_4)) (fun hb7v => RQ.sub (E' := [(27, .int .i64 x1_2), (29, .int .i64 xp0_5)]) ⟨lk_cv rfl hb7v, lk_cv rfl hb7v, trivial⟩ (q_neq rfl rfl rfl)) rfl rfl rfl rfl rfl ?_
 refine simL_valg (q_or rfl rfl rfl) rfl rfl rfl rfl rfl rfl ?_
 refine vq (q_pick rfl rfl rfl rfl rfl) rfl (simL_nil ?_)
 exact nrm_cut (s := (!decide (x1_1 = xp0_4)) || (!decide (x1_2 = xp0_5))) () ⟨rfl, rfl, rfl, rfl, rfl, trivial⟩ (.sel 0 rfl (.sel 0 rfl (.sel 0 rfl (.sel 1 rfl (.sel 0 rfl (.sel 0 rfl (.nil _)))))))
 rw [hb14v]
 refine simL_skipd rfl rfl rfl rfl rfl rfl ?_
 refine simL_skipd rfl rfl rfl rfl rfl rfl ?_
 refine simL_skipd rfl rfl rfl rfl rfl rfl ?_
 refine simL_skipd rfl rfl rfl rfl rfl rfl ?_
 refine simL_skipd rfl rfl rfl rfl rfl rfl ?_
 refine simL_skipd rfl rfl rfl rfl rfl rfl ?_
 refine simL_skipd rfl rfl rfl rfl rfl rfl ?_
 refine simL_skipu rfl rfl rfl rfl rfl ?_
 refine simL_skipu rfl rfl rfl rfl rfl ?_
 refine simL_skipu rfl rfl rfl rfl rfl ?_
 refine simL_skipu rfl rfl rfl rfl rfl ?_
 refine simL_skipu rfl rfl rfl rfl rfl ?_
 refine simL_skipu rfl rfl rfl rfl rfl ?_
 refine simL_skipd rfl rfl rfl rfl rfl rfl ?_
 refine vq (q_pick rfl rfl rfl rfl rfl) rfl (simL_nil ?_)
 exact nrm_cut (s := false) () ⟨rfl, rfl, rfl, rfl, rfl, trivial⟩ (.sel 0 rfl (.sel 0 rfl (.sel 0 rfl (.sel 1 rfl (.sel 0 rfl (.sel 0 rfl (.nil _)))))))
 intro s5v y6v
 refine simL_nil (nrm_then ?_)
 refine sim_condb rfl (fun h15v => ?_) (fun h16v => ?_)
 refine sr ?_
 refine vq (q_fa rfl rfl Tryz.underlying45 rfl rfl Tryz.sizeOf43 rfl) rfl ?_
 refine vq (q_loads (vs := [.int .i64 x1_1, .int .i64 x1_2, .int .i64 x1_3]) rfl rfl Tryz.isAgg43 Tryz.sizeOf43 rfl (cells_obj 1 rfl (cells_lit rfl))) rfl ?_
 refine simL_eff (re_alloc rfl Tryz.zeroValue43 rfl) rfl rfl rfl ?_
 intro b17v
 refine simL_do (re_store 0 rfl rfl rfl Tryz.sizeOf43 rfl rfl (one_of (by rfl)) rfl rfl) rfl rfl ?_
 intro _
 refine nx ?_
 refine vq (q_fa rfl rfl Tryz.underlying43 rfl rfl Tryz.sizeOf3 rfl) rfl ?_
 refine vq (q_load rfl rfl Tryz.isAgg3 (.obj 1 rfl rfl)) rfl ?_
 refine vq (q_fa rfl rfl Tryz.underlying43 rfl rfl Tryz.sizeOf3 rfl) rfl ?_
 refine simL_do (re_store 0 rfl rfl rfl Tryz.sizeOf3 rfl rfl (one_of (by rfl)) rfl rfl) rfl rfl ?_
 intro _
 refine ny ?_
 refine vm rfl rfl ?_
 refine vq (q_loado 0 rfl rfl Tryz.isAgg43 Tryz.sizeOf43 rfl rfl) rfl ?_
 refine vq (q_build (v := .agg #[.int .i64 1, .int .i64 0, .int .i64 x1_1, .int .i64 x1_2, .int .i64 xp0_6, .int .i64 0, .int .i64 0, .int .i64 0, .int .i64 0, .int .i64 0, .slice none 0 0]) rfl rfl (fun _ => by kernel_rfl)) rfl ?_
 have hlb19v : ListV 11 (V102 (tt)) ([((1 : Int), (0 : Int), x1_1, x1_2, xp0_6, (0 : Int), (0 : Int), (0 : Int), (0 : Int), (0 : Int), ([] : List UInt8))] : List (Ty102)) [[.int .i64 1, .int .i64 0, .int .i64 x1_1, .int .i64 x1_2, .int .i64 xp0_6, .int .i64 0, .int .i64 0, .int .i64 0, .int .i64 0, .int .i64 0, .slice none 0 0]] := ⟨⟨rfl, one_of (by rfl), ⟨none, 0, rfl, ⟨Rd.nil _ _, Nat.le_refl _, Nat.zero_le _⟩⟩⟩, trivial⟩
 refine simL_eff (re_litV (V := (V102 (tt))) (xs := ([((1 : Int), (0 : Int), x1_1, x1_2, xp0_6, (0 : Int), (0 : Int), (0 : Int), (0 : Int), (0 : Int), ([] : List UInt8))] : List (Ty102))) [[.int .i64 1, .int .i64 0, .int .i64 x1_1, .int .i64 x1_2, .int .i64 xp0_6, .int .i64 0, .int .i64 0, .int .i64 0, .int .i64 0, .int .i64 0, .slice none 0 0]] rfl rfl Tryz.underlying99 elt102 rfl (by kernel_rfl) rfl hlb19v rfl rfl) rfl rfl rfl ?_
 intro b19v
 refine simL_ask (fun hb23v => ?_)
 refine simL_eff (re_append0V (V := (V102 (tt))) rfl rfl rfl Tryz.underlying99 elt102 (RdsV.row hlb19v 0 rfl) hb23v) rfl rfl rfl ?_
 intro y22v
 refine va rfl rfl (simL_nil ?_)
 exact nrm_cut (s := ([((1 : Int), (0 : Int), x1_1, x1_2, xp0_6, (0 : Int), (0 : Int), (0 : Int), (0 : Int), (0 : Int), ([] : List UInt8))] : List (Ty102))) (y22v.1, y22v.2) ⟨rfl, rfl, rfl, rfl, trivial⟩ (.sel 3 rfl (.sel 3 rfl (.sel 3 rfl (.sel 3 rfl (.sel 0 rfl (.sel 2 rfl (.tt_in (.sel 2 rfl (.nil _)))))))))
 refine sim_skip ?_
 exact nrm_cut (s := ([] : List (Ty102))) (none, 0) ⟨rfl, rfl, rfl, rfl, trivial⟩ (.sel 0 rfl (.sel 0 rfl (.sel 0 rfl (.sel 0 rfl (.rowV_nil (.sel 0 rfl (.tt_in (.sel 0 rfl (.nil _)))))))))
 intro s3v y4v
 refine sim_cut (S := (List (Ty102))) (Option Addr × Nat) (fun s y => [(3, .pointer (some ⟨b1v, 0, none⟩)), (5, .slice y.1 s.length y.2), (6, .pointer (some ⟨b2v, 0, none⟩))]) (fun s y => [obj b2v 43 [.int .i64 xp0_4, .int .i64 xp0_5, .int .i64 xp0_6], obj b1v 45 [.bool x1_0, .int .i64 x1_1, .int .i64 x1_2, .int .i64 x1_3, .int .i64 x1_4, .int .i64 x1_5, .slice a1_6 x1_6.length c1_6], obj bp1 97 [.map (some mp1_0), str xp1_1, .int .i64 xp1_2, .bool xp1_3], obj bp0 91 [.pointer (some ⟨bp1, 0, none⟩), .int .i64 xp0_1, .slice ap0_2 xp0_2.length cp0_2, .int .i64 xp0_3, .int .i64 xp0_4, .int .i64 xp0_5, .int .i64 xp0_6, .int .i64 xp0_7, .int .i64 xp0_8, .slice ap0_9 xp0_9.length cp0_9, .bool xp0_10], RowV 102 11 (V102 (tt)) y.1 s y.2, mapF (mapO mp1_0 enc9 encP qp1_0) FA109 qp1_0 xp1_0, tt, F]) ?_ ?_
 refine sim_seq ?_
 refine sim_openV 4 rfl (fun rs26v hl27v => ?_)
 refine sim_bind (fun s28v hs29v => ?_)
 refine sim_draw (Γ := Unit) () [[], [0], [0, 1], [0, 1, 2], rL 4, rL 5, rL 6, rL 4, [0, 1, 2, 3, 7], rL 4, [0, 1, 2, 3, 9], rL 11, rL 12, rL 13] [] [0, 1, 2, 3, 4, 5, 6, 7, 8, 9, 10, 11, 12, 13] (fun i => [[0], [0], [0], [0], [0], [0], [0], [0], [0], [0], [0], [0], [0], [0]].getD i []) (fun i => [[], [], [], [], [], [], [], [], [], [], [], [], [], []].getD i []) (fun γ i => [.pointer (some ⟨b1v, 4, none⟩), .int .i64 x1_4, .bool (!decide (x1_4 = (0 : Int))), .bool (!decide (x1_4 = (0 : Int))), cv ((!decide (x1_4 = (0 : Int))) == true) (.pointer (some ⟨bp0, 0, none⟩)), cv ((!decide (x1_4 = (0 : Int))) == true) (.pointer (some ⟨bp0, 0, none⟩)), cv ((!decide (x1_4 = (0 : Int))) == true) (.pointer (some ⟨bp0, 4, none⟩)), cv ((!decide (x1_4 = (0 : Int))) == true) (.pointer (some ⟨b1v, 4, none⟩)), cv ((!decide (x1_4 = (0 : Int))) == true) (.int .i64 x1_4), cv ((!decide (x1_4 = (0 : Int))) == true) (.pointer (some ⟨b1v, 5, none⟩)), cv ((!decide (x1_4 = (0 : Int))) == true) (.int .i64 x1_5), cv ((!decide (x1_4 = (0 : Int))) == true) (.bool s28v), cv ((!decide (x1_4 = (0 : Int))) == true) (.bool (!s28v)), .bool ((!decide (x1_4 = (0 : Int))) && (!s28v))].getD i undef) (fun j γ => [[obj b2v 43 [.int .i64 xp0_4, .int .i64 xp0_5, .int .i64 xp0_6], obj b1v 45 [.bool x1_0, .int .i64 x1_1, .int .i64 x1_2, .int .i64 x1_3, .int .i64 x1_4, .int .i64 x1_5, .slice a1_6 x1_6.length c1_6], obj bp1 97 [.map (some mp1_0), str xp1_1, .int .i64 xp1_2, .bool xp1_3], obj bp0 91 [.pointer (some ⟨bp1, 0, none⟩), .int .i64 xp0_1, .slice ap0_2 xp0_2.length cp0_2, .int .i64 xp0_3, .int .i64 xp0_4, .int .i64 xp0_5, .int .i64 xp0_6, .int .i64 xp0_7, .int .i64 xp0_8, .slice ap0_9 xp0_9.length cp0_9, .bool xp0_10], Row 102 11 y4v.1 s3v.length y4v.2 rs26v.flatten, mapF (mapO mp1_0 enc9 encP qp1_0) FA109 qp1_0 xp1_0, tt, F]].getD j []) (fun γ => [(3, .pointer (some ⟨b1v, 0, none⟩)), (5, .slice y4v.1 s3v.length y4v.2), (6, .pointer (some ⟨b2v, 0, none⟩)), (56, .bool ((!decide (x1_4 = (0 : Int))) && (!s28v)))]) mixed (by decide) (by decide) (by decide) (by decide) (by decide) (by decide) (by decide) 99 rfl (by decide) (by decide) (by decide) (Ent.refl _) ?_ ?_ (fun _ => ⟨rfl, rfl, rfl, rfl, trivial⟩) ?_
 exact (aq rfl (fun γ => qp rfl rfl (.o (s := 3) rfl (by decide) .nil) (q_fa rfl rfl Tryz.underlying45 rfl rfl Tryz.sizeOf3 rfl) rfl) (aq rfl (fun γ => qp rfl rfl (.v 0 rfl rfl .nil) (q_load rfl rfl Tryz.isAgg3 (.obj 1 rfl rfl)) rfl) (aq rfl (fun γ => qp rfl rfl (.v 1 rfl rfl .nil) (q_neq rfl rfl rfl) rfl) (aq rfl (fun γ => qm rfl (.v 2 rfl rfl .nil) rfl) (aq rfl (fun γ => QOb.grd (b := !decide (x1_4 = (0 : Int))) [(0, .pointer (some ⟨bp0, 0, none⟩)), (46, .bool (!decide (x1_4 = (0 : Int))))] rfl rfl rfl rfl (.o (s := 0) rfl (by decide) (.v 3 rfl rfl .nil)) (fun hb31v => RQ.sub (E' := [(0, .pointer (some ⟨bp0, 0, none⟩))]) ⟨rfl, trivial⟩ (q_move rfl rfl)) rfl) (aq rfl (fun γ => QOb.grd (b := !decide (x1_4 = (0 : Int))) [(46, .bool (!decide (x1_4 = (0 : Int)))), (47, cv ((!decide (x1_4 = (0 : Int))) == true) (.pointer (some ⟨bp0, 0, none⟩)))] rfl rfl rfl rfl (.v 3 rfl rfl (.v 4 rfl rfl .nil)) (fun hb32v => RQ.sub (E' := [(47, .pointer (some ⟨bp0, 0, none⟩))]) ⟨lk_cv rfl hb32v, trivial⟩ (q_nil rfl rfl)) rfl) (aq rfl (fun γ => QOb.grd (b := !decide (x1_4 = (0 : Int))) [(46, .bool (!decide (x1_4 = (0 : Int)))), (48, cv ((!decide (x1_4 = (0 : Int))) == true) (.pointer (some ⟨bp0, 0, none⟩)))] rfl rfl rfl rfl (.v 3 rfl rfl (.v 5 rfl rfl .nil)) (fun hb33v => RQ.sub (E' := [(48, .pointer (some ⟨bp0, 0, none⟩))]) ⟨lk_cv rfl hb33v, trivial⟩ (q_fa rfl rfl Tryz.underlying91 rfl rfl Tryz.sizeOf89 rfl)) rfl) (aq rfl (fun γ => QOb.grd (b := !decide (x1_4 = (0 : Int))) [(3, .pointer (some ⟨b1v, 0, none⟩)), (46, .bool (!decide (x1_4 = (0 : Int))))] rfl rfl rfl rfl (.o (s := 3) rfl (by decide) (.v 3 rfl rfl .nil)) (fun hb34v => RQ.sub (E' := [(3, .pointer (some ⟨b1v, 0, none⟩))]) ⟨rfl, trivial⟩ (q_fa rfl rfl Tryz.underlying45 rfl rfl Tryz.sizeOf3 rfl)) rfl) (aq rfl (fun γ => QOb.grd (b := !decide (x1_4 = (0 : Int))) [(46, .bool (!decide (x1_4 = (0 : Int)))), (50, cv ((!decide (x1_4 = (0 : Int))) == true) (.pointer (some ⟨b1v, 4, none⟩)))] rfl rfl rfl rfl (.v 3 rfl rfl (.v 7 rfl rfl .nil)) (fun hb35v => RQ.sub (E' := [(50, .pointer (some ⟨b1v, 4, none⟩))]) ⟨lk_cv rfl hb35v, trivial⟩ (q_load rfl rfl Tryz.isAgg3 (.obj 1 rfl rfl))) rfl) (aq rfl (fun γ => QOb.grd (b := !decide (x1_4 = (0 : Int))) [(3, .pointer (some ⟨b1v, 0, none⟩)), (46, .bool (!decide (x1_4 = (0 : Int))))] rfl rfl rfl rfl (.o (s := 3) rfl (by decide) (.v 3 rfl rfl .nil)) (fun hb36v => RQ.sub (E' := [(3, .pointer (some ⟨b1v, 0, none⟩))]) ⟨rfl, trivial⟩ (q_fa rfl rfl Tryz.underlying45 rfl rfl Tryz.sizeOf3 rfl)) rfl) (aq rfl (fun γ => QOb.grd (b := !decide (x1_4 = (0 : Int))) [(46, .bool (!decide (x1_4 = (0 : Int)))), (52, cv ((!decide (x1_4 = (0 : Int))) == true) (.pointer (some ⟨b1v, 5, none⟩)))] rfl rfl rfl rfl (.v 3 rfl rfl (.v 9 rfl rfl .nil)) (fun hb37v => RQ.sub (E' := [(52, .pointer (some ⟨b1v, 5, none⟩))]) ⟨lk_cv rfl hb37v, trivial⟩ (q_load rfl rfl Tryz.isAgg3 (.obj 1 rfl rfl))) rfl) (aq rfl (fun γ => QOb.grd (b := !decide (x1_4 = (0 : Int))) [(46, .bool (!decide (x1_4 = (0 : Int)))), (49, cv ((!decide (x1_4 = (0 : Int))) == true) (.pointer (some ⟨bp0, 4, none⟩))), (51, cv ((!decide (x1_4 = (0 : Int))) == true) (.int .i64 x1_4)), (53, cv ((!decide (x1_4 = (0 : Int))) == true) (.int .i64 x1_5))] rfl rfl rfl rfl (.v 3 rfl rfl (.v 6 rfl rfl (.v 8 rfl rfl (.v 10 rfl rfl .nil)))) (fun hb38v => RQ.sub (E' := [(49, .pointer (some ⟨bp0, 4, none⟩)), (51, .int .i64 x1_4), (53, .int .i64 x1_5)]) ⟨lk_cv rfl hb38v, lk_cv rfl hb38v, lk_cv rfl hb38v, trivial⟩ (RE.rq (re_call (vs := [.pointer (some ⟨bp0, 4, none⟩), .int .i64 x1_4, .int .i64 x1_5]) (cap := []) (A := [obj bp1 97 [.map (some mp1_0), str xp1_1, .int .i64 xp1_2, .bool xp1_3], mapF (mapO mp1_0 enc9 encP qp1_0) FA109 qp1_0 xp1_0, obj bp0 91 [.pointer (some ⟨bp1, 0, none⟩), .int .i64 xp0_1, .slice ap0_2 xp0_2.length cp0_2, .int .i64 xp0_3, .int .i64 xp0_4, .int .i64 xp0_5, .int .i64 xp0_6, .int .i64 xp0_7, .int .i64 xp0_8, .slice ap0_9 xp0_9.length cp0_9, .bool xp0_10]]) (rst := [obj b2v 43 [.int .i64 xp0_4, .int .i64 xp0_5, .int .i64 xp0_6], obj b1v 45 [.bool x1_0, .int .i64 x1_1, .int .i64 x1_2, .int .i64 x1_3, .int .i64 x1_4, .int .i64 x1_5, .slice a1_6 x1_6.length c1_6], Row 102 11 y4v.1 s3v.length y4v.2 rs26v.flatten, tt, F]) rfl rfl rfl rfl rfl rfl Tryz.call80 (.sel 2 rfl (.sel 4 rfl (.sel 2 rfl (.sel 0 rfl (.sel 0 rfl (.sel 0 rfl (.tt_in (.sel 1 rfl (.nil _))))))))) (wal_story_has_s.calls _ _ bp0 bp1 mp1_0 qp1_0 xp1_0 xp1_1 xp1_2 xp1_3 xp0_1 ap0_2 cp0_2 xp0_2 xp0_3 xp0_4 xp0_5 xp0_6 xp0_7 xp0_8 ap0_9 cp0_9 xp0_9 xp0_10 x1_4 x1_5 (hp0_2.up (Up.lend 4 rfl) (fun _ _ h => h)) hcp0_2 hmp0_2 (hp0_9.up (Up.lend 4 rfl) (V144.up (Up.lend 4 rfl))) hcp0_9 hmp0_9) (by rw [if_pos hb38v] at hs29v; exact hs29v)) (fun _ => rfl) (fun _ => (.sel 3 rfl (.sel 3 rfl (.sel 0 rfl (.sel 1 rfl (.sel 1 rfl (.sel 0 rfl (.tt_in (.sel 1 rfl (.nil _)))))))))))) rfl) (aq rfl (fun γ => QOb.grd (b := !decide (x1_4 = (0 : Int))) [(46, .bool (!decide (x1_4 = (0 : Int)))), (54, cv ((!decide (x1_4 = (0 : Int))) == true) (.bool s28v))] rfl rfl rfl rfl (.v 3 rfl rfl (.v 11 rfl rfl .nil)) (fun hb39v => RQ.sub (E' := [(54, .bool s28v)]) ⟨lk_cv rfl hb39v, trivial⟩ (q_not rfl rfl)) rfl) (aq rfl (fun γ => qp rfl rfl (.v 3 rfl rfl (.v 12 rfl rfl .nil)) (q_and rfl rfl rfl) rfl) zA))))))))))))))
 exact zA
 intro g40v
 refine nrm_then ?_
 refine sim_condb rfl (fun h41v => ?_) (fun h42v => ?_)
 refine sim_region ?_
 refine vm rfl rfl ?_
 refine vq (q_fa rfl rfl Tryz.underlying45 rfl rfl Tryz.sizeOf3 rfl) rfl ?_
 refine vq (q_load rfl rfl Tryz.isAgg3 (.obj 1 rfl rfl)) rfl ?_
 refine vq (q_fa rfl rfl Tryz.underlying45 rfl rfl Tryz.sizeOf3 rfl) rfl ?_
 refine vq (q_load rfl rfl Tryz.isAgg3 (.obj 1 rfl rfl)) rfl ?_
 refine vq (q_build (v := .agg #[.int .i64 3, .int .i64 0, .int .i64 0, .int .i64 0, .int .i64 0, .int .i64 x1_4, .int .i64 x1_5, .int .i64 0, .int .i64 0, .int .i64 0, .slice none 0 0]) rfl rfl (fun _ => by kernel_rfl)) rfl ?_
 have hlb44v : ListV 11 (V102 (tt)) ([((3 : Int), (0 : Int), (0 : Int), (0 : Int), (0 : Int), x1_4, x1_5, (0 : Int), (0 : Int), (0 : Int), ([] : List UInt8))] : List (Ty102)) [[.int .i64 3, .int .i64 0, .int .i64 0, .int .i64 0, .int .i64 0, .int .i64 x1_4, .int .i64 x1_5, .int .i64 0, .int .i64 0, .int .i64 0, .slice none 0 0]] := ⟨⟨rfl, one_of (by rfl), ⟨none, 0, rfl, ⟨Rd.nil _ _, Nat.le_refl _, Nat.zero_le _⟩⟩⟩, trivial⟩
 refine simL_eff (re_litV (V := (V102 (tt))) (xs := ([((3 : Int), (0 : Int), (0 : Int), (0 : Int), (0 : Int), x1_4, x1_5, (0 : Int), (0 : Int), (0 : Int), ([] : List UInt8))] : List (Ty102))) [[.int .i64 3, .int .i64 0, .int .i64 0, .int .i64 0, .int .i64 0, .int .i64 x1_4, .int .i64 x1_5, .int .i64 0, .int .i64 0, .int .i64 0, .slice none 0 0]] rfl rfl Tryz.underlying99 elt102 rfl (by kernel_rfl) rfl hlb44v rfl rfl) rfl rfl rfl ?_
 intro b44v
 refine simL_ask (fun hb48v => ?_)
 refine simL_eff (re_appendV 5 rfl rfl rfl Tryz.underlying99 elt102 rfl hl27v (RdsV.row hlb44v 0 rfl) hb48v) rfl rfl rfl ?_
 intro y47v
 refine va rfl rfl (simL_nil ?_)
 exact nrm_cut (s := s3v ++ ([((3 : Int), (0 : Int), (0 : Int), (0 : Int), (0 : Int), x1_4, x1_5, (0 : Int), (0 : Int), (0 : Int), ([] : List UInt8))] : List (Ty102))) (y47v.1, y47v.2) ⟨rfl, rfl, rfl, trivial⟩ (.sel 1 rfl (.sel 1 rfl (.sel 1 rfl (.sel 1 rfl (.sel 1 rfl (.sel 1 rfl (.tt_in (.sel 2 rfl (.nil _)))))))))
 refine sim_skip ?_
 exact nrm_cut (s := s3v) (y4v.1, y4v.2) ⟨rfl, rfl, rfl, trivial⟩ (.sel 0 rfl (.sel 0 rfl (.sel 0 rfl (.sel 0 rfl (.sel' 0 rfl (RowV.mk hl27v) (.sel 0 rfl (.tt_in (.sel 1 rfl (.nil _)))))))))
 intro s24v y25v
 refine sim_cut (S := (List (Ty102))) (HA × Option Addr × Nat) (fun s y => [(3, .pointer (some ⟨b1v, 0, none⟩)), (5, .slice y.2.1 s.length y.2.2), (6, .pointer (some ⟨b2v, 0, none⟩))]) (fun s y => [obj b2v 43 [.int .i64 xp0_4, .int .i64 xp0_5, .int .i64 xp0_6], obj b1v 45 [.bool x1_0, .int .i64 x1_1, .int .i64 x1_2, .int .i64 x1_3, .int .i64 x1_4, .int .i64 x1_5, .slice a1_6 x1_6.length c1_6], obj bp1 97 [.map (some mp1_0), str xp1_1, .int .i64 xp1_2, .bool xp1_3], obj bp0 91 [.pointer (some ⟨bp1, 0, none⟩), .int .i64 xp0_1, .slice ap0_2 xp0_2.length cp0_2, .int .i64 xp0_3, .int .i64 xp0_4, .int .i64 xp0_5, .int .i64 xp0_6, .int .i64 xp0_7, .int .i64 xp0_8, .slice ap0_9 xp0_9.length cp0_9, .bool xp0_10], RowV 102 11 (V102 (y.1)) y.2.1 s y.2.2, mapF (mapO mp1_0 enc9 encP qp1_0) FA109 qp1_0 xp1_0, y.1, F]) ?_ ?_
 refine sr ?_
 refine vq (q_fa rfl rfl Tryz.underlying45 rfl rfl Tryz.sizeOf32 rfl) rfl ?_
 refine vq (q_load rfl rfl Tryz.isAgg32 (.obj 1 rfl rfl)) rfl ?_
 refine vq (q_len rfl rfl rfl Tryz.underlying32) rfl ?_
 refine vm rfl rfl (simL_nil (nrm_then ?_))
 refine sim_block ?_
 refine sim_loop (S := (List (Ty102)) × Int) (HA × Option Addr × Nat) (fun k s => wal_Wal_records_s.l0 x1_6 k s.1 s.2) (fun s y => [(3, .pointer (some ⟨b1v, 0, none⟩)), (5, .slice y.2.1 s.1.length y.2.2), (6, .pointer (some ⟨b2v, 0, none⟩)), (66, .slice a1_6 x1_6.length c1_6), (67, .int .i64 (x1_6.length : Int)), (68, .int .i64 s.2)]) (fun s y => [obj b2v 43 [.int .i64 xp0_4, .int .i64 xp0_5, .int .i64 xp0_6], obj b1v 45 [.bool x1_0, .int .i64 x1_1, .int .i64 x1_2, .int .i64 x1_3, .int .i64 x1_4, .int .i64 x1_5, .slice a1_6 x1_6.length c1_6], obj bp1 97 [.map (some mp1_0), str xp1_1, .int .i64 xp1_2, .bool xp1_3], obj bp0 91 [.pointer (some ⟨bp1, 0, none⟩), .int .i64 xp0_1, .slice ap0_2 xp0_2.length cp0_2, .int .i64 xp0_3, .int .i64 xp0_4, .int .i64 xp0_5, .int .i64 xp0_6, .int .i64 xp0_7, .int .i64 xp0_8, .slice ap0_9 xp0_9.length cp0_9, .bool xp0_10], RowV 102 11 (V102 (y.1)) y.2.1 s.1 y.2.2, mapF (mapO mp1_0 enc9 encP qp1_0) FA109 qp1_0 xp1_0, y.1, F]) (fun _ => by rw [wal_Wal_records_s.l0]) ?_ k (s24v, 0) (tt, y25v.1, y25v.2) ⟨rfl, rfl, rfl, rfl, rfl, rfl, trivial⟩ (.sel 0 rfl (.sel 0 rfl (.sel 0 rfl (.sel 0 rfl (.sel 0 rfl (.sel 0 rfl (.tt_in (.sel 1 rfl (.nil _)))))))))
 intro k s51v y52v
 refine sim_eq (by rw [wal_Wal_records_s.l0]) ?_
 refine sr ?_
 refine vq (q_lss rfl rfl rfl) rfl (simL_nil (nrm_then (sim_seq ?_)))
 refine sim_cond rfl (fun h55v => ?_) (fun h56v => ?_)
 refine sim_skip ?_
 refine nrm_then (sim_seq ?_)
 refine sim_block ?_
 refine sr ?_
 refine simL_ask (fun hi57v => ?_)
 obtain ⟨b58v, b58vo, r61v, ha59v, hV62v, hlr63v, hcell64v⟩ := RdV.pos h1_6 (Up.refl _) rfl (i := s51v.2.toNat) (by omega) dz35
 obtain ⟨a65v, c66v, rfl, ⟨he67v, hc68v, hm69v⟩⟩ := hV62v
 refine vq (q_idx rfl rfl rfl ha59v Tryz.underlying32 Tryz.sizeOf35 hi57v.1 hi57v.2) rfl ?_
 refine vq (q_loads rfl rfl Tryz.isAgg35 Tryz.sizeOf35 rfl (fun j v hj => hcell64v 7 rfl j v hj)) rfl ?_
 refine simL_eff (re_alloc rfl Tryz.zeroValue35 rfl) rfl rfl rfl ?_
 intro b70v
 refine simL_do (re_store 0 rfl rfl rfl Tryz.sizeOf35 rfl rfl (one_of (by rfl)) rfl rfl) rfl rfl ?_
 intro _
 refine nx ?_
 refine vq (q_fa rfl rfl Tryz.underlying35 rfl rfl Tryz.sizeOf33 rfl) rfl ?_
 refine vq (q_load rfl rfl Tryz.isAgg33 (.obj 0 rfl rfl)) rfl ?_
 refine simL_bind (fun s71v hs72v => ?_)
 refine simL_eff (re_call (vs := [.slice a65v (((x1_6.getD s51v.2.toNat dz35).2.2.2).length) c66v]) (cap := []) (A := []) (rst := [obj b70v 35 [.int .i64 ((x1_6.getD s51v.2.toNat dz35).1), .int .i64 ((x1_6.getD s51v.2.toNat dz35).2.1), .int .i64 ((x1_6.getD s51v.2.toNat dz35).2.2.1), .slice a65v (((x1_6.getD s51v.2.toNat dz35).2.2.2).length) c66v], obj b2v 43 [.int .i64 xp0_4, .int .i64 xp0_5, .int .i64 xp0_6], obj b1v 45 [.bool x1_0, .int .i64 x1_1, .int .i64 x1_2, .int .i64 x1_3, .int .i64 x1_4, .int .i64 x1_5, .slice a1_6 x1_6.length c1_6], obj bp1 97 [.map (some mp1_0), str xp1_1, .int .i64 xp1_2, .bool xp1_3], obj bp0 91 [.pointer (some ⟨bp1, 0, none⟩), .int .i64 xp0_1, .slice ap0_2 xp0_2.length cp0_2, .int .i64 xp0_3, .int .i64 xp0_4, .int .i64 xp0_5, .int .i64 xp0_6, .int .i64 xp0_7, .int .i64 xp0_8, .slice ap0_9 xp0_9.length cp0_9, .bool xp0_10], RowV 102 11 (V102 (y52v.1)) y52v.2.1 s51v.1 y52v.2.2, mapF (mapO mp1_0 enc9 encP qp1_0) FA109 qp1_0 xp1_0, y52v.1, F]) rfl rfl rfl rfl rfl rfl Tryz.call82 (.sel 0 rfl (.sel 0 rfl (.sel 0 rfl (.sel 0 rfl (.sel 0 rfl (.sel 0 rfl (.sel 0 rfl (.sel 0 rfl (.sel 0 rfl (.nil _)))))))))) (slices_Clone__byte_byte.calls _ _ a65v c66v ((x1_6.getD s51v.2.toNat dz35).2.2.2) (he67v.lend 8 rfl) hc68v hm69v) hs72v) rfl rfl rfl ?_
 intro y73v
 refine vq (q_fa rfl rfl Tryz.underlying35 rfl rfl Tryz.sizeOf33 rfl) rfl ?_
 refine simL_do (re_store 1 rfl rfl rfl Tryz.sizeOf33 rfl rfl (one_of (by rfl)) rfl rfl) rfl rfl ?_
 intro _
 refine ny ?_
 refine vm rfl rfl ?_
 refine vq (q_loado 1 rfl rfl Tryz.isAgg35 Tryz.sizeOf35 rfl rfl) rfl ?_
 refine vq (q_build (v := .agg #[.int .i64 2, .int .i64 0, .int .i64 0, .int .i64 0, .int .i64 0, .int .i64 0, .int .i64 0, .int .i64 ((x1_6.getD s51v.2.toNat dz35).1), .int .i64 ((x1_6.getD s51v.2.toNat dz35).2.1), .int .i64 ((x1_6.getD s51v.2.toNat dz35).2.2.1), .slice y73v.1 s71v.length y73v.2]) rfl rfl (fun _ => by kernel_rfl)) rfl ?_
 refine simL_lend 0 rfl (fun hq75v hq76v hq77v hq78v => ?_)
 have hlb79v : ListV 11 (V102 (Row 5 1 y73v.1 s71v.length y73v.2 (encB s71v))) ([((2 : Int), (0 : Int), (0 : Int), (0 : Int), (0 : Int), (0 : Int), (0 : Int), (x1_6.getD s51v.2.toNat dz35).1, (x1_6.getD s51v.2.toNat dz35).2.1, (x1_6.getD s51v.2.toNat dz35).2.2.1, s71v)] : List (Ty102)) [[.int .i64 2, .int .i64 0, .int .i64 0, .int .i64 0, .int .i64 0, .int .i64 0, .int .i64 0, .int .i64 ((x1_6.getD s51v.2.toNat dz35).1), .int .i64 ((x1_6.getD s51v.2.toNat dz35).2.1), .int .i64 ((x1_6.getD s51v.2.toNat dz35).2.2.1), .slice y73v.1 s71v.length y73v.2]] := ⟨⟨rfl, one_of (by rfl), ⟨y73v.1, y73v.2, rfl, ⟨hq75v, hq76v, hq77v⟩⟩⟩, trivial⟩
 refine simL_eff (re_litV (V := (V102 (Row 5 1 y73v.1 s71v.length y73v.2 (encB s71v)))) (xs := ([((2 : Int), (0 : Int), (0 : Int), (0 : Int), (0 : Int), (0 : Int), (0 : Int), (x1_6.getD s51v.2.toNat dz35).1, (x1_6.getD s51v.2.toNat dz35).2.1, (x1_6.getD s51v.2.toNat dz35).2.2.1, s71v)] : List (Ty102))) [[.int .i64 2, .int .i64 0, .int .i64 0, .int .i64 0, .int .i64 0, .int .i64 0, .int .i64 0, .int .i64 ((x1_6.getD s51v.2.toNat dz35).1), .int .i64 ((x1_6.getD s51v.2.toNat dz35).2.1), .int .i64 ((x1_6.getD s51v.2.toNat dz35).2.2.1), .slice y73v.1 s71v.length y73v.2]] rfl rfl Tryz.underlying99 elt102 rfl (by kernel_rfl) rfl hlb79v rfl rfl) rfl rfl rfl ?_
 intro b79v
 refine simL_openV 7 rfl (fun rs84v hl85v => ?_)
 refine simL_ent (H' := [stars [Row 5 1 y73v.1 s71v.length y73v.2 (encB s71v), y52v.1], Row 102 11 (some ⟨b79v, 0, none⟩) ([((2 : Int), (0 : Int), (0 : Int), (0 : Int), (0 : Int), (0 : Int), (0 : Int), (x1_6.getD s51v.2.toNat dz35).1, (x1_6.getD s51v.2.toNat dz35).2.1, (x1_6.getD s51v.2.toNat dz35).2.2.1, s71v)] : List (Ty102)).length 1 [[.int .i64 2, .int .i64 0, .int .i64 0, .int .i64 0, .int .i64 0, .int .i64 0, .int .i64 0, .int .i64 ((x1_6.getD s51v.2.toNat dz35).1), .int .i64 ((x1_6.getD s51v.2.toNat dz35).2.1), .int .i64 ((x1_6.getD s51v.2.toNat dz35).2.2.1), .slice y73v.1 s71v.length y73v.2]].flatten, obj b70v 35 [.int .i64 ((x1_6.getD s51v.2.toNat dz35).1), .int .i64 ((x1_6.getD s51v.2.toNat dz35).2.1), .int .i64 ((x1_6.getD s51v.2.toNat dz35).2.2.1), .slice y73v.1 s71v.length y73v.2], obj b2v 43 [.int .i64 xp0_4, .int .i64 xp0_5, .int .i64 xp0_6], obj b1v 45 [.bool x1_0, .int .i64 x1_1, .int .i64 x1_2, .int .i64 x1_3, .int .i64 x1_4, .int .i64 x1_5, .slice a1_6 x1_6.length c1_6], obj bp1 97 [.map (some mp1_0), str xp1_1, .int .i64 xp1_2, .bool xp1_3], obj bp0 91 [.pointer (some ⟨bp1, 0, none⟩), .int .i64 xp0_1, .slice ap0_2 xp0_2.length cp0_2, .int .i64 xp0_3, .int .i64 xp0_4, .int .i64 xp0_5, .int .i64 xp0_6, .int .i64 xp0_7, .int .i64 xp0_8, .slice ap0_9 xp0_9.length cp0_9, .bool xp0_10], Row 102 11 y52v.2.1 s51v.1.length y52v.2.2 rs84v.flatten, mapF (mapO mp1_0 enc9 encP qp1_0) FA109 qp1_0 xp1_0, F]) (Ent.trans (m := [Row 5 1 y73v.1 s71v.length y73v.2 (encB s71v), y52v.1, Row 102 11 (some ⟨b79v, 0, none⟩) ([((2 : Int), (0 : Int), (0 : Int), (0 : Int), (0 : Int), (0 : Int), (0 : Int), (x1_6.getD s51v.2.toNat dz35).1, (x1_6.getD s51v.2.toNat dz35).2.1, (x1_6.getD s51v.2.toNat dz35).2.2.1, s71v)] : List (Ty102)).length 1 [[.int .i64 2, .int .i64 0, .int .i64 0, .int .i64 0, .int .i64 0, .int .i64 0, .int .i64 0, .int .i64 ((x1_6.getD s51v.2.toNat dz35).1), .int .i64 ((x1_6.getD s51v.2.toNat dz35).2.1), .int .i64 ((x1_6.getD s51v.2.toNat dz35).2.2.1), .slice y73v.1 s71v.length y73v.2]].flatten, obj b70v 35 [.int .i64 ((x1_6.getD s51v.2.toNat dz35).1), .int .i64 ((x1_6.getD s51v.2.toNat dz35).2.1), .int .i64 ((x1_6.getD s51v.2.toNat dz35).2.2.1), .slice y73v.1 s71v.length y73v.2], obj b2v 43 [.int .i64 xp0_4, .int .i64 xp0_5, .int .i64 xp0_6], obj b1v 45 [.bool x1_0, .int .i64 x1_1, .int .i64 x1_2, .int .i64 x1_3, .int .i64 x1_4, .int .i64 x1_5, .slice a1_6 x1_6.length c1_6], obj bp1 97 [.map (some mp1_0), str xp1_1, .int .i64 xp1_2, .bool xp1_3], obj bp0 91 [.pointer (some ⟨bp1, 0, none⟩), .int .i64 xp0_1, .slice ap0_2 xp0_2.length cp0_2, .int .i64 xp0_3, .int .i64 xp0_4, .int .i64 xp0_5, .int .i64 xp0_6, .int .i64 xp0_7, .int .i64 xp0_8, .slice ap0_9 xp0_9.length cp0_9, .bool xp0_10], Row 102 11 y52v.2.1 s51v.1.length y52v.2.2 rs84v.flatten, mapF (mapO mp1_0 enc9 encP qp1_0) FA109 qp1_0 xp1_0, F]) (.sel 1 rfl (.sel 8 rfl (.sel 0 rfl (.sel 0 rfl (.sel 0 rfl (.sel 0 rfl (.sel 0 rfl (.sel 0 rfl (.sel 0 rfl (.sel 0 rfl (.sel 0 rfl (.nil _)))))))))))) (ent_pack [Row 5 1 y73v.1 s71v.length y73v.2 (encB s71v), y52v.1] _)) ?_
 refine simL_ask (fun hb87v => ?_)
 refine simL_eff (re_appendV 7 rfl rfl rfl Tryz.underlying99 elt102 rfl (hl85v.mono (V102.up (Up.lend (l := [Row 5 1 y73v.1 s71v.length y73v.2 (encB s71v), y52v.1]) 1 rfl))) (RdsV.row (hlb79v.mono (V102.up (Up.lend (l := [Row 5 1 y73v.1 s71v.length y73v.2 (encB s71v), y52v.1]) 0 rfl))) 1 rfl) hb87v) rfl rfl rfl ?_
 intro y86v
 refine va rfl rfl (simL_nil (nrm_block (nrm_then (sim_region ?_))))
 refine vq (q_add rfl rfl rfl) rfl ?_
 refine vm rfl rfl (simL_nil ?_)
 exact nrm_again (s := (s51v.1 ++ ([((2 : Int), (0 : Int), (0 : Int), (0 : Int), (0 : Int), (0 : Int), (0 : Int), (x1_6.getD s51v.2.toNat dz35).1, (x1_6.getD s51v.2.toNat dz35).2.1, (x1_6.getD s51v.2.toNat dz35).2.2.1, s71v)] : List (Ty102)), IntKind.i64.wrap (s51v.2 + 1))) (stars [Row 5 1 y73v.1 s71v.length y73v.2 (encB s71v), y52v.1], y86v.1, y86v.2) ⟨rfl, rfl, rfl, rfl, rfl, rfl, trivial⟩ (.sel 3 rfl (.sel 3 rfl (.sel 3 rfl (.sel 3 rfl (.sel 3 rfl (.sel 3 rfl (.sel 0 rfl (.sel 2 rfl (.nil _)))))))))
 refine sim_exi ?_
 refine exi_then ?_
 refine exi_loop ?_
 refine exi_here ?_
 exact nrm_cut (s := s51v.1) (y52v.1, y52v.2.1, y52v.2.2) ⟨rfl, rfl, rfl, trivial⟩ (.sel 0 rfl (.sel 0 rfl (.sel 0 rfl (.sel 0 rfl (.sel 0 rfl (.sel 0 rfl (.sel 0 rfl (.sel 0 rfl (.nil _)))))))))
 intro s49v y50v
 refine sim_cut (S := (List (Ty102))) (HA × Option Addr × Nat) (fun s y => [(5, .slice y.2.1 s.length y.2.2)]) (fun s y => [obj bp1 97 [.map (some mp1_0), str xp1_1, .int .i64 xp1_2, .bool xp1_3], obj bp0 91 [.pointer (some ⟨bp1, 0, none⟩), .int .i64 xp0_1, .slice ap0_2 xp0_2.length cp0_2, .int .i64 xp0_3, .int .i64 xp0_4, .int .i64 xp0_5, .int .i64 xp0_6, .int .i64 xp0_7, .int .i64 xp0_8, .slice ap0_9 xp0_9.length cp0_9, .bool xp0_10], RowV 102 11 (V102 (y.1)) y.2.1 s y.2.2, mapF (mapO mp1_0 enc9 encP qp1_0) FA109 qp1_0 xp1_0, y.1, F]) ?_ ?_
 refine sr ?_
 refine vq (q_fa rfl rfl Tryz.underlying45 rfl rfl Tryz.sizeOf4 rfl) rfl ?_
 refine vq (q_load rfl rfl Tryz.isAgg4 (.obj 1 rfl rfl)) rfl ?_
 refine vm rfl rfl ?_
 refine simL_valc (b := x1_0) (fun hb107v => RQ.sub (E' := [(3, .pointer (some ⟨b1v, 0, none⟩))]) ⟨rfl, trivial⟩ (q_fa rfl rfl Tryz.underlying45 rfl rfl Tryz.sizeOf43 rfl)) rfl rfl rfl rfl rfl ?_
 refine simL_valc (b := x1_0) (fun hb106v => RQ.sub (E' := [(85, .pointer (some ⟨b1v, 1, none⟩))]) ⟨lk_cv rfl hb106v, trivial⟩ (q_fa rfl rfl Tryz.underlying43 rfl rfl Tryz.sizeOf3 rfl)) rfl rfl rfl rfl rfl ?_
 refine simL_valc (b := x1_0) (fun hb105v => RQ.sub (E' := [(86, .pointer (some ⟨b1v, 3, none⟩))]) ⟨lk_cv rfl hb105v, trivial⟩ (q_load rfl rfl Tryz.isAgg3 (.obj 1 rfl rfl))) rfl rfl rfl rfl rfl ?_
 refine simL_valc (b := x1_0) (fun hb104v => RQ.sub (E' := [(6, .pointer (some ⟨b2v, 0, none⟩))]) ⟨rfl, trivial⟩ (q_fa rfl rfl Tryz.underlying43 rfl rfl Tryz.sizeOf3 rfl)) rfl rfl rfl rfl rfl ?_
 refine simL_valc (b := x1_0) (fun hb103v => RQ.sub (E' := [(88, .pointer (some ⟨b2v, 2, none⟩))]) ⟨lk_cv rfl hb103v, trivial⟩ (q_load rfl rfl Tryz.isAgg3 (.obj 0 rfl rfl))) rfl rfl rfl rfl rfl ?_
 refine simL_valc (b := x1_0) (fun hb102v => RQ.sub (E' := [(87, .int .i64 x1_3), (89, .int .i64 xp0_6)]) ⟨lk_cv rfl hb102v, lk_cv rfl hb102v, trivial⟩ (q_neq rfl rfl rfl)) rfl rfl rfl rfl rfl ?_
 refine vq (q_and rfl rfl rfl) rfl (simL_nil (nrm_then ?_))
 refine sim_condb rfl (fun h90v => ?_) (fun h91v => ?_)
 refine sim_region ?_
 refine vm rfl rfl ?_
 refine vq (q_fa rfl rfl Tryz.underlying45 rfl rfl Tryz.sizeOf43 rfl) rfl ?_
 refine vq (q_loads (vs := [.int .i64 x1_1, .int .i64 x1_2, .int .i64 x1_3]) rfl rfl Tryz.isAgg43 Tryz.sizeOf43 rfl (cells_obj 1 rfl (cells_lit rfl))) rfl ?_
 refine vq (q_build (v := .agg #[.int .i64 1, .int .i64 0, .int .i64 x1_1, .int .i64 x1_2, .int .i64 x1_3, .int .i64 0, .int .i64 0, .int .i64 0, .int .i64 0, .int .i64 0, .slice none 0 0]) rfl rfl (fun _ => by kernel_rfl)) rfl ?_
 have hlb93v : ListV 11 (V102 (tt)) ([((1 : Int), (0 : Int), x1_1, x1_2, x1_3, (0 : Int), (0 : Int), (0 : Int), (0 : Int), (0 : Int), ([] : List UInt8))] : List (Ty102)) [[.int .i64 1, .int .i64 0, .int .i64 x1_1, .int .i64 x1_2, .int .i64 x1_3, .int .i64 0, .int .i64 0, .int .i64 0, .int .i64 0, .int .i64 0, .slice none 0 0]] := ⟨⟨rfl, one_of (by rfl), ⟨none, 0, rfl, ⟨Rd.nil _ _, Nat.le_refl _, Nat.zero_le _⟩⟩⟩, trivial⟩
 refine simL_eff (re_litV (V := (V102 (tt))) (xs := ([((1 : Int), (0 : Int), x1_1, x1_2, x1_3, (0 : Int), (0 : Int), (0 : Int), (0 : Int), (0 : Int), ([] : List UInt8))] : List (Ty102))) [[.int .i64 1, .int .i64 0, .int .i64 x1_1, .int .i64 x1_2, .int .i64 x1_3, .int .i64 0, .int .i64 0, .int .i64 0, .int .i64 0, .int .i64 0, .slice none 0 0]] rfl rfl Tryz.underlying99 elt102 rfl (by kernel_rfl) rfl hlb93v rfl rfl) rfl rfl rfl ?_
 intro b93v
 refine simL_openV 5 rfl (fun rs98v hl99v => ?_)
 refine simL_ent (H' := [stars [tt, y50v.1], Row 102 11 (some ⟨b93v, 0, none⟩) ([((1 : Int), (0 : Int), x1_1, x1_2, x1_3, (0 : Int), (0 : Int), (0 : Int), (0 : Int), (0 : Int), ([] : List UInt8))] : List (Ty102)).length 1 [[.int .i64 1, .int .i64 0, .int .i64 x1_1, .int .i64 x1_2, .int .i64 x1_3, .int .i64 0, .int .i64 0, .int .i64 0, .int .i64 0, .int .i64 0, .slice none 0 0]].flatten, obj b2v 43 [.int .i64 xp0_4, .int .i64 xp0_5, .int .i64 xp0_6], obj b1v 45 [.bool x1_0, .int .i64 x1_1, .int .i64 x1_2, .int .i64 x1_3, .int .i64 x1_4, .int .i64 x1_5, .slice a1_6 x1_6.length c1_6], obj bp1 97 [.map (some mp1_0), str xp1_1, .int .i64 xp1_2, .bool xp1_3], obj bp0 91 [.pointer (some ⟨bp1, 0, none⟩), .int .i64 xp0_1, .slice ap0_2 xp0_2.length cp0_2, .int .i64 xp0_3, .int .i64 xp0_4, .int .i64 xp0_5, .int .i64 xp0_6, .int .i64 xp0_7, .int .i64 xp0_8, .slice ap0_9 xp0_9.length cp0_9, .bool xp0_10], Row 102 11 y50v.2.1 s49v.length y50v.2.2 rs98v.flatten, mapF (mapO mp1_0 enc9 encP qp1_0) FA109 qp1_0 xp1_0, F]) (Ent.trans (m := [tt, y50v.1, Row 102 11 (some ⟨b93v, 0, none⟩) ([((1 : Int), (0 : Int), x1_1, x1_2, x1_3, (0 : Int), (0 : Int), (0 : Int), (0 : Int), (0 : Int), ([] : List UInt8))] : List (Ty102)).length 1 [[.int .i64 1, .int .i64 0, .int .i64 x1_1, .int .i64 x1_2, .int .i64 x1_3, .int .i64 0, .int .i64 0, .int .i64 0, .int .i64 0, .int .i64 0, .slice none 0 0]].flatten, obj b2v 43 [.int .i64 xp0_4, .int .i64 xp0_5, .int .i64 xp0_6], obj b1v 45 [.bool x1_0, .int .i64 x1_1, .int .i64 x1_2, .int .i64 x1_3, .int .i64 x1_4, .int .i64 x1_5, .slice a1_6 x1_6.length c1_6], obj bp1 97 [.map (some mp1_0), str xp1_1, .int .i64 xp1_2, .bool xp1_3], obj bp0 91 [.pointer (some ⟨bp1, 0, none⟩), .int .i64 xp0_1, .slice ap0_2 xp0_2.length cp0_2, .int .i64 xp0_3, .int .i64 xp0_4, .int .i64 xp0_5, .int .i64 xp0_6, .int .i64 xp0_7, .int .i64 xp0_8, .slice ap0_9 xp0_9.length cp0_9, .bool xp0_10], Row 102 11 y50v.2.1 s49v.length y50v.2.2 rs98v.flatten, mapF (mapO mp1_0 enc9 encP qp1_0) FA109 qp1_0 xp1_0, F]) (.tt_in (.sel 7 rfl (.sel 0 rfl (.sel 0 rfl (.sel 0 rfl (.sel 0 rfl (.sel 0 rfl (.sel 0 rfl (.sel 0 rfl (.sel 0 rfl (.nil _))))))))))) (ent_pack [tt, y50v.1] _)) ?_
 refine simL_ask (fun hb101v => ?_)
 refine simL_eff (re_appendV 6 rfl rfl rfl Tryz.underlying99 elt102 rfl (hl99v.mono (V102.up (Up.lend (l := [tt, y50v.1]) 1 rfl))) (RdsV.row (hlb93v.mono (V102.up (Up.lend (l := [tt, y50v.1]) 0 rfl))) 1 rfl) hb101v) rfl rfl rfl ?_
 intro y100v
 refine va rfl rfl (simL_nil ?_)
 exact nrm_cut (s := s49v ++ ([((1 : Int), (0 : Int), x1_1, x1_2, x1_3, (0 : Int), (0 : Int), (0 : Int), (0 : Int), (0 : Int), ([] : List UInt8))] : List (Ty102))) (stars [tt, y50v.1], y100v.1, y100v.2) ⟨rfl, trivial⟩ (.sel 4 rfl (.sel 4 rfl (.sel 4 rfl (.sel 4 rfl (.sel 0 rfl (.sel 3 rfl (.nil _)))))))
 refine sim_skip ?_
 exact nrm_cut (s := s49v) (y50v.1, y50v.2.1, y50v.2.2) ⟨rfl, trivial⟩ (.sel 2 rfl (.sel 2 rfl (.sel 2 rfl (.sel 2 rfl (.sel 2 rfl (.sel 2 rfl (.nil _)))))))
 intro s88v y89v
 refine sr ?_
 refine vm rfl rfl ?_
 refine va rfl rfl (simL_nil (nrm_then (sim_rtn ?_)))
 exact rtn_fn (y89v.2.1, y89v.2.2, y89v.1) rfl rfl rfl (.sel 2 rfl (.sel 3 rfl (.sel 0 rfl (.sel 1 rfl (.sel 0 rfl (.sel 0 rfl (.nil _)))))))
end Go.Proofs.YtndjkejhacfpdaaGreatDoor

/- Printed by gen.py: pure functions and the proofs that the Go functions simulate them. Conditions: as each theorem says. -/
import Derived.Test.YtdaedoklkmdhcaaG1
namespace Go.Proofs.Ytdaedoklkmdhcaa
open Go.RowKit
set_option linter.unusedVariables false
set_option maxRecDepth 20000
set_option maxHeartbeats 2000000
def kv_Store_Sessions.l0 (x0_1 : List ((Int) × (Int × Int × Int × List UInt8))) (s6v : List Int) : Nat → List (Int × Int × Int × List UInt8) → Int → Option ((List (Int × Int × Int × List UInt8)))
  | 0, _, _ => none
  | k + 1, z11v, z12v => if z12v < (s6v.length : Int) then (if 0 ≤ z12v ∧ z12v < (s6v.length : Int) then (if (z11v.length + ([(((mget x0_1 (s6v.getD z12v.toNat (0 : Int))).getD ((0 : Int), (0 : Int), (0 : Int), ([] : List UInt8))).1, ((mget x0_1 (s6v.getD z12v.toNat (0 : Int))).getD ((0 : Int), (0 : Int), (0 : Int), ([] : List UInt8))).2.1, ((mget x0_1 (s6v.getD z12v.toNat (0 : Int))).getD ((0 : Int), (0 : Int), (0 : Int), ([] : List UInt8))).2.2.1, ((mget x0_1 (s6v.getD z12v.toNat (0 : Int))).getD ((0 : Int), (0 : Int), (0 : Int), ([] : List UInt8))).2.2.2)] : List (Int × Int × Int × List UInt8)).length) * 40 ≤ 140737488355328 then (kv_Store_Sessions.l0 x0_1 s6v k (z11v ++ ([(((mget x0_1 (s6v.getD z12v.toNat (0 : Int))).getD ((0 : Int), (0 : Int), (0 : Int), ([] : List UInt8))).1, ((mget x0_1 (s6v.getD z12v.toNat (0 : Int))).getD ((0 : Int), (0 : Int), (0 : Int), ([] : List UInt8))).2.1, ((mget x0_1 (s6v.getD z12v.toNat (0 : Int))).getD ((0 : Int), (0 : Int), (0 : Int), ([] : List UInt8))).2.2.1, ((mget x0_1 (s6v.getD z12v.toNat (0 : Int))).getD ((0 : Int), (0 : Int), (0 : Int), ([] : List UInt8))).2.2.2)] : List (Int × Int × Int × List UInt8))) (IntKind.i64.wrap (z12v + 1))) else none) else none) else (some z11v)
def kv_Store_Sessions.f (k : Nat) (x0_0 : List ((List UInt8) × (List UInt8))) (x0_1 : List ((Int) × (Int × Int × Int × List UInt8))) : Option ((List (Int × Int × Int × List UInt8))) := ((maps_Keys_Session.f).bind fun s3v => ((slices_Sorted_int_maps_Keys_Session_1.f x0_1).bind fun s6v => (kv_Store_Sessions.l0 x0_1 s6v k ([] : List (Int × Int × Int × List UInt8)) 0))).bind fun s1v => (some s1v)
theorem kv_Store_Sessions.calls (W : World) (F : HA) (k : Nat) (b0 : Nat) (m0_0 : Nat) (x0_0 : List ((List UInt8) × (List UInt8))) (m0_1 : Nat) (x0_1 : List ((Int) × (Int × Int × Int × List UInt8)))  :
    Fn Try.prog W 17 [.pointer (some ⟨b0, 0, none⟩)] [obj b0 63 [.map (some m0_0), .map (some m0_1)], mapO m0_0 enc9 enc9 x0_0, mapO m0_1 enc3 enc42 x0_1] F (kv_Store_Sessions.f k x0_0 x0_1) (fun (r : (List (Int × Int × Int × List UInt8))) (y : Option Addr × Nat) => .slice y.1 r.length y.2) (fun r y => [RowV 42 4 (V42 tt) y.1 r y.2, obj b0 63 [.map (some m0_0), .map (some m0_1)], mapO m0_0 enc9 enc9 x0_0, mapO m0_1 enc3 enc42 x0_1]) := by
 unfold kv_Store_Sessions.f
 refine fn_intro 28 Try.func17 rfl Try.ntmps17 rfl ?_
 refine sim_seq (sim_region ?_)
 refine simL_val (q_asg rfl rfl) rfl rfl rfl (simL_nil (nrm_then (sim_seq (sim_region ?_))))
 refine simL_val (q_asg rfl rfl) rfl rfl rfl (simL_nil (nrm_then ?_))
 refine sim_cut (S := (List (Int × Int × Int × List UInt8))) (Option Addr × Nat) (fun s y => [(3, .slice y.1 s.length y.2)]) (fun s y => [obj b0 63 [.map (some m0_0), .map (some m0_1)], RowV 42 4 (V42 tt) y.1 s y.2, mapO m0_0 enc9 enc9 x0_0, mapO m0_1 enc3 enc42 x0_1, F]) ?_ ?_
 refine sim_seq (sim_region ?_)
 refine simL_val (q_move rfl rfl) rfl rfl rfl ?_
 refine simL_val (q_nil rfl rfl) rfl rfl rfl ?_
 refine simL_val (q_fa rfl rfl Try.underlying63 rfl rfl Try.sizeOf61 rfl) rfl rfl rfl ?_
 refine simL_val (q_load rfl rfl Try.isAgg61 (.obj 0 rfl rfl)) rfl rfl rfl ?_
 refine simL_bind (fun s3v hs5v => ?_)
 refine simL_eff (re_call (vs := [.map (some m0_1)]) (cap := []) (A := []) (rst := [obj b0 63 [.map (some m0_0), .map (some m0_1)], mapO m0_0 enc9 enc9 x0_0, mapO m0_1 enc3 enc42 x0_1, F]) rfl rfl rfl rfl rfl rfl Try.call34 (.sel 0 rfl (.sel 0 rfl (.sel 0 rfl (.sel 0 rfl (.nil _))))) (maps_Keys_Session.calls _ _ m0_1 ) hs5v) rfl rfl rfl ?_
 intro y4v
 refine simL_bind (fun s6v hs8v => ?_)
 refine simL_eff (re_call (vs := [.func (.func 56) #[] #[.pointer (some ⟨y4v, 0, none⟩)]]) (cap := []) (A := [obj y4v 61 [.map (some m0_1)], mapO m0_1 enc3 enc42 x0_1]) (rst := [obj b0 63 [.map (some m0_0), .map (some m0_1)], mapO m0_0 enc9 enc9 x0_0, F]) rfl rfl rfl rfl rfl rfl Try.call33 (.sel 0 rfl (.sel 2 rfl (.sel 0 rfl (.sel 0 rfl (.sel 0 rfl (.nil _)))))) (slices_Sorted_int_maps_Keys_Session_1.calls _ _ y4v m0_1 x0_1 ) hs8v) rfl rfl rfl ?_
 intro y7v
 refine simL_val (q_len rfl rfl rfl Try.underlying80) rfl rfl rfl ?_
 refine simL_val (q_move rfl rfl) rfl rfl rfl (simL_nil (nrm_then ?_))
 refine sim_block ?_
 refine sim_loop (S := (List (Int × Int × Int × List UInt8)) × Int) (Option Addr × Nat) (fun k s => kv_Store_Sessions.l0 x0_1 s6v k s.1 s.2) (fun s y => [(0, .pointer (some ⟨b0, 0, none⟩)), (3, .slice y.1 s.1.length y.2), (11, .slice y7v.1 s6v.length y7v.2), (12, .int .i64 (s6v.length : Int)), (13, .int .i64 s.2)]) (fun s y => [obj b0 63 [.map (some m0_0), .map (some m0_1)], RowV 42 4 (V42 tt) y.1 s.1 y.2, RowV 3 1 (V3 tt) y7v.1 s6v y7v.2, mapO m0_0 enc9 enc9 x0_0, mapO m0_1 enc3 enc42 x0_1, F]) (fun _ => by rw [kv_Store_Sessions.l0]) ?_ k (([] : List (Int × Int × Int × List UInt8)), 0) (none, 0) ⟨rfl, rfl, rfl, rfl, rfl, trivial⟩ (.sel 3 rfl (.rowV_nil (.sel 0 rfl (.sel 2 rfl (.sel 1 rfl (.sel 1 rfl (.nil _)))))))
 intro k s9v y10v
 refine sim_eq (by rw [kv_Store_Sessions.l0]) ?_
 refine sim_seq (sim_region ?_)
 refine simL_val (q_lss rfl rfl rfl) rfl rfl rfl (simL_nil (nrm_then (sim_seq ?_)))
 refine sim_cond rfl (fun h13v => ?_) (fun h14v => ?_)
 refine sim_skip ?_
 refine nrm_then (sim_seq ?_)
 refine sim_block ?_
 refine sim_seq (sim_region ?_)
 refine simL_openV 2 rfl (fun rs23v hl24v => ?_)
 refine simL_ask (fun hi15v => ?_)
 refine simL_posV 2 rfl hl24v rfl (i := s9v.2.toNat) (by omega) (0 : Int) (fun b16v b16vo r19v ha17v hV20v hlr21v hcell22v => ?_)
 obtain rfl := hV20v
 refine simL_val (q_idx rfl rfl rfl ha17v Try.underlying80 Try.sizeOf3 hi15v.1 hi15v.2) rfl rfl rfl ?_
 refine simL_val (q_load rfl rfl Try.isAgg3 (hcell22v 2 rfl 0 _ rfl)) rfl rfl rfl ?_
 refine simL_val (q_asg rfl rfl) rfl rfl rfl (simL_nil (nrm_then (sim_region ?_)))
 refine simL_val (q_move rfl rfl) rfl rfl rfl ?_
 refine simL_val (q_move rfl rfl) rfl rfl rfl ?_
 refine simL_val (q_nil rfl rfl) rfl rfl rfl ?_
 refine simL_val (q_fa rfl rfl Try.underlying63 rfl rfl Try.sizeOf61 rfl) rfl rfl rfl ?_
 refine simL_val (q_load rfl rfl Try.isAgg61 (.obj 0 rfl rfl)) rfl rfl rfl ?_
 refine simL_val (q_move rfl rfl) rfl rfl rfl ?_
 refine simL_val ((q_mlook (ek := enc3) (ev := enc42) (z := ((0 : Int), (0 : Int), (0 : Int), ([] : List UInt8))) 4 (s6v.getD s9v.2.toNat (0 : Int)) rfl rfl rfl Try.underlying61 key3 Try.zeroValue42 rfl : RQ _ _ _ _ (.agg #[.int .i64 (((mget x0_1 (s6v.getD s9v.2.toNat (0 : Int))).getD ((0 : Int), (0 : Int), (0 : Int), ([] : List UInt8))).1), .int .i64 (((mget x0_1 (s6v.getD s9v.2.toNat (0 : Int))).getD ((0 : Int), (0 : Int), (0 : Int), ([] : List UInt8))).2.1), .int .i64 (((mget x0_1 (s6v.getD s9v.2.toNat (0 : Int))).getD ((0 : Int), (0 : Int), (0 : Int), ([] : List UInt8))).2.2.1), str (((mget x0_1 (s6v.getD s9v.2.toNat (0 : Int))).getD ((0 : Int), (0 : Int), (0 : Int), ([] : List UInt8))).2.2.2)]))) rfl rfl rfl ?_
 have hlb26v : ListV 4 (V42 tt) ([(((mget x0_1 (s6v.getD s9v.2.toNat (0 : Int))).getD ((0 : Int), (0 : Int), (0 : Int), ([] : List UInt8))).1, ((mget x0_1 (s6v.getD s9v.2.toNat (0 : Int))).getD ((0 : Int), (0 : Int), (0 : Int), ([] : List UInt8))).2.1, ((mget x0_1 (s6v.getD s9v.2.toNat (0 : Int))).getD ((0 : Int), (0 : Int), (0 : Int), ([] : List UInt8))).2.2.1, ((mget x0_1 (s6v.getD s9v.2.toNat (0 : Int))).getD ((0 : Int), (0 : Int), (0 : Int), ([] : List UInt8))).2.2.2)] : List (Int × Int × Int × List UInt8)) [[.int .i64 (((mget x0_1 (s6v.getD s9v.2.toNat (0 : Int))).getD ((0 : Int), (0 : Int), (0 : Int), ([] : List UInt8))).1), .int .i64 (((mget x0_1 (s6v.getD s9v.2.toNat (0 : Int))).getD ((0 : Int), (0 : Int), (0 : Int), ([] : List UInt8))).2.1), .int .i64 (((mget x0_1 (s6v.getD s9v.2.toNat (0 : Int))).getD ((0 : Int), (0 : Int), (0 : Int), ([] : List UInt8))).2.2.1), str (((mget x0_1 (s6v.getD s9v.2.toNat (0 : Int))).getD ((0 : Int), (0 : Int), (0 : Int), ([] : List UInt8))).2.2.2)]] := ⟨⟨rfl, one_of (by rfl), rfl⟩, trivial⟩
 refine simL_eff (re_litV (V := (V42 tt)) (xs := ([(((mget x0_1 (s6v.getD s9v.2.toNat (0 : Int))).getD ((0 : Int), (0 : Int), (0 : Int), ([] : List UInt8))).1, ((mget x0_1 (s6v.getD s9v.2.toNat (0 : Int))).getD ((0 : Int), (0 : Int), (0 : Int), ([] : List UInt8))).2.1, ((mget x0_1 (s6v.getD s9v.2.toNat (0 : Int))).getD ((0 : Int), (0 : Int), (0 : Int), ([] : List UInt8))).2.2.1, ((mget x0_1 (s6v.getD s9v.2.toNat (0 : Int))).getD ((0 : Int), (0 : Int), (0 : Int), ([] : List UInt8))).2.2.2)] : List (Int × Int × Int × List UInt8))) [[.int .i64 (((mget x0_1 (s6v.getD s9v.2.toNat (0 : Int))).getD ((0 : Int), (0 : Int), (0 : Int), ([] : List UInt8))).1), .int .i64 (((mget x0_1 (s6v.getD s9v.2.toNat (0 : Int))).getD ((0 : Int), (0 : Int), (0 : Int), ([] : List UInt8))).2.1), .int .i64 (((mget x0_1 (s6v.getD s9v.2.toNat (0 : Int))).getD ((0 : Int), (0 : Int), (0 : Int), ([] : List UInt8))).2.2.1), str (((mget x0_1 (s6v.getD s9v.2.toNat (0 : Int))).getD ((0 : Int), (0 : Int), (0 : Int), ([] : List UInt8))).2.2.2)]] rfl rfl Try.underlying39 elt42 rfl (by kernel_rfl) rfl hlb26v rfl rfl) rfl rfl rfl ?_
 intro b26v
 refine simL_openV 2 rfl (fun rs31v hl32v => ?_)
 refine simL_ask (fun hb30v => ?_)
 refine simL_eff (re_appendV 2 rfl rfl rfl Try.underlying39 elt42 rfl hl32v (RdsV.row hlb26v 0 rfl) hb30v) rfl rfl rfl ?_
 intro y29v
 refine simL_val (q_asg rfl rfl) rfl rfl rfl (simL_nil (nrm_block (nrm_then (sim_region ?_))))
 refine simL_val (q_add rfl rfl rfl) rfl rfl rfl ?_
 refine simL_val (q_move rfl rfl) rfl rfl rfl (simL_nil ?_)
 exact nrm_again (s := (s9v.1 ++ ([(((mget x0_1 (s6v.getD s9v.2.toNat (0 : Int))).getD ((0 : Int), (0 : Int), (0 : Int), ([] : List UInt8))).1, ((mget x0_1 (s6v.getD s9v.2.toNat (0 : Int))).getD ((0 : Int), (0 : Int), (0 : Int), ([] : List UInt8))).2.1, ((mget x0_1 (s6v.getD s9v.2.toNat (0 : Int))).getD ((0 : Int), (0 : Int), (0 : Int), ([] : List UInt8))).2.2.1, ((mget x0_1 (s6v.getD s9v.2.toNat (0 : Int))).getD ((0 : Int), (0 : Int), (0 : Int), ([] : List UInt8))).2.2.2)] : List (Int × Int × Int × List UInt8)), IntKind.i64.wrap (s9v.2 + 1))) (y29v.1, y29v.2) ⟨rfl, rfl, rfl, rfl, rfl, trivial⟩ (.sel 1 rfl (.sel 1 rfl (.sel' 1 rfl (RowV.mk hl24v) (.sel 1 rfl (.sel 1 rfl (.sel 1 rfl (.nil _)))))))
 refine sim_exi ?_
 refine exi_then ?_
 refine exi_loop ?_
 refine exi_here ?_
 exact nrm_cut (s := s9v.1) (y10v.1, y10v.2) ⟨rfl, trivial⟩ (.sel 0 rfl (.sel 0 rfl (.sel 1 rfl (.sel 1 rfl (.sel 1 rfl (.nil _))))))
 intro s1v y2v
 refine sim_seq (sim_region ?_)
 refine simL_val (q_move rfl rfl) rfl rfl rfl ?_
 refine simL_val (q_asg rfl rfl) rfl rfl rfl (simL_nil (nrm_then (sim_rtn ?_)))
 exact rtn_fn (y2v.1, y2v.2) rfl rfl rfl (.sel 1 rfl (.sel 0 rfl (.sel 0 rfl (.sel 0 rfl (.sel 0 rfl (.nil _))))))

def maps_Clone_map_string_string_string_string.f (x0 : List ((List UInt8) × (List UInt8))) : Option ((List ((List UInt8) × (List UInt8)))) := some x0
theorem maps_Clone_map_string_string_string_string.calls (W : World) (F : HA) (m0 : Nat) (x0 : List ((List UInt8) × (List UInt8))) :
    Fn Try.prog W 41 [.map (some m0)] [mapO m0 enc9 enc9 x0] F (maps_Clone_map_string_string_string_string.f x0) (fun (r : (List ((List UInt8) × (List UInt8)))) (y : Nat) => .map (some y)) (fun r y => [mapO y enc9 enc9 r, mapO m0 enc9 enc9 x0]) := by
  unfold maps_Clone_map_string_string_string_string.f
  exact fn_clone (fun es clock w h => AnyW.maps_Clone shClone41 _ es clock w h)

def maps_Clone_Session.f (x0 : List ((Int) × (Int × Int × Int × List UInt8))) : Option ((List ((Int) × (Int × Int × Int × List UInt8)))) := some x0
theorem maps_Clone_Session.calls (W : World) (F : HA) (m0 : Nat) (x0 : List ((Int) × (Int × Int × Int × List UInt8))) :
    Fn Try.prog W 42 [.map (some m0)] [mapO m0 enc3 enc42 x0] F (maps_Clone_Session.f x0) (fun (r : (List ((Int) × (Int × Int × Int × List UInt8)))) (y : Nat) => .map (some y)) (fun r y => [mapO y enc3 enc42 r, mapO m0 enc3 enc42 x0]) := by
  unfold maps_Clone_Session.f
  exact fn_clone (fun es clock w h => AnyW.maps_Clone shClone42 _ es clock w h)

def kv_Store_Copy.f (x0_0 : List ((List UInt8) × (List UInt8))) (x0_1 : List ((Int) × (Int × Int × Int × List UInt8))) : Option ((List ((List UInt8) × (List UInt8))) × (List ((Int) × (Int × Int × Int × List UInt8)))) := (maps_Clone_map_string_string_string_string.f x0_0).bind fun s1v => ((maps_Clone_Session.f x0_1).bind fun s4v => (some (s1v, s4v)))
theorem kv_Store_Copy.calls (W : World) (F : HA) (b0 : Nat) (m0_0 : Nat) (x0_0 : List ((List UInt8) × (List UInt8))) (m0_1 : Nat) (x0_1 : List ((Int) × (Int × Int × Int × List UInt8)))  :
    Fn Try.prog W 23 [.pointer (some ⟨b0, 0, none⟩)] [obj b0 63 [.map (some m0_0), .map (some m0_1)], mapO m0_0 enc9 enc9 x0_0, mapO m0_1 enc3 enc42 x0_1] F (kv_Store_Copy.f x0_0 x0_1) (fun (r : (List ((List UInt8) × (List UInt8))) × (List ((Int) × (Int × Int × Int × List UInt8)))) (y : Nat × Nat × Nat) => .pointer (some ⟨y.1, 0, none⟩)) (fun r y => [obj y.1 63 [.map (some y.2.1), .map (some y.2.2)], mapO y.2.1 enc9 enc9 r.1, mapO y.2.2 enc3 enc42 r.2, obj b0 63 [.map (some m0_0), .map (some m0_1)], mapO m0_0 enc9 enc9 x0_0, mapO m0_1 enc3 enc42 x0_1]) := by
 unfold kv_Store_Copy.f
 refine fn_intro 15 Try.func23 rfl Try.ntmps23 rfl ?_
 refine sim_seq (sim_region ?_)
 refine simL_val (q_asg rfl rfl) rfl rfl rfl (simL_nil (nrm_then (sim_seq ?_)))
 refine sim_bind (fun s1v hs3v => ?_)
 refine sim_bind (fun s4v hs6v => ?_)
 refine sim_draw (Γ := Nat × Nat × Nat) (0, 0, 0) [[], [0], [0, 1], [0, 1, 2], [0, 1, 2, 3], [], [5], [5, 6], [5, 6, 7], [0, 1, 2, 3, 4, 5, 6, 7, 8], [0, 1, 2, 3, 4, 5, 6, 7, 8, 9], [0, 1, 2, 3, 4, 5, 6, 7, 8, 9, 10], [0, 1, 2, 3, 4, 5, 6, 7, 8, 9, 10, 11]] [4, 9, 11] [0, 1, 2, 3, 5, 6, 7, 8, 10, 12] (fun i => [[0], [0], [0], [0], [], [0, 1], [0, 1], [0, 1], [0, 1], [], [2], [], [3]].getD i []) (fun i => [[], [], [], [], [0, 1, 2, 3, 5, 6, 7, 8], [], [], [], [], [0, 1, 2, 3, 4, 5, 6, 7, 8], [], [0, 1, 2, 3, 4, 5, 6, 7, 8, 9, 10], []].getD i []) (fun γ i => [.pointer (some ⟨b0, 0, none⟩), .pointer (some ⟨b0, 0, none⟩), .pointer (some ⟨b0, 0, none⟩), .map (some m0_0), .map (some γ.1), .pointer (some ⟨b0, 0, none⟩), .pointer (some ⟨b0, 0, none⟩), .pointer (some ⟨b0, 1, none⟩), .map (some m0_1), .map (some γ.2.1), .agg #[.map (some γ.1), .map (some γ.2.1)], .pointer (some ⟨γ.2.2, 0, none⟩), .pointer (some ⟨γ.2.2, 0, none⟩)].getD i undef) (fun j γ => [[obj b0 63 [.map (some m0_0), .map (some m0_1)], mapO m0_0 enc9 enc9 x0_0, mapO m0_1 enc3 enc42 x0_1, F], [mapO γ.1 enc9 enc9 s1v, mapO m0_0 enc9 enc9 x0_0, obj b0 63 [.map (some m0_0), .map (some m0_1)], mapO m0_1 enc3 enc42 x0_1, F], [mapO γ.2.1 enc3 enc42 s4v, mapO m0_1 enc3 enc42 x0_1, mapO γ.1 enc9 enc9 s1v, mapO m0_0 enc9 enc9 x0_0, obj b0 63 [.map (some m0_0), .map (some m0_1)], F], [obj γ.2.2 63 [.map (some γ.1), .map (some γ.2.1)], mapO γ.2.1 enc3 enc42 s4v, mapO m0_1 enc3 enc42 x0_1, mapO γ.1 enc9 enc9 s1v, mapO m0_0 enc9 enc9 x0_0, obj b0 63 [.map (some m0_0), .map (some m0_1)], F]].getD j []) (fun γ => [(2, .pointer (some ⟨γ.2.2, 0, none⟩))]) mixed (by decide) (by decide) (by decide) (by decide) (by decide) (by decide) (by decide) 15 rfl (by decide) (by decide) (by decide) (Ent.refl _) ?_ ?_ (fun _ => ⟨rfl, trivial⟩) ?_
 exact (All.cons (fun γ => (All.cons (QOb.plain [(0, .pointer (some ⟨b0, 0, none⟩))] rfl rfl (.o rfl (by decide) .nil) (q_move rfl rfl) rfl) All.nil)) (All.cons (fun γ => (All.cons (QOb.plain [(3, .pointer (some ⟨b0, 0, none⟩))] rfl rfl (.w 0 rfl rfl rfl .nil) (q_nil rfl rfl) rfl) All.nil)) (All.cons (fun γ => (All.cons (QOb.plain [(4, .pointer (some ⟨b0, 0, none⟩))] rfl rfl (.w 1 rfl rfl rfl .nil) (q_fa rfl rfl Try.underlying63 rfl rfl Try.sizeOf60 rfl) rfl) All.nil)) (All.cons (fun γ => (All.cons (QOb.plain [(5, .pointer (some ⟨b0, 0, none⟩))] rfl rfl (.w 2 rfl rfl rfl .nil) (q_load rfl rfl Try.isAgg60 (.obj 0 rfl rfl)) rfl) All.nil)) (All.cons (fun γ => (All.cons (QOb.plain [(0, .pointer (some ⟨b0, 0, none⟩))] rfl rfl (.o rfl (by decide) .nil) (q_move rfl rfl) rfl) (All.cons (QOb.plain [(0, .pointer (some ⟨b0, 0, none⟩))] rfl rfl (.o rfl (by decide) .nil) (q_move rfl rfl) rfl) All.nil))) (All.cons (fun γ => (All.cons (QOb.plain [(8, .pointer (some ⟨b0, 0, none⟩))] rfl rfl (.w 5 rfl rfl rfl .nil) (q_nil rfl rfl) rfl) (All.cons (QOb.plain [(8, .pointer (some ⟨b0, 0, none⟩))] rfl rfl (.w 5 rfl rfl rfl .nil) (q_nil rfl rfl) rfl) All.nil))) (All.cons (fun γ => (All.cons (QOb.plain [(9, .pointer (some ⟨b0, 0, none⟩))] rfl rfl (.w 6 rfl rfl rfl .nil) (q_fa rfl rfl Try.underlying63 rfl rfl Try.sizeOf61 rfl) rfl) (All.cons (QOb.plain [(9, .pointer (some ⟨b0, 0, none⟩))] rfl rfl (.w 6 rfl rfl rfl .nil) (q_fa rfl rfl Try.underlying63 rfl rfl Try.sizeOf61 rfl) rfl) All.nil))) (All.cons (fun γ => (All.cons (QOb.plain [(10, .pointer (some ⟨b0, 1, none⟩))] rfl rfl (.w 7 rfl rfl rfl .nil) (q_load rfl rfl Try.isAgg61 (.obj 0 rfl rfl)) rfl) (All.cons (QOb.plain [(10, .pointer (some ⟨b0, 1, none⟩))] rfl rfl (.w 7 rfl rfl rfl .nil) (q_load rfl rfl Try.isAgg61 (.obj 2 rfl rfl)) rfl) All.nil))) (All.cons (fun γ => (All.cons (QOb.plain [(7, .map (some γ.1)), (12, .map (some γ.2.1))] rfl rfl (.w 4 rfl rfl rfl (.w 9 rfl rfl rfl .nil)) (q_build (v := .agg #[.map (some γ.1), .map (some γ.2.1)]) rfl rfl (fun _ => by kernel_rfl)) rfl) All.nil)) (All.cons (fun γ => (All.cons (QOb.plain [(14, .pointer (some ⟨γ.2.2, 0, none⟩))] rfl rfl (.w 11 rfl rfl rfl .nil) (q_asg rfl rfl) rfl) All.nil)) All.nil))))))))))
 exact (All.cons (fun γ => EOb.mk (Z := Nat) [(6, .map (some m0_0))] (fun z => (z, γ.2.1, γ.2.2)) rfl rfl (.w 3 rfl rfl rfl .nil) (re_call (vs := [.map (some m0_0)]) (cap := []) (A := [mapO m0_0 enc9 enc9 x0_0]) (rst := [obj b0 63 [.map (some m0_0), .map (some m0_1)], mapO m0_1 enc3 enc42 x0_1, F]) rfl rfl rfl rfl rfl rfl Try.call41 (.sel 1 rfl (.sel 0 rfl (.sel 0 rfl (.sel 0 rfl (.nil _))))) (maps_Clone_map_string_string_string_string.calls _ _ m0_0 x0_0 ) hs3v) (fun _ => ⟨rfl, rfl, rfl, rfl, rfl, rfl, rfl, rfl, trivial⟩) (fun _ => .inr rfl) (fun z => Ent.refl _)) (All.cons (fun γ => EOb.mk (Z := Nat) [(11, .map (some m0_1))] (fun z => (γ.1, z, γ.2.2)) rfl rfl (.w 8 rfl rfl rfl .nil) (re_call (vs := [.map (some m0_1)]) (cap := []) (A := [mapO m0_1 enc3 enc42 x0_1]) (rst := [mapO γ.1 enc9 enc9 s1v, mapO m0_0 enc9 enc9 x0_0, obj b0 63 [.map (some m0_0), .map (some m0_1)], F]) rfl rfl rfl rfl rfl rfl Try.call42 (.sel 3 rfl (.sel 0 rfl (.sel 0 rfl (.sel 0 rfl (.sel 0 rfl (.nil _)))))) (maps_Clone_Session.calls _ _ m0_1 x0_1 ) hs6v) (fun _ => ⟨rfl, rfl, rfl, rfl, rfl, rfl, rfl, rfl, rfl, trivial⟩) (fun _ => .inr rfl) (fun z => Ent.refl _)) (All.cons (fun γ => EOb.mk (Z := Nat) [(13, .agg #[.map (some γ.1), .map (some γ.2.1)])] (fun z => (γ.1, γ.2.1, z)) rfl rfl (.w 10 rfl rfl rfl .nil) (re_box rfl rfl rfl) (fun _ => ⟨rfl, rfl, rfl, rfl, rfl, rfl, rfl, rfl, rfl, rfl, rfl, trivial⟩) (fun _ => .inr rfl) (fun z => Ent.refl _)) All.nil)))
 intro g8v
 refine nrm_then (sim_rtn ?_)
 exact rtn_fn (g8v.2.2, g8v.1, g8v.2.1) rfl rfl rfl (.sel 0 rfl (.sel 2 rfl (.sel 0 rfl (.sel 2 rfl (.sel 1 rfl (.sel 0 rfl (.sel 0 rfl (.nil _))))))))

def wire_NewWriter.f  : Option (List UInt8 × Int) := some (([] : List UInt8), 0)
theorem wire_NewWriter.calls (W : World) (F : HA)   :
    Fn Try.prog W 28 [] [] F (wire_NewWriter.f ) (fun (r : List UInt8 × Int) (y : Nat × Option Addr × Nat) => .pointer (some ⟨y.1, 0, none⟩)) (fun r y => [obj y.1 100 [.slice y.2.1 r.1.length y.2.2, .int .i64 r.2], Row 5 1 y.2.1 r.1.length y.2.2 (encB r.1)]) := by
 unfold wire_NewWriter.f
 refine fn_intro 3 Try.func28 rfl Try.ntmps28 rfl ?_
 refine sim_seq (sim_region ?_)
 refine simL_val (q_asg rfl rfl) rfl rfl rfl (simL_nil (nrm_then (sim_seq (sim_region ?_))))
 refine simL_val (q_build (v := .agg #[.slice none 0 0, .int .i64 0]) rfl rfl (fun _ => by kernel_rfl)) rfl rfl rfl ?_
 refine simL_eff (re_box rfl rfl rfl) rfl rfl rfl ?_
 intro b1v
 refine simL_val (q_asg rfl rfl) rfl rfl rfl (simL_nil (nrm_then (sim_rtn ?_)))
 exact rtn_fn (b1v, none, 0) rfl rfl rfl (.sel 0 rfl (.row_nil (.sel 0 rfl (.nil _))))
def wire_NewWriter.v  : List UInt8 × Int := (wire_NewWriter.f).getD ([], 0)
theorem wire_NewWriter.tot  : wire_NewWriter.f = some (wire_NewWriter.v ) := by
  have h : ∃ r, wire_NewWriter.f = some r := by
    unfold wire_NewWriter.f
    repeat' (first | exact ⟨_, rfl⟩ | split | simp only [Option.bind_some])
  obtain ⟨r, h⟩ := h
  unfold wire_NewWriter.v
  rw [h]; rfl

def wire_Size.l0 : Nat → Int → Int → Option (Int)
  | 0, _, _ => none
  | k + 1, z7v, z8v => if (128 : Int) ≤ z7v then (wire_Size.l0 k (Int.fdiv z7v (2 ^ (min (7 : Int).toNat IntKind.i64.bits))) (IntKind.i64.wrap (z8v + 1))) else (some z8v)
def wire_Size.f (k : Nat) (x0 : Int) : Option (Int) := if ((decide (x0 < (0 : Int))) || (decide ((4611686018427387904 : Int) < x0))) = true then (some 0) else ((wire_Size.l0 k x0 1).bind fun s3v => (some s3v))
theorem wire_Size.calls (W : World) (F : HA) (k : Nat) (x0 : Int)  :
    Fn Try.prog W 47 [.int .i64 x0] [] F (wire_Size.f k x0) (fun (r : Int) (y : Unit) => .int .i64 r) (fun r y => []) := by
 unfold wire_Size.f
 refine fn_intro 17 Try.func47 rfl Try.ntmps47 rfl ?_
 refine sim_seq (sim_region ?_)
 refine simL_val (q_asg rfl rfl) rfl rfl rfl (simL_nil (nrm_then (sim_seq (sim_seq (sim_region ?_)))))
 refine simL_val (q_move rfl rfl) rfl rfl rfl ?_
 refine simL_val (q_lss rfl rfl rfl) rfl rfl rfl ?_
 refine simL_val (q_move rfl rfl) rfl rfl rfl ?_
 refine simL_valc (b := decide (x0 < (0 : Int))) (fun hb12v => RQ.sub (E' := [(0, .int .i64 x0)]) ⟨rfl, trivial⟩ (q_move rfl rfl)) rfl rfl rfl rfl rfl ?_
 refine simL_valc (b := decide (x0 < (0 : Int))) (fun hb11v => RQ.sub (E' := [(7, .int .i64 x0)]) ⟨lk_cv rfl hb11v, trivial⟩ (q_gtr rfl rfl rfl)) rfl rfl rfl rfl rfl ?_
 refine simL_val (q_or rfl rfl rfl) rfl rfl rfl (simL_nil (nrm_then ?_))
 refine sim_condb rfl (fun h1v => ?_) (fun h2v => ?_)
 refine sim_seq (sim_region ?_)
 refine simL_val (q_asg rfl rfl) rfl rfl rfl (simL_nil (nrm_then (sim_rtn ?_)))
 refine rtn_then ?_
 exact rtn_fn () rfl rfl rfl (.sel 0 rfl (.nil _))
 refine sim_skip ?_
 refine nrm_then (sim_seq (sim_region ?_))
 refine simL_val (q_asg rfl rfl) rfl rfl rfl (simL_nil (nrm_then ?_))
 refine sim_cut (S := Int) (Unit) (fun s y => [(3, .int .i64 s)]) (fun s y => [F]) ?_ ?_
 refine sim_block ?_
 refine sim_loop (S := Int × Int) (Unit) (fun k s => wire_Size.l0 k s.1 s.2) (fun s y => [(0, .int .i64 s.1), (3, .int .i64 s.2)]) (fun s y => [F]) (fun _ => by rw [wire_Size.l0]) ?_ k (x0, 1) () ⟨rfl, rfl, trivial⟩ (.sel 0 rfl (.nil _))
 intro k s5v y6v
 refine sim_eq (by rw [wire_Size.l0]) ?_
 refine sim_seq (sim_seq (sim_region ?_))
 refine simL_val (q_move rfl rfl) rfl rfl rfl ?_
 refine simL_val (q_geq rfl rfl rfl) rfl rfl rfl (simL_nil (nrm_then ?_))
 refine sim_cond rfl (fun h9v => ?_) (fun h10v => ?_)
 refine sim_skip ?_
 refine nrm_then ?_
 refine sim_block ?_
 refine sim_seq (sim_region ?_)
 refine simL_val (q_move rfl rfl) rfl rfl rfl ?_
 refine simL_val (q_shr rfl rfl rfl (by decide)) rfl rfl rfl ?_
 refine simL_val (q_asg rfl rfl) rfl rfl rfl (simL_nil (nrm_then (sim_region ?_)))
 refine simL_val (q_move rfl rfl) rfl rfl rfl ?_
 refine simL_val (q_add rfl rfl rfl) rfl rfl rfl ?_
 refine simL_val (q_asg rfl rfl) rfl rfl rfl (simL_nil (nrm_block ?_))
 exact nrm_again (s := (Int.fdiv s5v.1 (2 ^ (min (7 : Int).toNat IntKind.i64.bits)), IntKind.i64.wrap (s5v.2 + 1))) () ⟨rfl, rfl, trivial⟩ (.sel 0 rfl (.nil _))
 refine sim_exi ?_
 refine exi_then ?_
 refine exi_loop ?_
 refine exi_here ?_
 exact nrm_cut (s := s5v.2) () ⟨rfl, trivial⟩ (.sel 0 rfl (.nil _))
 intro s3v y4v
 refine sim_seq (sim_region ?_)
 refine simL_val (q_move rfl rfl) rfl rfl rfl ?_
 refine simL_val (q_asg rfl rfl) rfl rfl rfl (simL_nil (nrm_then (sim_rtn ?_)))
 exact rtn_fn () rfl rfl rfl (.sel 0 rfl (.nil _))

def wire_sevens_1.l0 {S : Type} (step : S → Int → Option S) : Nat → Int → S → Option (Int × S)
  | 0, _, _ => none
  | k + 1, z5v, z6v => if (128 : Int) ≤ z5v then ((step z6v (IntKind.u8.wrap (bitsV .or .i64 (bitsV .and .i64 z5v 127) 128))).bind fun s9v => (wire_sevens_1.l0 step k (Int.fdiv z5v (2 ^ (min (7 : Int).toNat IntKind.i64.bits))) s9v)) else (some (z5v, z6v))
def wire_sevens_1.f {S : Type} (k : Nat) (step : S → Int → Option S) (s0 : S) (x1_0 : Int) : Option (S) := (wire_sevens_1.l0 step k x1_0 s0).bind fun s1v => ((step s1v.2 (IntKind.u8.wrap s1v.1)).bind fun s12v => (some s12v))
theorem wire_sevens_1.calls (W : World) (F : HA) (k : Nat) (S Y : Type) (l : Nat) (step : S → Int → Option S) (A : S → Y → HA) (s0 : S) (y0 : Y) (b1 : Nat) (x1_0 : Int) (hY : YieldOk Try.prog W l (fun (x : Int) => [.int .u8 x]) step A) :
    Fn Try.prog W 62 [.func (.yield l) #[] #[], .pointer (some ⟨b1, 0, none⟩)] [A s0 y0, obj b1 3 [.int .i64 x1_0]] F (wire_sevens_1.f k step s0 x1_0) (fun (r : S) (y : Y) => .tuple #[]) (fun r y => [A r y, obj b1 3 [.int .i64 x1_0]]) := by
 unfold wire_sevens_1.f
 refine fn_intro 20 Try.func62 rfl Try.ntmps62 rfl ?_
 refine sim_seq (sim_region ?_)
 refine simL_val (q_load rfl rfl Try.isAgg3 (.obj 1 rfl rfl)) rfl rfl rfl ?_
 refine simL_val (q_asg rfl rfl) rfl rfl rfl (simL_nil (nrm_then ?_))
 refine sim_cut (S := Int × S) (Y) (fun s y => [(0, .func (.yield l) #[] #[]), (3, .int .i64 s.1)]) (fun s y => [obj b1 3 [.int .i64 x1_0], A s.2 y, F]) ?_ ?_
 refine sim_block ?_
 refine sim_loop (S := Int × S) (Y) (fun k s => wire_sevens_1.l0 step k s.1 s.2) (fun s y => [(0, .func (.yield l) #[] #[]), (3, .int .i64 s.1)]) (fun s y => [obj b1 3 [.int .i64 x1_0], A s.2 y, F]) (fun _ => by rw [wire_sevens_1.l0]) ?_ k (x1_0, s0) y0 ⟨rfl, rfl, trivial⟩ (.sel 1 rfl (.sel 0 rfl (.sel 0 rfl (.nil _))))
 intro k s3v y4v
 refine sim_eq (by rw [wire_sevens_1.l0]) ?_
 refine sim_seq (sim_seq (sim_region ?_))
 refine simL_val (q_move rfl rfl) rfl rfl rfl ?_
 refine simL_val (q_geq rfl rfl rfl) rfl rfl rfl (simL_nil (nrm_then ?_))
 refine sim_cond rfl (fun h7v => ?_) (fun h8v => ?_)
 refine sim_skip ?_
 refine nrm_then ?_
 refine sim_block ?_
 refine sim_seq (sim_seq (sim_region ?_))
 refine simL_val (q_move rfl rfl) rfl rfl rfl ?_
 refine simL_val (q_move rfl rfl) rfl rfl rfl ?_
 refine simL_val (q_and_ rfl rfl rfl) rfl rfl rfl ?_
 refine simL_val (q_or_ rfl rfl rfl) rfl rfl rfl ?_
 refine simL_val (q_conv rfl rfl Try.underlying3 Try.underlying5) rfl rfl rfl ?_
 refine simL_bind (fun s9v hs11v => ?_)
 refine simL_eff (re_yield (IntKind.u8.wrap (bitsV .or .i64 (bitsV .and .i64 s3v.1 127) 128)) 1 rfl rfl rfl rfl rfl rfl hY rfl hs11v) rfl rfl rfl ?_
 intro y10v
 refine simL_val (q_not rfl rfl) rfl rfl rfl (simL_nil (nrm_then ?_))
 refine sim_false rfl ?_
 refine sim_skip ?_
 refine nrm_then (sim_region ?_)
 refine simL_val (q_move rfl rfl) rfl rfl rfl ?_
 refine simL_val (q_shr rfl rfl rfl (by decide)) rfl rfl rfl ?_
 refine simL_val (q_asg rfl rfl) rfl rfl rfl (simL_nil (nrm_block ?_))
 exact nrm_again (s := (Int.fdiv s3v.1 (2 ^ (min (7 : Int).toNat IntKind.i64.bits)), s9v)) y10v ⟨rfl, rfl, trivial⟩ (.sel 0 rfl (.sel 0 rfl (.sel 0 rfl (.nil _))))
 refine sim_exi ?_
 refine exi_then ?_
 refine exi_loop ?_
 refine exi_here ?_
 exact nrm_cut (s := (s3v.1, s3v.2)) y4v ⟨rfl, rfl, trivial⟩ (.sel 0 rfl (.sel 0 rfl (.sel 0 rfl (.nil _))))
 intro s1v y2v
 refine sim_region ?_
 refine simL_val (q_move rfl rfl) rfl rfl rfl ?_
 refine simL_val (q_move rfl rfl) rfl rfl rfl ?_
 refine simL_val (q_conv rfl rfl Try.underlying3 Try.underlying5) rfl rfl rfl ?_
 refine simL_bind (fun s12v hs14v => ?_)
 refine simL_eff (re_yield (IntKind.u8.wrap s1v.1) 1 rfl rfl rfl rfl rfl rfl hY rfl hs14v) rfl rfl rfl ?_
 intro y13v
 refine simL_nil ?_
 exact nrm_fn y13v rfl rfl rfl (.sel 1 rfl (.sel 0 rfl (.sel 0 rfl (.nil _))))

def wire_sevens.f (x0 : Int) : Option (Int) := some x0
theorem wire_sevens.calls (W : World) (F : HA) (x0 : Int)  :
    Fn Try.prog W 48 [.int .i64 x0] [] F (wire_sevens.f x0) (fun (r : Int) (y : Nat) => .func (.func 62) #[] #[.pointer (some ⟨y, 0, none⟩)]) (fun r y => [obj y 3 [.int .i64 r]]) := by
 unfold wire_sevens.f
 refine fn_intro 4 Try.func48 rfl Try.ntmps48 rfl ?_
 refine sim_seq (sim_region ?_)
 refine simL_eff (re_box rfl rfl rfl) rfl rfl rfl ?_
 intro b1v
 refine simL_val (q_asg rfl rfl) rfl rfl rfl (simL_nil (nrm_then (sim_seq (sim_region ?_))))
 refine simL_val (q_mkfn rfl rfl rfl) rfl rfl rfl ?_
 refine simL_val (q_asg rfl rfl) rfl rfl rfl (simL_nil (nrm_then (sim_rtn ?_)))
 exact rtn_fn b1v rfl rfl rfl (.sel 0 rfl (.sel 0 rfl (.nil _)))
def wire_sevens.v (x0 : Int) : Int := (wire_sevens.f x0).getD 0
theorem wire_sevens.tot (x0 : Int) : wire_sevens.f x0 = some (wire_sevens.v x0) := by
  have h : ∃ r, wire_sevens.f x0 = some r := by
    unfold wire_sevens.f
    repeat' (first | exact ⟨_, rfl⟩ | split | simp only [Option.bind_some])
  obtain ⟨r, h⟩ := h
  unfold wire_sevens.v
  rw [h]; rfl

def wire_Writer_Int.f (k : Nat) (x0_0 : List UInt8) (x0_1 : Int) (x1 : Int) : Option (List UInt8 × Int) := if x0_1 = (0 : Int) then ((wire_Size.f k x1).bind fun s4v => (if s4v = (0 : Int) then (some (x0_0, 1)) else ((wire_sevens.f x1).bind fun s9v => ((wire_sevens_1.f k (fun (s13v : List UInt8) (x12v : Int) => if 0 ≤ x12v ∧ x12v < 256 then (if (s13v.length + ([(byte x12v)] : List UInt8).length) * 1 ≤ 140737488355328 then (some (s13v ++ ([(byte x12v)] : List UInt8))) else none) else none) x0_0 s9v).bind fun s20v => (some (s20v, x0_1)))))) else (some (x0_0, x0_1))
theorem wire_Writer_Int.calls (W : World) (F : HA) (k : Nat) (b0 : Nat) (a0_0 : Option Addr) (c0_0 : Nat) (x0_0 : List UInt8) (x0_1 : Int) (x1 : Int)  :
    Fn Try.prog W 29 [.pointer (some ⟨b0, 0, none⟩), .int .i64 x1] [obj b0 100 [.slice a0_0 x0_0.length c0_0, .int .i64 x0_1], Row 5 1 a0_0 x0_0.length c0_0 (encB x0_0)] F (wire_Writer_Int.f k x0_0 x0_1 x1) (fun (r : List UInt8 × Int) (y : Option Addr × Nat) => .tuple #[]) (fun r y => [obj b0 100 [.slice y.1 r.1.length y.2, .int .i64 r.2], Row 5 1 y.1 r.1.length y.2 (encB r.1)]) := by
 unfold wire_Writer_Int.f
 refine fn_introM 29 Try.func29 rfl Try.ntmps29 rfl ?_
 refine sim_seq (sim_region ?_)
 refine simL_eff (re_box rfl rfl rfl) rfl rfl rfl ?_
 intro b1v
 refine simL_nil (nrm_then (sim_seq (sim_seq (sim_region ?_))))
 refine simL_val (q_load rfl rfl Try.isAgg71 (.obj 0 rfl rfl)) rfl rfl rfl ?_
 refine simL_val (q_nil rfl rfl) rfl rfl rfl ?_
 refine simL_val (q_fa rfl rfl Try.underlying100 rfl rfl Try.sizeOf29 rfl) rfl rfl rfl ?_
 refine simL_val (q_load rfl rfl Try.isAgg29 (.obj 1 rfl rfl)) rfl rfl rfl ?_
 refine simL_val (q_neq rfl rfl rfl) rfl rfl rfl (simL_nil (nrm_then ?_))
 refine sim_condn rfl (fun h2v => ?_) (fun h3v => ?_)
 refine sim_skip ?_
 refine nrm_then (sim_seq (sim_seq (sim_region ?_)))
 refine simL_val (q_move rfl rfl) rfl rfl rfl ?_
 refine simL_bind (fun s4v hs6v => ?_)
 refine simL_eff (re_call (vs := [.int .i64 x1]) (cap := []) (A := []) (rst := [obj b1v 71 [.pointer (some ⟨b0, 0, none⟩)], obj b0 100 [.slice a0_0 x0_0.length c0_0, .int .i64 x0_1], Row 5 1 a0_0 x0_0.length c0_0 (encB x0_0), F]) rfl rfl rfl rfl rfl rfl Try.call47 (.sel 0 rfl (.sel 0 rfl (.sel 0 rfl (.sel 0 rfl (.nil _))))) (wire_Size.calls _ _ k x1 ) hs6v) rfl rfl rfl ?_
 intro y5v
 refine simL_val (q_eql rfl rfl rfl) rfl rfl rfl (simL_nil (nrm_then ?_))
 refine sim_cond rfl (fun h7v => ?_) (fun h8v => ?_)
 refine sim_seq (sim_region ?_)
 refine simL_val (q_load rfl rfl Try.isAgg71 (.obj 0 rfl rfl)) rfl rfl rfl ?_
 refine simL_val (q_nil rfl rfl) rfl rfl rfl ?_
 refine simL_val (q_fa rfl rfl Try.underlying100 rfl rfl Try.sizeOf29 rfl) rfl rfl rfl ?_
 refine simL_do (re_store 1 rfl rfl rfl Try.sizeOf29 rfl rfl (one_of (by rfl)) rfl rfl) rfl rfl ?_
 intro _
 refine simL_nil (nrm_then (sim_rtn ?_))
 refine rtn_then ?_
 exact rtn_fnM [] (a0_0, c0_0) rfl rfl rfl (.sel 1 rfl (.sel 1 rfl (.sel 1 rfl (.nil _))))
 refine sim_skip ?_
 refine nrm_then (sim_seq (sim_region ?_))
 refine simL_val (q_move rfl rfl) rfl rfl rfl ?_
 refine simL_bind (fun s9v hs11v => ?_)
 refine simL_eff (re_call (vs := [.int .i64 x1]) (cap := []) (A := []) (rst := [obj b1v 71 [.pointer (some ⟨b0, 0, none⟩)], obj b0 100 [.slice a0_0 x0_0.length c0_0, .int .i64 x0_1], Row 5 1 a0_0 x0_0.length c0_0 (encB x0_0), F]) rfl rfl rfl rfl rfl rfl Try.call48 (.sel 0 rfl (.sel 0 rfl (.sel 0 rfl (.sel 0 rfl (.nil _))))) (wire_sevens.calls _ _ x1 ) hs11v) rfl rfl rfl ?_
 intro y10v
 refine simL_nil (nrm_then ?_)
 refine sim_block ?_
 refine sim_range (S := List UInt8) (Y := Option Addr × Nat) (R' := List UInt8) (Y' := (Option Addr × Nat)) (ps := [18]) (Cap := [obj y10v 3 [.int .i64 s9v]]) (rst := []) (CapB := fun r y => [obj y10v 3 [.int .i64 s9v]]) (enc := fun (x : Int) => [.int .u8 x]) (oN := wire_sevens_1.f k (fun (s13v : List UInt8) (x12v : Int) => if 0 ≤ x12v ∧ x12v < 256 then (if (s13v.length + ([(byte x12v)] : List UInt8).length) * 1 ≤ 140737488355328 then (some (s13v ++ ([(byte x12v)] : List UInt8))) else none) else none) x0_0 s9v) (fun s y => [obj b1v 71 [.pointer (some ⟨b0, 0, none⟩)], obj b0 100 [.slice y.1 s.length y.2, .int .i64 x0_1], Row 5 1 y.1 s.length y.2 (encB s), F]) x0_0 (a0_0, c0_0) (fun s13v x12v y14v => [(2, .pointer (some ⟨b1v, 0, none⟩)), (4, .int .u8 x12v)]) (fun r => r) (fun r y => y) rfl rfl Try.call62 (fun l A hY X => wire_sevens_1.calls _ _ k _ _ l _ A _ _ y10v s9v hY) rfl (fun _ => rfl) (.sel 1 rfl (.sel 1 rfl (.sel 1 rfl (.sel 1 rfl (.sel 0 rfl (.nil _)))))) ?_ ?_ ?_
 intro l s13v x12v y14v Fr
 refine sim_ent (H' := [obj b1v 71 [.pointer (some ⟨b0, 0, none⟩)], obj b0 100 [.slice y14v.1 s13v.length y14v.2, .int .i64 x0_1], Row 5 1 y14v.1 s13v.length y14v.2 (encB s13v), F, Fr]) (Ent.refl _) ?_
 refine sim_region ?_
 refine simL_val (q_asg rfl rfl) rfl rfl rfl (simL_nil ?_)
 exact nrm_cut () ⟨rfl, rfl, trivial⟩ (Ent.refl _)
 intro l s13v x12v y14v Fr
 refine sim_ent (H' := [obj b1v 71 [.pointer (some ⟨b0, 0, none⟩)], obj b0 100 [.slice y14v.1 s13v.length y14v.2, .int .i64 x0_1], Row 5 1 y14v.1 s13v.length y14v.2 (encB s13v), F, Fr]) (Ent.refl _) ?_
 refine sim_block ?_
 refine sim_ask (fun hb16v => ?_)
 refine sim_ask (fun hb18v => ?_)
 refine sim_draw (Γ := Nat × (Option Addr × Nat)) (0, (none, 0)) [[], [], [1], [1, 2], [1, 2, 3], [], [5], [1, 2, 3, 4, 5, 6], [0, 1, 2, 3, 4, 5, 6, 7], [0, 1, 2, 3, 4, 5, 6, 7, 8], [0, 1, 2, 3, 4, 5, 6, 7, 8, 9]] [6, 7, 10] [0, 1, 2, 3, 4, 5, 8, 9] (fun i => [[0, 1, 2], [0, 1], [0, 1], [0, 1], [0, 1], [0], [], [], [2], [2], []].getD i []) (fun i => [[], [], [], [], [], [], [0, 1, 2, 3, 4, 5], [0, 1, 2, 3, 4, 5, 6], [], [], [0, 1, 2, 3, 4, 5, 6, 7, 8, 9]].getD i []) (fun γ i => [.pointer (some ⟨b0, 0, none⟩), .pointer (some ⟨b0, 0, none⟩), .pointer (some ⟨b0, 0, none⟩), .pointer (some ⟨b0, 0, none⟩), .slice y14v.1 s13v.length y14v.2, .int .u8 x12v, .slice (some ⟨γ.1, 0, none⟩) (([(byte x12v)] : List UInt8).length) 1, .slice γ.2.1 ((s13v ++ ([(byte x12v)] : List UInt8)).length) γ.2.2, .pointer (some ⟨b0, 0, none⟩), .pointer (some ⟨b0, 0, none⟩), undef].getD i undef) (fun j γ => [[obj b1v 71 [.pointer (some ⟨b0, 0, none⟩)], obj b0 100 [.slice y14v.1 s13v.length y14v.2, .int .i64 x0_1], Row 5 1 y14v.1 s13v.length y14v.2 (encB s13v), F, Fr], [Row 5 1 (some ⟨γ.1, 0, none⟩) ([(byte x12v)] : List UInt8).length 1 (encB ([(byte x12v)] : List UInt8)), obj b1v 71 [.pointer (some ⟨b0, 0, none⟩)], obj b0 100 [.slice y14v.1 s13v.length y14v.2, .int .i64 x0_1], Row 5 1 y14v.1 s13v.length y14v.2 (encB s13v), F, Fr], [Row 5 1 (some ⟨γ.1, 0, none⟩) ([(byte x12v)] : List UInt8).length 1 (encB ([(byte x12v)] : List UInt8)), obj b1v 71 [.pointer (some ⟨b0, 0, none⟩)], obj b0 100 [.slice y14v.1 s13v.length y14v.2, .int .i64 x0_1], Row 5 1 γ.2.1 (s13v ++ ([(byte x12v)] : List UInt8)).length γ.2.2 (encB (s13v ++ ([(byte x12v)] : List UInt8))), F, Fr], [Row 5 1 (some ⟨γ.1, 0, none⟩) ([(byte x12v)] : List UInt8).length 1 (encB ([(byte x12v)] : List UInt8)), obj b1v 71 [.pointer (some ⟨b0, 0, none⟩)], obj b0 100 [.slice γ.2.1 ((s13v ++ ([(byte x12v)] : List UInt8)).length) γ.2.2, .int .i64 x0_1], Row 5 1 γ.2.1 (s13v ++ ([(byte x12v)] : List UInt8)).length γ.2.2 (encB (s13v ++ ([(byte x12v)] : List UInt8))), F, Fr]].getD j []) (fun γ => []) mixed (by decide) (by decide) (by decide) (by decide) (by decide) (by decide) (by decide) 29 rfl (by decide) (by decide) (by decide) (Ent.refl _) ?_ ?_ (fun _ => trivial) ?_
 exact (All.cons (fun γ => (All.cons (QOb.plain [(2, .pointer (some ⟨b1v, 0, none⟩))] rfl rfl (.o rfl (by decide) .nil) (q_load rfl rfl Try.isAgg71 (.obj 0 rfl rfl)) rfl) (All.cons (QOb.plain [(2, .pointer (some ⟨b1v, 0, none⟩))] rfl rfl (.o rfl (by decide) .nil) (q_load rfl rfl Try.isAgg71 (.obj 1 rfl rfl)) rfl) (All.cons (QOb.plain [(2, .pointer (some ⟨b1v, 0, none⟩))] rfl rfl (.o rfl (by decide) .nil) (q_load rfl rfl Try.isAgg71 (.obj 1 rfl rfl)) rfl) All.nil)))) (All.cons (fun γ => (All.cons (QOb.plain [(2, .pointer (some ⟨b1v, 0, none⟩))] rfl rfl (.o rfl (by decide) .nil) (q_load rfl rfl Try.isAgg71 (.obj 0 rfl rfl)) rfl) (All.cons (QOb.plain [(2, .pointer (some ⟨b1v, 0, none⟩))] rfl rfl (.o rfl (by decide) .nil) (q_load rfl rfl Try.isAgg71 (.obj 1 rfl rfl)) rfl) All.nil))) (All.cons (fun γ => (All.cons (QOb.plain [(20, .pointer (some ⟨b0, 0, none⟩))] rfl rfl (.w 1 rfl rfl rfl .nil) (q_nil rfl rfl) rfl) (All.cons (QOb.plain [(20, .pointer (some ⟨b0, 0, none⟩))] rfl rfl (.w 1 rfl rfl rfl .nil) (q_nil rfl rfl) rfl) All.nil))) (All.cons (fun γ => (All.cons (QOb.plain [(21, .pointer (some ⟨b0, 0, none⟩))] rfl rfl (.w 2 rfl rfl rfl .nil) (q_fa rfl rfl Try.underlying100 rfl rfl Try.sizeOf35 rfl) rfl) (All.cons (QOb.plain [(21, .pointer (some ⟨b0, 0, none⟩))] rfl rfl (.w 2 rfl rfl rfl .nil) (q_fa rfl rfl Try.underlying100 rfl rfl Try.sizeOf35 rfl) rfl) All.nil))) (All.cons (fun γ => (All.cons (QOb.plain [(22, .pointer (some ⟨b0, 0, none⟩))] rfl rfl (.w 3 rfl rfl rfl .nil) (q_load rfl rfl Try.isAgg35 (.obj 1 rfl rfl)) rfl) (All.cons (QOb.plain [(22, .pointer (some ⟨b0, 0, none⟩))] rfl rfl (.w 3 rfl rfl rfl .nil) (q_load rfl rfl Try.isAgg35 (.obj 2 rfl rfl)) rfl) All.nil))) (All.cons (fun γ => (All.cons (QOb.plain [(4, .int .u8 x12v)] rfl rfl (.o rfl (by decide) .nil) (q_move rfl rfl) rfl) All.nil)) (All.cons (fun γ => (All.cons (QOb.plain [(19, .pointer (some ⟨b0, 0, none⟩))] rfl rfl (.w 0 rfl rfl rfl .nil) (q_nil rfl rfl) rfl) All.nil)) (All.cons (fun γ => (All.cons (QOb.plain [(27, .pointer (some ⟨b0, 0, none⟩))] rfl rfl (.w 8 rfl rfl rfl .nil) (q_fa rfl rfl Try.underlying100 rfl rfl Try.sizeOf35 rfl) rfl) All.nil)) All.nil))))))))
 exact (All.cons (fun γ => EOb.mk (Z := Nat) [(24, .int .u8 x12v)] (fun z => (z, γ.2)) rfl rfl (.w 5 rfl rfl rfl .nil) (re_litb (cs := [.int .u8 x12v]) ([(byte x12v)] : List UInt8) rfl rfl Try.underlying35 elt5 rfl (by kernel_rfl) rfl rfl (byte_lit1 hb16v)) (fun _ => ⟨rfl, rfl, rfl, rfl, rfl, rfl, trivial⟩) (fun _ => .inr rfl) (fun z => Ent.refl _)) (All.cons (fun γ => EOb.mk (Z := Option Addr × Nat) [(23, .slice y14v.1 s13v.length y14v.2), (25, .slice (some ⟨γ.1, 0, none⟩) (([(byte x12v)] : List UInt8).length) 1)] (fun z => (γ.1, z)) rfl rfl (.w 4 rfl rfl rfl (.w 6 rfl rfl rfl .nil)) (re_appendb 3 rfl rfl rfl Try.underlying35 elt5 rfl (Rds.row 0 rfl) hb18v) (fun _ => ⟨rfl, rfl, rfl, rfl, rfl, rfl, rfl, trivial⟩) (fun _ => .inr rfl) (fun z => Ent.refl _)) (All.cons (fun γ => EOb.mk (Z := Unit) [(26, .slice γ.2.1 ((s13v ++ ([(byte x12v)] : List UInt8)).length) γ.2.2), (28, .pointer (some ⟨b0, 0, none⟩))] (fun z => (γ.1, γ.2)) rfl rfl (.w 7 rfl rfl rfl (.w 9 rfl rfl rfl .nil)) (re_store 2 rfl rfl rfl Try.sizeOf35 rfl rfl (one_of (by rfl)) rfl rfl) (fun _ => ⟨rfl, rfl, rfl, rfl, rfl, rfl, rfl, rfl, rfl, rfl, trivial⟩) (fun _ => .inl rfl) (fun z => Ent.refl _)) All.nil)))
 intro g19v
 refine nrm_block ?_
 exact nrm_cut (s := s13v ++ ([(byte x12v)] : List UInt8)) (g19v.2.1, g19v.2.2) trivial (.sel 1 rfl (.sel 1 rfl (.sel 1 rfl (.sel 1 rfl (.sel 1 rfl (.nil _))))))
 intro D22v s20v y21v
 refine nrm_ent (H' := [shutD D22v, obj b1v 71 [.pointer (some ⟨b0, 0, none⟩)], obj b0 100 [.slice y21v.1 s20v.length y21v.2, .int .i64 x0_1], Row 5 1 y21v.1 s20v.length y21v.2 (encB s20v), F, obj y10v 3 [.int .i64 s9v]]) (Ent.refl _) ?_
 refine nrm_block ?_
 exact nrm_fnM [D22v] (y21v.1, y21v.2) rfl rfl rfl (.sel 0 rfl (.sel 1 rfl (.sel 1 rfl (.sel 1 rfl (.nil _)))))
 refine sim_rtn ?_
 refine rtn_then ?_
 exact rtn_fnM [] (a0_0, c0_0) rfl rfl rfl (.sel 1 rfl (.sel 1 rfl (.sel 1 rfl (.nil _))))

def maps_Keys_map_string_string_string_string.f  : Option (Unit) := some ()
theorem maps_Keys_map_string_string_string_string.calls (W : World) (F : HA) (m0 : Nat)  :
    Fn Try.prog W 51 [.map (some m0)] [] F (maps_Keys_map_string_string_string_string.f ) (fun (r : Unit) (y : Nat) => .func (.func 65) #[] #[.pointer (some ⟨y, 0, none⟩)]) (fun r y => [obj y 60 [.map (some m0)]]) := by
 unfold maps_Keys_map_string_string_string_string.f
 refine fn_intro 4 Try.func51 rfl Try.ntmps51 rfl ?_
 refine sim_seq (sim_region ?_)
 refine simL_eff (re_box rfl rfl rfl) rfl rfl rfl ?_
 intro b1v
 refine simL_val (q_asg rfl rfl) rfl rfl rfl (simL_nil (nrm_then (sim_seq (sim_region ?_))))
 refine simL_val (q_mkfn rfl rfl rfl) rfl rfl rfl ?_
 refine simL_val (q_asg rfl rfl) rfl rfl rfl (simL_nil (nrm_then (sim_rtn ?_)))
 exact rtn_fn b1v rfl rfl rfl (.sel 0 rfl (.sel 0 rfl (.nil _)))

def kv_Store_Each.f  : Option (Unit) := some ()
theorem kv_Store_Each.calls (W : World) (F : HA) (b0 : Nat)  :
    Fn Try.prog W 30 [.pointer (some ⟨b0, 0, none⟩)] [] F (kv_Store_Each.f ) (fun (r : Unit) (y : Nat) => .func (.func 49) #[] #[.pointer (some ⟨y, 0, none⟩)]) (fun r y => [obj y 25 [.pointer (some ⟨b0, 0, none⟩)]]) := by
 unfold kv_Store_Each.f
 refine fn_intro 4 Try.func30 rfl Try.ntmps30 rfl ?_
 refine sim_seq (sim_region ?_)
 refine simL_eff (re_box rfl rfl rfl) rfl rfl rfl ?_
 intro b1v
 refine simL_val (q_asg rfl rfl) rfl rfl rfl (simL_nil (nrm_then (sim_seq (sim_region ?_))))
 refine simL_val (q_mkfn rfl rfl rfl) rfl rfl rfl ?_
 refine simL_val (q_asg rfl rfl) rfl rfl rfl (simL_nil (nrm_then (sim_rtn ?_)))
 exact rtn_fn b1v rfl rfl rfl (.sel 0 rfl (.sel 0 rfl (.nil _)))

def wire_Writer_Bytes.f (k : Nat) (x0_0 : List UInt8) (x0_1 : Int) (x1 : List UInt8) (x2 : Int) : Option (List UInt8 × Int) := (if ((decide (x0_1 = (0 : Int))) && (decide (max x2 (0 : Int) < (x1.length : Int)))) = true then (some 3) else (some x0_1)).bind fun s1v => (if s1v = (0 : Int) then ((wire_Writer_Int.f k x0_0 s1v (x1.length : Int)).bind fun s12v => (if (s12v.1.length + x1.length) * 1 ≤ 140737488355328 then (some (s12v.1 ++ x1, s12v.2)) else none)) else (some (x0_0, s1v)))
theorem wire_Writer_Bytes.calls (W : World) (F : HA) (k : Nat) (b0 : Nat) (a0_0 : Option Addr) (c0_0 : Nat) (x0_0 : List UInt8) (x0_1 : Int) (a1 : Option Addr) (c1 : Nat) (x1 : List UInt8) (x2 : Int) (h1 : Rd F a1 (encB x1)) (hc1 : x1.length ≤ c1) (hm1 : c1 ≤ maxLen) :
    Fn Try.prog W 52 [.pointer (some ⟨b0, 0, none⟩), .slice a1 x1.length c1, .int .i64 x2] [obj b0 100 [.slice a0_0 x0_0.length c0_0, .int .i64 x0_1], Row 5 1 a0_0 x0_0.length c0_0 (encB x0_0)] F (wire_Writer_Bytes.f k x0_0 x0_1 x1 x2) (fun (r : List UInt8 × Int) (y : Option Addr × Nat) => .tuple #[]) (fun r y => [obj b0 100 [.slice y.1 r.1.length y.2, .int .i64 r.2], Row 5 1 y.1 r.1.length y.2 (encB r.1)]) := by
 unfold wire_Writer_Bytes.f
 refine fn_intro 39 Try.func52 rfl Try.ntmps52 rfl ?_
 refine sim_cut (S := Int) (Unit) (fun s y => [(0, .pointer (some ⟨b0, 0, none⟩)), (1, .slice a1 x1.length c1)]) (fun s y => [obj b0 100 [.slice a0_0 x0_0.length c0_0, .int .i64 s], Row 5 1 a0_0 x0_0.length c0_0 (encB x0_0), F]) ?_ ?_
 refine sim_seq (sim_region ?_)
 refine simL_val (q_move rfl rfl) rfl rfl rfl ?_
 refine simL_val (q_nil rfl rfl) rfl rfl rfl ?_
 refine simL_val (q_fa rfl rfl Try.underlying100 rfl rfl Try.sizeOf29 rfl) rfl rfl rfl ?_
 refine simL_val (q_load rfl rfl Try.isAgg29 (.obj 0 rfl rfl)) rfl rfl rfl ?_
 refine simL_val (q_eql rfl rfl rfl) rfl rfl rfl ?_
 refine simL_val (q_move rfl rfl) rfl rfl rfl ?_
 refine simL_valc (b := decide (x0_1 = (0 : Int))) (fun hb9v => RQ.sub (E' := [(1, .slice a1 x1.length c1)]) ⟨rfl, trivial⟩ (q_move rfl rfl)) rfl rfl rfl rfl rfl ?_
 refine simL_valc (b := decide (x0_1 = (0 : Int))) (fun hb8v => RQ.sub (E' := [(12, .slice a1 x1.length c1)]) ⟨lk_cv rfl hb8v, trivial⟩ (q_len rfl rfl rfl Try.underlying35)) rfl rfl rfl rfl rfl ?_
 refine simL_valc (b := decide (x0_1 = (0 : Int))) (fun hb7v => RQ.sub (E' := [(2, .int .i64 x2)]) ⟨rfl, trivial⟩ (q_move rfl rfl)) rfl rfl rfl rfl rfl ?_
 refine simL_valc (b := decide (x0_1 = (0 : Int))) (fun hb6v => RQ.sub (E' := [(14, .int .i64 x2)]) ⟨lk_cv rfl hb6v, trivial⟩ (q_max rfl rfl rfl)) rfl rfl rfl rfl rfl ?_
 refine simL_valc (b := decide (x0_1 = (0 : Int))) (fun hb5v => RQ.sub (E' := [(13, .int .i64 (x1.length : Int)), (15, .int .i64 (max x2 (0 : Int)))]) ⟨lk_cv rfl hb5v, lk_cv rfl hb5v, trivial⟩ (q_gtr rfl rfl rfl)) rfl rfl rfl rfl rfl ?_
 refine simL_val (q_and rfl rfl rfl) rfl rfl rfl (simL_nil (nrm_then ?_))
 refine sim_condb rfl (fun h3v => ?_) (fun h4v => ?_)
 refine sim_region ?_
 refine simL_val (q_move rfl rfl) rfl rfl rfl ?_
 refine simL_val (q_nil rfl rfl) rfl rfl rfl ?_
 refine simL_val (q_fa rfl rfl Try.underlying100 rfl rfl Try.sizeOf29 rfl) rfl rfl rfl ?_
 refine simL_do (re_store 0 rfl rfl rfl Try.sizeOf29 rfl rfl (one_of (by rfl)) rfl rfl) rfl rfl ?_
 intro _
 refine simL_nil ?_
 exact nrm_cut (s := 3) () ⟨rfl, rfl, trivial⟩ (.sel 0 rfl (.sel 0 rfl (.sel 0 rfl (.nil _))))
 refine sim_skip ?_
 exact nrm_cut (s := x0_1) () ⟨rfl, rfl, trivial⟩ (.sel 0 rfl (.sel 0 rfl (.sel 0 rfl (.nil _))))
 intro s1v y2v
 refine sim_seq (sim_seq (sim_region ?_))
 refine simL_val (q_move rfl rfl) rfl rfl rfl ?_
 refine simL_val (q_nil rfl rfl) rfl rfl rfl ?_
 refine simL_val (q_fa rfl rfl Try.underlying100 rfl rfl Try.sizeOf29 rfl) rfl rfl rfl ?_
 refine simL_val (q_load rfl rfl Try.isAgg29 (.obj 0 rfl rfl)) rfl rfl rfl ?_
 refine simL_val (q_neq rfl rfl rfl) rfl rfl rfl (simL_nil (nrm_then ?_))
 refine sim_condn rfl (fun h10v => ?_) (fun h11v => ?_)
 refine sim_skip ?_
 refine nrm_then (sim_seq (sim_region ?_))
 refine simL_val (q_move rfl rfl) rfl rfl rfl ?_
 refine simL_val (q_move rfl rfl) rfl rfl rfl ?_
 refine simL_val (q_len rfl rfl rfl Try.underlying35) rfl rfl rfl ?_
 refine simL_bind (fun s12v hs14v => ?_)
 refine simL_eff (re_call (vs := [.pointer (some ⟨b0, 0, none⟩), .int .i64 (x1.length : Int)]) (cap := []) (A := [obj b0 100 [.slice a0_0 x0_0.length c0_0, .int .i64 s1v], Row 5 1 a0_0 x0_0.length c0_0 (encB x0_0)]) (rst := [F]) rfl rfl rfl rfl rfl rfl Try.call29 (.sel 0 rfl (.sel 0 rfl (.sel 0 rfl (.nil _)))) (wire_Writer_Int.calls _ _ k b0 a0_0 c0_0 x0_0 s1v (x1.length : Int) ) hs14v) rfl rfl rfl ?_
 intro y13v
 refine simL_nil (nrm_then (sim_region ?_))
 refine simL_val (q_move rfl rfl) rfl rfl rfl ?_
 refine simL_val (q_move rfl rfl) rfl rfl rfl ?_
 refine simL_val (q_nil rfl rfl) rfl rfl rfl ?_
 refine simL_val (q_fa rfl rfl Try.underlying100 rfl rfl Try.sizeOf35 rfl) rfl rfl rfl ?_
 refine simL_val (q_load rfl rfl Try.isAgg35 (.obj 0 rfl rfl)) rfl rfl rfl ?_
 refine simL_val (q_move rfl rfl) rfl rfl rfl ?_
 refine simL_ask (fun hb16v => ?_)
 refine simL_eff (re_appendb 1 rfl rfl rfl Try.underlying35 elt5 rfl (h1.rds 1 rfl) hb16v) rfl rfl rfl ?_
 intro y15v
 refine simL_val (q_nil rfl rfl) rfl rfl rfl ?_
 refine simL_val (q_fa rfl rfl Try.underlying100 rfl rfl Try.sizeOf35 rfl) rfl rfl rfl ?_
 refine simL_do (re_store 0 rfl rfl rfl Try.sizeOf35 rfl rfl (one_of (by rfl)) rfl rfl) rfl rfl ?_
 intro _
 refine simL_nil ?_
 exact nrm_fn (y15v.1, y15v.2) rfl rfl rfl (.sel 0 rfl (.sel 0 rfl (.sel 0 rfl (.nil _))))
 refine sim_rtn ?_
 refine rtn_then ?_
 exact rtn_fn (a0_0, c0_0) rfl rfl rfl (.sel 0 rfl (.sel 0 rfl (.sel 0 rfl (.nil _))))

def wire_Writer_Text.f (k : Nat) (x0_0 : List UInt8) (x0_1 : Int) (x1 : List UInt8) (x2 : Int) : Option (List UInt8 × Int) := if x1.length ≤ 140737488355328 then ((wire_Writer_Bytes.f k x0_0 x0_1 x1 x2).bind fun s7v => (some (s7v.1, s7v.2))) else none
theorem wire_Writer_Text.calls (W : World) (F : HA) (k : Nat) (b0 : Nat) (a0_0 : Option Addr) (c0_0 : Nat) (x0_0 : List UInt8) (x0_1 : Int) (x1 : List UInt8) (x2 : Int)  :
    Fn Try.prog W 31 [.pointer (some ⟨b0, 0, none⟩), str x1, .int .i64 x2] [obj b0 100 [.slice a0_0 x0_0.length c0_0, .int .i64 x0_1], Row 5 1 a0_0 x0_0.length c0_0 (encB x0_0)] F (wire_Writer_Text.f k x0_0 x0_1 x1 x2) (fun (r : List UInt8 × Int) (y : Option Addr × Nat) => .tuple #[]) (fun r y => [obj b0 100 [.slice y.1 r.1.length y.2, .int .i64 r.2], Row 5 1 y.1 r.1.length y.2 (encB r.1)]) := by
 unfold wire_Writer_Text.f
 refine fn_intro 11 Try.func31 rfl Try.ntmps31 rfl ?_
 refine sim_region ?_
 refine simL_val (q_move rfl rfl) rfl rfl rfl ?_
 refine simL_val (q_move rfl rfl) rfl rfl rfl ?_
 refine simL_ask (fun hb2v => ?_)
 refine simL_eff (re_tobytes rfl rfl Try.underlying9 Try.underlying35 Try.underlying5 hb2v) rfl rfl rfl ?_
 intro y1v
 refine simL_val (q_move rfl rfl) rfl rfl rfl ?_
 refine simL_bind (fun s7v hs9v => ?_)
 refine simL_lend 0 rfl (fun hq3v hq4v hq5v hq6v => ?_)
 refine simL_eff (re_call (vs := [.pointer (some ⟨b0, 0, none⟩), .slice (some ⟨y1v.1, 0, none⟩) x1.length y1v.2, .int .i64 x2]) (cap := []) (A := [obj b0 100 [.slice a0_0 x0_0.length c0_0, .int .i64 x0_1], Row 5 1 a0_0 x0_0.length c0_0 (encB x0_0)]) (rst := [Row 5 1 (some ⟨y1v.1, 0, none⟩) x1.length y1v.2 (encB x1), F]) rfl rfl rfl rfl rfl rfl Try.call52 (.sel 1 rfl (.sel 1 rfl (.sel 0 rfl (.sel 0 rfl (.nil _))))) (wire_Writer_Bytes.calls _ _ k b0 a0_0 c0_0 x0_0 x0_1 (some ⟨y1v.1, 0, none⟩) y1v.2 x1 x2 (hq3v.lend 0 rfl) hq4v hq5v) hs9v) rfl rfl rfl ?_
 intro y8v
 refine simL_nil ?_
 exact nrm_fn (y8v.1, y8v.2) rfl rfl rfl (.sel 0 rfl (.sel 0 rfl (.sel 1 rfl (.nil _))))

def wire_fresh.f (x0 : List UInt8) : Option (List UInt8) := if 0 ≤ (x0.length : Int) ∧ (x0.length : Int) ≤ (x0.length : Int) ∧ (x0.length : Int) * 1 ≤ 140737488355328 then (some (copyB (List.replicate (x0.length : Int).toNat (0 : UInt8)) x0)) else none
theorem wire_fresh.calls (W : World) (F : HA) (a0 : Option Addr) (c0 : Nat) (x0 : List UInt8) (h0 : Rd F a0 (encB x0)) (hc0 : x0.length ≤ c0) (hm0 : c0 ≤ maxLen) :
    Fn Try.prog W 53 [.slice a0 x0.length c0] [] F (wire_fresh.f x0) (fun (r : List UInt8) (y : Option Addr × Nat) => .slice y.1 r.length y.2) (fun r y => [Row 5 1 y.1 r.length y.2 (encB r)]) := by
 unfold wire_fresh.f
 refine fn_intro 11 Try.func53 rfl Try.ntmps53 rfl ?_
 refine sim_seq (sim_region ?_)
 refine simL_val (q_asg rfl rfl) rfl rfl rfl (simL_nil (nrm_then (sim_seq (sim_region ?_))))
 refine simL_val (q_move rfl rfl) rfl rfl rfl ?_
 refine simL_val (q_len rfl rfl rfl Try.underlying35) rfl rfl rfl ?_
 refine simL_ask (fun hb2v => ?_)
 refine simL_eff (re_makeb rfl rfl rfl Try.underlying35 elt5 hb2v.1 hb2v.2.1 hb2v.2.2) rfl rfl rfl ?_
 intro b1v
 refine simL_val (q_asg rfl rfl) rfl rfl rfl (simL_nil (nrm_then (sim_seq (sim_region ?_))))
 refine simL_val (q_move rfl rfl) rfl rfl rfl ?_
 refine simL_val (q_move rfl rfl) rfl rfl rfl ?_
 refine simL_eff (re_copyb 0 rfl rfl rfl Try.underlying35 elt5 rfl (h0.rds 1 rfl)) rfl rfl rfl ?_
 intro _
 refine simL_ren (.slice (some ⟨b1v, 0, none⟩) ((copyB (List.replicate (x0.length : Int).toNat (0 : UInt8)) x0).length) ((x0.length : Int).toNat)) (d := 6) rfl (slc_len (copyB_length _ _).symm) ?_
 refine simL_ren (.slice (some ⟨b1v, 0, none⟩) ((copyB (List.replicate (x0.length : Int).toNat (0 : UInt8)) x0).length) ((x0.length : Int).toNat)) (d := 3) rfl (slc_len (copyB_length _ _).symm) ?_
 refine simL_ren (.slice (some ⟨b1v, 0, none⟩) ((copyB (List.replicate (x0.length : Int).toNat (0 : UInt8)) x0).length) ((x0.length : Int).toNat)) (d := 7) rfl (slc_len (copyB_length _ _).symm) ?_
 refine simL_nil (nrm_then (sim_seq (sim_region ?_)))
 refine simL_val (q_move rfl rfl) rfl rfl rfl ?_
 refine simL_val (q_asg rfl rfl) rfl rfl rfl (simL_nil (nrm_then (sim_rtn ?_)))
 exact rtn_fn ((some ⟨b1v, 0, none⟩), (x0.length : Int).toNat) rfl rfl rfl (.sel 0 rfl (.sel 0 rfl (.nil _)))

def wire_Writer_Done.f (x0_0 : List UInt8) (x0_1 : Int) : Option (List UInt8 × Int) := if x0_1 = (0 : Int) then ((wire_fresh.f x0_0).bind fun s3v => (some (s3v, 0))) else (some (([] : List UInt8), x0_1))
theorem wire_Writer_Done.calls (W : World) (F : HA) (b0 : Nat) (a0_0 : Option Addr) (c0_0 : Nat) (x0_0 : List UInt8) (x0_1 : Int) (h0_0 : Rd F a0_0 (encB x0_0)) (hc0_0 : x0_0.length ≤ c0_0) (hm0_0 : c0_0 ≤ maxLen) :
    Fn Try.prog W 32 [.pointer (some ⟨b0, 0, none⟩)] [obj b0 100 [.slice a0_0 x0_0.length c0_0, .int .i64 x0_1]] F (wire_Writer_Done.f x0_0 x0_1) (fun (r : List UInt8 × Int) (y : Option Addr × Nat) => .tuple #[.slice y.1 r.1.length y.2, .int .i64 r.2]) (fun r y => [Row 5 1 y.1 r.1.length y.2 (encB r.1), obj b0 100 [.slice a0_0 x0_0.length c0_0, .int .i64 x0_1]]) := by
 unfold wire_Writer_Done.f
 refine fn_intro 18 Try.func32 rfl Try.ntmps32 rfl ?_
 refine sim_seq (sim_region ?_)
 refine simL_val (q_asg rfl rfl) rfl rfl rfl ?_
 refine simL_val (q_asg rfl rfl) rfl rfl rfl (simL_nil (nrm_then (sim_seq (sim_seq (sim_region ?_)))))
 refine simL_val (q_move rfl rfl) rfl rfl rfl ?_
 refine simL_val (q_nil rfl rfl) rfl rfl rfl ?_
 refine simL_val (q_fa rfl rfl Try.underlying100 rfl rfl Try.sizeOf29 rfl) rfl rfl rfl ?_
 refine simL_val (q_load rfl rfl Try.isAgg29 (.obj 0 rfl rfl)) rfl rfl rfl ?_
 refine simL_val (q_neq rfl rfl rfl) rfl rfl rfl (simL_nil (nrm_then ?_))
 refine sim_condn rfl (fun h1v => ?_) (fun h2v => ?_)
 refine sim_skip ?_
 refine nrm_then (sim_seq (sim_region ?_))
 refine simL_val (q_move rfl rfl) rfl rfl rfl ?_
 refine simL_val (q_nil rfl rfl) rfl rfl rfl ?_
 refine simL_val (q_fa rfl rfl Try.underlying100 rfl rfl Try.sizeOf35 rfl) rfl rfl rfl ?_
 refine simL_val (q_load rfl rfl Try.isAgg35 (.obj 0 rfl rfl)) rfl rfl rfl ?_
 refine simL_bind (fun s3v hs5v => ?_)
 refine simL_eff (re_call (vs := [.slice a0_0 x0_0.length c0_0]) (cap := []) (A := []) (rst := [obj b0 100 [.slice a0_0 x0_0.length c0_0, .int .i64 x0_1], F]) rfl rfl rfl rfl rfl rfl Try.call53 (.sel 0 rfl (.sel 0 rfl (.nil _))) (wire_fresh.calls _ _ a0_0 c0_0 x0_0 (h0_0.lend 1 rfl) hc0_0 hm0_0) hs5v) rfl rfl rfl ?_
 intro y4v
 refine simL_val (q_asg rfl rfl) rfl rfl rfl ?_
 refine simL_val (q_asg rfl rfl) rfl rfl rfl (simL_nil (nrm_then (sim_rtn ?_)))
 exact rtn_fn (y4v.1, y4v.2) rfl rfl rfl (.sel 0 rfl (.sel 0 rfl (.sel 0 rfl (.nil _))))
 refine sim_seq ?_
 refine sim_draw (Γ := Unit) () [[], [0], [0, 1], [0, 1, 2], [], [0, 1, 2, 3, 4]] [] [0, 1, 2, 3, 4, 5] (fun i => [[0], [0], [0], [0], [0], [0]].getD i []) (fun i => [[], [], [], [], [], []].getD i []) (fun γ i => [.pointer (some ⟨b0, 0, none⟩), .pointer (some ⟨b0, 0, none⟩), .pointer (some ⟨b0, 1, none⟩), .int .i64 x0_1, .slice none 0 0, .int .i64 x0_1].getD i undef) (fun j γ => [[obj b0 100 [.slice a0_0 x0_0.length c0_0, .int .i64 x0_1], F]].getD j []) (fun γ => [(2, .slice none 0 0), (3, .int .i64 x0_1)]) mixed (by decide) (by decide) (by decide) (by decide) (by decide) (by decide) (by decide) 18 rfl (by decide) (by decide) (by decide) (Ent.refl _) ?_ ?_ (fun _ => ⟨rfl, rfl, trivial⟩) ?_
 exact (All.cons (fun γ => (All.cons (QOb.plain [(0, .pointer (some ⟨b0, 0, none⟩))] rfl rfl (.o rfl (by decide) .nil) (q_move rfl rfl) rfl) All.nil)) (All.cons (fun γ => (All.cons (QOb.plain [(9, .pointer (some ⟨b0, 0, none⟩))] rfl rfl (.w 0 rfl rfl rfl .nil) (q_nil rfl rfl) rfl) All.nil)) (All.cons (fun γ => (All.cons (QOb.plain [(10, .pointer (some ⟨b0, 0, none⟩))] rfl rfl (.w 1 rfl rfl rfl .nil) (q_fa rfl rfl Try.underlying100 rfl rfl Try.sizeOf29 rfl) rfl) All.nil)) (All.cons (fun γ => (All.cons (QOb.plain [(11, .pointer (some ⟨b0, 1, none⟩))] rfl rfl (.w 2 rfl rfl rfl .nil) (q_load rfl rfl Try.isAgg29 (.obj 0 rfl rfl)) rfl) All.nil)) (All.cons (fun γ => (All.cons (QOb.plain [] rfl rfl .nil (q_asg rfl rfl) rfl) All.nil)) (All.cons (fun γ => (All.cons (QOb.plain [(12, .int .i64 x0_1)] rfl rfl (.w 3 rfl rfl rfl .nil) (q_asg rfl rfl) rfl) All.nil)) All.nil))))))
 exact All.nil
 intro g6v
 refine nrm_then (sim_rtn ?_)
 refine rtn_then ?_
 exact rtn_fn (none, 0) rfl rfl rfl (.row_nil (.sel 0 rfl (.sel 0 rfl (.nil _))))

def slices_Sorted_string_maps_Keys_map_string_string_string_string_1.f (xp0_0 : List ((List UInt8) × (List UInt8))) : Option (List (List UInt8)) := if (xp0_0.map (·.1)).Nodup ∧ xp0_0.length * 16 ≤ 140737488355328 ∧ ∀ p ∈ xp0_0, p.1.length ≤ 140737488351232 then some (keysS xp0_0) else none
theorem slices_Sorted_string_maps_Keys_map_string_string_string_string_1.calls (W : World) (F : HA) (bp0 : Nat) (mp0_0 : Nat) (xp0_0 : List ((List UInt8) × (List UInt8))) :
    Fn Try.prog W 50 [.func (.func 65) #[] #[.pointer (some ⟨bp0, 0, none⟩)]] [obj bp0 60 [.map (some mp0_0)], mapO mp0_0 enc9 enc9 xp0_0] F (slices_Sorted_string_maps_Keys_map_string_string_string_string_1.f xp0_0) (fun (r : List (List UInt8)) (y : Option Addr × Nat) => .slice y.1 r.length y.2) (fun r y => [RowV 9 1 (V9 tt) y.1 r y.2, obj bp0 60 [.map (some mp0_0)], mapO mp0_0 enc9 enc9 xp0_0]) := by
  unfold slices_Sorted_string_maps_Keys_map_string_string_string_string_1.f
  exact fn_sortedS (V := (V9 tt)) (fun _ => rfl) Try.underlying9 (fun w D0 nn => lib_sorted50_65 w D0 nn mp0_0 bp0)

def kv_Store_Each_1_s.l0 {S : Type} (step : S → (List UInt8 × List UInt8) → Option S) (s1v : List ((List UInt8) × (List UInt8))) (s7v : List (List UInt8)) : Nat → Int → S → Option (S)
  | 0, _, _ => none
  | k + 1, z12v, z13v => if z12v < (s7v.length : Int) then (if 0 ≤ z12v ∧ z12v < (s7v.length : Int) then ((step z13v ((s7v.getD z12v.toNat ([] : List UInt8)), ((mget s1v (s7v.getD z12v.toNat ([] : List UInt8))).getD ([] : List UInt8)))).bind fun s26v => (kv_Store_Each_1_s.l0 step s1v s7v k (IntKind.i64.wrap (z12v + 1)) s26v)) else none) else (some z13v)
def kv_Store_Each_1_s.f {S : Type} (k : Nat) (step : S → (List UInt8 × List UInt8) → Option S) (s0 : S) (xp1_0 : List ((List UInt8) × (List UInt8))) (xp1_1 : List ((Int) × (Int × Int × Int × List UInt8))) : Option (S) := (maps_Clone_map_string_string_string_string.f xp1_0).bind fun s1v => ((maps_Keys_map_string_string_string_string.f).bind fun s4v => ((slices_Sorted_string_maps_Keys_map_string_string_string_string_1.f s1v).bind fun s7v => (kv_Store_Each_1_s.l0 step s1v s7v k 0 s0)))
theorem kv_Store_Each_1_s.calls (W : World) (F : HA) (k : Nat) (S Y : Type) (l : Nat) (step : S → List UInt8 × List UInt8 → Option S) (A : S → Y → HA) (s0 : S) (y0 : Y) (bp0 : Nat) (bp1 : Nat) (mp1_0 : Nat) (xp1_0 : List ((List UInt8) × (List UInt8))) (mp1_1 : Nat) (xp1_1 : List ((Int) × (Int × Int × Int × List UInt8))) (hY : YieldOk Try.prog W l (fun (x : List UInt8 × List UInt8) => [str x.1, str x.2]) step A) :
    Fn Try.prog W 49 [.func (.yield l) #[] #[], .pointer (some ⟨bp0, 0, none⟩)] [A s0 y0, obj bp1 63 [.map (some mp1_0), .map (some mp1_1)], mapO mp1_0 enc9 enc9 xp1_0, mapO mp1_1 enc3 enc42 xp1_1, obj bp0 25 [.pointer (some ⟨bp1, 0, none⟩)]] F (kv_Store_Each_1_s.f k step s0 xp1_0 xp1_1) (fun (r : S) (y : Y) => .tuple #[]) (fun r y => [A r y, obj bp1 63 [.map (some mp1_0), .map (some mp1_1)], mapO mp1_0 enc9 enc9 xp1_0, mapO mp1_1 enc3 enc42 xp1_1, obj bp0 25 [.pointer (some ⟨bp1, 0, none⟩)]]) := by
 unfold kv_Store_Each_1_s.f
 refine fn_intro 27 Try.func49 rfl Try.ntmps49 rfl ?_
 refine sim_seq (sim_region ?_)
 refine simL_val (q_load rfl rfl Try.isAgg25 (.obj 4 rfl rfl)) rfl rfl rfl ?_
 refine simL_val (q_nil rfl rfl) rfl rfl rfl ?_
 refine simL_val (q_fa rfl rfl Try.underlying63 rfl rfl Try.sizeOf60 rfl) rfl rfl rfl ?_
 refine simL_val (q_load rfl rfl Try.isAgg60 (.obj 1 rfl rfl)) rfl rfl rfl ?_
 refine simL_bind (fun s1v hs3v => ?_)
 refine simL_eff (re_call (vs := [.map (some mp1_0)]) (cap := []) (A := [mapO mp1_0 enc9 enc9 xp1_0]) (rst := [A s0 y0, obj bp1 63 [.map (some mp1_0), .map (some mp1_1)], mapO mp1_1 enc3 enc42 xp1_1, obj bp0 25 [.pointer (some ⟨bp1, 0, none⟩)], F]) rfl rfl rfl rfl rfl rfl Try.call41 (.sel 2 rfl (.sel 0 rfl (.sel 0 rfl (.sel 0 rfl (.sel 0 rfl (.sel 0 rfl (.nil _))))))) (maps_Clone_map_string_string_string_string.calls _ _ mp1_0 xp1_0 ) hs3v) rfl rfl rfl ?_
 intro y2v
 refine simL_val (q_asg rfl rfl) rfl rfl rfl (simL_nil (nrm_then (sim_seq (sim_region ?_))))
 refine simL_val (q_move rfl rfl) rfl rfl rfl ?_
 refine simL_bind (fun s4v hs6v => ?_)
 refine simL_eff (re_call (vs := [.map (some y2v)]) (cap := []) (A := []) (rst := [mapO y2v enc9 enc9 s1v, mapO mp1_0 enc9 enc9 xp1_0, A s0 y0, obj bp1 63 [.map (some mp1_0), .map (some mp1_1)], mapO mp1_1 enc3 enc42 xp1_1, obj bp0 25 [.pointer (some ⟨bp1, 0, none⟩)], F]) rfl rfl rfl rfl rfl rfl Try.call51 (.sel 0 rfl (.sel 0 rfl (.sel 0 rfl (.sel 0 rfl (.sel 0 rfl (.sel 0 rfl (.sel 0 rfl (.nil _)))))))) (maps_Keys_map_string_string_string_string.calls _ _ y2v ) hs6v) rfl rfl rfl ?_
 intro y5v
 refine simL_bind (fun s7v hs9v => ?_)
 refine simL_eff (re_call (vs := [.func (.func 65) #[] #[.pointer (some ⟨y5v, 0, none⟩)]]) (cap := []) (A := [obj y5v 60 [.map (some y2v)], mapO y2v enc9 enc9 s1v]) (rst := [mapO mp1_0 enc9 enc9 xp1_0, A s0 y0, obj bp1 63 [.map (some mp1_0), .map (some mp1_1)], mapO mp1_1 enc3 enc42 xp1_1, obj bp0 25 [.pointer (some ⟨bp1, 0, none⟩)], F]) rfl rfl rfl rfl rfl rfl Try.call50 (.sel 0 rfl (.sel 0 rfl (.sel 0 rfl (.sel 0 rfl (.sel 0 rfl (.sel 0 rfl (.sel 0 rfl (.sel 0 rfl (.nil _))))))))) (slices_Sorted_string_maps_Keys_map_string_string_string_string_1.calls _ _ y5v y2v s1v ) hs9v) rfl rfl rfl ?_
 intro y8v
 refine simL_val (q_len rfl rfl rfl Try.underlying93) rfl rfl rfl ?_
 refine simL_val (q_move rfl rfl) rfl rfl rfl (simL_nil (nrm_then ?_))
 refine sim_block ?_
 refine sim_loop (S := Int × S) (Y) (fun k s => kv_Store_Each_1_s.l0 step s1v s7v k s.1 s.2) (fun s y => [(0, .func (.yield l) #[] #[]), (3, .map (some y2v)), (13, .slice y8v.1 s7v.length y8v.2), (14, .int .i64 (s7v.length : Int)), (15, .int .i64 s.1)]) (fun s y => [obj bp1 63 [.map (some mp1_0), .map (some mp1_1)], obj bp0 25 [.pointer (some ⟨bp1, 0, none⟩)], mapO y2v enc9 enc9 s1v, RowV 9 1 (V9 tt) y8v.1 s7v y8v.2, mapO mp1_0 enc9 enc9 xp1_0, mapO mp1_1 enc3 enc42 xp1_1, A s.2 y, F]) (fun _ => by rw [kv_Store_Each_1_s.l0]) ?_ k (0, s0) y0 ⟨rfl, rfl, rfl, rfl, rfl, trivial⟩ (.sel 5 rfl (.sel 6 rfl (.sel 2 rfl (.sel 0 rfl (.sel 1 rfl (.sel 2 rfl (.sel 1 rfl (.sel 1 rfl (.nil _)))))))))
 intro k s10v y11v
 refine sim_eq (by rw [kv_Store_Each_1_s.l0]) ?_
 refine sim_seq (sim_region ?_)
 refine simL_val (q_lss rfl rfl rfl) rfl rfl rfl (simL_nil (nrm_then (sim_seq ?_)))
 refine sim_cond rfl (fun h14v => ?_) (fun h15v => ?_)
 refine sim_skip ?_
 refine nrm_then (sim_seq ?_)
 refine sim_block ?_
 refine sim_seq (sim_region ?_)
 refine simL_openV 3 rfl (fun rs24v hl25v => ?_)
 refine simL_ask (fun hi16v => ?_)
 refine simL_posV 3 rfl hl25v rfl (i := s10v.1.toNat) (by omega) ([] : List UInt8) (fun b17v b17vo r20v ha18v hV21v hlr22v hcell23v => ?_)
 obtain rfl := hV21v
 refine simL_val (q_idx rfl rfl rfl ha18v Try.underlying93 Try.sizeOf9 hi16v.1 hi16v.2) rfl rfl rfl ?_
 refine simL_val (q_load rfl rfl Try.isAgg9 (hcell23v 3 rfl 0 _ rfl)) rfl rfl rfl ?_
 refine simL_val (q_asg rfl rfl) rfl rfl rfl (simL_nil (nrm_then (sim_seq (sim_region ?_))))
 refine simL_val (q_move rfl rfl) rfl rfl rfl ?_
 refine simL_val (q_move rfl rfl) rfl rfl rfl ?_
 refine simL_val (q_move rfl rfl) rfl rfl rfl ?_
 refine simL_val (q_move rfl rfl) rfl rfl rfl ?_
 refine simL_val ((q_mlook (ek := enc9) (ev := enc9) (z := ([] : List UInt8)) 2 (s7v.getD s10v.1.toNat ([] : List UInt8)) rfl rfl rfl Try.underlying60 key9 Try.zeroValue9 rfl : RQ _ _ _ _ (str ((mget s1v (s7v.getD s10v.1.toNat ([] : List UInt8))).getD ([] : List UInt8))))) rfl rfl rfl ?_
 refine simL_bind (fun s26v hs28v => ?_)
 refine simL_eff (re_yield ((s7v.getD s10v.1.toNat ([] : List UInt8)), ((mget s1v (s7v.getD s10v.1.toNat ([] : List UInt8))).getD ([] : List UInt8))) 6 rfl rfl rfl rfl rfl rfl hY rfl hs28v) rfl rfl rfl ?_
 intro y27v
 refine simL_val (q_not rfl rfl) rfl rfl rfl (simL_nil (nrm_then ?_))
 refine sim_false rfl ?_
 refine sim_skip ?_
 refine nrm_block (nrm_then (sim_region ?_))
 refine simL_val (q_add rfl rfl rfl) rfl rfl rfl ?_
 refine simL_val (q_move rfl rfl) rfl rfl rfl (simL_nil ?_)
 exact nrm_again (s := (IntKind.i64.wrap (s10v.1 + 1), s26v)) y27v ⟨rfl, rfl, rfl, rfl, rfl, trivial⟩ (.sel 0 rfl (.sel 0 rfl (.sel 0 rfl (.sel' 0 rfl (RowV.mk hl25v) (.sel 0 rfl (.sel 0 rfl (.sel 0 rfl (.sel 0 rfl (.nil _)))))))))
 refine sim_exi ?_
 refine exi_then ?_
 refine exi_loop ?_
 refine exi_here ?_
 exact nrm_fn y11v rfl rfl rfl (.sel 6 rfl (.sel 0 rfl (.sel 3 rfl (.sel 3 rfl (.sel 0 rfl (.sel 2 rfl (.nil _)))))))

def kv_Store_Snapshot.l0 (s30v : List (Int × Int × Int × List UInt8)) : Nat → Int → List UInt8 → Int → Option (List UInt8 × Int)
  | 0, _, _, _ => none
  | k + 1, z35v, z36v, z37v => if z35v < (s30v.length : Int) then (if 0 ≤ z35v ∧ z35v < (s30v.length : Int) then ((wire_Writer_Int.f k z36v z37v ((s30v.getD z35v.toNat ((0 : Int), (0 : Int), (0 : Int), ([] : List UInt8))).1)).bind fun s51v => ((wire_Writer_Int.f k s51v.1 s51v.2 ((s30v.getD z35v.toNat ((0 : Int), (0 : Int), (0 : Int), ([] : List UInt8))).2.1)).bind fun s54v => ((wire_Writer_Int.f k s54v.1 s54v.2 ((s30v.getD z35v.toNat ((0 : Int), (0 : Int), (0 : Int), ([] : List UInt8))).2.2.1)).bind fun s57v => ((wire_Writer_Text.f k s57v.1 s57v.2 ((s30v.getD z35v.toNat ((0 : Int), (0 : Int), (0 : Int), ([] : List UInt8))).2.2.2) (1024 : Int)).bind fun s60v => (kv_Store_Snapshot.l0 s30v k (IntKind.i64.wrap (z35v + 1)) s60v.1 s60v.2))))) else none) else (some (z36v, z37v))
def kv_Store_Snapshot.f (k : Nat) (x0_0 : List ((List UInt8) × (List UInt8))) (x0_1 : List ((Int) × (Int × Int × Int × List UInt8))) : Option (List UInt8) := (wire_NewWriter.f).bind fun s1v => ((wire_Writer_Int.f k s1v.1 s1v.2 (x0_0.length : Int)).bind fun s5v => ((kv_Store_Each.f).bind fun s9v => ((kv_Store_Each_1_s.f k (fun (s13v : List UInt8 × Int) (x12v : List UInt8 × List UInt8) => (wire_Writer_Text.f k s13v.1 s13v.2 x12v.1 (64 : Int)).bind fun s15v => ((wire_Writer_Text.f k s15v.1 s15v.2 x12v.2 (1024 : Int)).bind fun s18v => (some (s18v.1, s18v.2)))) (s5v.1, s5v.2) x0_0 x0_1).bind fun s21v => ((wire_Writer_Int.f k s21v.1 s21v.2 (x0_1.length : Int)).bind fun s24v => (((kv_Store_Sessions.f k x0_0 x0_1).bind fun s30v => (kv_Store_Snapshot.l0 s30v k 0 s24v.1 s24v.2)).bind fun s28v => ((wire_Writer_Done.f s28v.1 s28v.2).bind fun s67v => (some s67v.1)))))))
theorem kv_Store_Snapshot.calls (W : World) (F : HA) (k : Nat) (b0 : Nat) (m0_0 : Nat) (x0_0 : List ((List UInt8) × (List UInt8))) (m0_1 : Nat) (x0_1 : List ((Int) × (Int × Int × Int × List UInt8)))  :
    Fn Try.prog W 14 [.pointer (some ⟨b0, 0, none⟩)] [obj b0 63 [.map (some m0_0), .map (some m0_1)], mapO m0_0 enc9 enc9 x0_0, mapO m0_1 enc3 enc42 x0_1] F (kv_Store_Snapshot.f k x0_0 x0_1) (fun (r : List UInt8) (y : Option Addr × Nat) => .slice y.1 r.length y.2) (fun r y => [Row 5 1 y.1 r.length y.2 (encB r), obj b0 63 [.map (some m0_0), .map (some m0_1)], mapO m0_0 enc9 enc9 x0_0, mapO m0_1 enc3 enc42 x0_1]) := by
 unfold kv_Store_Snapshot.f
 refine fn_introM 67 Try.func14 rfl Try.ntmps14 rfl ?_
 refine sim_seq (sim_region ?_)
 refine simL_val (q_asg rfl rfl) rfl rfl rfl (simL_nil (nrm_then (sim_seq (sim_region ?_))))
 refine simL_bind (fun s1v hs3v => ?_)
 refine simL_eff (re_call (vs := []) (cap := []) (A := []) (rst := [obj b0 63 [.map (some m0_0), .map (some m0_1)], mapO m0_0 enc9 enc9 x0_0, mapO m0_1 enc3 enc42 x0_1, F]) rfl rfl rfl rfl rfl rfl Try.call28 (.sel 0 rfl (.sel 0 rfl (.sel 0 rfl (.sel 0 rfl (.nil _))))) (wire_NewWriter.calls _ _  ) hs3v) rfl rfl rfl ?_
 intro y2v
 refine simL_eff (re_alloc rfl Try.zeroValue71 rfl) rfl rfl rfl ?_
 intro b4v
 refine simL_do (re_store 0 rfl rfl rfl Try.sizeOf71 rfl rfl (one_of (by rfl)) rfl rfl) rfl rfl ?_
 intro _
 refine simL_nil (nrm_then (sim_seq ?_))
 refine sim_bind (fun s5v hs7v => ?_)
 refine sim_draw (Γ := (Option Addr × Nat)) (none, 0) [[], [], [1], [1, 2], [1, 2, 3], [1, 2, 3, 4], [0, 1, 2, 3, 4, 5]] [6] [0, 1, 2, 3, 4, 5] (fun i => [[0], [0], [0], [0], [0], [0], []].getD i []) (fun i => [[], [], [], [], [], [], [0, 1, 2, 3, 4, 5]].getD i []) (fun γ i => [.pointer (some ⟨y2v.1, 0, none⟩), .pointer (some ⟨b0, 0, none⟩), .pointer (some ⟨b0, 0, none⟩), .pointer (some ⟨b0, 0, none⟩), .map (some m0_0), .int .i64 (x0_0.length : Int), .tuple #[]].getD i undef) (fun j γ => [[obj b4v 71 [.pointer (some ⟨y2v.1, 0, none⟩)], obj y2v.1 100 [.slice y2v.2.1 s1v.1.length y2v.2.2, .int .i64 s1v.2], Row 5 1 y2v.2.1 s1v.1.length y2v.2.2 (encB s1v.1), obj b0 63 [.map (some m0_0), .map (some m0_1)], mapO m0_0 enc9 enc9 x0_0, mapO m0_1 enc3 enc42 x0_1, F], [obj y2v.1 100 [.slice γ.1 s5v.1.length γ.2, .int .i64 s5v.2], Row 5 1 γ.1 s5v.1.length γ.2 (encB s5v.1), obj b4v 71 [.pointer (some ⟨y2v.1, 0, none⟩)], obj b0 63 [.map (some m0_0), .map (some m0_1)], mapO m0_0 enc9 enc9 x0_0, mapO m0_1 enc3 enc42 x0_1, F]].getD j []) (fun γ => [(0, .pointer (some ⟨b0, 0, none⟩)), (3, .pointer (some ⟨b4v, 0, none⟩))]) mixed (by decide) (by decide) (by decide) (by decide) (by decide) (by decide) (by decide) 67 rfl (by decide) (by decide) (by decide) (Ent.refl _) ?_ ?_ (fun _ => ⟨rfl, rfl, trivial⟩) ?_
 exact (All.cons (fun γ => (All.cons (QOb.plain [(3, .pointer (some ⟨b4v, 0, none⟩))] rfl rfl (.o rfl (by decide) .nil) (q_load rfl rfl Try.isAgg71 (.obj 0 rfl rfl)) rfl) All.nil)) (All.cons (fun γ => (All.cons (QOb.plain [(0, .pointer (some ⟨b0, 0, none⟩))] rfl rfl (.o rfl (by decide) .nil) (q_move rfl rfl) rfl) All.nil)) (All.cons (fun γ => (All.cons (QOb.plain [(12, .pointer (some ⟨b0, 0, none⟩))] rfl rfl (.w 1 rfl rfl rfl .nil) (q_nil rfl rfl) rfl) All.nil)) (All.cons (fun γ => (All.cons (QOb.plain [(13, .pointer (some ⟨b0, 0, none⟩))] rfl rfl (.w 2 rfl rfl rfl .nil) (q_fa rfl rfl Try.underlying63 rfl rfl Try.sizeOf60 rfl) rfl) All.nil)) (All.cons (fun γ => (All.cons (QOb.plain [(14, .pointer (some ⟨b0, 0, none⟩))] rfl rfl (.w 3 rfl rfl rfl .nil) (q_load rfl rfl Try.isAgg60 (.obj 3 rfl rfl)) rfl) All.nil)) (All.cons (fun γ => (All.cons (QOb.plain [(15, .map (some m0_0))] rfl rfl (.w 4 rfl rfl rfl .nil) (q_mlen 4 rfl rfl rfl Try.underlying60 rfl) rfl) All.nil)) All.nil))))))
 exact (All.cons (fun γ => EOb.mk (Z := Option Addr × Nat) [(11, .pointer (some ⟨y2v.1, 0, none⟩)), (16, .int .i64 (x0_0.length : Int))] (fun z => z) rfl rfl (.w 0 rfl rfl rfl (.w 5 rfl rfl rfl .nil)) (re_call (vs := [.pointer (some ⟨y2v.1, 0, none⟩), .int .i64 (x0_0.length : Int)]) (cap := []) (A := [obj y2v.1 100 [.slice y2v.2.1 s1v.1.length y2v.2.2, .int .i64 s1v.2], Row 5 1 y2v.2.1 s1v.1.length y2v.2.2 (encB s1v.1)]) (rst := [obj b4v 71 [.pointer (some ⟨y2v.1, 0, none⟩)], obj b0 63 [.map (some m0_0), .map (some m0_1)], mapO m0_0 enc9 enc9 x0_0, mapO m0_1 enc3 enc42 x0_1, F]) rfl rfl rfl rfl rfl rfl Try.call29 (.sel 1 rfl (.sel 1 rfl (.sel 0 rfl (.sel 0 rfl (.sel 0 rfl (.sel 0 rfl (.sel 0 rfl (.nil _)))))))) (wire_Writer_Int.calls _ _ k y2v.1 y2v.2.1 y2v.2.2 s1v.1 s1v.2 (x0_0.length : Int) ) hs7v) (fun _ => ⟨rfl, rfl, rfl, rfl, rfl, rfl, trivial⟩) (fun _ => .inr rfl) (fun z => Ent.refl _)) All.nil)
 intro g8v
 refine nrm_then (sim_seq (sim_seq (sim_region ?_)))
 refine simL_val (q_move rfl rfl) rfl rfl rfl ?_
 refine simL_bind (fun s9v hs11v => ?_)
 refine simL_eff (re_call (vs := [.pointer (some ⟨b0, 0, none⟩)]) (cap := []) (A := []) (rst := [obj y2v.1 100 [.slice g8v.1 s5v.1.length g8v.2, .int .i64 s5v.2], Row 5 1 g8v.1 s5v.1.length g8v.2 (encB s5v.1), obj b4v 71 [.pointer (some ⟨y2v.1, 0, none⟩)], obj b0 63 [.map (some m0_0), .map (some m0_1)], mapO m0_0 enc9 enc9 x0_0, mapO m0_1 enc3 enc42 x0_1, F]) rfl rfl rfl rfl rfl rfl Try.call30 (.sel 0 rfl (.sel 0 rfl (.sel 0 rfl (.sel 0 rfl (.sel 0 rfl (.sel 0 rfl (.sel 0 rfl (.nil _)))))))) (kv_Store_Each.calls _ _ b0 ) hs11v) rfl rfl rfl ?_
 intro y10v
 refine simL_nil (nrm_then ?_)
 refine sim_block ?_
 refine sim_range (S := List UInt8 × Int) (Y := Option Addr × Nat) (R' := (List UInt8 × Int)) (Y' := (Option Addr × Nat)) (ps := [20, 21]) (Cap := [obj b0 63 [.map (some m0_0), .map (some m0_1)], mapO m0_0 enc9 enc9 x0_0, mapO m0_1 enc3 enc42 x0_1, obj y10v 25 [.pointer (some ⟨b0, 0, none⟩)]]) (rst := []) (CapB := fun r y => [obj b0 63 [.map (some m0_0), .map (some m0_1)], mapO m0_0 enc9 enc9 x0_0, mapO m0_1 enc3 enc42 x0_1, obj y10v 25 [.pointer (some ⟨b0, 0, none⟩)]]) (enc := fun (x : List UInt8 × List UInt8) => [str x.1, str x.2]) (oN := kv_Store_Each_1_s.f k (fun (s13v : List UInt8 × Int) (x12v : List UInt8 × List UInt8) => (wire_Writer_Text.f k s13v.1 s13v.2 x12v.1 (64 : Int)).bind fun s15v => ((wire_Writer_Text.f k s15v.1 s15v.2 x12v.2 (1024 : Int)).bind fun s18v => (some (s18v.1, s18v.2)))) (s5v.1, s5v.2) x0_0 x0_1) (fun s y => [obj y2v.1 100 [.slice y.1 s.1.length y.2, .int .i64 s.2], obj b4v 71 [.pointer (some ⟨y2v.1, 0, none⟩)], Row 5 1 y.1 s.1.length y.2 (encB s.1), F]) (s5v.1, s5v.2) (g8v.1, g8v.2) (fun s13v x12v y14v => [(3, .pointer (some ⟨b4v, 0, none⟩)), (4, str x12v.1), (5, str x12v.2)]) (fun r => r) (fun r y => y) rfl rfl Try.call49 (fun l A hY X => kv_Store_Each_1_s.calls _ _ k _ _ l _ A _ _ y10v b0 m0_0 x0_0 m0_1 x0_1 hY) rfl (fun _ => rfl) (.sel 1 rfl (.sel 2 rfl (.sel 1 rfl (.sel 4 rfl (.sel 1 rfl (.sel 1 rfl (.sel 1 rfl (.sel 0 rfl (.nil _))))))))) ?_ ?_ ?_
 intro l s13v x12v y14v Fr
 refine sim_ent (H' := [obj y2v.1 100 [.slice y14v.1 s13v.1.length y14v.2, .int .i64 s13v.2], obj b4v 71 [.pointer (some ⟨y2v.1, 0, none⟩)], Row 5 1 y14v.1 s13v.1.length y14v.2 (encB s13v.1), F, Fr]) (Ent.refl _) ?_
 refine sim_seq (sim_region ?_)
 refine simL_val (q_asg rfl rfl) rfl rfl rfl (simL_nil (nrm_then (sim_region ?_)))
 refine simL_val (q_asg rfl rfl) rfl rfl rfl (simL_nil ?_)
 exact nrm_cut () ⟨rfl, rfl, rfl, trivial⟩ (Ent.refl _)
 intro l s13v x12v y14v Fr
 refine sim_ent (H' := [obj y2v.1 100 [.slice y14v.1 s13v.1.length y14v.2, .int .i64 s13v.2], obj b4v 71 [.pointer (some ⟨y2v.1, 0, none⟩)], Row 5 1 y14v.1 s13v.1.length y14v.2 (encB s13v.1), F, Fr]) (Ent.refl _) ?_
 refine sim_block ?_
 refine sim_seq (sim_region ?_)
 refine simL_val (q_load rfl rfl Try.isAgg71 (.obj 1 rfl rfl)) rfl rfl rfl ?_
 refine simL_val (q_move rfl rfl) rfl rfl rfl ?_
 refine simL_bind (fun s15v hs17v => ?_)
 refine simL_eff (re_call (vs := [.pointer (some ⟨y2v.1, 0, none⟩), str x12v.1, .int .i64 64]) (cap := []) (A := [obj y2v.1 100 [.slice y14v.1 s13v.1.length y14v.2, .int .i64 s13v.2], Row 5 1 y14v.1 s13v.1.length y14v.2 (encB s13v.1)]) (rst := [obj b4v 71 [.pointer (some ⟨y2v.1, 0, none⟩)], F, Fr]) rfl rfl rfl rfl rfl rfl Try.call31 (.sel 0 rfl (.sel 1 rfl (.sel 0 rfl (.sel 0 rfl (.sel 0 rfl (.nil _)))))) (wire_Writer_Text.calls _ _ k y2v.1 y14v.1 y14v.2 s13v.1 s13v.2 x12v.1 (64 : Int) ) hs17v) rfl rfl rfl ?_
 intro y16v
 refine simL_nil (nrm_then (sim_region ?_))
 refine simL_val (q_load rfl rfl Try.isAgg71 (.obj 2 rfl rfl)) rfl rfl rfl ?_
 refine simL_val (q_move rfl rfl) rfl rfl rfl ?_
 refine simL_bind (fun s18v hs20v => ?_)
 refine simL_eff (re_call (vs := [.pointer (some ⟨y2v.1, 0, none⟩), str x12v.2, .int .i64 1024]) (cap := []) (A := [obj y2v.1 100 [.slice y16v.1 s15v.1.length y16v.2, .int .i64 s15v.2], Row 5 1 y16v.1 s15v.1.length y16v.2 (encB s15v.1)]) (rst := [obj b4v 71 [.pointer (some ⟨y2v.1, 0, none⟩)], F, Fr]) rfl rfl rfl rfl rfl rfl Try.call31 (.sel 0 rfl (.sel 0 rfl (.sel 0 rfl (.sel 0 rfl (.sel 0 rfl (.nil _)))))) (wire_Writer_Text.calls _ _ k y2v.1 y16v.1 y16v.2 s15v.1 s15v.2 x12v.2 (1024 : Int) ) hs20v) rfl rfl rfl ?_
 intro y19v
 refine simL_nil (nrm_block ?_)
 exact nrm_cut (s := (s18v.1, s18v.2)) (y19v.1, y19v.2) trivial (.sel 0 rfl (.sel 1 rfl (.sel 0 rfl (.sel 0 rfl (.sel 0 rfl (.nil _))))))
 intro D23v s21v y22v
 refine nrm_ent (H' := [shutD D23v, obj y2v.1 100 [.slice y22v.1 s21v.1.length y22v.2, .int .i64 s21v.2], obj b4v 71 [.pointer (some ⟨y2v.1, 0, none⟩)], Row 5 1 y22v.1 s21v.1.length y22v.2 (encB s21v.1), F, obj b0 63 [.map (some m0_0), .map (some m0_1)], mapO m0_0 enc9 enc9 x0_0, mapO m0_1 enc3 enc42 x0_1, obj y10v 25 [.pointer (some ⟨b0, 0, none⟩)]]) (Ent.refl _) ?_
 refine nrm_block (nrm_then (sim_seq ?_))
 refine sim_bind (fun s24v hs26v => ?_)
 refine sim_draw (Γ := (Option Addr × Nat)) (none, 0) [[], [], [1], [1, 2], [1, 2, 3], [1, 2, 3, 4], [0, 1, 2, 3, 4, 5]] [6] [0, 1, 2, 3, 4, 5] (fun i => [[0], [0], [0], [0], [0], [0], []].getD i []) (fun i => [[], [], [], [], [], [], [0, 1, 2, 3, 4, 5]].getD i []) (fun γ i => [.pointer (some ⟨y2v.1, 0, none⟩), .pointer (some ⟨b0, 0, none⟩), .pointer (some ⟨b0, 0, none⟩), .pointer (some ⟨b0, 1, none⟩), .map (some m0_1), .int .i64 (x0_1.length : Int), .tuple #[]].getD i undef) (fun j γ => [[shutD D23v, obj y2v.1 100 [.slice y22v.1 s21v.1.length y22v.2, .int .i64 s21v.2], obj b4v 71 [.pointer (some ⟨y2v.1, 0, none⟩)], Row 5 1 y22v.1 s21v.1.length y22v.2 (encB s21v.1), F, obj b0 63 [.map (some m0_0), .map (some m0_1)], mapO m0_0 enc9 enc9 x0_0, mapO m0_1 enc3 enc42 x0_1, obj y10v 25 [.pointer (some ⟨b0, 0, none⟩)]], [obj y2v.1 100 [.slice γ.1 s24v.1.length γ.2, .int .i64 s24v.2], Row 5 1 γ.1 s24v.1.length γ.2 (encB s24v.1), shutD D23v, obj b4v 71 [.pointer (some ⟨y2v.1, 0, none⟩)], F, obj b0 63 [.map (some m0_0), .map (some m0_1)], mapO m0_0 enc9 enc9 x0_0, mapO m0_1 enc3 enc42 x0_1, obj y10v 25 [.pointer (some ⟨b0, 0, none⟩)]]].getD j []) (fun γ => [(0, .pointer (some ⟨b0, 0, none⟩)), (3, .pointer (some ⟨b4v, 0, none⟩))]) mixed (by decide) (by decide) (by decide) (by decide) (by decide) (by decide) (by decide) 67 rfl (by decide) (by decide) (by decide) (Ent.refl _) ?_ ?_ (fun _ => ⟨rfl, rfl, trivial⟩) ?_
 exact (All.cons (fun γ => (All.cons (QOb.plain [(3, .pointer (some ⟨b4v, 0, none⟩))] rfl rfl (.o rfl (by decide) .nil) (q_load rfl rfl Try.isAgg71 (.obj 2 rfl rfl)) rfl) All.nil)) (All.cons (fun γ => (All.cons (QOb.plain [(0, .pointer (some ⟨b0, 0, none⟩))] rfl rfl (.o rfl (by decide) .nil) (q_move rfl rfl) rfl) All.nil)) (All.cons (fun γ => (All.cons (QOb.plain [(29, .pointer (some ⟨b0, 0, none⟩))] rfl rfl (.w 1 rfl rfl rfl .nil) (q_nil rfl rfl) rfl) All.nil)) (All.cons (fun γ => (All.cons (QOb.plain [(30, .pointer (some ⟨b0, 0, none⟩))] rfl rfl (.w 2 rfl rfl rfl .nil) (q_fa rfl rfl Try.underlying63 rfl rfl Try.sizeOf61 rfl) rfl) All.nil)) (All.cons (fun γ => (All.cons (QOb.plain [(31, .pointer (some ⟨b0, 1, none⟩))] rfl rfl (.w 3 rfl rfl rfl .nil) (q_load rfl rfl Try.isAgg61 (.obj 5 rfl rfl)) rfl) All.nil)) (All.cons (fun γ => (All.cons (QOb.plain [(32, .map (some m0_1))] rfl rfl (.w 4 rfl rfl rfl .nil) (q_mlen 7 rfl rfl rfl Try.underlying61 rfl) rfl) All.nil)) All.nil))))))
 exact (All.cons (fun γ => EOb.mk (Z := Option Addr × Nat) [(28, .pointer (some ⟨y2v.1, 0, none⟩)), (33, .int .i64 (x0_1.length : Int))] (fun z => z) rfl rfl (.w 0 rfl rfl rfl (.w 5 rfl rfl rfl .nil)) (re_call (vs := [.pointer (some ⟨y2v.1, 0, none⟩), .int .i64 (x0_1.length : Int)]) (cap := []) (A := [obj y2v.1 100 [.slice y22v.1 s21v.1.length y22v.2, .int .i64 s21v.2], Row 5 1 y22v.1 s21v.1.length y22v.2 (encB s21v.1)]) (rst := [shutD D23v, obj b4v 71 [.pointer (some ⟨y2v.1, 0, none⟩)], F, obj b0 63 [.map (some m0_0), .map (some m0_1)], mapO m0_0 enc9 enc9 x0_0, mapO m0_1 enc3 enc42 x0_1, obj y10v 25 [.pointer (some ⟨b0, 0, none⟩)]]) rfl rfl rfl rfl rfl rfl Try.call29 (.sel 1 rfl (.sel 2 rfl (.sel 0 rfl (.sel 0 rfl (.sel 0 rfl (.sel 0 rfl (.sel 0 rfl (.sel 0 rfl (.sel 0 rfl (.nil _)))))))))) (wire_Writer_Int.calls _ _ k y2v.1 y22v.1 y22v.2 s21v.1 s21v.2 (x0_1.length : Int) ) hs26v) (fun _ => ⟨rfl, rfl, rfl, rfl, rfl, rfl, trivial⟩) (fun _ => .inr rfl) (fun z => Ent.refl _)) All.nil)
 intro g27v
 refine nrm_then ?_
 refine sim_cut (S := List UInt8 × Int) (Option Addr × Nat) (fun s y => [(3, .pointer (some ⟨b4v, 0, none⟩))]) (fun s y => [obj b0 63 [.map (some m0_0), .map (some m0_1)], obj y2v.1 100 [.slice y.1 s.1.length y.2, .int .i64 s.2], obj b4v 71 [.pointer (some ⟨y2v.1, 0, none⟩)], mapO m0_0 enc9 enc9 x0_0, mapO m0_1 enc3 enc42 x0_1, Row 5 1 y.1 s.1.length y.2 (encB s.1), shutD D23v, F]) ?_ ?_
 refine sim_seq (sim_region ?_)
 refine simL_val (q_move rfl rfl) rfl rfl rfl ?_
 refine simL_bind (fun s30v hs32v => ?_)
 refine simL_eff (re_call (vs := [.pointer (some ⟨b0, 0, none⟩)]) (cap := []) (A := [obj b0 63 [.map (some m0_0), .map (some m0_1)], mapO m0_0 enc9 enc9 x0_0, mapO m0_1 enc3 enc42 x0_1]) (rst := [obj y2v.1 100 [.slice g27v.1 s24v.1.length g27v.2, .int .i64 s24v.2], Row 5 1 g27v.1 s24v.1.length g27v.2 (encB s24v.1), shutD D23v, obj b4v 71 [.pointer (some ⟨y2v.1, 0, none⟩)], F, obj y10v 25 [.pointer (some ⟨b0, 0, none⟩)]]) rfl rfl rfl rfl rfl rfl Try.call17 (.sel 5 rfl (.sel 5 rfl (.sel 5 rfl (.sel 0 rfl (.sel 0 rfl (.sel 0 rfl (.sel 0 rfl (.sel 0 rfl (.sel 0 rfl (.nil _)))))))))) (kv_Store_Sessions.calls _ _ k b0 m0_0 x0_0 m0_1 x0_1 ) hs32v) rfl rfl rfl ?_
 intro y31v
 refine simL_val (q_len rfl rfl rfl Try.underlying39) rfl rfl rfl ?_
 refine simL_val (q_move rfl rfl) rfl rfl rfl (simL_nil (nrm_then ?_))
 refine sim_block ?_
 refine sim_loop (S := Int × List UInt8 × Int) (Option Addr × Nat) (fun k s => kv_Store_Snapshot.l0 s30v k s.1 s.2.1 s.2.2) (fun s y => [(3, .pointer (some ⟨b4v, 0, none⟩)), (36, .slice y31v.1 s30v.length y31v.2), (37, .int .i64 (s30v.length : Int)), (38, .int .i64 s.1)]) (fun s y => [obj b0 63 [.map (some m0_0), .map (some m0_1)], obj y2v.1 100 [.slice y.1 s.2.1.length y.2, .int .i64 s.2.2], obj b4v 71 [.pointer (some ⟨y2v.1, 0, none⟩)], RowV 42 4 (V42 tt) y31v.1 s30v y31v.2, mapO m0_0 enc9 enc9 x0_0, mapO m0_1 enc3 enc42 x0_1, Row 5 1 y.1 s.2.1.length y.2 (encB s.2.1), shutD D23v, F]) (fun _ => by rw [kv_Store_Snapshot.l0]) ?_ k (0, s24v.1, s24v.2) (g27v.1, g27v.2) ⟨rfl, rfl, rfl, rfl, trivial⟩ (.sel 1 rfl (.sel 3 rfl (.sel 5 rfl (.sel 0 rfl (.sel 0 rfl (.sel 0 rfl (.sel 0 rfl (.sel 0 rfl (.sel 0 rfl (.nil _))))))))))
 intro k s33v y34v
 refine sim_eq (by rw [kv_Store_Snapshot.l0]) ?_
 refine sim_seq (sim_region ?_)
 refine simL_val (q_lss rfl rfl rfl) rfl rfl rfl (simL_nil (nrm_then (sim_seq ?_)))
 refine sim_cond rfl (fun h38v => ?_) (fun h39v => ?_)
 refine sim_skip ?_
 refine nrm_then (sim_seq ?_)
 refine sim_block ?_
 refine sim_seq (sim_region ?_)
 refine simL_openV 3 rfl (fun rs48v hl49v => ?_)
 refine simL_ask (fun hi40v => ?_)
 refine simL_posV 3 rfl hl49v rfl (i := s33v.1.toNat) (by omega) ((0 : Int), (0 : Int), (0 : Int), ([] : List UInt8)) (fun b41v b41vo r44v ha42v hV45v hlr46v hcell47v => ?_)
 obtain rfl := hV45v
 refine simL_val (q_idx rfl rfl rfl ha42v Try.underlying39 Try.sizeOf42 hi40v.1 hi40v.2) rfl rfl rfl ?_
 refine simL_val (q_loads rfl rfl Try.isAgg42 Try.sizeOf42 rfl (fun j v hj => hcell47v 3 rfl j v hj)) rfl rfl rfl ?_
 refine simL_eff (re_alloc rfl Try.zeroValue42 rfl) rfl rfl rfl ?_
 intro b50v
 refine simL_do (re_store 0 rfl rfl rfl Try.sizeOf42 rfl rfl (one_of (by rfl)) rfl rfl) rfl rfl ?_
 intro _
 refine simL_nil (nrm_then (sim_seq (sim_region ?_)))
 refine simL_val (q_load rfl rfl Try.isAgg71 (.obj 3 rfl rfl)) rfl rfl rfl ?_
 refine simL_val (q_fa rfl rfl Try.underlying42 rfl rfl Try.sizeOf3 rfl) rfl rfl rfl ?_
 refine simL_val (q_load rfl rfl Try.isAgg3 (.obj 0 rfl rfl)) rfl rfl rfl ?_
 refine simL_bind (fun s51v hs53v => ?_)
 refine simL_eff (re_call (vs := [.pointer (some ⟨y2v.1, 0, none⟩), .int .i64 ((s30v.getD s33v.1.toNat ((0 : Int), (0 : Int), (0 : Int), ([] : List UInt8))).1)]) (cap := []) (A := [obj y2v.1 100 [.slice y34v.1 s33v.2.1.length y34v.2, .int .i64 s33v.2.2], Row 5 1 y34v.1 s33v.2.1.length y34v.2 (encB s33v.2.1)]) (rst := [obj b50v 42 [.int .i64 ((s30v.getD s33v.1.toNat ((0 : Int), (0 : Int), (0 : Int), ([] : List UInt8))).1), .int .i64 ((s30v.getD s33v.1.toNat ((0 : Int), (0 : Int), (0 : Int), ([] : List UInt8))).2.1), .int .i64 ((s30v.getD s33v.1.toNat ((0 : Int), (0 : Int), (0 : Int), ([] : List UInt8))).2.2.1), str ((s30v.getD s33v.1.toNat ((0 : Int), (0 : Int), (0 : Int), ([] : List UInt8))).2.2.2)], obj b0 63 [.map (some m0_0), .map (some m0_1)], obj b4v 71 [.pointer (some ⟨y2v.1, 0, none⟩)], Row 42 4 y31v.1 s30v.length y31v.2 rs48v.flatten, mapO m0_0 enc9 enc9 x0_0, mapO m0_1 enc3 enc42 x0_1, shutD D23v, F]) rfl rfl rfl rfl rfl rfl Try.call29 (.sel 2 rfl (.sel 6 rfl (.sel 0 rfl (.sel 0 rfl (.sel 0 rfl (.sel 0 rfl (.sel 0 rfl (.sel 0 rfl (.sel 0 rfl (.sel 0 rfl (.nil _))))))))))) (wire_Writer_Int.calls _ _ k y2v.1 y34v.1 y34v.2 s33v.2.1 s33v.2.2 ((s30v.getD s33v.1.toNat ((0 : Int), (0 : Int), (0 : Int), ([] : List UInt8))).1) ) hs53v) rfl rfl rfl ?_
 intro y52v
 refine simL_nil (nrm_then (sim_seq (sim_region ?_)))
 refine simL_val (q_load rfl rfl Try.isAgg71 (.obj 4 rfl rfl)) rfl rfl rfl ?_
 refine simL_val (q_fa rfl rfl Try.underlying42 rfl rfl Try.sizeOf3 rfl) rfl rfl rfl ?_
 refine simL_val (q_load rfl rfl Try.isAgg3 (.obj 2 rfl rfl)) rfl rfl rfl ?_
 refine simL_bind (fun s54v hs56v => ?_)
 refine simL_eff (re_call (vs := [.pointer (some ⟨y2v.1, 0, none⟩), .int .i64 ((s30v.getD s33v.1.toNat ((0 : Int), (0 : Int), (0 : Int), ([] : List UInt8))).2.1)]) (cap := []) (A := [obj y2v.1 100 [.slice y52v.1 s51v.1.length y52v.2, .int .i64 s51v.2], Row 5 1 y52v.1 s51v.1.length y52v.2 (encB s51v.1)]) (rst := [obj b50v 42 [.int .i64 ((s30v.getD s33v.1.toNat ((0 : Int), (0 : Int), (0 : Int), ([] : List UInt8))).1), .int .i64 ((s30v.getD s33v.1.toNat ((0 : Int), (0 : Int), (0 : Int), ([] : List UInt8))).2.1), .int .i64 ((s30v.getD s33v.1.toNat ((0 : Int), (0 : Int), (0 : Int), ([] : List UInt8))).2.2.1), str ((s30v.getD s33v.1.toNat ((0 : Int), (0 : Int), (0 : Int), ([] : List UInt8))).2.2.2)], obj b0 63 [.map (some m0_0), .map (some m0_1)], obj b4v 71 [.pointer (some ⟨y2v.1, 0, none⟩)], Row 42 4 y31v.1 s30v.length y31v.2 rs48v.flatten, mapO m0_0 enc9 enc9 x0_0, mapO m0_1 enc3 enc42 x0_1, shutD D23v, F]) rfl rfl rfl rfl rfl rfl Try.call29 (.sel 0 rfl (.sel 0 rfl (.sel 0 rfl (.sel 0 rfl (.sel 0 rfl (.sel 0 rfl (.sel 0 rfl (.sel 0 rfl (.sel 0 rfl (.sel 0 rfl (.nil _))))))))))) (wire_Writer_Int.calls _ _ k y2v.1 y52v.1 y52v.2 s51v.1 s51v.2 ((s30v.getD s33v.1.toNat ((0 : Int), (0 : Int), (0 : Int), ([] : List UInt8))).2.1) ) hs56v) rfl rfl rfl ?_
 intro y55v
 refine simL_nil (nrm_then (sim_seq (sim_region ?_)))
 refine simL_val (q_load rfl rfl Try.isAgg71 (.obj 4 rfl rfl)) rfl rfl rfl ?_
 refine simL_val (q_fa rfl rfl Try.underlying42 rfl rfl Try.sizeOf28 rfl) rfl rfl rfl ?_
 refine simL_val (q_fa rfl rfl Try.underlying28 rfl rfl Try.sizeOf3 rfl) rfl rfl rfl ?_
 refine simL_val (q_load rfl rfl Try.isAgg3 (.obj 2 rfl rfl)) rfl rfl rfl ?_
 refine simL_bind (fun s57v hs59v => ?_)
 refine simL_eff (re_call (vs := [.pointer (some ⟨y2v.1, 0, none⟩), .int .i64 ((s30v.getD s33v.1.toNat ((0 : Int), (0 : Int), (0 : Int), ([] : List UInt8))).2.2.1)]) (cap := []) (A := [obj y2v.1 100 [.slice y55v.1 s54v.1.length y55v.2, .int .i64 s54v.2], Row 5 1 y55v.1 s54v.1.length y55v.2 (encB s54v.1)]) (rst := [obj b50v 42 [.int .i64 ((s30v.getD s33v.1.toNat ((0 : Int), (0 : Int), (0 : Int), ([] : List UInt8))).1), .int .i64 ((s30v.getD s33v.1.toNat ((0 : Int), (0 : Int), (0 : Int), ([] : List UInt8))).2.1), .int .i64 ((s30v.getD s33v.1.toNat ((0 : Int), (0 : Int), (0 : Int), ([] : List UInt8))).2.2.1), str ((s30v.getD s33v.1.toNat ((0 : Int), (0 : Int), (0 : Int), ([] : List UInt8))).2.2.2)], obj b0 63 [.map (some m0_0), .map (some m0_1)], obj b4v 71 [.pointer (some ⟨y2v.1, 0, none⟩)], Row 42 4 y31v.1 s30v.length y31v.2 rs48v.flatten, mapO m0_0 enc9 enc9 x0_0, mapO m0_1 enc3 enc42 x0_1, shutD D23v, F]) rfl rfl rfl rfl rfl rfl Try.call29 (.sel 0 rfl (.sel 0 rfl (.sel 0 rfl (.sel 0 rfl (.sel 0 rfl (.sel 0 rfl (.sel 0 rfl (.sel 0 rfl (.sel 0 rfl (.sel 0 rfl (.nil _))))))))))) (wire_Writer_Int.calls _ _ k y2v.1 y55v.1 y55v.2 s54v.1 s54v.2 ((s30v.getD s33v.1.toNat ((0 : Int), (0 : Int), (0 : Int), ([] : List UInt8))).2.2.1) ) hs59v) rfl rfl rfl ?_
 intro y58v
 refine simL_nil (nrm_then (sim_region ?_))
 refine simL_val (q_load rfl rfl Try.isAgg71 (.obj 4 rfl rfl)) rfl rfl rfl ?_
 refine simL_val (q_fa rfl rfl Try.underlying42 rfl rfl Try.sizeOf28 rfl) rfl rfl rfl ?_
 refine simL_val (q_fa rfl rfl Try.underlying28 rfl rfl Try.sizeOf9 rfl) rfl rfl rfl ?_
 refine simL_val (q_load rfl rfl Try.isAgg9 (.obj 2 rfl rfl)) rfl rfl rfl ?_
 refine simL_bind (fun s60v hs62v => ?_)
 refine simL_eff (re_call (vs := [.pointer (some ⟨y2v.1, 0, none⟩), str ((s30v.getD s33v.1.toNat ((0 : Int), (0 : Int), (0 : Int), ([] : List UInt8))).2.2.2), .int .i64 1024]) (cap := []) (A := [obj y2v.1 100 [.slice y58v.1 s57v.1.length y58v.2, .int .i64 s57v.2], Row 5 1 y58v.1 s57v.1.length y58v.2 (encB s57v.1)]) (rst := [obj b50v 42 [.int .i64 ((s30v.getD s33v.1.toNat ((0 : Int), (0 : Int), (0 : Int), ([] : List UInt8))).1), .int .i64 ((s30v.getD s33v.1.toNat ((0 : Int), (0 : Int), (0 : Int), ([] : List UInt8))).2.1), .int .i64 ((s30v.getD s33v.1.toNat ((0 : Int), (0 : Int), (0 : Int), ([] : List UInt8))).2.2.1), str ((s30v.getD s33v.1.toNat ((0 : Int), (0 : Int), (0 : Int), ([] : List UInt8))).2.2.2)], obj b0 63 [.map (some m0_0), .map (some m0_1)], obj b4v 71 [.pointer (some ⟨y2v.1, 0, none⟩)], Row 42 4 y31v.1 s30v.length y31v.2 rs48v.flatten, mapO m0_0 enc9 enc9 x0_0, mapO m0_1 enc3 enc42 x0_1, shutD D23v, F]) rfl rfl rfl rfl rfl rfl Try.call31 (.sel 0 rfl (.sel 0 rfl (.sel 0 rfl (.sel 0 rfl (.sel 0 rfl (.sel 0 rfl (.sel 0 rfl (.sel 0 rfl (.sel 0 rfl (.sel 0 rfl (.nil _))))))))))) (wire_Writer_Text.calls _ _ k y2v.1 y58v.1 y58v.2 s57v.1 s57v.2 ((s30v.getD s33v.1.toNat ((0 : Int), (0 : Int), (0 : Int), ([] : List UInt8))).2.2.2) (1024 : Int) ) hs62v) rfl rfl rfl ?_
 intro y61v
 refine simL_nil (nrm_block (nrm_then (sim_region ?_)))
 refine simL_val (q_add rfl rfl rfl) rfl rfl rfl ?_
 refine simL_val (q_move rfl rfl) rfl rfl rfl (simL_nil ?_)
 exact nrm_again (s := (IntKind.i64.wrap (s33v.1 + 1), s60v.1, s60v.2)) (y61v.1, y61v.2) ⟨rfl, rfl, rfl, rfl, trivial⟩ (.sel 3 rfl (.sel 0 rfl (.sel 2 rfl (.sel' 2 rfl (RowV.mk hl49v) (.sel 2 rfl (.sel 2 rfl (.sel 0 rfl (.sel 1 rfl (.sel 1 rfl (.nil _))))))))))
 refine sim_exi ?_
 refine exi_then ?_
 refine exi_loop ?_
 refine exi_here ?_
 exact nrm_cut (s := (s33v.2.1, s33v.2.2)) (y34v.1, y34v.2) ⟨rfl, trivial⟩ (.sel 0 rfl (.sel 0 rfl (.sel 0 rfl (.sel 1 rfl (.sel 1 rfl (.sel 1 rfl (.sel 1 rfl (.sel 1 rfl (.nil _)))))))))
 intro s28v y29v
 refine sim_seq (sim_region ?_)
 refine simL_val (q_load rfl rfl Try.isAgg71 (.obj 2 rfl rfl)) rfl rfl rfl ?_
 refine simL_bind (fun s67v hs69v => ?_)
 refine simL_lend 5 rfl (fun hq63v hq64v hq65v hq66v => ?_)
 refine simL_eff (re_call (vs := [.pointer (some ⟨y2v.1, 0, none⟩)]) (cap := []) (A := [obj y2v.1 100 [.slice y29v.1 s28v.1.length y29v.2, .int .i64 s28v.2]]) (rst := [obj b0 63 [.map (some m0_0), .map (some m0_1)], obj b4v 71 [.pointer (some ⟨y2v.1, 0, none⟩)], mapO m0_0 enc9 enc9 x0_0, mapO m0_1 enc3 enc42 x0_1, Row 5 1 y29v.1 s28v.1.length y29v.2 (encB s28v.1), shutD D23v, F]) rfl rfl rfl rfl rfl rfl Try.call32 (.sel 1 rfl (.sel 0 rfl (.sel 0 rfl (.sel 0 rfl (.sel 0 rfl (.sel 0 rfl (.sel 0 rfl (.sel 0 rfl (.nil _))))))))) (wire_Writer_Done.calls _ _ y2v.1 y29v.1 y29v.2 s28v.1 s28v.2 (hq63v.lend 4 rfl) hq64v hq65v) hs69v) rfl rfl rfl ?_
 intro y68v
 refine simL_val (q_move rfl rfl) rfl rfl rfl ?_
 refine simL_val (q_ext rfl rfl rfl) rfl rfl rfl ?_
 refine simL_val (q_ext rfl rfl rfl) rfl rfl rfl ?_
 refine simL_val (q_asg rfl rfl) rfl rfl rfl ?_
 refine simL_val (q_asg rfl rfl) rfl rfl rfl (simL_nil (nrm_then (sim_seq (sim_region ?_))))
 refine simL_val (q_move rfl rfl) rfl rfl rfl ?_
 refine simL_val (q_asg rfl rfl) rfl rfl rfl (simL_nil (nrm_then (sim_rtn ?_)))
 exact rtn_fnM [D23v] (y68v.1, y68v.2) rfl rfl rfl (.sel 7 rfl (.sel 0 rfl (.sel 1 rfl (.sel 2 rfl (.sel 2 rfl (.sel 3 rfl (.nil _)))))))

def synodref_SameBytes.l0 (x0 : List UInt8) (x1 : List UInt8) : Nat → Int → Option ((Unit) ⊕ (Bool))
  | 0, _ => none
  | k + 1, z7v => if z7v < (x0.length : Int) then (if 0 ≤ z7v ∧ z7v < (x0.length : Int) then (if 0 ≤ z7v ∧ z7v < (x1.length : Int) then (if ((x0.getD z7v.toNat 0).toNat : Int) = ((x1.getD z7v.toNat 0).toNat : Int) then (synodref_SameBytes.l0 x0 x1 k (IntKind.i64.wrap (z7v + 1))) else (some (.inr false))) else none) else none) else (some (.inl ()))
def synodref_SameBytes.f (k : Nat) (x0 : List UInt8) (x1 : List UInt8) : Option (Bool) := if (x0.length : Int) = (x1.length : Int) then (orR (synodref_SameBytes.l0 x0 x1 k 0) fun s3v => (some true)) else (some false)
theorem synodref_SameBytes.calls (W : World) (F : HA) (k : Nat) (a0 : Option Addr) (c0 : Nat) (x0 : List UInt8) (a1 : Option Addr) (c1 : Nat) (x1 : List UInt8) (h0 : Rd F a0 (encB x0)) (hc0 : x0.length ≤ c0) (hm0 : c0 ≤ maxLen) (h1 : Rd F a1 (encB x1)) (hc1 : x1.length ≤ c1) (hm1 : c1 ≤ maxLen) :
    Fn Try.prog W 15 [.slice a0 x0.length c0, .slice a1 x1.length c1] [] F (synodref_SameBytes.f k x0 x1) (fun (r : Bool) (y : Unit) => .bool r) (fun r y => []) := by
 unfold synodref_SameBytes.f
 refine fn_intro 26 Try.func15 rfl Try.ntmps15 rfl ?_
 refine sim_seq (sim_region ?_)
 refine simL_val (q_asg rfl rfl) rfl rfl rfl (simL_nil (nrm_then (sim_seq (sim_seq (sim_region ?_)))))
 refine simL_val (q_move rfl rfl) rfl rfl rfl ?_
 refine simL_val (q_len rfl rfl rfl Try.underlying35) rfl rfl rfl ?_
 refine simL_val (q_move rfl rfl) rfl rfl rfl ?_
 refine simL_val (q_len rfl rfl rfl Try.underlying35) rfl rfl rfl ?_
 refine simL_val (q_neq rfl rfl rfl) rfl rfl rfl (simL_nil (nrm_then ?_))
 refine sim_condn rfl (fun h1v => ?_) (fun h2v => ?_)
 refine sim_skip ?_
 refine nrm_then ?_
 refine sim_cutR (S := Unit) (Unit) (fun s y => []) (fun s y => [F]) ?_ ?_
 refine sim_seq (sim_region ?_)
 refine simL_val (q_asg rfl rfl) rfl rfl rfl (simL_nil (nrm_then ?_))
 refine sim_block ?_
 refine sim_loop (S := Int) (Unit) (fun k s => synodref_SameBytes.l0 x0 x1 k s) (fun s y => [(0, .slice a0 x0.length c0), (1, .slice a1 x1.length c1), (5, .int .i64 s)]) (fun s y => [F]) (fun _ => by rw [synodref_SameBytes.l0]) ?_ k 0 () ⟨rfl, rfl, rfl, trivial⟩ (.sel 0 rfl (.nil _))
 intro k s5v y6v
 refine sim_eq (by rw [synodref_SameBytes.l0]) ?_
 refine sim_seq (sim_seq (sim_region ?_))
 refine simL_val (q_move rfl rfl) rfl rfl rfl ?_
 refine simL_val (q_move rfl rfl) rfl rfl rfl ?_
 refine simL_val (q_len rfl rfl rfl Try.underlying35) rfl rfl rfl ?_
 refine simL_val (q_lss rfl rfl rfl) rfl rfl rfl (simL_nil (nrm_then ?_))
 refine sim_cond rfl (fun h8v => ?_) (fun h9v => ?_)
 refine sim_skip ?_
 refine nrm_then (sim_seq ?_)
 refine sim_block ?_
 refine sim_seq ?_
 refine sim_ask (fun hi10v => ?_)
 obtain ⟨b11v, b11vo, ha12v⟩ := h0.pos (encB_ne (j := s5v.toNat) (by omega))
 refine sim_ask (fun hi14v => ?_)
 obtain ⟨b15v, b15vo, ha16v⟩ := h1.pos (encB_ne (j := s5v.toNat) (by omega))
 refine sim_draw (Γ := Unit) () [[], [], [0, 1], [0, 1, 2], [], [], [4, 5], [4, 5, 6], [0, 1, 2, 3, 4, 5, 6, 7]] [] [0, 1, 2, 3, 4, 5, 6, 7, 8] (fun i => [[0], [0], [0], [0], [0], [0], [0], [0], [0]].getD i []) (fun i => [[], [], [], [], [], [], [], [], []].getD i []) (fun γ i => [.slice a0 x0.length c0, .int .i64 s5v, .pointer (some ⟨b11v, b11vo + s5v.toNat, none⟩), .int .u8 ((x0.getD s5v.toNat 0).toNat : Int), .slice a1 x1.length c1, .int .i64 s5v, .pointer (some ⟨b15v, b15vo + s5v.toNat, none⟩), .int .u8 ((x1.getD s5v.toNat 0).toNat : Int), .bool (!decide (((x0.getD s5v.toNat 0).toNat : Int) = ((x1.getD s5v.toNat 0).toNat : Int)))].getD i undef) (fun j γ => [[F]].getD j []) (fun γ => [(0, .slice a0 x0.length c0), (1, .slice a1 x1.length c1), (5, .int .i64 s5v), (25, .bool (!decide (((x0.getD s5v.toNat 0).toNat : Int) = ((x1.getD s5v.toNat 0).toNat : Int))))]) mixed (by decide) (by decide) (by decide) (by decide) (by decide) (by decide) (by decide) 26 rfl (by decide) (by decide) (by decide) (Ent.refl _) ?_ ?_ (fun _ => ⟨rfl, rfl, rfl, rfl, trivial⟩) ?_
 exact (All.cons (fun γ => (All.cons (QOb.plain [(0, .slice a0 x0.length c0)] rfl rfl (.o rfl (by decide) .nil) (q_move rfl rfl) rfl) All.nil)) (All.cons (fun γ => (All.cons (QOb.plain [(5, .int .i64 s5v)] rfl rfl (.o rfl (by decide) .nil) (q_move rfl rfl) rfl) All.nil)) (All.cons (fun γ => (All.cons (QOb.plain [(17, .slice a0 x0.length c0), (18, .int .i64 s5v)] rfl rfl (.w 0 rfl rfl rfl (.w 1 rfl rfl rfl .nil)) (q_idx1 rfl rfl rfl ha12v Try.underlying35 Try.sizeOf5 hi10v.1 hi10v.2) rfl) All.nil)) (All.cons (fun γ => (All.cons (QOb.plain [(19, .pointer (some ⟨b11v, b11vo + s5v.toNat, none⟩))] rfl rfl (.w 2 rfl rfl rfl .nil) (q_load rfl rfl Try.isAgg5 (h0.cell 0 rfl ha12v (encB_get (by omega)))) rfl) All.nil)) (All.cons (fun γ => (All.cons (QOb.plain [(1, .slice a1 x1.length c1)] rfl rfl (.o rfl (by decide) .nil) (q_move rfl rfl) rfl) All.nil)) (All.cons (fun γ => (All.cons (QOb.plain [(5, .int .i64 s5v)] rfl rfl (.o rfl (by decide) .nil) (q_move rfl rfl) rfl) All.nil)) (All.cons (fun γ => (All.cons (QOb.plain [(21, .slice a1 x1.length c1), (22, .int .i64 s5v)] rfl rfl (.w 4 rfl rfl rfl (.w 5 rfl rfl rfl .nil)) (q_idx1 rfl rfl rfl ha16v Try.underlying35 Try.sizeOf5 hi14v.1 hi14v.2) rfl) All.nil)) (All.cons (fun γ => (All.cons (QOb.plain [(23, .pointer (some ⟨b15v, b15vo + s5v.toNat, none⟩))] rfl rfl (.w 6 rfl rfl rfl .nil) (q_load rfl rfl Try.isAgg5 (h1.cell 0 rfl ha16v (encB_get (by omega)))) rfl) All.nil)) (All.cons (fun γ => (All.cons (QOb.plain [(20, .int .u8 ((x0.getD s5v.toNat 0).toNat : Int)), (24, .int .u8 ((x1.getD s5v.toNat 0).toNat : Int))] rfl rfl (.w 3 rfl rfl rfl (.w 7 rfl rfl rfl .nil)) (q_neq rfl rfl rfl) rfl) All.nil)) All.nil)))))))))
 exact All.nil
 intro g18v
 refine nrm_then ?_
 refine sim_condn rfl (fun h19v => ?_) (fun h20v => ?_)
 refine sim_skip ?_
 refine nrm_block (nrm_then (sim_region ?_))
 refine simL_val (q_move rfl rfl) rfl rfl rfl ?_
 refine simL_val (q_add rfl rfl rfl) rfl rfl rfl ?_
 refine simL_val (q_asg rfl rfl) rfl rfl rfl (simL_nil ?_)
 exact nrm_again (s := IntKind.i64.wrap (s5v + 1)) () ⟨rfl, rfl, rfl, trivial⟩ (.sel 0 rfl (.nil _))
 refine sim_seq (sim_region ?_)
 refine simL_val (q_asg rfl rfl) rfl rfl rfl (simL_nil (nrm_then (sim_rtn ?_)))
 refine rtn_block ?_
 refine rtn_then ?_
 refine rtn_loop ?_
 refine rtn_block ?_
 refine rtn_cutR ?_
 exact rtn_fn () rfl rfl rfl (.sel 0 rfl (.nil _))
 refine sim_exi ?_
 refine exi_then ?_
 refine exi_loop ?_
 refine exi_here ?_
 exact nrm_cutR (s := ()) () trivial (.sel 0 rfl (.nil _))
 intro s3v y4v
 refine sim_seq (sim_region ?_)
 refine simL_val (q_asg rfl rfl) rfl rfl rfl (simL_nil (nrm_then (sim_rtn ?_)))
 exact rtn_fn () rfl rfl rfl (.sel 0 rfl (.nil _))
 refine sim_seq (sim_region ?_)
 refine simL_val (q_asg rfl rfl) rfl rfl rfl (simL_nil (nrm_then (sim_rtn ?_)))
 refine rtn_then ?_
 exact rtn_fn () rfl rfl rfl (.sel 0 rfl (.nil _))

def synodlaw11_KvCommutes.f (k : Nat) (x0 : List (Ty33)) (x1_0 : Int) (x1_1 : Int) (x1_2 : Int) (x1_3 : List UInt8) (x1_4 : List UInt8) (x1_5 : List UInt8) (x2_0 : Int) (x2_1 : Int) (x2_2 : Int) (x2_3 : List UInt8) (x2_4 : List UInt8) (x2_5 : List UInt8) : Option (Bool) := (synodlaw11_first.f).bind fun s3v => ((synodlaw11_few.f k x0).bind fun s6v => ((if s6v = true then ((synodlaw11_few.f k ([(x1_0, x1_1, x1_2, x1_3, x1_4, x1_5), (x2_0, x2_1, x2_2, x2_3, x2_4, x2_5)] : List (Ty33))).bind fun s17v => (some s17v)) else (some false)).bind fun s9v => (if (((((!s3v) || (!s9v)) || (decide ((200 : Int) < (x0.length : Int)))) || (decide (x1_1 = x2_1))) || (decide (x1_3 = x2_3))) = true then (some s3v) else ((kv_New.f).bind fun s24v => ((synodlaw11_does.f k s24v.1 s24v.2 x0).bind fun s27v => ((kv_Store_Len.f s27v.2.1 s27v.2.2).bind fun s30v => ((if (126 : Int) < s30v then (some true) else ((kv_Store_Sessions.f k s27v.2.1 s27v.2.2).bind fun s35v => (some (decide ((30 : Int) < (s35v.length : Int)))))).bind fun s33v => (if s33v = true then (some true) else ((kv_Store_Copy.f s27v.2.1 s27v.2.2).bind fun s42v => ((synodlaw11_does.f k s27v.2.1 s27v.2.2 ([(x1_0, x1_1, x1_2, x1_3, x1_4, x1_5), (x2_0, x2_1, x2_2, x2_3, x2_4, x2_5)] : List (Ty33))).bind fun s51v => ((synodlaw11_does.f k s42v.1 s42v.2 ([(x2_0, x2_1, x2_2, x2_3, x2_4, x2_5), (x1_0, x1_1, x1_2, x1_3, x1_4, x1_5)] : List (Ty33))).bind fun s60v => ((if 0 ≤ (0 : Int) ∧ (0 : Int) < (s51v.1.length : Int) then (if 0 ≤ (1 : Int) ∧ (1 : Int) < (s60v.1.length : Int) then (if (decide ((s51v.1.getD (0 : Int).toNat ((0 : Int), ([] : List UInt8))).1 = (s60v.1.getD (1 : Int).toNat ((0 : Int), ([] : List UInt8))).1) && (decide (((s51v.1.getD (0 : Int).toNat ((0 : Int), ([] : List UInt8))).2) = ((s60v.1.getD (1 : Int).toNat ((0 : Int), ([] : List UInt8))).2)))) = true then (if 0 ≤ (1 : Int) ∧ (1 : Int) < (s51v.1.length : Int) then (if 0 ≤ (0 : Int) ∧ (0 : Int) < (s60v.1.length : Int) then (if (decide ((s51v.1.getD (1 : Int).toNat ((0 : Int), ([] : List UInt8))).1 = (s60v.1.getD (0 : Int).toNat ((0 : Int), ([] : List UInt8))).1) && (decide (((s51v.1.getD (1 : Int).toNat ((0 : Int), ([] : List UInt8))).2) = ((s60v.1.getD (0 : Int).toNat ((0 : Int), ([] : List UInt8))).2)))) = true then ((kv_Store_Snapshot.f k s51v.2.1 s51v.2.2).bind fun s103v => ((kv_Store_Snapshot.f k s60v.2.1 s60v.2.2).bind fun s106v => ((synodref_SameBytes.f k s103v s106v).bind fun s117v => (some s117v)))) else (some false)) else none) else none) else (some false)) else none) else none).bind fun s63v => (some s63v)))))))))))))
theorem synodlaw11_KvCommutes.calls (W : World) (F : HA) (k : Nat) (a0 : Option Addr) (c0 : Nat) (x0 : List (Ty33)) (x1_0 : Int) (x1_1 : Int) (x1_2 : Int) (x1_3 : List UInt8) (x1_4 : List UInt8) (x1_5 : List UInt8) (x2_0 : Int) (x2_1 : Int) (x2_2 : Int) (x2_3 : List UInt8) (x2_4 : List UInt8) (x2_5 : List UInt8) (h0 : RdV F 6 (V33 tt) a0 x0) (hc0 : x0.length ≤ c0) (hm0 : c0 ≤ maxLen) :
    Fn Try.prog W 8 [.slice a0 x0.length c0, .agg #[.int .i64 x1_0, .int .i64 x1_1, .int .i64 x1_2, str x1_3, str x1_4, str x1_5], .agg #[.int .i64 x2_0, .int .i64 x2_1, .int .i64 x2_2, str x2_3, str x2_4, str x2_5]] [] F (synodlaw11_KvCommutes.f k x0 x1_0 x1_1 x1_2 x1_3 x1_4 x1_5 x2_0 x2_1 x2_2 x2_3 x2_4 x2_5) (fun (r : Bool) (y : Unit) => .bool r) (fun r y => []) := by
 unfold synodlaw11_KvCommutes.f
 refine fn_intro 98 Try.func8 rfl Try.ntmps8 rfl ?_
 refine sim_seq (sim_region ?_)
 refine simL_eff (re_box rfl rfl rfl) rfl rfl rfl ?_
 intro b1v
 refine simL_eff (re_box rfl rfl rfl) rfl rfl rfl ?_
 intro b2v
 refine simL_val (q_asg rfl rfl) rfl rfl rfl (simL_nil (nrm_then (sim_seq (sim_region ?_))))
 refine simL_bind (fun s3v hs5v => ?_)
 refine simL_eff (re_call (vs := []) (cap := []) (A := []) (rst := [obj b2v 33 [.int .i64 x2_0, .int .i64 x2_1, .int .i64 x2_2, str x2_3, str x2_4, str x2_5], obj b1v 33 [.int .i64 x1_0, .int .i64 x1_1, .int .i64 x1_2, str x1_3, str x1_4, str x1_5], F]) rfl rfl rfl rfl rfl rfl Try.call9 (.sel 0 rfl (.sel 0 rfl (.sel 0 rfl (.nil _)))) (synodlaw11_first.calls _ _  ) hs5v) rfl rfl rfl ?_
 intro y4v
 refine simL_val (q_asg rfl rfl) rfl rfl rfl (simL_nil (nrm_then (sim_seq (sim_region ?_))))
 refine simL_val (q_move rfl rfl) rfl rfl rfl ?_
 refine simL_bind (fun s6v hs8v => ?_)
 refine simL_eff (re_call (vs := [.slice a0 x0.length c0]) (cap := []) (A := []) (rst := [obj b2v 33 [.int .i64 x2_0, .int .i64 x2_1, .int .i64 x2_2, str x2_3, str x2_4, str x2_5], obj b1v 33 [.int .i64 x1_0, .int .i64 x1_1, .int .i64 x1_2, str x1_3, str x1_4, str x1_5], F]) rfl rfl rfl rfl rfl rfl Try.call10 (.sel 0 rfl (.sel 0 rfl (.sel 0 rfl (.nil _)))) (synodlaw11_few.calls _ _ k a0 c0 x0 (h0.up (Up.lend 2 rfl) (fun _ _ h => h)) hc0 hm0) hs8v) rfl rfl rfl ?_
 intro y7v
 refine simL_val (q_move rfl rfl) rfl rfl rfl ?_
 refine simL_cut' 5 (S := Bool) (Unit) (fun s y => [(0, .slice a0 x0.length c0), (4, .pointer (some ⟨b1v, 0, none⟩)), (5, .pointer (some ⟨b2v, 0, none⟩)), (7, .bool s3v), (21, .bool s)]) (fun s y => [obj b2v 33 [.int .i64 x2_0, .int .i64 x2_1, .int .i64 x2_2, str x2_3, str x2_4, str x2_5], obj b1v 33 [.int .i64 x1_0, .int .i64 x1_1, .int .i64 x1_2, str x1_3, str x1_4, str x1_5], F]) ?_ ?_
 refine simL_caseb (fun hb20v => ?_) (fun hb21v => ?_)
 rw [hb20v]
 refine simL_valg (q_loado 1 rfl rfl Try.isAgg33 Try.sizeOf33 rfl rfl) rfl rfl rfl rfl rfl rfl ?_
 refine simL_valg (q_loado 0 rfl rfl Try.isAgg33 Try.sizeOf33 rfl rfl) rfl rfl rfl rfl rfl rfl ?_
 have hlb12v : ListV 6 (V33 tt) ([(x1_0, x1_1, x1_2, x1_3, x1_4, x1_5), (x2_0, x2_1, x2_2, x2_3, x2_4, x2_5)] : List (Ty33)) [[.int .i64 x1_0, .int .i64 x1_1, .int .i64 x1_2, str x1_3, str x1_4, str x1_5], [.int .i64 x2_0, .int .i64 x2_1, .int .i64 x2_2, str x2_3, str x2_4, str x2_5]] := ⟨⟨rfl, one_of (by rfl), rfl⟩, ⟨rfl, one_of (by rfl), rfl⟩, trivial⟩
 refine simL_effg (re_litV (V := (V33 tt)) (xs := ([(x1_0, x1_1, x1_2, x1_3, x1_4, x1_5), (x2_0, x2_1, x2_2, x2_3, x2_4, x2_5)] : List (Ty33))) [[.int .i64 x1_0, .int .i64 x1_1, .int .i64 x1_2, str x1_3, str x1_4, str x1_5], [.int .i64 x2_0, .int .i64 x2_1, .int .i64 x2_2, str x2_3, str x2_4, str x2_5]] rfl rfl Try.underlying22 elt33 rfl (by kernel_rfl) rfl hlb12v rfl rfl) rfl rfl rfl rfl rfl rfl ?_
 intro b12v
 refine simL_bind (fun s17v hs19v => ?_)
 refine simL_lend 0 rfl (fun hq13v hq14v hq15v hq16v => ?_)
 refine simL_effg (re_call (vs := [.slice (some ⟨b12v, 0, none⟩) (([(x1_0, x1_1, x1_2, x1_3, x1_4, x1_5), (x2_0, x2_1, x2_2, x2_3, x2_4, x2_5)] : List (Ty33)).length) 2]) (cap := []) (A := []) (rst := [Row 33 6 (some ⟨b12v, 0, none⟩) ([(x1_0, x1_1, x1_2, x1_3, x1_4, x1_5), (x2_0, x2_1, x2_2, x2_3, x2_4, x2_5)] : List (Ty33)).length 2 [[.int .i64 x1_0, .int .i64 x1_1, .int .i64 x1_2, str x1_3, str x1_4, str x1_5], [.int .i64 x2_0, .int .i64 x2_1, .int .i64 x2_2, str x2_3, str x2_4, str x2_5]].flatten, obj b2v 33 [.int .i64 x2_0, .int .i64 x2_1, .int .i64 x2_2, str x2_3, str x2_4, str x2_5], obj b1v 33 [.int .i64 x1_0, .int .i64 x1_1, .int .i64 x1_2, str x1_3, str x1_4, str x1_5], F]) rfl rfl rfl rfl rfl rfl Try.call10 (.sel 0 rfl (.sel 0 rfl (.sel 0 rfl (.sel 0 rfl (.nil _))))) (synodlaw11_few.calls _ _ k (some ⟨b12v, 0, none⟩) 2 ([(x1_0, x1_1, x1_2, x1_3, x1_4, x1_5), (x2_0, x2_1, x2_2, x2_3, x2_4, x2_5)] : List (Ty33)) ((Rd.asV hlb12v hq13v).up (Up.lend 0 rfl) (fun _ _ h => h)) hq14v hq15v) hs19v) rfl rfl rfl rfl rfl rfl ?_
 intro y18v
 refine simL_val (q_pick rfl rfl rfl rfl rfl) rfl rfl rfl (simL_nil ?_)
 exact nrm_cut (s := s17v) () ⟨rfl, rfl, rfl, rfl, rfl, trivial⟩ (.sel 1 rfl (.sel 1 rfl (.sel 1 rfl (.nil _))))
 rw [hb21v]
 refine simL_skipd rfl rfl rfl rfl rfl rfl ?_
 refine simL_skipd rfl rfl rfl rfl rfl rfl ?_
 refine simL_skipd rfl rfl rfl rfl rfl rfl ?_
 refine simL_skipd rfl rfl rfl rfl rfl rfl ?_
 refine simL_val (q_pick rfl rfl rfl rfl rfl) rfl rfl rfl (simL_nil ?_)
 exact nrm_cut (s := false) () ⟨rfl, rfl, rfl, rfl, rfl, trivial⟩ (.sel 0 rfl (.sel 0 rfl (.sel 0 rfl (.nil _))))
 intro s9v y10v
 refine simL_val (q_asg rfl rfl) rfl rfl rfl (simL_nil (nrm_then (sim_seq (sim_seq (sim_region ?_)))))
 refine simL_val (q_move rfl rfl) rfl rfl rfl ?_
 refine simL_val (q_not rfl rfl) rfl rfl rfl ?_
 refine simL_val (q_move rfl rfl) rfl rfl rfl ?_
 refine simL_valc (b := !s3v) (fun hb137v => RQ.sub (E' := [(8, .bool s9v)]) ⟨rfl, trivial⟩ (q_move rfl rfl)) rfl rfl rfl rfl rfl ?_
 refine simL_valc (b := !s3v) (fun hb136v => RQ.sub (E' := [(25, .bool s9v)]) ⟨lk_cv rfl hb136v, trivial⟩ (q_not rfl rfl)) rfl rfl rfl rfl rfl ?_
 refine simL_val (q_or rfl rfl rfl) rfl rfl rfl ?_
 refine simL_val (q_move rfl rfl) rfl rfl rfl ?_
 refine simL_valc (b := (!s3v) || (!s9v)) (fun hb135v => RQ.sub (E' := [(0, .slice a0 x0.length c0)]) ⟨rfl, trivial⟩ (q_move rfl rfl)) rfl rfl rfl rfl rfl ?_
 refine simL_valc (b := (!s3v) || (!s9v)) (fun hb134v => RQ.sub (E' := [(29, .slice a0 x0.length c0)]) ⟨lk_cv rfl hb134v, trivial⟩ (q_len rfl rfl rfl Try.underlying22)) rfl rfl rfl rfl rfl ?_
 refine simL_valc (b := (!s3v) || (!s9v)) (fun hb133v => RQ.sub (E' := [(30, .int .i64 (x0.length : Int))]) ⟨lk_cv rfl hb133v, trivial⟩ (q_gtr rfl rfl rfl)) rfl rfl rfl rfl rfl ?_
 refine simL_val (q_or rfl rfl rfl) rfl rfl rfl ?_
 refine simL_val (q_move rfl rfl) rfl rfl rfl ?_
 refine simL_valc (b := ((!s3v) || (!s9v)) || (decide ((200 : Int) < (x0.length : Int)))) (fun hb132v => RQ.sub (E' := [(4, .pointer (some ⟨b1v, 0, none⟩))]) ⟨rfl, trivial⟩ (q_fa rfl rfl Try.underlying33 rfl rfl Try.sizeOf3 rfl)) rfl rfl rfl rfl rfl ?_
 refine simL_valc (b := ((!s3v) || (!s9v)) || (decide ((200 : Int) < (x0.length : Int)))) (fun hb131v => RQ.sub (E' := [(34, .pointer (some ⟨b1v, 1, none⟩))]) ⟨lk_cv rfl hb131v, trivial⟩ (q_load rfl rfl Try.isAgg3 (.obj 1 rfl rfl))) rfl rfl rfl rfl rfl ?_
 refine simL_valc (b := ((!s3v) || (!s9v)) || (decide ((200 : Int) < (x0.length : Int)))) (fun hb130v => RQ.sub (E' := [(5, .pointer (some ⟨b2v, 0, none⟩))]) ⟨rfl, trivial⟩ (q_fa rfl rfl Try.underlying33 rfl rfl Try.sizeOf3 rfl)) rfl rfl rfl rfl rfl ?_
 refine simL_valc (b := ((!s3v) || (!s9v)) || (decide ((200 : Int) < (x0.length : Int)))) (fun hb129v => RQ.sub (E' := [(36, .pointer (some ⟨b2v, 1, none⟩))]) ⟨lk_cv rfl hb129v, trivial⟩ (q_load rfl rfl Try.isAgg3 (.obj 0 rfl rfl))) rfl rfl rfl rfl rfl ?_
 refine simL_valc (b := ((!s3v) || (!s9v)) || (decide ((200 : Int) < (x0.length : Int)))) (fun hb128v => RQ.sub (E' := [(35, .int .i64 x1_1), (37, .int .i64 x2_1)]) ⟨lk_cv rfl hb128v, lk_cv rfl hb128v, trivial⟩ (q_eql rfl rfl rfl)) rfl rfl rfl rfl rfl ?_
 refine simL_val (q_or rfl rfl rfl) rfl rfl rfl ?_
 refine simL_val (q_move rfl rfl) rfl rfl rfl ?_
 refine simL_valc (b := (((!s3v) || (!s9v)) || (decide ((200 : Int) < (x0.length : Int)))) || (decide (x1_1 = x2_1))) (fun hb127v => RQ.sub (E' := [(4, .pointer (some ⟨b1v, 0, none⟩))]) ⟨rfl, trivial⟩ (q_fa rfl rfl Try.underlying33 rfl rfl Try.sizeOf9 rfl)) rfl rfl rfl rfl rfl ?_
 refine simL_valc (b := (((!s3v) || (!s9v)) || (decide ((200 : Int) < (x0.length : Int)))) || (decide (x1_1 = x2_1))) (fun hb126v => RQ.sub (E' := [(41, .pointer (some ⟨b1v, 3, none⟩))]) ⟨lk_cv rfl hb126v, trivial⟩ (q_load rfl rfl Try.isAgg9 (.obj 1 rfl rfl))) rfl rfl rfl rfl rfl ?_
 refine simL_valc (b := (((!s3v) || (!s9v)) || (decide ((200 : Int) < (x0.length : Int)))) || (decide (x1_1 = x2_1))) (fun hb125v => RQ.sub (E' := [(5, .pointer (some ⟨b2v, 0, none⟩))]) ⟨rfl, trivial⟩ (q_fa rfl rfl Try.underlying33 rfl rfl Try.sizeOf9 rfl)) rfl rfl rfl rfl rfl ?_
 refine simL_valc (b := (((!s3v) || (!s9v)) || (decide ((200 : Int) < (x0.length : Int)))) || (decide (x1_1 = x2_1))) (fun hb124v => RQ.sub (E' := [(43, .pointer (some ⟨b2v, 3, none⟩))]) ⟨lk_cv rfl hb124v, trivial⟩ (q_load rfl rfl Try.isAgg9 (.obj 0 rfl rfl))) rfl rfl rfl rfl rfl ?_
 refine simL_valc (b := (((!s3v) || (!s9v)) || (decide ((200 : Int) < (x0.length : Int)))) || (decide (x1_1 = x2_1))) (fun hb123v => RQ.sub (E' := [(42, str x1_3), (44, str x2_3)]) ⟨lk_cv rfl hb123v, lk_cv rfl hb123v, trivial⟩ (q_eqs rfl rfl rfl)) rfl rfl rfl rfl rfl ?_
 refine simL_val (q_or rfl rfl rfl) rfl rfl rfl (simL_nil (nrm_then ?_))
 refine sim_condb rfl (fun h22v => ?_) (fun h23v => ?_)
 refine sim_seq (sim_region ?_)
 refine simL_val (q_move rfl rfl) rfl rfl rfl ?_
 refine simL_val (q_asg rfl rfl) rfl rfl rfl (simL_nil (nrm_then (sim_rtn ?_)))
 refine rtn_then ?_
 exact rtn_fn () rfl rfl rfl (.sel 2 rfl (.nil _))
 refine sim_skip ?_
 refine nrm_then (sim_seq (sim_region ?_))
 refine simL_bind (fun s24v hs26v => ?_)
 refine simL_eff (re_call (vs := []) (cap := []) (A := []) (rst := [obj b2v 33 [.int .i64 x2_0, .int .i64 x2_1, .int .i64 x2_2, str x2_3, str x2_4, str x2_5], obj b1v 33 [.int .i64 x1_0, .int .i64 x1_1, .int .i64 x1_2, str x1_3, str x1_4, str x1_5], F]) rfl rfl rfl rfl rfl rfl Try.call11 (.sel 0 rfl (.sel 0 rfl (.sel 0 rfl (.nil _)))) (kv_New.calls _ _  ) hs26v) rfl rfl rfl ?_
 intro y25v
 refine simL_val (q_asg rfl rfl) rfl rfl rfl (simL_nil (nrm_then (sim_seq (sim_region ?_))))
 refine simL_val (q_move rfl rfl) rfl rfl rfl ?_
 refine simL_val (q_move rfl rfl) rfl rfl rfl ?_
 refine simL_bind (fun s27v hs29v => ?_)
 refine simL_eff (re_call (vs := [.pointer (some ⟨y25v.1, 0, none⟩), .slice a0 x0.length c0]) (cap := []) (A := [obj y25v.1 63 [.map (some y25v.2.1), .map (some y25v.2.2)], mapO y25v.2.1 enc9 enc9 s24v.1, mapO y25v.2.2 enc3 enc42 s24v.2]) (rst := [obj b2v 33 [.int .i64 x2_0, .int .i64 x2_1, .int .i64 x2_2, str x2_3, str x2_4, str x2_5], obj b1v 33 [.int .i64 x1_0, .int .i64 x1_1, .int .i64 x1_2, str x1_3, str x1_4, str x1_5], F]) rfl rfl rfl rfl rfl rfl Try.call24 (.sel 0 rfl (.sel 0 rfl (.sel 0 rfl (.sel 0 rfl (.sel 0 rfl (.sel 0 rfl (.nil _))))))) (synodlaw11_does.calls _ _ k y25v.1 y25v.2.1 s24v.1 y25v.2.2 s24v.2 a0 c0 x0 (h0.up (Up.lend 2 rfl) (fun _ _ h => h)) hc0 hm0) hs29v) rfl rfl rfl ?_
 intro y28v
 refine simL_nil (nrm_then (sim_seq (sim_seq (sim_region ?_))))
 refine simL_val (q_move rfl rfl) rfl rfl rfl ?_
 refine simL_bind (fun s30v hs32v => ?_)
 refine simL_eff (re_call (vs := [.pointer (some ⟨y25v.1, 0, none⟩)]) (cap := []) (A := [obj y25v.1 63 [.map (some y28v.2.2.1), .map (some y28v.2.2.2)], mapO y28v.2.2.1 enc9 enc9 s27v.2.1, mapO y28v.2.2.2 enc3 enc42 s27v.2.2]) (rst := [RowV 28 2 (V28 tt) y28v.1 s27v.1 y28v.2.1, obj b2v 33 [.int .i64 x2_0, .int .i64 x2_1, .int .i64 x2_2, str x2_3, str x2_4, str x2_5], obj b1v 33 [.int .i64 x1_0, .int .i64 x1_1, .int .i64 x1_2, str x1_3, str x1_4, str x1_5], F]) rfl rfl rfl rfl rfl rfl Try.call25 (.sel 1 rfl (.sel 1 rfl (.sel 1 rfl (.sel 0 rfl (.sel 0 rfl (.sel 0 rfl (.sel 0 rfl (.nil _)))))))) (kv_Store_Len.calls _ _ y25v.1 y28v.2.2.1 s27v.2.1 y28v.2.2.2 s27v.2.2 ) hs32v) rfl rfl rfl ?_
 intro y31v
 refine simL_val (q_gtr rfl rfl rfl) rfl rfl rfl ?_
 refine simL_val (q_move rfl rfl) rfl rfl rfl ?_
 refine simL_cut' 5 (S := Bool) (Unit) (fun s y => [(4, .pointer (some ⟨b1v, 0, none⟩)), (5, .pointer (some ⟨b2v, 0, none⟩)), (9, .pointer (some ⟨y25v.1, 0, none⟩)), (60, .bool s)]) (fun s y => [obj y25v.1 63 [.map (some y28v.2.2.1), .map (some y28v.2.2.2)], obj b2v 33 [.int .i64 x2_0, .int .i64 x2_1, .int .i64 x2_2, str x2_3, str x2_4, str x2_5], obj b1v 33 [.int .i64 x1_0, .int .i64 x1_1, .int .i64 x1_2, str x1_3, str x1_4, str x1_5], mapO y28v.2.2.1 enc9 enc9 s27v.2.1, mapO y28v.2.2.2 enc3 enc42 s27v.2.2, F]) ?_ ?_
 refine simL_casep (fun hb38v => ?_) (fun hb39v => ?_)
 rw [hb38v]
 refine simL_skipd rfl rfl rfl rfl rfl rfl ?_
 refine simL_skipd rfl rfl rfl rfl rfl rfl ?_
 refine simL_skipd rfl rfl rfl rfl rfl rfl ?_
 refine simL_skipd rfl rfl rfl rfl rfl rfl ?_
 refine simL_val (q_pick rfl rfl rfl rfl rfl) rfl rfl rfl (simL_nil ?_)
 exact nrm_cut (s := true) () ⟨rfl, rfl, rfl, rfl, trivial⟩ (.sel 0 rfl (.sel 3 rfl (.sel 3 rfl (.sel 0 rfl (.sel 0 rfl (.sel 1 rfl (.nil _)))))))
 rw [hb39v]
 refine simL_valg (q_move rfl rfl) rfl rfl rfl rfl rfl rfl ?_
 refine simL_bind (fun s35v hs37v => ?_)
 refine simL_effg (re_call (vs := [.pointer (some ⟨y25v.1, 0, none⟩)]) (cap := []) (A := [obj y25v.1 63 [.map (some y28v.2.2.1), .map (some y28v.2.2.2)], mapO y28v.2.2.1 enc9 enc9 s27v.2.1, mapO y28v.2.2.2 enc3 enc42 s27v.2.2]) (rst := [RowV 28 2 (V28 tt) y28v.1 s27v.1 y28v.2.1, obj b2v 33 [.int .i64 x2_0, .int .i64 x2_1, .int .i64 x2_2, str x2_3, str x2_4, str x2_5], obj b1v 33 [.int .i64 x1_0, .int .i64 x1_1, .int .i64 x1_2, str x1_3, str x1_4, str x1_5], F]) rfl rfl rfl rfl rfl rfl Try.call17 (.sel 0 rfl (.sel 0 rfl (.sel 0 rfl (.sel 0 rfl (.sel 0 rfl (.sel 0 rfl (.sel 0 rfl (.nil _)))))))) (kv_Store_Sessions.calls _ _ k y25v.1 y28v.2.2.1 s27v.2.1 y28v.2.2.2 s27v.2.2 ) hs37v) rfl rfl rfl rfl rfl rfl ?_
 intro y36v
 refine simL_valg (q_len rfl rfl rfl Try.underlying39) rfl rfl rfl rfl rfl rfl ?_
 refine simL_valg (q_gtr rfl rfl rfl) rfl rfl rfl rfl rfl rfl ?_
 refine simL_val (q_pick rfl rfl rfl rfl rfl) rfl rfl rfl (simL_nil ?_)
 exact nrm_cut (s := decide ((30 : Int) < (s35v.length : Int))) () ⟨rfl, rfl, rfl, rfl, trivial⟩ (.sel 1 rfl (.sel 4 rfl (.sel 4 rfl (.sel 1 rfl (.sel 1 rfl (.sel 2 rfl (.nil _)))))))
 intro s33v y34v
 refine simL_nil (nrm_then ?_)
 refine sim_condb rfl (fun h40v => ?_) (fun h41v => ?_)
 refine sim_seq (sim_region ?_)
 refine simL_val (q_asg rfl rfl) rfl rfl rfl (simL_nil (nrm_then (sim_rtn ?_)))
 refine rtn_then ?_
 exact rtn_fn () rfl rfl rfl (.sel 5 rfl (.nil _))
 refine sim_skip ?_
 refine nrm_then (sim_seq (sim_region ?_))
 refine simL_val (q_move rfl rfl) rfl rfl rfl ?_
 refine simL_bind (fun s42v hs44v => ?_)
 refine simL_eff (re_call (vs := [.pointer (some ⟨y25v.1, 0, none⟩)]) (cap := []) (A := [obj y25v.1 63 [.map (some y28v.2.2.1), .map (some y28v.2.2.2)], mapO y28v.2.2.1 enc9 enc9 s27v.2.1, mapO y28v.2.2.2 enc3 enc42 s27v.2.2]) (rst := [obj b2v 33 [.int .i64 x2_0, .int .i64 x2_1, .int .i64 x2_2, str x2_3, str x2_4, str x2_5], obj b1v 33 [.int .i64 x1_0, .int .i64 x1_1, .int .i64 x1_2, str x1_3, str x1_4, str x1_5], F]) rfl rfl rfl rfl rfl rfl Try.call23 (.sel 0 rfl (.sel 2 rfl (.sel 2 rfl (.sel 0 rfl (.sel 0 rfl (.sel 0 rfl (.nil _))))))) (kv_Store_Copy.calls _ _ y25v.1 y28v.2.2.1 s27v.2.1 y28v.2.2.2 s27v.2.2 ) hs44v) rfl rfl rfl ?_
 intro y43v
 refine simL_val (q_asg rfl rfl) rfl rfl rfl (simL_nil (nrm_then (sim_seq (sim_seq (sim_region ?_)))))
 refine simL_val (q_move rfl rfl) rfl rfl rfl ?_
 refine simL_val (q_eqp rfl rfl rfl Try.underlying25) rfl rfl rfl (simL_nil (nrm_then ?_))
 refine sim_false rfl ?_
 refine sim_skip ?_
 refine nrm_then (sim_seq (sim_region ?_))
 refine simL_val (q_move rfl rfl) rfl rfl rfl ?_
 refine simL_val (q_loado 7 rfl rfl Try.isAgg33 Try.sizeOf33 rfl rfl) rfl rfl rfl ?_
 refine simL_val (q_loado 6 rfl rfl Try.isAgg33 Try.sizeOf33 rfl rfl) rfl rfl rfl ?_
 have hlb46v : ListV 6 (V33 tt) ([(x1_0, x1_1, x1_2, x1_3, x1_4, x1_5), (x2_0, x2_1, x2_2, x2_3, x2_4, x2_5)] : List (Ty33)) [[.int .i64 x1_0, .int .i64 x1_1, .int .i64 x1_2, str x1_3, str x1_4, str x1_5], [.int .i64 x2_0, .int .i64 x2_1, .int .i64 x2_2, str x2_3, str x2_4, str x2_5]] := ⟨⟨rfl, one_of (by rfl), rfl⟩, ⟨rfl, one_of (by rfl), rfl⟩, trivial⟩
 refine simL_eff (re_litV (V := (V33 tt)) (xs := ([(x1_0, x1_1, x1_2, x1_3, x1_4, x1_5), (x2_0, x2_1, x2_2, x2_3, x2_4, x2_5)] : List (Ty33))) [[.int .i64 x1_0, .int .i64 x1_1, .int .i64 x1_2, str x1_3, str x1_4, str x1_5], [.int .i64 x2_0, .int .i64 x2_1, .int .i64 x2_2, str x2_3, str x2_4, str x2_5]] rfl rfl Try.underlying22 elt33 rfl (by kernel_rfl) rfl hlb46v rfl rfl) rfl rfl rfl ?_
 intro b46v
 refine simL_bind (fun s51v hs53v => ?_)
 refine simL_lend 0 rfl (fun hq47v hq48v hq49v hq50v => ?_)
 refine simL_eff (re_call (vs := [.pointer (some ⟨y25v.1, 0, none⟩), .slice (some ⟨b46v, 0, none⟩) (([(x1_0, x1_1, x1_2, x1_3, x1_4, x1_5), (x2_0, x2_1, x2_2, x2_3, x2_4, x2_5)] : List (Ty33)).length) 2]) (cap := []) (A := [obj y25v.1 63 [.map (some y28v.2.2.1), .map (some y28v.2.2.2)], mapO y28v.2.2.1 enc9 enc9 s27v.2.1, mapO y28v.2.2.2 enc3 enc42 s27v.2.2]) (rst := [Row 33 6 (some ⟨b46v, 0, none⟩) ([(x1_0, x1_1, x1_2, x1_3, x1_4, x1_5), (x2_0, x2_1, x2_2, x2_3, x2_4, x2_5)] : List (Ty33)).length 2 [[.int .i64 x1_0, .int .i64 x1_1, .int .i64 x1_2, str x1_3, str x1_4, str x1_5], [.int .i64 x2_0, .int .i64 x2_1, .int .i64 x2_2, str x2_3, str x2_4, str x2_5]].flatten, obj y43v.1 63 [.map (some y43v.2.1), .map (some y43v.2.2)], mapO y43v.2.1 enc9 enc9 s42v.1, mapO y43v.2.2 enc3 enc42 s42v.2, obj b2v 33 [.int .i64 x2_0, .int .i64 x2_1, .int .i64 x2_2, str x2_3, str x2_4, str x2_5], obj b1v 33 [.int .i64 x1_0, .int .i64 x1_1, .int .i64 x1_2, str x1_3, str x1_4, str x1_5], F]) rfl rfl rfl rfl rfl rfl Try.call24 (.sel 4 rfl (.sel 4 rfl (.sel 4 rfl (.sel 0 rfl (.sel 0 rfl (.sel 0 rfl (.sel 0 rfl (.sel 0 rfl (.sel 0 rfl (.sel 0 rfl (.nil _))))))))))) (synodlaw11_does.calls _ _ k y25v.1 y28v.2.2.1 s27v.2.1 y28v.2.2.2 s27v.2.2 (some ⟨b46v, 0, none⟩) 2 ([(x1_0, x1_1, x1_2, x1_3, x1_4, x1_5), (x2_0, x2_1, x2_2, x2_3, x2_4, x2_5)] : List (Ty33)) ((Rd.asV hlb46v hq47v).up (Up.lend 0 rfl) (fun _ _ h => h)) hq48v hq49v) hs53v) rfl rfl rfl ?_
 intro y52v
 refine simL_val (q_asg rfl rfl) rfl rfl rfl (simL_nil (nrm_then (sim_seq (sim_region ?_))))
 refine simL_val (q_move rfl rfl) rfl rfl rfl ?_
 refine simL_val (q_loado 8 rfl rfl Try.isAgg33 Try.sizeOf33 rfl rfl) rfl rfl rfl ?_
 refine simL_val (q_loado 9 rfl rfl Try.isAgg33 Try.sizeOf33 rfl rfl) rfl rfl rfl ?_
 have hlb55v : ListV 6 (V33 tt) ([(x2_0, x2_1, x2_2, x2_3, x2_4, x2_5), (x1_0, x1_1, x1_2, x1_3, x1_4, x1_5)] : List (Ty33)) [[.int .i64 x2_0, .int .i64 x2_1, .int .i64 x2_2, str x2_3, str x2_4, str x2_5], [.int .i64 x1_0, .int .i64 x1_1, .int .i64 x1_2, str x1_3, str x1_4, str x1_5]] := ⟨⟨rfl, one_of (by rfl), rfl⟩, ⟨rfl, one_of (by rfl), rfl⟩, trivial⟩
 refine simL_eff (re_litV (V := (V33 tt)) (xs := ([(x2_0, x2_1, x2_2, x2_3, x2_4, x2_5), (x1_0, x1_1, x1_2, x1_3, x1_4, x1_5)] : List (Ty33))) [[.int .i64 x2_0, .int .i64 x2_1, .int .i64 x2_2, str x2_3, str x2_4, str x2_5], [.int .i64 x1_0, .int .i64 x1_1, .int .i64 x1_2, str x1_3, str x1_4, str x1_5]] rfl rfl Try.underlying22 elt33 rfl (by kernel_rfl) rfl hlb55v rfl rfl) rfl rfl rfl ?_
 intro b55v
 refine simL_bind (fun s60v hs62v => ?_)
 refine simL_lend 0 rfl (fun hq56v hq57v hq58v hq59v => ?_)
 refine simL_eff (re_call (vs := [.pointer (some ⟨y43v.1, 0, none⟩), .slice (some ⟨b55v, 0, none⟩) (([(x2_0, x2_1, x2_2, x2_3, x2_4, x2_5), (x1_0, x1_1, x1_2, x1_3, x1_4, x1_5)] : List (Ty33)).length) 2]) (cap := []) (A := [obj y43v.1 63 [.map (some y43v.2.1), .map (some y43v.2.2)], mapO y43v.2.1 enc9 enc9 s42v.1, mapO y43v.2.2 enc3 enc42 s42v.2]) (rst := [Row 33 6 (some ⟨b55v, 0, none⟩) ([(x2_0, x2_1, x2_2, x2_3, x2_4, x2_5), (x1_0, x1_1, x1_2, x1_3, x1_4, x1_5)] : List (Ty33)).length 2 [[.int .i64 x2_0, .int .i64 x2_1, .int .i64 x2_2, str x2_3, str x2_4, str x2_5], [.int .i64 x1_0, .int .i64 x1_1, .int .i64 x1_2, str x1_3, str x1_4, str x1_5]].flatten, RowV 28 2 (V28 tt) y52v.1 s51v.1 y52v.2.1, obj y25v.1 63 [.map (some y52v.2.2.1), .map (some y52v.2.2.2)], mapO y52v.2.2.1 enc9 enc9 s51v.2.1, mapO y52v.2.2.2 enc3 enc42 s51v.2.2, Row 33 6 (some ⟨b46v, 0, none⟩) ([(x1_0, x1_1, x1_2, x1_3, x1_4, x1_5), (x2_0, x2_1, x2_2, x2_3, x2_4, x2_5)] : List (Ty33)).length 2 [[.int .i64 x1_0, .int .i64 x1_1, .int .i64 x1_2, str x1_3, str x1_4, str x1_5], [.int .i64 x2_0, .int .i64 x2_1, .int .i64 x2_2, str x2_3, str x2_4, str x2_5]].flatten, obj b2v 33 [.int .i64 x2_0, .int .i64 x2_1, .int .i64 x2_2, str x2_3, str x2_4, str x2_5], obj b1v 33 [.int .i64 x1_0, .int .i64 x1_1, .int .i64 x1_2, str x1_3, str x1_4, str x1_5], F]) rfl rfl rfl rfl rfl rfl Try.call24 (.sel 6 rfl (.sel 6 rfl (.sel 6 rfl (.sel 0 rfl (.sel 0 rfl (.sel 0 rfl (.sel 0 rfl (.sel 0 rfl (.sel 0 rfl (.sel 0 rfl (.sel 0 rfl (.sel 0 rfl (.nil _))))))))))))) (synodlaw11_does.calls _ _ k y43v.1 y43v.2.1 s42v.1 y43v.2.2 s42v.2 (some ⟨b55v, 0, none⟩) 2 ([(x2_0, x2_1, x2_2, x2_3, x2_4, x2_5), (x1_0, x1_1, x1_2, x1_3, x1_4, x1_5)] : List (Ty33)) ((Rd.asV hlb55v hq56v).up (Up.lend 0 rfl) (fun _ _ h => h)) hq57v hq58v) hs62v) rfl rfl rfl ?_
 intro y61v
 refine simL_val (q_asg rfl rfl) rfl rfl rfl (simL_nil (nrm_then ?_))
 refine sim_cut (S := Bool) (Unit) (fun s y => [(6, .bool s)]) (fun s y => [F]) ?_ ?_
 refine sim_openV 0 rfl (fun rs65v hl66v => ?_)
 refine sim_openV 5 rfl (fun rs67v hl68v => ?_)
 refine sim_ask (fun hi69v => ?_)
 refine sim_posV 5 rfl hl68v rfl (i := (0 : Int).toNat) (by omega) ((0 : Int), ([] : List UInt8)) (fun b70v b70vo r73v ha71v hV74v hlr75v hcell76v => ?_)
 obtain rfl := hV74v
 refine sim_ask (fun hi77v => ?_)
 refine sim_posV 0 rfl hl66v rfl (i := (1 : Int).toNat) (by omega) ((0 : Int), ([] : List UInt8)) (fun b78v b78vo r81v ha79v hV82v hlr83v hcell84v => ?_)
 obtain rfl := hV82v
 refine sim_if (fun hk85v => ?_) (fun hk85v => ?_)
 refine sim_ask (fun hi86v => ?_)
 refine sim_posV 5 rfl hl68v rfl (i := (1 : Int).toNat) (by omega) ((0 : Int), ([] : List UInt8)) (fun b87v b87vo r90v ha88v hV91v hlr92v hcell93v => ?_)
 obtain rfl := hV91v
 refine sim_ask (fun hi94v => ?_)
 refine sim_posV 0 rfl hl66v rfl (i := (0 : Int).toNat) (by omega) ((0 : Int), ([] : List UInt8)) (fun b95v b95vo r98v ha96v hV99v hlr100v hcell101v => ?_)
 obtain rfl := hV99v
 refine sim_if (fun hk102v => ?_) (fun hk102v => ?_)
 refine sim_bind (fun s103v hs105v => ?_)
 refine sim_bind (fun s106v hs108v => ?_)
 refine sim_bind (fun s117v hs119v => ?_)
 refine sim_draw (Γ := (Option Addr × Nat) × (Option Addr × Nat)) ((none, 0), (none, 0)) [[], [0], [0, 1], [], [3], [3, 4], [0, 1, 2, 3, 4, 5], [0, 1, 2, 3, 4, 5, 6], [0, 1, 2, 3, 4, 5, 6, 7], [0, 1, 2, 3, 4, 5, 6, 7, 8], [0, 1, 2, 3, 4, 5, 6, 7, 8, 9], [0, 1, 2, 3, 4, 5, 6, 7], [0, 1, 2, 3, 4, 5, 6, 7, 11], [0, 1, 2, 3, 4, 5, 6, 7, 11, 12], [0, 1, 2, 3, 4, 5, 6, 7, 8, 9, 10, 11, 12, 13], [0, 1, 2, 3, 4, 5, 6, 7, 8, 9, 10, 11, 12, 13, 14], [0, 1, 2, 3, 4, 5, 6, 7, 8, 9, 10, 11, 12, 13, 14, 15], [0, 1, 2, 3, 4, 5, 6, 7, 8, 9, 10, 11, 12, 13, 14, 15, 16], [0, 1, 2, 3, 4, 5, 6, 7, 8, 9, 10, 11, 12, 13, 14, 15, 16, 17], [0, 1, 2, 3, 4, 5, 6, 7, 8, 9, 10, 11, 12, 13, 14, 15, 16], [0, 1, 2, 3, 4, 5, 6, 7, 8, 9, 10, 11, 12, 13, 14, 15, 16, 17, 18, 19], [0, 1, 2, 3, 4, 5, 6, 7, 8, 9, 10, 11, 12, 13, 14, 15, 16, 17, 18, 19, 20], [0, 1, 2, 3, 4, 5, 6, 7, 8, 9, 10, 11, 12, 13, 14, 15, 16, 17, 18, 19, 20, 21], [0, 1, 2, 3, 4, 5, 6, 7, 8, 9, 10, 11, 12, 13, 14, 15, 16, 17, 18, 19, 20, 21, 22]] [18, 20] [0, 1, 2, 3, 4, 5, 6, 7, 8, 9, 10, 11, 12, 13, 14, 15, 16, 17, 19, 21, 22, 23] (fun i => [[0], [0], [0], [0], [0], [0], [0], [0], [0], [0], [0], [0], [0], [0], [0], [0], [0], [0], [], [0, 1], [], [2], [2], [2]].getD i []) (fun i => [[], [], [], [], [], [], [], [], [], [], [], [], [], [], [], [], [], [], [0, 1, 2, 3, 4, 5, 6, 7, 8, 9, 10, 11, 12, 13, 14, 15, 16, 17, 19], [], [0, 1, 2, 3, 4, 5, 6, 7, 8, 9, 10, 11, 12, 13, 14, 15, 16, 17, 18, 19], [], [], []].getD i []) (fun γ i => [.slice y52v.1 s51v.1.length y52v.2.1, .pointer (some ⟨b70v, b70vo + (0 : Int).toNat * 2, none⟩), .agg #[.int .i64 ((s51v.1.getD (0 : Int).toNat ((0 : Int), ([] : List UInt8))).1), str ((s51v.1.getD (0 : Int).toNat ((0 : Int), ([] : List UInt8))).2)], .slice y61v.1 s60v.1.length y61v.2.1, .pointer (some ⟨b78v, b78vo + (1 : Int).toNat * 2, none⟩), .agg #[.int .i64 ((s60v.1.getD (1 : Int).toNat ((0 : Int), ([] : List UInt8))).1), str ((s60v.1.getD (1 : Int).toNat ((0 : Int), ([] : List UInt8))).2)], .bool (decide ((s51v.1.getD (0 : Int).toNat ((0 : Int), ([] : List UInt8))).1 = (s60v.1.getD (1 : Int).toNat ((0 : Int), ([] : List UInt8))).1) && (decide (((s51v.1.getD (0 : Int).toNat ((0 : Int), ([] : List UInt8))).2) = ((s60v.1.getD (1 : Int).toNat ((0 : Int), ([] : List UInt8))).2)))), .bool (decide ((s51v.1.getD (0 : Int).toNat ((0 : Int), ([] : List UInt8))).1 = (s60v.1.getD (1 : Int).toNat ((0 : Int), ([] : List UInt8))).1) && (decide (((s51v.1.getD (0 : Int).toNat ((0 : Int), ([] : List UInt8))).2) = ((s60v.1.getD (1 : Int).toNat ((0 : Int), ([] : List UInt8))).2)))), .slice y52v.1 s51v.1.length y52v.2.1, .pointer (some ⟨b87v, b87vo + (1 : Int).toNat * 2, none⟩), .agg #[.int .i64 ((s51v.1.getD (1 : Int).toNat ((0 : Int), ([] : List UInt8))).1), str ((s51v.1.getD (1 : Int).toNat ((0 : Int), ([] : List UInt8))).2)], .slice y61v.1 s60v.1.length y61v.2.1, .pointer (some ⟨b95v, b95vo + (0 : Int).toNat * 2, none⟩), .agg #[.int .i64 ((s60v.1.getD (0 : Int).toNat ((0 : Int), ([] : List UInt8))).1), str ((s60v.1.getD (0 : Int).toNat ((0 : Int), ([] : List UInt8))).2)], .bool (decide ((s51v.1.getD (1 : Int).toNat ((0 : Int), ([] : List UInt8))).1 = (s60v.1.getD (0 : Int).toNat ((0 : Int), ([] : List UInt8))).1) && (decide (((s51v.1.getD (1 : Int).toNat ((0 : Int), ([] : List UInt8))).2) = ((s60v.1.getD (0 : Int).toNat ((0 : Int), ([] : List UInt8))).2)))), .bool (decide ((s51v.1.getD (1 : Int).toNat ((0 : Int), ([] : List UInt8))).1 = (s60v.1.getD (0 : Int).toNat ((0 : Int), ([] : List UInt8))).1) && (decide (((s51v.1.getD (1 : Int).toNat ((0 : Int), ([] : List UInt8))).2) = ((s60v.1.getD (0 : Int).toNat ((0 : Int), ([] : List UInt8))).2)))), .bool (decide ((s51v.1.getD (1 : Int).toNat ((0 : Int), ([] : List UInt8))).1 = (s60v.1.getD (0 : Int).toNat ((0 : Int), ([] : List UInt8))).1) && (decide (((s51v.1.getD (1 : Int).toNat ((0 : Int), ([] : List UInt8))).2) = ((s60v.1.getD (0 : Int).toNat ((0 : Int), ([] : List UInt8))).2)))), .pointer (some ⟨y25v.1, 0, none⟩), .slice γ.1.1 s103v.length γ.1.2, .pointer (some ⟨y43v.1, 0, none⟩), .slice γ.2.1 s106v.length γ.2.2, .bool s117v, .bool s117v, .bool s117v].getD i undef) (fun j γ => [[Row 28 2 y61v.1 s60v.1.length y61v.2.1 rs65v.flatten, obj y43v.1 63 [.map (some y61v.2.2.1), .map (some y61v.2.2.2)], mapO y61v.2.2.1 enc9 enc9 s60v.2.1, mapO y61v.2.2.2 enc3 enc42 s60v.2.2, Row 33 6 (some ⟨b55v, 0, none⟩) ([(x2_0, x2_1, x2_2, x2_3, x2_4, x2_5), (x1_0, x1_1, x1_2, x1_3, x1_4, x1_5)] : List (Ty33)).length 2 [[.int .i64 x2_0, .int .i64 x2_1, .int .i64 x2_2, str x2_3, str x2_4, str x2_5], [.int .i64 x1_0, .int .i64 x1_1, .int .i64 x1_2, str x1_3, str x1_4, str x1_5]].flatten, Row 28 2 y52v.1 s51v.1.length y52v.2.1 rs67v.flatten, obj y25v.1 63 [.map (some y52v.2.2.1), .map (some y52v.2.2.2)], mapO y52v.2.2.1 enc9 enc9 s51v.2.1, mapO y52v.2.2.2 enc3 enc42 s51v.2.2, Row 33 6 (some ⟨b46v, 0, none⟩) ([(x1_0, x1_1, x1_2, x1_3, x1_4, x1_5), (x2_0, x2_1, x2_2, x2_3, x2_4, x2_5)] : List (Ty33)).length 2 [[.int .i64 x1_0, .int .i64 x1_1, .int .i64 x1_2, str x1_3, str x1_4, str x1_5], [.int .i64 x2_0, .int .i64 x2_1, .int .i64 x2_2, str x2_3, str x2_4, str x2_5]].flatten, obj b2v 33 [.int .i64 x2_0, .int .i64 x2_1, .int .i64 x2_2, str x2_3, str x2_4, str x2_5], obj b1v 33 [.int .i64 x1_0, .int .i64 x1_1, .int .i64 x1_2, str x1_3, str x1_4, str x1_5], F], [Row 5 1 γ.1.1 s103v.length γ.1.2 (encB s103v), obj y25v.1 63 [.map (some y52v.2.2.1), .map (some y52v.2.2.2)], mapO y52v.2.2.1 enc9 enc9 s51v.2.1, mapO y52v.2.2.2 enc3 enc42 s51v.2.2, Row 28 2 y61v.1 s60v.1.length y61v.2.1 rs65v.flatten, obj y43v.1 63 [.map (some y61v.2.2.1), .map (some y61v.2.2.2)], mapO y61v.2.2.1 enc9 enc9 s60v.2.1, mapO y61v.2.2.2 enc3 enc42 s60v.2.2, Row 33 6 (some ⟨b55v, 0, none⟩) ([(x2_0, x2_1, x2_2, x2_3, x2_4, x2_5), (x1_0, x1_1, x1_2, x1_3, x1_4, x1_5)] : List (Ty33)).length 2 [[.int .i64 x2_0, .int .i64 x2_1, .int .i64 x2_2, str x2_3, str x2_4, str x2_5], [.int .i64 x1_0, .int .i64 x1_1, .int .i64 x1_2, str x1_3, str x1_4, str x1_5]].flatten, Row 28 2 y52v.1 s51v.1.length y52v.2.1 rs67v.flatten, Row 33 6 (some ⟨b46v, 0, none⟩) ([(x1_0, x1_1, x1_2, x1_3, x1_4, x1_5), (x2_0, x2_1, x2_2, x2_3, x2_4, x2_5)] : List (Ty33)).length 2 [[.int .i64 x1_0, .int .i64 x1_1, .int .i64 x1_2, str x1_3, str x1_4, str x1_5], [.int .i64 x2_0, .int .i64 x2_1, .int .i64 x2_2, str x2_3, str x2_4, str x2_5]].flatten, obj b2v 33 [.int .i64 x2_0, .int .i64 x2_1, .int .i64 x2_2, str x2_3, str x2_4, str x2_5], obj b1v 33 [.int .i64 x1_0, .int .i64 x1_1, .int .i64 x1_2, str x1_3, str x1_4, str x1_5], F], [Row 5 1 γ.2.1 s106v.length γ.2.2 (encB s106v), obj y43v.1 63 [.map (some y61v.2.2.1), .map (some y61v.2.2.2)], mapO y61v.2.2.1 enc9 enc9 s60v.2.1, mapO y61v.2.2.2 enc3 enc42 s60v.2.2, Row 5 1 γ.1.1 s103v.length γ.1.2 (encB s103v), obj y25v.1 63 [.map (some y52v.2.2.1), .map (some y52v.2.2.2)], mapO y52v.2.2.1 enc9 enc9 s51v.2.1, mapO y52v.2.2.2 enc3 enc42 s51v.2.2, Row 28 2 y61v.1 s60v.1.length y61v.2.1 rs65v.flatten, Row 33 6 (some ⟨b55v, 0, none⟩) ([(x2_0, x2_1, x2_2, x2_3, x2_4, x2_5), (x1_0, x1_1, x1_2, x1_3, x1_4, x1_5)] : List (Ty33)).length 2 [[.int .i64 x2_0, .int .i64 x2_1, .int .i64 x2_2, str x2_3, str x2_4, str x2_5], [.int .i64 x1_0, .int .i64 x1_1, .int .i64 x1_2, str x1_3, str x1_4, str x1_5]].flatten, Row 28 2 y52v.1 s51v.1.length y52v.2.1 rs67v.flatten, Row 33 6 (some ⟨b46v, 0, none⟩) ([(x1_0, x1_1, x1_2, x1_3, x1_4, x1_5), (x2_0, x2_1, x2_2, x2_3, x2_4, x2_5)] : List (Ty33)).length 2 [[.int .i64 x1_0, .int .i64 x1_1, .int .i64 x1_2, str x1_3, str x1_4, str x1_5], [.int .i64 x2_0, .int .i64 x2_1, .int .i64 x2_2, str x2_3, str x2_4, str x2_5]].flatten, obj b2v 33 [.int .i64 x2_0, .int .i64 x2_1, .int .i64 x2_2, str x2_3, str x2_4, str x2_5], obj b1v 33 [.int .i64 x1_0, .int .i64 x1_1, .int .i64 x1_2, str x1_3, str x1_4, str x1_5], F]].getD j []) (fun γ => [(6, .bool s117v)]) mixed (by decide) (by decide) (by decide) (by decide) (by decide) (by decide) (by decide) 98 rfl (by decide) (by decide) (by decide) (Ent.refl _) ?_ ?_ (fun _ => ⟨rfl, trivial⟩) ?_
 exact (All.cons (fun γ => (All.cons (QOb.plain [(11, .slice y52v.1 s51v.1.length y52v.2.1)] rfl rfl (.o rfl (by decide) .nil) (q_move rfl rfl) rfl) All.nil)) (All.cons (fun γ => (All.cons (QOb.plain [(75, .slice y52v.1 s51v.1.length y52v.2.1)] rfl rfl (.w 0 rfl rfl rfl .nil) (q_idx rfl rfl rfl ha71v Try.underlying56 Try.sizeOf28 hi69v.1 hi69v.2) rfl) All.nil)) (All.cons (fun γ => (All.cons (QOb.plain [(76, .pointer (some ⟨b70v, b70vo + (0 : Int).toNat * 2, none⟩))] rfl rfl (.w 1 rfl rfl rfl .nil) (q_loads rfl rfl Try.isAgg28 Try.sizeOf28 rfl (fun j v hj => hcell76v 5 rfl j v hj)) rfl) All.nil)) (All.cons (fun γ => (All.cons (QOb.plain [(12, .slice y61v.1 s60v.1.length y61v.2.1)] rfl rfl (.o rfl (by decide) .nil) (q_move rfl rfl) rfl) All.nil)) (All.cons (fun γ => (All.cons (QOb.plain [(78, .slice y61v.1 s60v.1.length y61v.2.1)] rfl rfl (.w 3 rfl rfl rfl .nil) (q_idx rfl rfl rfl ha79v Try.underlying56 Try.sizeOf28 hi77v.1 hi77v.2) rfl) All.nil)) (All.cons (fun γ => (All.cons (QOb.plain [(79, .pointer (some ⟨b78v, b78vo + (1 : Int).toNat * 2, none⟩))] rfl rfl (.w 4 rfl rfl rfl .nil) (q_loads rfl rfl Try.isAgg28 Try.sizeOf28 rfl (fun j v hj => hcell84v 0 rfl j v hj)) rfl) All.nil)) (All.cons (fun γ => (All.cons (QOb.plain [(77, .agg #[.int .i64 ((s51v.1.getD (0 : Int).toNat ((0 : Int), ([] : List UInt8))).1), str ((s51v.1.getD (0 : Int).toNat ((0 : Int), ([] : List UInt8))).2)]), (80, .agg #[.int .i64 ((s60v.1.getD (1 : Int).toNat ((0 : Int), ([] : List UInt8))).1), str ((s60v.1.getD (1 : Int).toNat ((0 : Int), ([] : List UInt8))).2)])] rfl rfl (.w 2 rfl rfl rfl (.w 5 rfl rfl rfl .nil)) (q_eqagg rfl rfl rfl (by kernel_rfl) (fun d w => eqi_struct Try.underlying28 (by kernel_rfl) (eqf_cons (by rfl) (part_of Try.isAgg3 rfl) (part_of Try.isAgg3 rfl) (eqi_int Try.underlying3) (eqf_last (by rfl) (part_of Try.isAgg9 rfl) (part_of Try.isAgg9 rfl) (eqi_str Try.underlying9))))) rfl) All.nil)) (All.cons (fun γ => (All.cons (QOb.plain [(81, .bool (decide ((s51v.1.getD (0 : Int).toNat ((0 : Int), ([] : List UInt8))).1 = (s60v.1.getD (1 : Int).toNat ((0 : Int), ([] : List UInt8))).1) && (decide (((s51v.1.getD (0 : Int).toNat ((0 : Int), ([] : List UInt8))).2) = ((s60v.1.getD (1 : Int).toNat ((0 : Int), ([] : List UInt8))).2)))))] rfl rfl (.w 6 rfl rfl rfl .nil) (q_move rfl rfl) rfl) All.nil)) (All.cons (fun γ => (All.cons (QOb.yes (b := decide ((s51v.1.getD (0 : Int).toNat ((0 : Int), ([] : List UInt8))).1 = (s60v.1.getD (1 : Int).toNat ((0 : Int), ([] : List UInt8))).1) && (decide (((s51v.1.getD (0 : Int).toNat ((0 : Int), ([] : List UInt8))).2) = ((s60v.1.getD (1 : Int).toNat ((0 : Int), ([] : List UInt8))).2)))) [(11, .slice y52v.1 s51v.1.length y52v.2.1), (82, .bool (decide ((s51v.1.getD (0 : Int).toNat ((0 : Int), ([] : List UInt8))).1 = (s60v.1.getD (1 : Int).toNat ((0 : Int), ([] : List UInt8))).1) && (decide (((s51v.1.getD (0 : Int).toNat ((0 : Int), ([] : List UInt8))).2) = ((s60v.1.getD (1 : Int).toNat ((0 : Int), ([] : List UInt8))).2)))))] rfl rfl rfl rfl (beq_yes hk85v) (.o rfl (by decide) (.w 7 rfl rfl rfl .nil)) (q_move rfl rfl) rfl) All.nil)) (All.cons (fun γ => (All.cons (QOb.yes (b := decide ((s51v.1.getD (0 : Int).toNat ((0 : Int), ([] : List UInt8))).1 = (s60v.1.getD (1 : Int).toNat ((0 : Int), ([] : List UInt8))).1) && (decide (((s51v.1.getD (0 : Int).toNat ((0 : Int), ([] : List UInt8))).2) = ((s60v.1.getD (1 : Int).toNat ((0 : Int), ([] : List UInt8))).2)))) [(82, .bool (decide ((s51v.1.getD (0 : Int).toNat ((0 : Int), ([] : List UInt8))).1 = (s60v.1.getD (1 : Int).toNat ((0 : Int), ([] : List UInt8))).1) && (decide (((s51v.1.getD (0 : Int).toNat ((0 : Int), ([] : List UInt8))).2) = ((s60v.1.getD (1 : Int).toNat ((0 : Int), ([] : List UInt8))).2))))), (83, .slice y52v.1 s51v.1.length y52v.2.1)] rfl rfl rfl rfl (beq_yes hk85v) (.w 7 rfl rfl rfl (.w 8 rfl rfl rfl .nil)) (q_idx rfl rfl rfl ha88v Try.underlying56 Try.sizeOf28 hi86v.1 hi86v.2) rfl) All.nil)) (All.cons (fun γ => (All.cons (QOb.yes (b := decide ((s51v.1.getD (0 : Int).toNat ((0 : Int), ([] : List UInt8))).1 = (s60v.1.getD (1 : Int).toNat ((0 : Int), ([] : List UInt8))).1) && (decide (((s51v.1.getD (0 : Int).toNat ((0 : Int), ([] : List UInt8))).2) = ((s60v.1.getD (1 : Int).toNat ((0 : Int), ([] : List UInt8))).2)))) [(82, .bool (decide ((s51v.1.getD (0 : Int).toNat ((0 : Int), ([] : List UInt8))).1 = (s60v.1.getD (1 : Int).toNat ((0 : Int), ([] : List UInt8))).1) && (decide (((s51v.1.getD (0 : Int).toNat ((0 : Int), ([] : List UInt8))).2) = ((s60v.1.getD (1 : Int).toNat ((0 : Int), ([] : List UInt8))).2))))), (84, .pointer (some ⟨b87v, b87vo + (1 : Int).toNat * 2, none⟩))] rfl rfl rfl rfl (beq_yes hk85v) (.w 7 rfl rfl rfl (.w 9 rfl rfl rfl .nil)) (q_loads rfl rfl Try.isAgg28 Try.sizeOf28 rfl (fun j v hj => hcell93v 5 rfl j v hj)) rfl) All.nil)) (All.cons (fun γ => (All.cons (QOb.yes (b := decide ((s51v.1.getD (0 : Int).toNat ((0 : Int), ([] : List UInt8))).1 = (s60v.1.getD (1 : Int).toNat ((0 : Int), ([] : List UInt8))).1) && (decide (((s51v.1.getD (0 : Int).toNat ((0 : Int), ([] : List UInt8))).2) = ((s60v.1.getD (1 : Int).toNat ((0 : Int), ([] : List UInt8))).2)))) [(12, .slice y61v.1 s60v.1.length y61v.2.1), (82, .bool (decide ((s51v.1.getD (0 : Int).toNat ((0 : Int), ([] : List UInt8))).1 = (s60v.1.getD (1 : Int).toNat ((0 : Int), ([] : List UInt8))).1) && (decide (((s51v.1.getD (0 : Int).toNat ((0 : Int), ([] : List UInt8))).2) = ((s60v.1.getD (1 : Int).toNat ((0 : Int), ([] : List UInt8))).2)))))] rfl rfl rfl rfl (beq_yes hk85v) (.o rfl (by decide) (.w 7 rfl rfl rfl .nil)) (q_move rfl rfl) rfl) All.nil)) (All.cons (fun γ => (All.cons (QOb.yes (b := decide ((s51v.1.getD (0 : Int).toNat ((0 : Int), ([] : List UInt8))).1 = (s60v.1.getD (1 : Int).toNat ((0 : Int), ([] : List UInt8))).1) && (decide (((s51v.1.getD (0 : Int).toNat ((0 : Int), ([] : List UInt8))).2) = ((s60v.1.getD (1 : Int).toNat ((0 : Int), ([] : List UInt8))).2)))) [(82, .bool (decide ((s51v.1.getD (0 : Int).toNat ((0 : Int), ([] : List UInt8))).1 = (s60v.1.getD (1 : Int).toNat ((0 : Int), ([] : List UInt8))).1) && (decide (((s51v.1.getD (0 : Int).toNat ((0 : Int), ([] : List UInt8))).2) = ((s60v.1.getD (1 : Int).toNat ((0 : Int), ([] : List UInt8))).2))))), (86, .slice y61v.1 s60v.1.length y61v.2.1)] rfl rfl rfl rfl (beq_yes hk85v) (.w 7 rfl rfl rfl (.w 11 rfl rfl rfl .nil)) (q_idx rfl rfl rfl ha96v Try.underlying56 Try.sizeOf28 hi94v.1 hi94v.2) rfl) All.nil)) (All.cons (fun γ => (All.cons (QOb.yes (b := decide ((s51v.1.getD (0 : Int).toNat ((0 : Int), ([] : List UInt8))).1 = (s60v.1.getD (1 : Int).toNat ((0 : Int), ([] : List UInt8))).1) && (decide (((s51v.1.getD (0 : Int).toNat ((0 : Int), ([] : List UInt8))).2) = ((s60v.1.getD (1 : Int).toNat ((0 : Int), ([] : List UInt8))).2)))) [(82, .bool (decide ((s51v.1.getD (0 : Int).toNat ((0 : Int), ([] : List UInt8))).1 = (s60v.1.getD (1 : Int).toNat ((0 : Int), ([] : List UInt8))).1) && (decide (((s51v.1.getD (0 : Int).toNat ((0 : Int), ([] : List UInt8))).2) = ((s60v.1.getD (1 : Int).toNat ((0 : Int), ([] : List UInt8))).2))))), (87, .pointer (some ⟨b95v, b95vo + (0 : Int).toNat * 2, none⟩))] rfl rfl rfl rfl (beq_yes hk85v) (.w 7 rfl rfl rfl (.w 12 rfl rfl rfl .nil)) (q_loads rfl rfl Try.isAgg28 Try.sizeOf28 rfl (fun j v hj => hcell101v 0 rfl j v hj)) rfl) All.nil)) (All.cons (fun γ => (All.cons (QOb.yes (b := decide ((s51v.1.getD (0 : Int).toNat ((0 : Int), ([] : List UInt8))).1 = (s60v.1.getD (1 : Int).toNat ((0 : Int), ([] : List UInt8))).1) && (decide (((s51v.1.getD (0 : Int).toNat ((0 : Int), ([] : List UInt8))).2) = ((s60v.1.getD (1 : Int).toNat ((0 : Int), ([] : List UInt8))).2)))) [(82, .bool (decide ((s51v.1.getD (0 : Int).toNat ((0 : Int), ([] : List UInt8))).1 = (s60v.1.getD (1 : Int).toNat ((0 : Int), ([] : List UInt8))).1) && (decide (((s51v.1.getD (0 : Int).toNat ((0 : Int), ([] : List UInt8))).2) = ((s60v.1.getD (1 : Int).toNat ((0 : Int), ([] : List UInt8))).2))))), (85, .agg #[.int .i64 ((s51v.1.getD (1 : Int).toNat ((0 : Int), ([] : List UInt8))).1), str ((s51v.1.getD (1 : Int).toNat ((0 : Int), ([] : List UInt8))).2)]), (88, .agg #[.int .i64 ((s60v.1.getD (0 : Int).toNat ((0 : Int), ([] : List UInt8))).1), str ((s60v.1.getD (0 : Int).toNat ((0 : Int), ([] : List UInt8))).2)])] rfl rfl rfl rfl (beq_yes hk85v) (.w 7 rfl rfl rfl (.w 10 rfl rfl rfl (.w 13 rfl rfl rfl .nil))) (q_eqagg rfl rfl rfl (by kernel_rfl) (fun d w => eqi_struct Try.underlying28 (by kernel_rfl) (eqf_cons (by rfl) (part_of Try.isAgg3 rfl) (part_of Try.isAgg3 rfl) (eqi_int Try.underlying3) (eqf_last (by rfl) (part_of Try.isAgg9 rfl) (part_of Try.isAgg9 rfl) (eqi_str Try.underlying9))))) rfl) All.nil)) (All.cons (fun γ => (All.cons (QOb.plain [(82, .bool (decide ((s51v.1.getD (0 : Int).toNat ((0 : Int), ([] : List UInt8))).1 = (s60v.1.getD (1 : Int).toNat ((0 : Int), ([] : List UInt8))).1) && (decide (((s51v.1.getD (0 : Int).toNat ((0 : Int), ([] : List UInt8))).2) = ((s60v.1.getD (1 : Int).toNat ((0 : Int), ([] : List UInt8))).2))))), (89, .bool (decide ((s51v.1.getD (1 : Int).toNat ((0 : Int), ([] : List UInt8))).1 = (s60v.1.getD (0 : Int).toNat ((0 : Int), ([] : List UInt8))).1) && (decide (((s51v.1.getD (1 : Int).toNat ((0 : Int), ([] : List UInt8))).2) = ((s60v.1.getD (0 : Int).toNat ((0 : Int), ([] : List UInt8))).2)))))] rfl rfl (.w 7 rfl rfl rfl (.w 14 rfl rfl rfl .nil)) (q_pick rfl rfl rfl rfl (bif_yes hk85v _ _)) rfl) All.nil)) (All.cons (fun γ => (All.cons (QOb.plain [(90, .bool (decide ((s51v.1.getD (1 : Int).toNat ((0 : Int), ([] : List UInt8))).1 = (s60v.1.getD (0 : Int).toNat ((0 : Int), ([] : List UInt8))).1) && (decide (((s51v.1.getD (1 : Int).toNat ((0 : Int), ([] : List UInt8))).2) = ((s60v.1.getD (0 : Int).toNat ((0 : Int), ([] : List UInt8))).2)))))] rfl rfl (.w 15 rfl rfl rfl .nil) (q_move rfl rfl) rfl) All.nil)) (All.cons (fun γ => (All.cons (QOb.yes (b := decide ((s51v.1.getD (1 : Int).toNat ((0 : Int), ([] : List UInt8))).1 = (s60v.1.getD (0 : Int).toNat ((0 : Int), ([] : List UInt8))).1) && (decide (((s51v.1.getD (1 : Int).toNat ((0 : Int), ([] : List UInt8))).2) = ((s60v.1.getD (0 : Int).toNat ((0 : Int), ([] : List UInt8))).2)))) [(9, .pointer (some ⟨y25v.1, 0, none⟩)), (91, .bool (decide ((s51v.1.getD (1 : Int).toNat ((0 : Int), ([] : List UInt8))).1 = (s60v.1.getD (0 : Int).toNat ((0 : Int), ([] : List UInt8))).1) && (decide (((s51v.1.getD (1 : Int).toNat ((0 : Int), ([] : List UInt8))).2) = ((s60v.1.getD (0 : Int).toNat ((0 : Int), ([] : List UInt8))).2)))))] rfl rfl rfl rfl (beq_yes hk102v) (.o rfl (by decide) (.w 16 rfl rfl rfl .nil)) (q_move rfl rfl) rfl) All.nil)) (All.cons (fun γ => (All.cons (QOb.yes (b := decide ((s51v.1.getD (1 : Int).toNat ((0 : Int), ([] : List UInt8))).1 = (s60v.1.getD (0 : Int).toNat ((0 : Int), ([] : List UInt8))).1) && (decide (((s51v.1.getD (1 : Int).toNat ((0 : Int), ([] : List UInt8))).2) = ((s60v.1.getD (0 : Int).toNat ((0 : Int), ([] : List UInt8))).2)))) [(10, .pointer (some ⟨y43v.1, 0, none⟩)), (91, .bool (decide ((s51v.1.getD (1 : Int).toNat ((0 : Int), ([] : List UInt8))).1 = (s60v.1.getD (0 : Int).toNat ((0 : Int), ([] : List UInt8))).1) && (decide (((s51v.1.getD (1 : Int).toNat ((0 : Int), ([] : List UInt8))).2) = ((s60v.1.getD (0 : Int).toNat ((0 : Int), ([] : List UInt8))).2)))))] rfl rfl rfl rfl (beq_yes hk102v) (.o rfl (by decide) (.w 16 rfl rfl rfl .nil)) (q_move rfl rfl) rfl) (All.cons (QOb.yes (b := decide ((s51v.1.getD (1 : Int).toNat ((0 : Int), ([] : List UInt8))).1 = (s60v.1.getD (0 : Int).toNat ((0 : Int), ([] : List UInt8))).1) && (decide (((s51v.1.getD (1 : Int).toNat ((0 : Int), ([] : List UInt8))).2) = ((s60v.1.getD (0 : Int).toNat ((0 : Int), ([] : List UInt8))).2)))) [(10, .pointer (some ⟨y43v.1, 0, none⟩)), (91, .bool (decide ((s51v.1.getD (1 : Int).toNat ((0 : Int), ([] : List UInt8))).1 = (s60v.1.getD (0 : Int).toNat ((0 : Int), ([] : List UInt8))).1) && (decide (((s51v.1.getD (1 : Int).toNat ((0 : Int), ([] : List UInt8))).2) = ((s60v.1.getD (0 : Int).toNat ((0 : Int), ([] : List UInt8))).2)))))] rfl rfl rfl rfl (beq_yes hk102v) (.o rfl (by decide) (.w 16 rfl rfl rfl .nil)) (q_move rfl rfl) rfl) All.nil))) (All.cons (fun γ => (All.cons (QOb.yes (b := decide ((s51v.1.getD (1 : Int).toNat ((0 : Int), ([] : List UInt8))).1 = (s60v.1.getD (0 : Int).toNat ((0 : Int), ([] : List UInt8))).1) && (decide (((s51v.1.getD (1 : Int).toNat ((0 : Int), ([] : List UInt8))).2) = ((s60v.1.getD (0 : Int).toNat ((0 : Int), ([] : List UInt8))).2)))) [(91, .bool (decide ((s51v.1.getD (1 : Int).toNat ((0 : Int), ([] : List UInt8))).1 = (s60v.1.getD (0 : Int).toNat ((0 : Int), ([] : List UInt8))).1) && (decide (((s51v.1.getD (1 : Int).toNat ((0 : Int), ([] : List UInt8))).2) = ((s60v.1.getD (0 : Int).toNat ((0 : Int), ([] : List UInt8))).2))))), (93, .slice γ.1.1 s103v.length γ.1.2), (95, .slice γ.2.1 s106v.length γ.2.2)] rfl rfl rfl rfl (beq_yes hk102v) (.w 16 rfl rfl rfl (.w 18 rfl rfl rfl (.w 20 rfl rfl rfl .nil))) (RE.rq (RE.lend 4 rfl (fun hq109v hq110v hq111v hq112v => RE.lend 0 rfl (fun hq113v hq114v hq115v hq116v => re_call (vs := [.slice γ.1.1 s103v.length γ.1.2, .slice γ.2.1 s106v.length γ.2.2]) (cap := []) (A := []) (rst := [Row 5 1 γ.2.1 s106v.length γ.2.2 (encB s106v), obj y43v.1 63 [.map (some y61v.2.2.1), .map (some y61v.2.2.2)], mapO y61v.2.2.1 enc9 enc9 s60v.2.1, mapO y61v.2.2.2 enc3 enc42 s60v.2.2, Row 5 1 γ.1.1 s103v.length γ.1.2 (encB s103v), obj y25v.1 63 [.map (some y52v.2.2.1), .map (some y52v.2.2.2)], mapO y52v.2.2.1 enc9 enc9 s51v.2.1, mapO y52v.2.2.2 enc3 enc42 s51v.2.2, Row 28 2 y61v.1 s60v.1.length y61v.2.1 rs65v.flatten, Row 33 6 (some ⟨b55v, 0, none⟩) ([(x2_0, x2_1, x2_2, x2_3, x2_4, x2_5), (x1_0, x1_1, x1_2, x1_3, x1_4, x1_5)] : List (Ty33)).length 2 [[.int .i64 x2_0, .int .i64 x2_1, .int .i64 x2_2, str x2_3, str x2_4, str x2_5], [.int .i64 x1_0, .int .i64 x1_1, .int .i64 x1_2, str x1_3, str x1_4, str x1_5]].flatten, Row 28 2 y52v.1 s51v.1.length y52v.2.1 rs67v.flatten, Row 33 6 (some ⟨b46v, 0, none⟩) ([(x1_0, x1_1, x1_2, x1_3, x1_4, x1_5), (x2_0, x2_1, x2_2, x2_3, x2_4, x2_5)] : List (Ty33)).length 2 [[.int .i64 x1_0, .int .i64 x1_1, .int .i64 x1_2, str x1_3, str x1_4, str x1_5], [.int .i64 x2_0, .int .i64 x2_1, .int .i64 x2_2, str x2_3, str x2_4, str x2_5]].flatten, obj b2v 33 [.int .i64 x2_0, .int .i64 x2_1, .int .i64 x2_2, str x2_3, str x2_4, str x2_5], obj b1v 33 [.int .i64 x1_0, .int .i64 x1_1, .int .i64 x1_2, str x1_3, str x1_4, str x1_5], F]) rfl rfl rfl rfl rfl rfl Try.call15 (.sel 0 rfl (.sel 0 rfl (.sel 0 rfl (.sel 0 rfl (.sel 0 rfl (.sel 0 rfl (.sel 0 rfl (.sel 0 rfl (.sel 0 rfl (.sel 0 rfl (.sel 0 rfl (.sel 0 rfl (.sel 0 rfl (.sel 0 rfl (.sel 0 rfl (.nil _)))))))))))))))) (synodref_SameBytes.calls _ _ k γ.1.1 γ.1.2 s103v γ.2.1 γ.2.2 s106v (hq109v.lend 4 rfl) hq110v hq111v (hq113v.lend 0 rfl) hq114v hq115v) hs119v))) (fun _ => by rfl) (fun _ => by exact ((.sel 0 rfl (.sel 0 rfl (.sel 0 rfl (.sel 0 rfl (.sel 0 rfl (.sel 0 rfl (.sel 0 rfl (.sel 0 rfl (.sel 0 rfl (.sel 0 rfl (.sel 0 rfl (.sel 0 rfl (.sel 0 rfl (.sel 0 rfl (.sel 0 rfl (.nil _))))))))))))))))))) rfl) All.nil)) (All.cons (fun γ => (All.cons (QOb.plain [(91, .bool (decide ((s51v.1.getD (1 : Int).toNat ((0 : Int), ([] : List UInt8))).1 = (s60v.1.getD (0 : Int).toNat ((0 : Int), ([] : List UInt8))).1) && (decide (((s51v.1.getD (1 : Int).toNat ((0 : Int), ([] : List UInt8))).2) = ((s60v.1.getD (0 : Int).toNat ((0 : Int), ([] : List UInt8))).2))))), (96, .bool s117v)] rfl rfl (.w 16 rfl rfl rfl (.w 21 rfl rfl rfl .nil)) (q_pick rfl rfl rfl rfl (bif_yes hk102v _ _)) rfl) All.nil)) (All.cons (fun γ => (All.cons (QOb.plain [(97, .bool s117v)] rfl rfl (.w 22 rfl rfl rfl .nil) (q_asg rfl rfl) rfl) All.nil)) All.nil))))))))))))))))))))))
 exact (All.cons (fun γ => EOb.yes (b := decide ((s51v.1.getD (1 : Int).toNat ((0 : Int), ([] : List UInt8))).1 = (s60v.1.getD (0 : Int).toNat ((0 : Int), ([] : List UInt8))).1) && (decide (((s51v.1.getD (1 : Int).toNat ((0 : Int), ([] : List UInt8))).2) = ((s60v.1.getD (0 : Int).toNat ((0 : Int), ([] : List UInt8))).2)))) (Z := Option Addr × Nat) [(91, .bool (decide ((s51v.1.getD (1 : Int).toNat ((0 : Int), ([] : List UInt8))).1 = (s60v.1.getD (0 : Int).toNat ((0 : Int), ([] : List UInt8))).1) && (decide (((s51v.1.getD (1 : Int).toNat ((0 : Int), ([] : List UInt8))).2) = ((s60v.1.getD (0 : Int).toNat ((0 : Int), ([] : List UInt8))).2))))), (92, .pointer (some ⟨y25v.1, 0, none⟩))] (fun z => (z, γ.2)) rfl rfl rfl rfl (beq_yes hk102v) (.w 16 rfl rfl rfl (.w 17 rfl rfl rfl .nil)) (re_call (vs := [.pointer (some ⟨y25v.1, 0, none⟩)]) (cap := []) (A := [obj y25v.1 63 [.map (some y52v.2.2.1), .map (some y52v.2.2.2)], mapO y52v.2.2.1 enc9 enc9 s51v.2.1, mapO y52v.2.2.2 enc3 enc42 s51v.2.2]) (rst := [Row 28 2 y61v.1 s60v.1.length y61v.2.1 rs65v.flatten, obj y43v.1 63 [.map (some y61v.2.2.1), .map (some y61v.2.2.2)], mapO y61v.2.2.1 enc9 enc9 s60v.2.1, mapO y61v.2.2.2 enc3 enc42 s60v.2.2, Row 33 6 (some ⟨b55v, 0, none⟩) ([(x2_0, x2_1, x2_2, x2_3, x2_4, x2_5), (x1_0, x1_1, x1_2, x1_3, x1_4, x1_5)] : List (Ty33)).length 2 [[.int .i64 x2_0, .int .i64 x2_1, .int .i64 x2_2, str x2_3, str x2_4, str x2_5], [.int .i64 x1_0, .int .i64 x1_1, .int .i64 x1_2, str x1_3, str x1_4, str x1_5]].flatten, Row 28 2 y52v.1 s51v.1.length y52v.2.1 rs67v.flatten, Row 33 6 (some ⟨b46v, 0, none⟩) ([(x1_0, x1_1, x1_2, x1_3, x1_4, x1_5), (x2_0, x2_1, x2_2, x2_3, x2_4, x2_5)] : List (Ty33)).length 2 [[.int .i64 x1_0, .int .i64 x1_1, .int .i64 x1_2, str x1_3, str x1_4, str x1_5], [.int .i64 x2_0, .int .i64 x2_1, .int .i64 x2_2, str x2_3, str x2_4, str x2_5]].flatten, obj b2v 33 [.int .i64 x2_0, .int .i64 x2_1, .int .i64 x2_2, str x2_3, str x2_4, str x2_5], obj b1v 33 [.int .i64 x1_0, .int .i64 x1_1, .int .i64 x1_2, str x1_3, str x1_4, str x1_5], F]) rfl rfl rfl rfl rfl rfl Try.call14 (.sel 6 rfl (.sel 6 rfl (.sel 6 rfl (.sel 0 rfl (.sel 0 rfl (.sel 0 rfl (.sel 0 rfl (.sel 0 rfl (.sel 0 rfl (.sel 0 rfl (.sel 0 rfl (.sel 0 rfl (.sel 0 rfl (.nil _)))))))))))))) (kv_Store_Snapshot.calls _ _ k y25v.1 y52v.2.2.1 s51v.2.1 y52v.2.2.2 s51v.2.2 ) hs105v) (fun _ => ⟨rfl, rfl, rfl, rfl, rfl, rfl, rfl, rfl, rfl, rfl, rfl, rfl, rfl, rfl, rfl, rfl, rfl, rfl, rfl, trivial⟩) (fun _ => .inr rfl) (fun z => Ent.refl _)) (All.cons (fun γ => EOb.yes (b := decide ((s51v.1.getD (1 : Int).toNat ((0 : Int), ([] : List UInt8))).1 = (s60v.1.getD (0 : Int).toNat ((0 : Int), ([] : List UInt8))).1) && (decide (((s51v.1.getD (1 : Int).toNat ((0 : Int), ([] : List UInt8))).2) = ((s60v.1.getD (0 : Int).toNat ((0 : Int), ([] : List UInt8))).2)))) (Z := Option Addr × Nat) [(91, .bool (decide ((s51v.1.getD (1 : Int).toNat ((0 : Int), ([] : List UInt8))).1 = (s60v.1.getD (0 : Int).toNat ((0 : Int), ([] : List UInt8))).1) && (decide (((s51v.1.getD (1 : Int).toNat ((0 : Int), ([] : List UInt8))).2) = ((s60v.1.getD (0 : Int).toNat ((0 : Int), ([] : List UInt8))).2))))), (94, .pointer (some ⟨y43v.1, 0, none⟩))] (fun z => (γ.1, z)) rfl rfl rfl rfl (beq_yes hk102v) (.w 16 rfl rfl rfl (.w 19 rfl rfl rfl .nil)) (re_call (vs := [.pointer (some ⟨y43v.1, 0, none⟩)]) (cap := []) (A := [obj y43v.1 63 [.map (some y61v.2.2.1), .map (some y61v.2.2.2)], mapO y61v.2.2.1 enc9 enc9 s60v.2.1, mapO y61v.2.2.2 enc3 enc42 s60v.2.2]) (rst := [Row 5 1 γ.1.1 s103v.length γ.1.2 (encB s103v), obj y25v.1 63 [.map (some y52v.2.2.1), .map (some y52v.2.2.2)], mapO y52v.2.2.1 enc9 enc9 s51v.2.1, mapO y52v.2.2.2 enc3 enc42 s51v.2.2, Row 28 2 y61v.1 s60v.1.length y61v.2.1 rs65v.flatten, Row 33 6 (some ⟨b55v, 0, none⟩) ([(x2_0, x2_1, x2_2, x2_3, x2_4, x2_5), (x1_0, x1_1, x1_2, x1_3, x1_4, x1_5)] : List (Ty33)).length 2 [[.int .i64 x2_0, .int .i64 x2_1, .int .i64 x2_2, str x2_3, str x2_4, str x2_5], [.int .i64 x1_0, .int .i64 x1_1, .int .i64 x1_2, str x1_3, str x1_4, str x1_5]].flatten, Row 28 2 y52v.1 s51v.1.length y52v.2.1 rs67v.flatten, Row 33 6 (some ⟨b46v, 0, none⟩) ([(x1_0, x1_1, x1_2, x1_3, x1_4, x1_5), (x2_0, x2_1, x2_2, x2_3, x2_4, x2_5)] : List (Ty33)).length 2 [[.int .i64 x1_0, .int .i64 x1_1, .int .i64 x1_2, str x1_3, str x1_4, str x1_5], [.int .i64 x2_0, .int .i64 x2_1, .int .i64 x2_2, str x2_3, str x2_4, str x2_5]].flatten, obj b2v 33 [.int .i64 x2_0, .int .i64 x2_1, .int .i64 x2_2, str x2_3, str x2_4, str x2_5], obj b1v 33 [.int .i64 x1_0, .int .i64 x1_1, .int .i64 x1_2, str x1_3, str x1_4, str x1_5], F]) rfl rfl rfl rfl rfl rfl Try.call14 (.sel 5 rfl (.sel 5 rfl (.sel 5 rfl (.sel 0 rfl (.sel 0 rfl (.sel 0 rfl (.sel 0 rfl (.sel 0 rfl (.sel 0 rfl (.sel 0 rfl (.sel 0 rfl (.sel 0 rfl (.sel 0 rfl (.sel 0 rfl (.nil _))))))))))))))) (kv_Store_Snapshot.calls _ _ k y43v.1 y61v.2.2.1 s60v.2.1 y61v.2.2.2 s60v.2.2 ) hs108v) (fun _ => ⟨rfl, rfl, rfl, rfl, rfl, rfl, rfl, rfl, rfl, rfl, rfl, rfl, rfl, rfl, rfl, rfl, rfl, rfl, rfl, rfl, trivial⟩) (fun _ => .inr rfl) (fun z => Ent.refl _)) All.nil))
 intro g120v
 exact nrm_cut (s := s117v) () ⟨rfl, trivial⟩ (.sel 14 rfl (.nil _))
 refine sim_draw (Γ := Unit) () [[], [0], [0, 1], [], [3], [3, 4], [0, 1, 2, 3, 4, 5], [0, 1, 2, 3, 4, 5, 6], [0, 1, 2, 3, 4, 5, 6, 7], [0, 1, 2, 3, 4, 5, 6, 7, 8], [0, 1, 2, 3, 4, 5, 6, 7, 8, 9], [0, 1, 2, 3, 4, 5, 6, 7], [0, 1, 2, 3, 4, 5, 6, 7, 11], [0, 1, 2, 3, 4, 5, 6, 7, 11, 12], [0, 1, 2, 3, 4, 5, 6, 7, 8, 9, 10, 11, 12, 13], [0, 1, 2, 3, 4, 5, 6, 7, 8, 9, 10, 11, 12, 13, 14], [0, 1, 2, 3, 4, 5, 6, 7, 8, 9, 10, 11, 12, 13, 14, 15], [0, 1, 2, 3, 4, 5, 6, 7, 8, 9, 10, 11, 12, 13, 14, 15, 16], [0, 1, 2, 3, 4, 5, 6, 7, 8, 9, 10, 11, 12, 13, 14, 15, 16, 17], [0, 1, 2, 3, 4, 5, 6, 7, 8, 9, 10, 11, 12, 13, 14, 15, 16], [0, 1, 2, 3, 4, 5, 6, 7, 8, 9, 10, 11, 12, 13, 14, 15, 16, 17, 18, 19], [0, 1, 2, 3, 4, 5, 6, 7, 8, 9, 10, 11, 12, 13, 14, 15, 16, 17, 18, 19, 20], [0, 1, 2, 3, 4, 5, 6, 7, 8, 9, 10, 11, 12, 13, 14, 15, 16, 17, 18, 19, 20, 21], [0, 1, 2, 3, 4, 5, 6, 7, 8, 9, 10, 11, 12, 13, 14, 15, 16, 17, 18, 19, 20, 21, 22]] [] [0, 1, 2, 3, 4, 5, 6, 7, 8, 9, 10, 11, 12, 13, 14, 15, 16, 17, 18, 19, 20, 21, 22, 23] (fun i => [[0], [0], [0], [0], [0], [0], [0], [0], [0], [0], [0], [0], [0], [0], [0], [0], [0], [0], [0], [0], [0], [0], [0], [0]].getD i []) (fun i => [[], [], [], [], [], [], [], [], [], [], [], [], [], [], [], [], [], [], [], [], [], [], [], []].getD i []) (fun γ i => [.slice y52v.1 s51v.1.length y52v.2.1, .pointer (some ⟨b70v, b70vo + (0 : Int).toNat * 2, none⟩), .agg #[.int .i64 ((s51v.1.getD (0 : Int).toNat ((0 : Int), ([] : List UInt8))).1), str ((s51v.1.getD (0 : Int).toNat ((0 : Int), ([] : List UInt8))).2)], .slice y61v.1 s60v.1.length y61v.2.1, .pointer (some ⟨b78v, b78vo + (1 : Int).toNat * 2, none⟩), .agg #[.int .i64 ((s60v.1.getD (1 : Int).toNat ((0 : Int), ([] : List UInt8))).1), str ((s60v.1.getD (1 : Int).toNat ((0 : Int), ([] : List UInt8))).2)], .bool (decide ((s51v.1.getD (0 : Int).toNat ((0 : Int), ([] : List UInt8))).1 = (s60v.1.getD (1 : Int).toNat ((0 : Int), ([] : List UInt8))).1) && (decide (((s51v.1.getD (0 : Int).toNat ((0 : Int), ([] : List UInt8))).2) = ((s60v.1.getD (1 : Int).toNat ((0 : Int), ([] : List UInt8))).2)))), .bool (decide ((s51v.1.getD (0 : Int).toNat ((0 : Int), ([] : List UInt8))).1 = (s60v.1.getD (1 : Int).toNat ((0 : Int), ([] : List UInt8))).1) && (decide (((s51v.1.getD (0 : Int).toNat ((0 : Int), ([] : List UInt8))).2) = ((s60v.1.getD (1 : Int).toNat ((0 : Int), ([] : List UInt8))).2)))), .slice y52v.1 s51v.1.length y52v.2.1, .pointer (some ⟨b87v, b87vo + (1 : Int).toNat * 2, none⟩), .agg #[.int .i64 ((s51v.1.getD (1 : Int).toNat ((0 : Int), ([] : List UInt8))).1), str ((s51v.1.getD (1 : Int).toNat ((0 : Int), ([] : List UInt8))).2)], .slice y61v.1 s60v.1.length y61v.2.1, .pointer (some ⟨b95v, b95vo + (0 : Int).toNat * 2, none⟩), .agg #[.int .i64 ((s60v.1.getD (0 : Int).toNat ((0 : Int), ([] : List UInt8))).1), str ((s60v.1.getD (0 : Int).toNat ((0 : Int), ([] : List UInt8))).2)], .bool (decide ((s51v.1.getD (1 : Int).toNat ((0 : Int), ([] : List UInt8))).1 = (s60v.1.getD (0 : Int).toNat ((0 : Int), ([] : List UInt8))).1) && (decide (((s51v.1.getD (1 : Int).toNat ((0 : Int), ([] : List UInt8))).2) = ((s60v.1.getD (0 : Int).toNat ((0 : Int), ([] : List UInt8))).2)))), .bool (decide ((s51v.1.getD (1 : Int).toNat ((0 : Int), ([] : List UInt8))).1 = (s60v.1.getD (0 : Int).toNat ((0 : Int), ([] : List UInt8))).1) && (decide (((s51v.1.getD (1 : Int).toNat ((0 : Int), ([] : List UInt8))).2) = ((s60v.1.getD (0 : Int).toNat ((0 : Int), ([] : List UInt8))).2)))), .bool (decide ((s51v.1.getD (1 : Int).toNat ((0 : Int), ([] : List UInt8))).1 = (s60v.1.getD (0 : Int).toNat ((0 : Int), ([] : List UInt8))).1) && (decide (((s51v.1.getD (1 : Int).toNat ((0 : Int), ([] : List UInt8))).2) = ((s60v.1.getD (0 : Int).toNat ((0 : Int), ([] : List UInt8))).2)))), undef, undef, undef, undef, undef, .bool false, .bool false].getD i undef) (fun j γ => [[Row 28 2 y61v.1 s60v.1.length y61v.2.1 rs65v.flatten, obj y43v.1 63 [.map (some y61v.2.2.1), .map (some y61v.2.2.2)], mapO y61v.2.2.1 enc9 enc9 s60v.2.1, mapO y61v.2.2.2 enc3 enc42 s60v.2.2, Row 33 6 (some ⟨b55v, 0, none⟩) ([(x2_0, x2_1, x2_2, x2_3, x2_4, x2_5), (x1_0, x1_1, x1_2, x1_3, x1_4, x1_5)] : List (Ty33)).length 2 [[.int .i64 x2_0, .int .i64 x2_1, .int .i64 x2_2, str x2_3, str x2_4, str x2_5], [.int .i64 x1_0, .int .i64 x1_1, .int .i64 x1_2, str x1_3, str x1_4, str x1_5]].flatten, Row 28 2 y52v.1 s51v.1.length y52v.2.1 rs67v.flatten, obj y25v.1 63 [.map (some y52v.2.2.1), .map (some y52v.2.2.2)], mapO y52v.2.2.1 enc9 enc9 s51v.2.1, mapO y52v.2.2.2 enc3 enc42 s51v.2.2, Row 33 6 (some ⟨b46v, 0, none⟩) ([(x1_0, x1_1, x1_2, x1_3, x1_4, x1_5), (x2_0, x2_1, x2_2, x2_3, x2_4, x2_5)] : List (Ty33)).length 2 [[.int .i64 x1_0, .int .i64 x1_1, .int .i64 x1_2, str x1_3, str x1_4, str x1_5], [.int .i64 x2_0, .int .i64 x2_1, .int .i64 x2_2, str x2_3, str x2_4, str x2_5]].flatten, obj b2v 33 [.int .i64 x2_0, .int .i64 x2_1, .int .i64 x2_2, str x2_3, str x2_4, str x2_5], obj b1v 33 [.int .i64 x1_0, .int .i64 x1_1, .int .i64 x1_2, str x1_3, str x1_4, str x1_5], F]].getD j []) (fun γ => [(6, .bool false)]) mixed (by decide) (by decide) (by decide) (by decide) (by decide) (by decide) (by decide) 98 rfl (by decide) (by decide) (by decide) (Ent.refl _) ?_ ?_ (fun _ => ⟨rfl, trivial⟩) ?_
 exact (All.cons (fun γ => (All.cons (QOb.plain [(11, .slice y52v.1 s51v.1.length y52v.2.1)] rfl rfl (.o rfl (by decide) .nil) (q_move rfl rfl) rfl) All.nil)) (All.cons (fun γ => (All.cons (QOb.plain [(75, .slice y52v.1 s51v.1.length y52v.2.1)] rfl rfl (.w 0 rfl rfl rfl .nil) (q_idx rfl rfl rfl ha71v Try.underlying56 Try.sizeOf28 hi69v.1 hi69v.2) rfl) All.nil)) (All.cons (fun γ => (All.cons (QOb.plain [(76, .pointer (some ⟨b70v, b70vo + (0 : Int).toNat * 2, none⟩))] rfl rfl (.w 1 rfl rfl rfl .nil) (q_loads rfl rfl Try.isAgg28 Try.sizeOf28 rfl (fun j v hj => hcell76v 5 rfl j v hj)) rfl) All.nil)) (All.cons (fun γ => (All.cons (QOb.plain [(12, .slice y61v.1 s60v.1.length y61v.2.1)] rfl rfl (.o rfl (by decide) .nil) (q_move rfl rfl) rfl) All.nil)) (All.cons (fun γ => (All.cons (QOb.plain [(78, .slice y61v.1 s60v.1.length y61v.2.1)] rfl rfl (.w 3 rfl rfl rfl .nil) (q_idx rfl rfl rfl ha79v Try.underlying56 Try.sizeOf28 hi77v.1 hi77v.2) rfl) All.nil)) (All.cons (fun γ => (All.cons (QOb.plain [(79, .pointer (some ⟨b78v, b78vo + (1 : Int).toNat * 2, none⟩))] rfl rfl (.w 4 rfl rfl rfl .nil) (q_loads rfl rfl Try.isAgg28 Try.sizeOf28 rfl (fun j v hj => hcell84v 0 rfl j v hj)) rfl) All.nil)) (All.cons (fun γ => (All.cons (QOb.plain [(77, .agg #[.int .i64 ((s51v.1.getD (0 : Int).toNat ((0 : Int), ([] : List UInt8))).1), str ((s51v.1.getD (0 : Int).toNat ((0 : Int), ([] : List UInt8))).2)]), (80, .agg #[.int .i64 ((s60v.1.getD (1 : Int).toNat ((0 : Int), ([] : List UInt8))).1), str ((s60v.1.getD (1 : Int).toNat ((0 : Int), ([] : List UInt8))).2)])] rfl rfl (.w 2 rfl rfl rfl (.w 5 rfl rfl rfl .nil)) (q_eqagg rfl rfl rfl (by kernel_rfl) (fun d w => eqi_struct Try.underlying28 (by kernel_rfl) (eqf_cons (by rfl) (part_of Try.isAgg3 rfl) (part_of Try.isAgg3 rfl) (eqi_int Try.underlying3) (eqf_last (by rfl) (part_of Try.isAgg9 rfl) (part_of Try.isAgg9 rfl) (eqi_str Try.underlying9))))) rfl) All.nil)) (All.cons (fun γ => (All.cons (QOb.plain [(81, .bool (decide ((s51v.1.getD (0 : Int).toNat ((0 : Int), ([] : List UInt8))).1 = (s60v.1.getD (1 : Int).toNat ((0 : Int), ([] : List UInt8))).1) && (decide (((s51v.1.getD (0 : Int).toNat ((0 : Int), ([] : List UInt8))).2) = ((s60v.1.getD (1 : Int).toNat ((0 : Int), ([] : List UInt8))).2)))))] rfl rfl (.w 6 rfl rfl rfl .nil) (q_move rfl rfl) rfl) All.nil)) (All.cons (fun γ => (All.cons (QOb.yes (b := decide ((s51v.1.getD (0 : Int).toNat ((0 : Int), ([] : List UInt8))).1 = (s60v.1.getD (1 : Int).toNat ((0 : Int), ([] : List UInt8))).1) && (decide (((s51v.1.getD (0 : Int).toNat ((0 : Int), ([] : List UInt8))).2) = ((s60v.1.getD (1 : Int).toNat ((0 : Int), ([] : List UInt8))).2)))) [(11, .slice y52v.1 s51v.1.length y52v.2.1), (82, .bool (decide ((s51v.1.getD (0 : Int).toNat ((0 : Int), ([] : List UInt8))).1 = (s60v.1.getD (1 : Int).toNat ((0 : Int), ([] : List UInt8))).1) && (decide (((s51v.1.getD (0 : Int).toNat ((0 : Int), ([] : List UInt8))).2) = ((s60v.1.getD (1 : Int).toNat ((0 : Int), ([] : List UInt8))).2)))))] rfl rfl rfl rfl (beq_yes hk85v) (.o rfl (by decide) (.w 7 rfl rfl rfl .nil)) (q_move rfl rfl) rfl) All.nil)) (All.cons (fun γ => (All.cons (QOb.yes (b := decide ((s51v.1.getD (0 : Int).toNat ((0 : Int), ([] : List UInt8))).1 = (s60v.1.getD (1 : Int).toNat ((0 : Int), ([] : List UInt8))).1) && (decide (((s51v.1.getD (0 : Int).toNat ((0 : Int), ([] : List UInt8))).2) = ((s60v.1.getD (1 : Int).toNat ((0 : Int), ([] : List UInt8))).2)))) [(82, .bool (decide ((s51v.1.getD (0 : Int).toNat ((0 : Int), ([] : List UInt8))).1 = (s60v.1.getD (1 : Int).toNat ((0 : Int), ([] : List UInt8))).1) && (decide (((s51v.1.getD (0 : Int).toNat ((0 : Int), ([] : List UInt8))).2) = ((s60v.1.getD (1 : Int).toNat ((0 : Int), ([] : List UInt8))).2))))), (83, .slice y52v.1 s51v.1.length y52v.2.1)] rfl rfl rfl rfl (beq_yes hk85v) (.w 7 rfl rfl rfl (.w 8 rfl rfl rfl .nil)) (q_idx rfl rfl rfl ha88v Try.underlying56 Try.sizeOf28 hi86v.1 hi86v.2) rfl) All.nil)) (All.cons (fun γ => (All.cons (QOb.yes (b := decide ((s51v.1.getD (0 : Int).toNat ((0 : Int), ([] : List UInt8))).1 = (s60v.1.getD (1 : Int).toNat ((0 : Int), ([] : List UInt8))).1) && (decide (((s51v.1.getD (0 : Int).toNat ((0 : Int), ([] : List UInt8))).2) = ((s60v.1.getD (1 : Int).toNat ((0 : Int), ([] : List UInt8))).2)))) [(82, .bool (decide ((s51v.1.getD (0 : Int).toNat ((0 : Int), ([] : List UInt8))).1 = (s60v.1.getD (1 : Int).toNat ((0 : Int), ([] : List UInt8))).1) && (decide (((s51v.1.getD (0 : Int).toNat ((0 : Int), ([] : List UInt8))).2) = ((s60v.1.getD (1 : Int).toNat ((0 : Int), ([] : List UInt8))).2))))), (84, .pointer (some ⟨b87v, b87vo + (1 : Int).toNat * 2, none⟩))] rfl rfl rfl rfl (beq_yes hk85v) (.w 7 rfl rfl rfl (.w 9 rfl rfl rfl .nil)) (q_loads rfl rfl Try.isAgg28 Try.sizeOf28 rfl (fun j v hj => hcell93v 5 rfl j v hj)) rfl) All.nil)) (All.cons (fun γ => (All.cons (QOb.yes (b := decide ((s51v.1.getD (0 : Int).toNat ((0 : Int), ([] : List UInt8))).1 = (s60v.1.getD (1 : Int).toNat ((0 : Int), ([] : List UInt8))).1) && (decide (((s51v.1.getD (0 : Int).toNat ((0 : Int), ([] : List UInt8))).2) = ((s60v.1.getD (1 : Int).toNat ((0 : Int), ([] : List UInt8))).2)))) [(12, .slice y61v.1 s60v.1.length y61v.2.1), (82, .bool (decide ((s51v.1.getD (0 : Int).toNat ((0 : Int), ([] : List UInt8))).1 = (s60v.1.getD (1 : Int).toNat ((0 : Int), ([] : List UInt8))).1) && (decide (((s51v.1.getD (0 : Int).toNat ((0 : Int), ([] : List UInt8))).2) = ((s60v.1.getD (1 : Int).toNat ((0 : Int), ([] : List UInt8))).2)))))] rfl rfl rfl rfl (beq_yes hk85v) (.o rfl (by decide) (.w 7 rfl rfl rfl .nil)) (q_move rfl rfl) rfl) All.nil)) (All.cons (fun γ => (All.cons (QOb.yes (b := decide ((s51v.1.getD (0 : Int).toNat ((0 : Int), ([] : List UInt8))).1 = (s60v.1.getD (1 : Int).toNat ((0 : Int), ([] : List UInt8))).1) && (decide (((s51v.1.getD (0 : Int).toNat ((0 : Int), ([] : List UInt8))).2) = ((s60v.1.getD (1 : Int).toNat ((0 : Int), ([] : List UInt8))).2)))) [(82, .bool (decide ((s51v.1.getD (0 : Int).toNat ((0 : Int), ([] : List UInt8))).1 = (s60v.1.getD (1 : Int).toNat ((0 : Int), ([] : List UInt8))).1) && (decide (((s51v.1.getD (0 : Int).toNat ((0 : Int), ([] : List UInt8))).2) = ((s60v.1.getD (1 : Int).toNat ((0 : Int), ([] : List UInt8))).2))))), (86, .slice y61v.1 s60v.1.length y61v.2.1)] rfl rfl rfl rfl (beq_yes hk85v) (.w 7 rfl rfl rfl (.w 11 rfl rfl rfl .nil)) (q_idx rfl rfl rfl ha96v Try.underlying56 Try.sizeOf28 hi94v.1 hi94v.2) rfl) All.nil)) (All.cons (fun γ => (All.cons (QOb.yes (b := decide ((s51v.1.getD (0 : Int).toNat ((0 : Int), ([] : List UInt8))).1 = (s60v.1.getD (1 : Int).toNat ((0 : Int), ([] : List UInt8))).1) && (decide (((s51v.1.getD (0 : Int).toNat ((0 : Int), ([] : List UInt8))).2) = ((s60v.1.getD (1 : Int).toNat ((0 : Int), ([] : List UInt8))).2)))) [(82, .bool (decide ((s51v.1.getD (0 : Int).toNat ((0 : Int), ([] : List UInt8))).1 = (s60v.1.getD (1 : Int).toNat ((0 : Int), ([] : List UInt8))).1) && (decide (((s51v.1.getD (0 : Int).toNat ((0 : Int), ([] : List UInt8))).2) = ((s60v.1.getD (1 : Int).toNat ((0 : Int), ([] : List UInt8))).2))))), (87, .pointer (some ⟨b95v, b95vo + (0 : Int).toNat * 2, none⟩))] rfl rfl rfl rfl (beq_yes hk85v) (.w 7 rfl rfl rfl (.w 12 rfl rfl rfl .nil)) (q_loads rfl rfl Try.isAgg28 Try.sizeOf28 rfl (fun j v hj => hcell101v 0 rfl j v hj)) rfl) All.nil)) (All.cons (fun γ => (All.cons (QOb.yes (b := decide ((s51v.1.getD (0 : Int).toNat ((0 : Int), ([] : List UInt8))).1 = (s60v.1.getD (1 : Int).toNat ((0 : Int), ([] : List UInt8))).1) && (decide (((s51v.1.getD (0 : Int).toNat ((0 : Int), ([] : List UInt8))).2) = ((s60v.1.getD (1 : Int).toNat ((0 : Int), ([] : List UInt8))).2)))) [(82, .bool (decide ((s51v.1.getD (0 : Int).toNat ((0 : Int), ([] : List UInt8))).1 = (s60v.1.getD (1 : Int).toNat ((0 : Int), ([] : List UInt8))).1) && (decide (((s51v.1.getD (0 : Int).toNat ((0 : Int), ([] : List UInt8))).2) = ((s60v.1.getD (1 : Int).toNat ((0 : Int), ([] : List UInt8))).2))))), (85, .agg #[.int .i64 ((s51v.1.getD (1 : Int).toNat ((0 : Int), ([] : List UInt8))).1), str ((s51v.1.getD (1 : Int).toNat ((0 : Int), ([] : List UInt8))).2)]), (88, .agg #[.int .i64 ((s60v.1.getD (0 : Int).toNat ((0 : Int), ([] : List UInt8))).1), str ((s60v.1.getD (0 : Int).toNat ((0 : Int), ([] : List UInt8))).2)])] rfl rfl rfl rfl (beq_yes hk85v) (.w 7 rfl rfl rfl (.w 10 rfl rfl rfl (.w 13 rfl rfl rfl .nil))) (q_eqagg rfl rfl rfl (by kernel_rfl) (fun d w => eqi_struct Try.underlying28 (by kernel_rfl) (eqf_cons (by rfl) (part_of Try.isAgg3 rfl) (part_of Try.isAgg3 rfl) (eqi_int Try.underlying3) (eqf_last (by rfl) (part_of Try.isAgg9 rfl) (part_of Try.isAgg9 rfl) (eqi_str Try.underlying9))))) rfl) All.nil)) (All.cons (fun γ => (All.cons (QOb.plain [(82, .bool (decide ((s51v.1.getD (0 : Int).toNat ((0 : Int), ([] : List UInt8))).1 = (s60v.1.getD (1 : Int).toNat ((0 : Int), ([] : List UInt8))).1) && (decide (((s51v.1.getD (0 : Int).toNat ((0 : Int), ([] : List UInt8))).2) = ((s60v.1.getD (1 : Int).toNat ((0 : Int), ([] : List UInt8))).2))))), (89, .bool (decide ((s51v.1.getD (1 : Int).toNat ((0 : Int), ([] : List UInt8))).1 = (s60v.1.getD (0 : Int).toNat ((0 : Int), ([] : List UInt8))).1) && (decide (((s51v.1.getD (1 : Int).toNat ((0 : Int), ([] : List UInt8))).2) = ((s60v.1.getD (0 : Int).toNat ((0 : Int), ([] : List UInt8))).2)))))] rfl rfl (.w 7 rfl rfl rfl (.w 14 rfl rfl rfl .nil)) (q_pick rfl rfl rfl rfl (bif_yes hk85v _ _)) rfl) All.nil)) (All.cons (fun γ => (All.cons (QOb.plain [(90, .bool (decide ((s51v.1.getD (1 : Int).toNat ((0 : Int), ([] : List UInt8))).1 = (s60v.1.getD (0 : Int).toNat ((0 : Int), ([] : List UInt8))).1) && (decide (((s51v.1.getD (1 : Int).toNat ((0 : Int), ([] : List UInt8))).2) = ((s60v.1.getD (0 : Int).toNat ((0 : Int), ([] : List UInt8))).2)))))] rfl rfl (.w 15 rfl rfl rfl .nil) (q_move rfl rfl) rfl) All.nil)) (All.cons (fun γ => (All.cons (QOb.no (b := decide ((s51v.1.getD (1 : Int).toNat ((0 : Int), ([] : List UInt8))).1 = (s60v.1.getD (0 : Int).toNat ((0 : Int), ([] : List UInt8))).1) && (decide (((s51v.1.getD (1 : Int).toNat ((0 : Int), ([] : List UInt8))).2) = ((s60v.1.getD (0 : Int).toNat ((0 : Int), ([] : List UInt8))).2)))) [(9, .pointer (some ⟨y25v.1, 0, none⟩)), (91, .bool (decide ((s51v.1.getD (1 : Int).toNat ((0 : Int), ([] : List UInt8))).1 = (s60v.1.getD (0 : Int).toNat ((0 : Int), ([] : List UInt8))).1) && (decide (((s51v.1.getD (1 : Int).toNat ((0 : Int), ([] : List UInt8))).2) = ((s60v.1.getD (0 : Int).toNat ((0 : Int), ([] : List UInt8))).2)))))] rfl rfl rfl rfl (beq_no' (eq_false_of_ne_true hk102v)) (.o rfl (by decide) (.w 16 rfl rfl rfl .nil)) rfl) All.nil)) (All.cons (fun γ => (All.cons (QOb.no (b := decide ((s51v.1.getD (1 : Int).toNat ((0 : Int), ([] : List UInt8))).1 = (s60v.1.getD (0 : Int).toNat ((0 : Int), ([] : List UInt8))).1) && (decide (((s51v.1.getD (1 : Int).toNat ((0 : Int), ([] : List UInt8))).2) = ((s60v.1.getD (0 : Int).toNat ((0 : Int), ([] : List UInt8))).2)))) [(91, .bool (decide ((s51v.1.getD (1 : Int).toNat ((0 : Int), ([] : List UInt8))).1 = (s60v.1.getD (0 : Int).toNat ((0 : Int), ([] : List UInt8))).1) && (decide (((s51v.1.getD (1 : Int).toNat ((0 : Int), ([] : List UInt8))).2) = ((s60v.1.getD (0 : Int).toNat ((0 : Int), ([] : List UInt8))).2))))), (92, undef)] rfl rfl rfl rfl (beq_no' (eq_false_of_ne_true hk102v)) (.w 16 rfl rfl rfl (.w 17 rfl rfl rfl .nil)) rfl) All.nil)) (All.cons (fun γ => (All.cons (QOb.no (b := decide ((s51v.1.getD (1 : Int).toNat ((0 : Int), ([] : List UInt8))).1 = (s60v.1.getD (0 : Int).toNat ((0 : Int), ([] : List UInt8))).1) && (decide (((s51v.1.getD (1 : Int).toNat ((0 : Int), ([] : List UInt8))).2) = ((s60v.1.getD (0 : Int).toNat ((0 : Int), ([] : List UInt8))).2)))) [(10, .pointer (some ⟨y43v.1, 0, none⟩)), (91, .bool (decide ((s51v.1.getD (1 : Int).toNat ((0 : Int), ([] : List UInt8))).1 = (s60v.1.getD (0 : Int).toNat ((0 : Int), ([] : List UInt8))).1) && (decide (((s51v.1.getD (1 : Int).toNat ((0 : Int), ([] : List UInt8))).2) = ((s60v.1.getD (0 : Int).toNat ((0 : Int), ([] : List UInt8))).2)))))] rfl rfl rfl rfl (beq_no' (eq_false_of_ne_true hk102v)) (.o rfl (by decide) (.w 16 rfl rfl rfl .nil)) rfl) All.nil)) (All.cons (fun γ => (All.cons (QOb.no (b := decide ((s51v.1.getD (1 : Int).toNat ((0 : Int), ([] : List UInt8))).1 = (s60v.1.getD (0 : Int).toNat ((0 : Int), ([] : List UInt8))).1) && (decide (((s51v.1.getD (1 : Int).toNat ((0 : Int), ([] : List UInt8))).2) = ((s60v.1.getD (0 : Int).toNat ((0 : Int), ([] : List UInt8))).2)))) [(91, .bool (decide ((s51v.1.getD (1 : Int).toNat ((0 : Int), ([] : List UInt8))).1 = (s60v.1.getD (0 : Int).toNat ((0 : Int), ([] : List UInt8))).1) && (decide (((s51v.1.getD (1 : Int).toNat ((0 : Int), ([] : List UInt8))).2) = ((s60v.1.getD (0 : Int).toNat ((0 : Int), ([] : List UInt8))).2))))), (94, undef)] rfl rfl rfl rfl (beq_no' (eq_false_of_ne_true hk102v)) (.w 16 rfl rfl rfl (.w 19 rfl rfl rfl .nil)) rfl) All.nil)) (All.cons (fun γ => (All.cons (QOb.no (b := decide ((s51v.1.getD (1 : Int).toNat ((0 : Int), ([] : List UInt8))).1 = (s60v.1.getD (0 : Int).toNat ((0 : Int), ([] : List UInt8))).1) && (decide (((s51v.1.getD (1 : Int).toNat ((0 : Int), ([] : List UInt8))).2) = ((s60v.1.getD (0 : Int).toNat ((0 : Int), ([] : List UInt8))).2)))) [(91, .bool (decide ((s51v.1.getD (1 : Int).toNat ((0 : Int), ([] : List UInt8))).1 = (s60v.1.getD (0 : Int).toNat ((0 : Int), ([] : List UInt8))).1) && (decide (((s51v.1.getD (1 : Int).toNat ((0 : Int), ([] : List UInt8))).2) = ((s60v.1.getD (0 : Int).toNat ((0 : Int), ([] : List UInt8))).2))))), (93, undef), (95, undef)] rfl rfl rfl rfl (beq_no' (eq_false_of_ne_true hk102v)) (.w 16 rfl rfl rfl (.w 18 rfl rfl rfl (.w 20 rfl rfl rfl .nil))) rfl) All.nil)) (All.cons (fun γ => (All.cons (QOb.plain [(91, .bool (decide ((s51v.1.getD (1 : Int).toNat ((0 : Int), ([] : List UInt8))).1 = (s60v.1.getD (0 : Int).toNat ((0 : Int), ([] : List UInt8))).1) && (decide (((s51v.1.getD (1 : Int).toNat ((0 : Int), ([] : List UInt8))).2) = ((s60v.1.getD (0 : Int).toNat ((0 : Int), ([] : List UInt8))).2))))), (96, undef)] rfl rfl (.w 16 rfl rfl rfl (.w 21 rfl rfl rfl .nil)) (q_pick rfl rfl rfl rfl (bif_no (eq_false_of_ne_true hk102v) _ _)) rfl) All.nil)) (All.cons (fun γ => (All.cons (QOb.plain [(97, .bool false)] rfl rfl (.w 22 rfl rfl rfl .nil) (q_asg rfl rfl) rfl) All.nil)) All.nil))))))))))))))))))))))))
 exact All.nil
 intro g121v
 exact nrm_cut (s := false) () ⟨rfl, trivial⟩ (.sel 12 rfl (.nil _))
 refine sim_draw (Γ := Unit) () [[], [0], [0, 1], [], [3], [3, 4], [0, 1, 2, 3, 4, 5], [0, 1, 2, 3, 4, 5, 6], [0, 1, 2, 3, 4, 5, 6, 7], [0, 1, 2, 3, 4, 5, 6, 7, 8], [0, 1, 2, 3, 4, 5, 6, 7, 8, 9], [0, 1, 2, 3, 4, 5, 6, 7], [0, 1, 2, 3, 4, 5, 6, 7, 11], [0, 1, 2, 3, 4, 5, 6, 7, 11, 12], [0, 1, 2, 3, 4, 5, 6, 7, 8, 9, 10, 11, 12, 13], [0, 1, 2, 3, 4, 5, 6, 7, 8, 9, 10, 11, 12, 13, 14], [0, 1, 2, 3, 4, 5, 6, 7, 8, 9, 10, 11, 12, 13, 14, 15], [0, 1, 2, 3, 4, 5, 6, 7, 8, 9, 10, 11, 12, 13, 14, 15, 16], [0, 1, 2, 3, 4, 5, 6, 7, 8, 9, 10, 11, 12, 13, 14, 15, 16, 17], [0, 1, 2, 3, 4, 5, 6, 7, 8, 9, 10, 11, 12, 13, 14, 15, 16], [0, 1, 2, 3, 4, 5, 6, 7, 8, 9, 10, 11, 12, 13, 14, 15, 16, 17, 18, 19], [0, 1, 2, 3, 4, 5, 6, 7, 8, 9, 10, 11, 12, 13, 14, 15, 16, 17, 18, 19, 20], [0, 1, 2, 3, 4, 5, 6, 7, 8, 9, 10, 11, 12, 13, 14, 15, 16, 17, 18, 19, 20, 21], [0, 1, 2, 3, 4, 5, 6, 7, 8, 9, 10, 11, 12, 13, 14, 15, 16, 17, 18, 19, 20, 21, 22]] [] [0, 1, 2, 3, 4, 5, 6, 7, 8, 9, 10, 11, 12, 13, 14, 15, 16, 17, 18, 19, 20, 21, 22, 23] (fun i => [[0], [0], [0], [0], [0], [0], [0], [0], [0], [0], [0], [0], [0], [0], [0], [0], [0], [0], [0], [0], [0], [0], [0], [0]].getD i []) (fun i => [[], [], [], [], [], [], [], [], [], [], [], [], [], [], [], [], [], [], [], [], [], [], [], []].getD i []) (fun γ i => [.slice y52v.1 s51v.1.length y52v.2.1, .pointer (some ⟨b70v, b70vo + (0 : Int).toNat * 2, none⟩), .agg #[.int .i64 ((s51v.1.getD (0 : Int).toNat ((0 : Int), ([] : List UInt8))).1), str ((s51v.1.getD (0 : Int).toNat ((0 : Int), ([] : List UInt8))).2)], .slice y61v.1 s60v.1.length y61v.2.1, .pointer (some ⟨b78v, b78vo + (1 : Int).toNat * 2, none⟩), .agg #[.int .i64 ((s60v.1.getD (1 : Int).toNat ((0 : Int), ([] : List UInt8))).1), str ((s60v.1.getD (1 : Int).toNat ((0 : Int), ([] : List UInt8))).2)], .bool (decide ((s51v.1.getD (0 : Int).toNat ((0 : Int), ([] : List UInt8))).1 = (s60v.1.getD (1 : Int).toNat ((0 : Int), ([] : List UInt8))).1) && (decide (((s51v.1.getD (0 : Int).toNat ((0 : Int), ([] : List UInt8))).2) = ((s60v.1.getD (1 : Int).toNat ((0 : Int), ([] : List UInt8))).2)))), .bool (decide ((s51v.1.getD (0 : Int).toNat ((0 : Int), ([] : List UInt8))).1 = (s60v.1.getD (1 : Int).toNat ((0 : Int), ([] : List UInt8))).1) && (decide (((s51v.1.getD (0 : Int).toNat ((0 : Int), ([] : List UInt8))).2) = ((s60v.1.getD (1 : Int).toNat ((0 : Int), ([] : List UInt8))).2)))), undef, undef, undef, undef, undef, undef, undef, .bool false, .bool false, undef, undef, undef, undef, undef, .bool false, .bool false].getD i undef) (fun j γ => [[Row 28 2 y61v.1 s60v.1.length y61v.2.1 rs65v.flatten, obj y43v.1 63 [.map (some y61v.2.2.1), .map (some y61v.2.2.2)], mapO y61v.2.2.1 enc9 enc9 s60v.2.1, mapO y61v.2.2.2 enc3 enc42 s60v.2.2, Row 33 6 (some ⟨b55v, 0, none⟩) ([(x2_0, x2_1, x2_2, x2_3, x2_4, x2_5), (x1_0, x1_1, x1_2, x1_3, x1_4, x1_5)] : List (Ty33)).length 2 [[.int .i64 x2_0, .int .i64 x2_1, .int .i64 x2_2, str x2_3, str x2_4, str x2_5], [.int .i64 x1_0, .int .i64 x1_1, .int .i64 x1_2, str x1_3, str x1_4, str x1_5]].flatten, Row 28 2 y52v.1 s51v.1.length y52v.2.1 rs67v.flatten, obj y25v.1 63 [.map (some y52v.2.2.1), .map (some y52v.2.2.2)], mapO y52v.2.2.1 enc9 enc9 s51v.2.1, mapO y52v.2.2.2 enc3 enc42 s51v.2.2, Row 33 6 (some ⟨b46v, 0, none⟩) ([(x1_0, x1_1, x1_2, x1_3, x1_4, x1_5), (x2_0, x2_1, x2_2, x2_3, x2_4, x2_5)] : List (Ty33)).length 2 [[.int .i64 x1_0, .int .i64 x1_1, .int .i64 x1_2, str x1_3, str x1_4, str x1_5], [.int .i64 x2_0, .int .i64 x2_1, .int .i64 x2_2, str x2_3, str x2_4, str x2_5]].flatten, obj b2v 33 [.int .i64 x2_0, .int .i64 x2_1, .int .i64 x2_2, str x2_3, str x2_4, str x2_5], obj b1v 33 [.int .i64 x1_0, .int .i64 x1_1, .int .i64 x1_2, str x1_3, str x1_4, str x1_5], F]].getD j []) (fun γ => [(6, .bool false)]) mixed (by decide) (by decide) (by decide) (by decide) (by decide) (by decide) (by decide) 98 rfl (by decide) (by decide) (by decide) (Ent.refl _) ?_ ?_ (fun _ => ⟨rfl, trivial⟩) ?_
 exact (All.cons (fun γ => (All.cons (QOb.plain [(11, .slice y52v.1 s51v.1.length y52v.2.1)] rfl rfl (.o rfl (by decide) .nil) (q_move rfl rfl) rfl) All.nil)) (All.cons (fun γ => (All.cons (QOb.plain [(75, .slice y52v.1 s51v.1.length y52v.2.1)] rfl rfl (.w 0 rfl rfl rfl .nil) (q_idx rfl rfl rfl ha71v Try.underlying56 Try.sizeOf28 hi69v.1 hi69v.2) rfl) All.nil)) (All.cons (fun γ => (All.cons (QOb.plain [(76, .pointer (some ⟨b70v, b70vo + (0 : Int).toNat * 2, none⟩))] rfl rfl (.w 1 rfl rfl rfl .nil) (q_loads rfl rfl Try.isAgg28 Try.sizeOf28 rfl (fun j v hj => hcell76v 5 rfl j v hj)) rfl) All.nil)) (All.cons (fun γ => (All.cons (QOb.plain [(12, .slice y61v.1 s60v.1.length y61v.2.1)] rfl rfl (.o rfl (by decide) .nil) (q_move rfl rfl) rfl) All.nil)) (All.cons (fun γ => (All.cons (QOb.plain [(78, .slice y61v.1 s60v.1.length y61v.2.1)] rfl rfl (.w 3 rfl rfl rfl .nil) (q_idx rfl rfl rfl ha79v Try.underlying56 Try.sizeOf28 hi77v.1 hi77v.2) rfl) All.nil)) (All.cons (fun γ => (All.cons (QOb.plain [(79, .pointer (some ⟨b78v, b78vo + (1 : Int).toNat * 2, none⟩))] rfl rfl (.w 4 rfl rfl rfl .nil) (q_loads rfl rfl Try.isAgg28 Try.sizeOf28 rfl (fun j v hj => hcell84v 0 rfl j v hj)) rfl) All.nil)) (All.cons (fun γ => (All.cons (QOb.plain [(77, .agg #[.int .i64 ((s51v.1.getD (0 : Int).toNat ((0 : Int), ([] : List UInt8))).1), str ((s51v.1.getD (0 : Int).toNat ((0 : Int), ([] : List UInt8))).2)]), (80, .agg #[.int .i64 ((s60v.1.getD (1 : Int).toNat ((0 : Int), ([] : List UInt8))).1), str ((s60v.1.getD (1 : Int).toNat ((0 : Int), ([] : List UInt8))).2)])] rfl rfl (.w 2 rfl rfl rfl (.w 5 rfl rfl rfl .nil)) (q_eqagg rfl rfl rfl (by kernel_rfl) (fun d w => eqi_struct Try.underlying28 (by kernel_rfl) (eqf_cons (by rfl) (part_of Try.isAgg3 rfl) (part_of Try.isAgg3 rfl) (eqi_int Try.underlying3) (eqf_last (by rfl) (part_of Try.isAgg9 rfl) (part_of Try.isAgg9 rfl) (eqi_str Try.underlying9))))) rfl) All.nil)) (All.cons (fun γ => (All.cons (QOb.plain [(81, .bool (decide ((s51v.1.getD (0 : Int).toNat ((0 : Int), ([] : List UInt8))).1 = (s60v.1.getD (1 : Int).toNat ((0 : Int), ([] : List UInt8))).1) && (decide (((s51v.1.getD (0 : Int).toNat ((0 : Int), ([] : List UInt8))).2) = ((s60v.1.getD (1 : Int).toNat ((0 : Int), ([] : List UInt8))).2)))))] rfl rfl (.w 6 rfl rfl rfl .nil) (q_move rfl rfl) rfl) All.nil)) (All.cons (fun γ => (All.cons (QOb.no (b := decide ((s51v.1.getD (0 : Int).toNat ((0 : Int), ([] : List UInt8))).1 = (s60v.1.getD (1 : Int).toNat ((0 : Int), ([] : List UInt8))).1) && (decide (((s51v.1.getD (0 : Int).toNat ((0 : Int), ([] : List UInt8))).2) = ((s60v.1.getD (1 : Int).toNat ((0 : Int), ([] : List UInt8))).2)))) [(11, .slice y52v.1 s51v.1.length y52v.2.1), (82, .bool (decide ((s51v.1.getD (0 : Int).toNat ((0 : Int), ([] : List UInt8))).1 = (s60v.1.getD (1 : Int).toNat ((0 : Int), ([] : List UInt8))).1) && (decide (((s51v.1.getD (0 : Int).toNat ((0 : Int), ([] : List UInt8))).2) = ((s60v.1.getD (1 : Int).toNat ((0 : Int), ([] : List UInt8))).2)))))] rfl rfl rfl rfl (beq_no' (eq_false_of_ne_true hk85v)) (.o rfl (by decide) (.w 7 rfl rfl rfl .nil)) rfl) All.nil)) (All.cons (fun γ => (All.cons (QOb.no (b := decide ((s51v.1.getD (0 : Int).toNat ((0 : Int), ([] : List UInt8))).1 = (s60v.1.getD (1 : Int).toNat ((0 : Int), ([] : List UInt8))).1) && (decide (((s51v.1.getD (0 : Int).toNat ((0 : Int), ([] : List UInt8))).2) = ((s60v.1.getD (1 : Int).toNat ((0 : Int), ([] : List UInt8))).2)))) [(82, .bool (decide ((s51v.1.getD (0 : Int).toNat ((0 : Int), ([] : List UInt8))).1 = (s60v.1.getD (1 : Int).toNat ((0 : Int), ([] : List UInt8))).1) && (decide (((s51v.1.getD (0 : Int).toNat ((0 : Int), ([] : List UInt8))).2) = ((s60v.1.getD (1 : Int).toNat ((0 : Int), ([] : List UInt8))).2))))), (83, undef)] rfl rfl rfl rfl (beq_no' (eq_false_of_ne_true hk85v)) (.w 7 rfl rfl rfl (.w 8 rfl rfl rfl .nil)) rfl) All.nil)) (All.cons (fun γ => (All.cons (QOb.no (b := decide ((s51v.1.getD (0 : Int).toNat ((0 : Int), ([] : List UInt8))).1 = (s60v.1.getD (1 : Int).toNat ((0 : Int), ([] : List UInt8))).1) && (decide (((s51v.1.getD (0 : Int).toNat ((0 : Int), ([] : List UInt8))).2) = ((s60v.1.getD (1 : Int).toNat ((0 : Int), ([] : List UInt8))).2)))) [(82, .bool (decide ((s51v.1.getD (0 : Int).toNat ((0 : Int), ([] : List UInt8))).1 = (s60v.1.getD (1 : Int).toNat ((0 : Int), ([] : List UInt8))).1) && (decide (((s51v.1.getD (0 : Int).toNat ((0 : Int), ([] : List UInt8))).2) = ((s60v.1.getD (1 : Int).toNat ((0 : Int), ([] : List UInt8))).2))))), (84, undef)] rfl rfl rfl rfl (beq_no' (eq_false_of_ne_true hk85v)) (.w 7 rfl rfl rfl (.w 9 rfl rfl rfl .nil)) rfl) All.nil)) (All.cons (fun γ => (All.cons (QOb.no (b := decide ((s51v.1.getD (0 : Int).toNat ((0 : Int), ([] : List UInt8))).1 = (s60v.1.getD (1 : Int).toNat ((0 : Int), ([] : List UInt8))).1) && (decide (((s51v.1.getD (0 : Int).toNat ((0 : Int), ([] : List UInt8))).2) = ((s60v.1.getD (1 : Int).toNat ((0 : Int), ([] : List UInt8))).2)))) [(12, .slice y61v.1 s60v.1.length y61v.2.1), (82, .bool (decide ((s51v.1.getD (0 : Int).toNat ((0 : Int), ([] : List UInt8))).1 = (s60v.1.getD (1 : Int).toNat ((0 : Int), ([] : List UInt8))).1) && (decide (((s51v.1.getD (0 : Int).toNat ((0 : Int), ([] : List UInt8))).2) = ((s60v.1.getD (1 : Int).toNat ((0 : Int), ([] : List UInt8))).2)))))] rfl rfl rfl rfl (beq_no' (eq_false_of_ne_true hk85v)) (.o rfl (by decide) (.w 7 rfl rfl rfl .nil)) rfl) All.nil)) (All.cons (fun γ => (All.cons (QOb.no (b := decide ((s51v.1.getD (0 : Int).toNat ((0 : Int), ([] : List UInt8))).1 = (s60v.1.getD (1 : Int).toNat ((0 : Int), ([] : List UInt8))).1) && (decide (((s51v.1.getD (0 : Int).toNat ((0 : Int), ([] : List UInt8))).2) = ((s60v.1.getD (1 : Int).toNat ((0 : Int), ([] : List UInt8))).2)))) [(82, .bool (decide ((s51v.1.getD (0 : Int).toNat ((0 : Int), ([] : List UInt8))).1 = (s60v.1.getD (1 : Int).toNat ((0 : Int), ([] : List UInt8))).1) && (decide (((s51v.1.getD (0 : Int).toNat ((0 : Int), ([] : List UInt8))).2) = ((s60v.1.getD (1 : Int).toNat ((0 : Int), ([] : List UInt8))).2))))), (86, undef)] rfl rfl rfl rfl (beq_no' (eq_false_of_ne_true hk85v)) (.w 7 rfl rfl rfl (.w 11 rfl rfl rfl .nil)) rfl) All.nil)) (All.cons (fun γ => (All.cons (QOb.no (b := decide ((s51v.1.getD (0 : Int).toNat ((0 : Int), ([] : List UInt8))).1 = (s60v.1.getD (1 : Int).toNat ((0 : Int), ([] : List UInt8))).1) && (decide (((s51v.1.getD (0 : Int).toNat ((0 : Int), ([] : List UInt8))).2) = ((s60v.1.getD (1 : Int).toNat ((0 : Int), ([] : List UInt8))).2)))) [(82, .bool (decide ((s51v.1.getD (0 : Int).toNat ((0 : Int), ([] : List UInt8))).1 = (s60v.1.getD (1 : Int).toNat ((0 : Int), ([] : List UInt8))).1) && (decide (((s51v.1.getD (0 : Int).toNat ((0 : Int), ([] : List UInt8))).2) = ((s60v.1.getD (1 : Int).toNat ((0 : Int), ([] : List UInt8))).2))))), (87, undef)] rfl rfl rfl rfl (beq_no' (eq_false_of_ne_true hk85v)) (.w 7 rfl rfl rfl (.w 12 rfl rfl rfl .nil)) rfl) All.nil)) (All.cons (fun γ => (All.cons (QOb.no (b := decide ((s51v.1.getD (0 : Int).toNat ((0 : Int), ([] : List UInt8))).1 = (s60v.1.getD (1 : Int).toNat ((0 : Int), ([] : List UInt8))).1) && (decide (((s51v.1.getD (0 : Int).toNat ((0 : Int), ([] : List UInt8))).2) = ((s60v.1.getD (1 : Int).toNat ((0 : Int), ([] : List UInt8))).2)))) [(82, .bool (decide ((s51v.1.getD (0 : Int).toNat ((0 : Int), ([] : List UInt8))).1 = (s60v.1.getD (1 : Int).toNat ((0 : Int), ([] : List UInt8))).1) && (decide (((s51v.1.getD (0 : Int).toNat ((0 : Int), ([] : List UInt8))).2) = ((s60v.1.getD (1 : Int).toNat ((0 : Int), ([] : List UInt8))).2))))), (85, undef), (88, undef)] rfl rfl rfl rfl (beq_no' (eq_false_of_ne_true hk85v)) (.w 7 rfl rfl rfl (.w 10 rfl rfl rfl (.w 13 rfl rfl rfl .nil))) rfl) All.nil)) (All.cons (fun γ => (All.cons (QOb.plain [(82, .bool (decide ((s51v.1.getD (0 : Int).toNat ((0 : Int), ([] : List UInt8))).1 = (s60v.1.getD (1 : Int).toNat ((0 : Int), ([] : List UInt8))).1) && (decide (((s51v.1.getD (0 : Int).toNat ((0 : Int), ([] : List UInt8))).2) = ((s60v.1.getD (1 : Int).toNat ((0 : Int), ([] : List UInt8))).2))))), (89, undef)] rfl rfl (.w 7 rfl rfl rfl (.w 14 rfl rfl rfl .nil)) (q_pick rfl rfl rfl rfl (bif_no (eq_false_of_ne_true hk85v) _ _)) rfl) All.nil)) (All.cons (fun γ => (All.cons (QOb.plain [(90, .bool false)] rfl rfl (.w 15 rfl rfl rfl .nil) (q_move rfl rfl) rfl) All.nil)) (All.cons (fun γ => (All.cons (QOb.no (b := false) [(9, .pointer (some ⟨y25v.1, 0, none⟩)), (91, .bool false)] rfl rfl rfl rfl rfl (.o rfl (by decide) (.w 16 rfl rfl rfl .nil)) rfl) All.nil)) (All.cons (fun γ => (All.cons (QOb.no (b := false) [(91, .bool false), (92, undef)] rfl rfl rfl rfl rfl (.w 16 rfl rfl rfl (.w 17 rfl rfl rfl .nil)) rfl) All.nil)) (All.cons (fun γ => (All.cons (QOb.no (b := false) [(10, .pointer (some ⟨y43v.1, 0, none⟩)), (91, .bool false)] rfl rfl rfl rfl rfl (.o rfl (by decide) (.w 16 rfl rfl rfl .nil)) rfl) All.nil)) (All.cons (fun γ => (All.cons (QOb.no (b := false) [(91, .bool false), (94, undef)] rfl rfl rfl rfl rfl (.w 16 rfl rfl rfl (.w 19 rfl rfl rfl .nil)) rfl) All.nil)) (All.cons (fun γ => (All.cons (QOb.no (b := false) [(91, .bool false), (93, undef), (95, undef)] rfl rfl rfl rfl rfl (.w 16 rfl rfl rfl (.w 18 rfl rfl rfl (.w 20 rfl rfl rfl .nil))) rfl) All.nil)) (All.cons (fun γ => (All.cons (QOb.plain [(91, .bool false), (96, undef)] rfl rfl (.w 16 rfl rfl rfl (.w 21 rfl rfl rfl .nil)) (q_pick rfl rfl rfl rfl rfl) rfl) All.nil)) (All.cons (fun γ => (All.cons (QOb.plain [(97, .bool false)] rfl rfl (.w 22 rfl rfl rfl .nil) (q_asg rfl rfl) rfl) All.nil)) All.nil))))))))))))))))))))))))
 exact All.nil
 intro g122v
 exact nrm_cut (s := false) () ⟨rfl, trivial⟩ (.sel 12 rfl (.nil _))
 intro s63v y64v
 refine sim_rtn ?_
 exact rtn_fn () rfl rfl rfl (.sel 0 rfl (.nil _))
end Go.Proofs.Ytdaedoklkmdhcaa

/- Printed by gen.py: pure functions and the proofs that the Go functions simulate them. Conditions: as each theorem says. -/
import Derived.Test.YtdaedoklkmdhcaaGreatG1
namespace Go.Proofs.YtdaedoklkmdhcaaGreat
open Go.RowKit
set_option linter.unusedVariables false
set_option linter.unusedSimpArgs false
set_option maxRecDepth 20000
set_option maxHeartbeats 20000000
def kv_Store_Sessions.l0 (x0_1 : List ((Int) × (Ty69))) (s6v : List Int) : Nat → List (Ty69) → Int → Option ((List (Ty69)))
  | 0, _, _ => none
  | k + 1, z11v, z12v => if z12v < (s6v.length : Int) then (if 0 ≤ z12v ∧ z12v < (s6v.length : Int) then (if (z11v.length + ([(((mget x0_1 (s6v.getD z12v.toNat (0 : Int))).getD dz69).1, ((mget x0_1 (s6v.getD z12v.toNat (0 : Int))).getD dz69).2.1, ((mget x0_1 (s6v.getD z12v.toNat (0 : Int))).getD dz69).2.2.1, ((mget x0_1 (s6v.getD z12v.toNat (0 : Int))).getD dz69).2.2.2)] : List (Ty69)).length) * 40 ≤ 140737488355328 then (kv_Store_Sessions.l0 x0_1 s6v k (z11v ++ ([(((mget x0_1 (s6v.getD z12v.toNat (0 : Int))).getD dz69).1, ((mget x0_1 (s6v.getD z12v.toNat (0 : Int))).getD dz69).2.1, ((mget x0_1 (s6v.getD z12v.toNat (0 : Int))).getD dz69).2.2.1, ((mget x0_1 (s6v.getD z12v.toNat (0 : Int))).getD dz69).2.2.2)] : List (Ty69))) (IntKind.i64.wrap (z12v + 1))) else none) else none) else (some z11v)
def kv_Store_Sessions.f (k : Nat) (x0_0 : List ((List UInt8) × (List UInt8))) (x0_1 : List ((Int) × (Ty69))) : Option ((List (Ty69))) := ((maps_Keys_Session.f).bind fun s3v => ((slices_Sorted_int_maps_Keys_Session_1.f x0_1).bind fun s6v => (kv_Store_Sessions.l0 x0_1 s6v k ([] : List (Ty69)) 0))).bind fun s1v => (some s1v)
theorem kv_Store_Sessions.calls (W : World) (F : HA) (k : Nat) (b0 : Nat) (m0_0 : Nat) (x0_0 : List ((List UInt8) × (List UInt8))) (m0_1 : Nat) (x0_1 : List ((Int) × (Ty69)))  :
    Fn Tryz.prog W 28 [.pointer (some ⟨b0, 0, none⟩)] [obj b0 58 [.map (some m0_0), .map (some m0_1)], mapO m0_0 enc9 enc9 x0_0, mapO m0_1 enc3 enc69 x0_1] F (kv_Store_Sessions.f k x0_0 x0_1) (fun (r : (List (Ty69))) (y : Option Addr × Nat) => .slice y.1 r.length y.2) (fun r y => [RowV 69 4 (V69 tt) y.1 r y.2, obj b0 58 [.map (some m0_0), .map (some m0_1)], mapO m0_0 enc9 enc9 x0_0, mapO m0_1 enc3 enc69 x0_1]) := by
 unfold kv_Store_Sessions.f
 refine fn_intro 28 Tryz.func28 rfl Tryz.ntmps28 rfl ?_
 refine sr ?_
 refine va rfl rfl (nx ?_)
 refine va rfl rfl (simL_nil (nrm_then ?_))
 refine sim_cut (S := (List (Ty69))) (Option Addr × Nat) (fun s y => [(3, .slice y.1 s.length y.2)]) (fun s y => [obj b0 58 [.map (some m0_0), .map (some m0_1)], RowV 69 4 (V69 tt) y.1 s y.2, mapO m0_0 enc9 enc9 x0_0, mapO m0_1 enc3 enc69 x0_1, F]) ?_ ?_
 refine sr ?_
 refine vm rfl rfl ?_
 refine vn rfl rfl ?_
 refine vq (q_fa rfl rfl Tryz.underlying58 rfl rfl Tryz.sizeOf56 rfl) rfl ?_
 refine vq (q_load rfl rfl Tryz.isAgg56 (.obj 0 rfl rfl)) rfl ?_
 refine simL_bind (fun s3v hs4v => ?_)
 refine simL_eff (re_call (vs := [.map (some m0_1)]) (cap := []) (A := []) (rst := [obj b0 58 [.map (some m0_0), .map (some m0_1)], mapO m0_0 enc9 enc9 x0_0, mapO m0_1 enc3 enc69 x0_1, F]) rfl rfl rfl rfl rfl rfl Tryz.call56 (.sel 0 rfl (.sel 0 rfl (.sel 0 rfl (.sel 0 rfl (.nil _))))) (maps_Keys_Session.calls _ _ m0_1 ) hs4v) rfl rfl rfl ?_
 intro y5v
 refine simL_bind (fun s6v hs7v => ?_)
 refine simL_eff (re_call (vs := [.func (.func 93) #[] #[.pointer (some ⟨y5v, 0, none⟩)]]) (cap := []) (A := [obj y5v 56 [.map (some m0_1)], mapO m0_1 enc3 enc69 x0_1]) (rst := [obj b0 58 [.map (some m0_0), .map (some m0_1)], mapO m0_0 enc9 enc9 x0_0, F]) rfl rfl rfl rfl rfl rfl Tryz.call55 (.sel 0 rfl (.sel 2 rfl (.sel 0 rfl (.sel 0 rfl (.sel 0 rfl (.nil _)))))) (slices_Sorted_int_maps_Keys_Session_1.calls _ _ y5v m0_1 x0_1 ) hs7v) rfl rfl rfl ?_
 intro y8v
 refine vq (q_len rfl rfl rfl Tryz.underlying119) rfl ?_
 refine vm rfl rfl (simL_nil (nrm_then ?_))
 refine sim_block ?_
 refine sim_loop (S := (List (Ty69)) × Int) (Option Addr × Nat) (fun k s => kv_Store_Sessions.l0 x0_1 s6v k s.1 s.2) (fun s y => [(0, .pointer (some ⟨b0, 0, none⟩)), (3, .slice y.1 s.1.length y.2), (11, .slice y8v.1 s6v.length y8v.2), (12, .int .i64 (s6v.length : Int)), (13, .int .i64 s.2)]) (fun s y => [obj b0 58 [.map (some m0_0), .map (some m0_1)], RowV 69 4 (V69 tt) y.1 s.1 y.2, RowV 3 1 (V3 tt) y8v.1 s6v y8v.2, mapO m0_0 enc9 enc9 x0_0, mapO m0_1 enc3 enc69 x0_1, F]) (fun _ => by rw [kv_Store_Sessions.l0]) ?_ k (([] : List (Ty69)), 0) (none, 0) ⟨rfl, rfl, rfl, rfl, rfl, trivial⟩ (.sel 3 rfl (.rowV_nil (.sel 0 rfl (.sel 2 rfl (.sel 1 rfl (.sel 1 rfl (.nil _)))))))
 intro k s9v y10v
 refine sim_eq (by rw [kv_Store_Sessions.l0]) ?_
 refine sr ?_
 refine vq (q_lss rfl rfl rfl) rfl (simL_nil (nrm_then (sim_seq ?_)))
 refine sim_cond rfl (fun h13v => ?_) (fun h14v => ?_)
 refine sim_skip ?_
 refine nrm_then (sim_seq ?_)
 refine sim_block ?_
 refine sr ?_
 refine simL_openV 2 rfl (fun rs23v hl24v => ?_)
 refine simL_ask (fun hi15v => ?_)
 refine simL_posV 2 rfl hl24v rfl (i := s9v.2.toNat) (by omega) (0 : Int) (fun b16v b16vo r19v ha17v hV20v hlr21v hcell22v => ?_)
 obtain rfl := hV20v
 refine vq (q_idx rfl rfl rfl ha17v Tryz.underlying119 Tryz.sizeOf3 hi15v.1 hi15v.2) rfl ?_
 refine vq (q_load rfl rfl Tryz.isAgg3 (hcell22v 2 rfl 0 _ rfl)) rfl ?_
 refine va rfl rfl (ny ?_)
 refine vm rfl rfl ?_
 refine vm rfl rfl ?_
 refine vn rfl rfl ?_
 refine vq (q_fa rfl rfl Tryz.underlying58 rfl rfl Tryz.sizeOf56 rfl) rfl ?_
 refine vq (q_load rfl rfl Tryz.isAgg56 (.obj 0 rfl rfl)) rfl ?_
 refine vm rfl rfl ?_
 refine vq ((q_mlook (ek := enc3) (ev := enc69) (z := dz69) 4 (s6v.getD s9v.2.toNat (0 : Int)) rfl rfl rfl Tryz.underlying56 key3 Tryz.zeroValue69 rfl : RQ _ _ _ _ (.agg #[.int .i64 (((mget x0_1 (s6v.getD s9v.2.toNat (0 : Int))).getD dz69).1), .int .i64 (((mget x0_1 (s6v.getD s9v.2.toNat (0 : Int))).getD dz69).2.1), .int .i64 (((mget x0_1 (s6v.getD s9v.2.toNat (0 : Int))).getD dz69).2.2.1), str (((mget x0_1 (s6v.getD s9v.2.toNat (0 : Int))).getD dz69).2.2.2)]))) rfl ?_
 have hlb26v : ListV 4 (V69 tt) ([(((mget x0_1 (s6v.getD s9v.2.toNat (0 : Int))).getD dz69).1, ((mget x0_1 (s6v.getD s9v.2.toNat (0 : Int))).getD dz69).2.1, ((mget x0_1 (s6v.getD s9v.2.toNat (0 : Int))).getD dz69).2.2.1, ((mget x0_1 (s6v.getD s9v.2.toNat (0 : Int))).getD dz69).2.2.2)] : List (Ty69)) [[.int .i64 (((mget x0_1 (s6v.getD s9v.2.toNat (0 : Int))).getD dz69).1), .int .i64 (((mget x0_1 (s6v.getD s9v.2.toNat (0 : Int))).getD dz69).2.1), .int .i64 (((mget x0_1 (s6v.getD s9v.2.toNat (0 : Int))).getD dz69).2.2.1), str (((mget x0_1 (s6v.getD s9v.2.toNat (0 : Int))).getD dz69).2.2.2)]] := ⟨⟨rfl, one_of (by rfl), rfl⟩, trivial⟩
 refine simL_eff (re_litV (V := (V69 tt)) (xs := ([(((mget x0_1 (s6v.getD s9v.2.toNat (0 : Int))).getD dz69).1, ((mget x0_1 (s6v.getD s9v.2.toNat (0 : Int))).getD dz69).2.1, ((mget x0_1 (s6v.getD s9v.2.toNat (0 : Int))).getD dz69).2.2.1, ((mget x0_1 (s6v.getD s9v.2.toNat (0 : Int))).getD dz69).2.2.2)] : List (Ty69))) [[.int .i64 (((mget x0_1 (s6v.getD s9v.2.toNat (0 : Int))).getD dz69).1), .int .i64 (((mget x0_1 (s6v.getD s9v.2.toNat (0 : Int))).getD dz69).2.1), .int .i64 (((mget x0_1 (s6v.getD s9v.2.toNat (0 : Int))).getD dz69).2.2.1), str (((mget x0_1 (s6v.getD s9v.2.toNat (0 : Int))).getD dz69).2.2.2)]] rfl rfl Tryz.underlying66 elt69 rfl (by kernel_rfl) rfl hlb26v rfl rfl) rfl rfl rfl ?_
 intro b26v
 refine simL_openV 2 rfl (fun rs31v hl32v => ?_)
 refine simL_ask (fun hb30v => ?_)
 refine simL_eff (re_appendV 2 rfl rfl rfl Tryz.underlying66 elt69 rfl hl32v (RdsV.row hlb26v 0 rfl) hb30v) rfl rfl rfl ?_
 intro y29v
 refine va rfl rfl (simL_nil (nrm_block (nrm_then (sim_region ?_))))
 refine vq (q_add rfl rfl rfl) rfl ?_
 refine vm rfl rfl (simL_nil ?_)
 exact nrm_again (s := (s9v.1 ++ ([(((mget x0_1 (s6v.getD s9v.2.toNat (0 : Int))).getD dz69).1, ((mget x0_1 (s6v.getD s9v.2.toNat (0 : Int))).getD dz69).2.1, ((mget x0_1 (s6v.getD s9v.2.toNat (0 : Int))).getD dz69).2.2.1, ((mget x0_1 (s6v.getD s9v.2.toNat (0 : Int))).getD dz69).2.2.2)] : List (Ty69)), IntKind.i64.wrap (s9v.2 + 1))) (y29v.1, y29v.2) ⟨rfl, rfl, rfl, rfl, rfl, trivial⟩ (.sel 1 rfl (.sel 1 rfl (.sel' 1 rfl (RowV.mk hl24v) (.sel 1 rfl (.sel 1 rfl (.sel 1 rfl (.nil _)))))))
 refine sim_exi ?_
 refine exi_then ?_
 refine exi_loop ?_
 refine exi_here ?_
 exact nrm_cut (s := s9v.1) (y10v.1, y10v.2) ⟨rfl, trivial⟩ (.sel 0 rfl (.sel 0 rfl (.sel 1 rfl (.sel 1 rfl (.sel 1 rfl (.nil _))))))
 intro s1v y2v
 refine sr ?_
 refine vm rfl rfl ?_
 refine va rfl rfl (simL_nil (nrm_then (sim_rtn ?_)))
 exact rtn_fn (y2v.1, y2v.2) rfl rfl rfl (.sel 1 rfl (.sel 0 rfl (.sel 0 rfl (.sel 0 rfl (.sel 0 rfl (.nil _))))))

def wire_fresh.f (x0 : List UInt8) : Option (List UInt8) := if 0 ≤ (x0.length : Int) ∧ (x0.length : Int) ≤ (x0.length : Int) ∧ (x0.length : Int) * 1 ≤ 140737488355328 then (some (copyB (List.replicate (x0.length : Int).toNat (0 : UInt8)) x0)) else none
theorem wire_fresh.calls (W : World) (F : HA) (a0 : Option Addr) (c0 : Nat) (x0 : List UInt8) (h0 : Rd F a0 (encB x0)) (hc0 : x0.length ≤ c0) (hm0 : c0 ≤ maxLen) :
    Fn Tryz.prog W 57 [.slice a0 x0.length c0] [] F (wire_fresh.f x0) (fun (r : List UInt8) (y : Option Addr × Nat) => .slice y.1 r.length y.2) (fun r y => [Row 5 1 y.1 r.length y.2 (encB r)]) := by
 unfold wire_fresh.f
 refine fn_intro 11 Tryz.func57 rfl Tryz.ntmps57 rfl ?_
 refine sr ?_
 refine va rfl rfl (nx ?_)
 refine vm rfl rfl ?_
 refine vq (q_len rfl rfl rfl Tryz.underlying23) rfl ?_
 refine simL_ask (fun hb2v => ?_)
 refine simL_eff (re_makeb rfl rfl rfl Tryz.underlying23 elt5 hb2v.1 hb2v.2.1 hb2v.2.2) rfl rfl rfl ?_
 intro b1v
 refine va rfl rfl (nx ?_)
 refine vm rfl rfl ?_
 refine vm rfl rfl ?_
 refine simL_eff (re_copyb 0 rfl rfl rfl Tryz.underlying23 elt5 rfl (h0.rds 1 rfl)) rfl rfl rfl ?_
 intro _
 refine simL_ren (.slice (some ⟨b1v, 0, none⟩) ((copyB (List.replicate (x0.length : Int).toNat (0 : UInt8)) x0).length) ((x0.length : Int).toNat)) (d := 6) rfl (slc_len (copyB_length _ _).symm) ?_
 refine simL_ren (.slice (some ⟨b1v, 0, none⟩) ((copyB (List.replicate (x0.length : Int).toNat (0 : UInt8)) x0).length) ((x0.length : Int).toNat)) (d := 3) rfl (slc_len (copyB_length _ _).symm) ?_
 refine simL_ren (.slice (some ⟨b1v, 0, none⟩) ((copyB (List.replicate (x0.length : Int).toNat (0 : UInt8)) x0).length) ((x0.length : Int).toNat)) (d := 7) rfl (slc_len (copyB_length _ _).symm) ?_
 refine nx ?_
 refine vm rfl rfl ?_
 refine va rfl rfl (simL_nil (nrm_then (sim_rtn ?_)))
 exact rtn_fn ((some ⟨b1v, 0, none⟩), (x0.length : Int).toNat) rfl rfl rfl (.sel 0 rfl (.sel 0 rfl (.nil _)))

def wire_Writer_Done.f (x0_0 : List UInt8) (x0_1 : Int) : Option (List UInt8 × Int) := if x0_1 = (0 : Int) then ((wire_fresh.f x0_0).bind fun s3v => (some (s3v, 0))) else (some (([] : List UInt8), x0_1))
theorem wire_Writer_Done.calls (W : World) (F : HA) (b0 : Nat) (a0_0 : Option Addr) (c0_0 : Nat) (x0_0 : List UInt8) (x0_1 : Int) (h0_0 : Rd F a0_0 (encB x0_0)) (hc0_0 : x0_0.length ≤ c0_0) (hm0_0 : c0_0 ≤ maxLen) :
    Fn Tryz.prog W 29 [.pointer (some ⟨b0, 0, none⟩)] [obj b0 108 [.slice a0_0 x0_0.length c0_0, .int .i64 x0_1]] F (wire_Writer_Done.f x0_0 x0_1) (fun (r : List UInt8 × Int) (y : Option Addr × Nat) => .tuple #[.slice y.1 r.1.length y.2, .int .i64 r.2]) (fun r y => [Row 5 1 y.1 r.1.length y.2 (encB r.1), obj b0 108 [.slice a0_0 x0_0.length c0_0, .int .i64 x0_1]]) := by
 unfold wire_Writer_Done.f
 refine fn_intro 18 Tryz.func29 rfl Tryz.ntmps29 rfl ?_
 refine sr ?_
 refine va rfl rfl ?_
 refine va rfl rfl (simL_nil (nrm_then (sim_seq (sr ?_))))
 refine vm rfl rfl ?_
 refine vn rfl rfl ?_
 refine vq (q_fa rfl rfl Tryz.underlying108 rfl rfl Tryz.sizeOf31 rfl) rfl ?_
 refine vq (q_load rfl rfl Tryz.isAgg31 (.obj 0 rfl rfl)) rfl ?_
 refine vq (q_neq rfl rfl rfl) rfl (simL_nil (nrm_then ?_))
 refine sim_condn rfl (fun h1v => ?_) (fun h2v => ?_)
 refine sim_skip ?_
 refine nrm_then (sr ?_)
 refine vm rfl rfl ?_
 refine vn rfl rfl ?_
 refine vq (q_fa rfl rfl Tryz.underlying108 rfl rfl Tryz.sizeOf23 rfl) rfl ?_
 refine vq (q_load rfl rfl Tryz.isAgg23 (.obj 0 rfl rfl)) rfl ?_
 refine simL_bind (fun s3v hs4v => ?_)
 refine simL_eff (re_call (vs := [.slice a0_0 x0_0.length c0_0]) (cap := []) (A := []) (rst := [obj b0 108 [.slice a0_0 x0_0.length c0_0, .int .i64 x0_1], F]) rfl rfl rfl rfl rfl rfl Tryz.call57 (.sel 0 rfl (.sel 0 rfl (.nil _))) (wire_fresh.calls _ _ a0_0 c0_0 x0_0 (h0_0.lend 1 rfl) hc0_0 hm0_0) hs4v) rfl rfl rfl ?_
 intro y5v
 refine va rfl rfl ?_
 refine va rfl rfl (simL_nil (nrm_then (sim_rtn ?_)))
 exact rtn_fn (y5v.1, y5v.2) rfl rfl rfl (.sel 0 rfl (.sel 0 rfl (.sel 0 rfl (.nil _))))
 refine sim_seq ?_
 refine sim_draw (Γ := Unit) () [[], [0], [0, 1], [0, 1, 2], [], rL 5] [] [0, 1, 2, 3, 4, 5] (fun i => [[0], [0], [0], [0], [0], [0]].getD i []) (fun i => [[], [], [], [], [], []].getD i []) (fun γ i => [.pointer (some ⟨b0, 0, none⟩), .pointer (some ⟨b0, 0, none⟩), .pointer (some ⟨b0, 1, none⟩), .int .i64 x0_1, .slice none 0 0, .int .i64 x0_1].getD i undef) (fun j γ => [[obj b0 108 [.slice a0_0 x0_0.length c0_0, .int .i64 x0_1], F]].getD j []) (fun γ => [(2, .slice none 0 0), (3, .int .i64 x0_1)]) mixed (by decide) (by decide) (by decide) (by decide) (by decide) (by decide) (by decide) 18 rfl (by decide) (by decide) (by decide) (Ent.refl _) ?_ ?_ (fun _ => ⟨rfl, rfl, trivial⟩) ?_
 exact (aq rfl (fun γ => qm rfl (.o (s := 0) rfl (by decide) .nil) rfl) (aq rfl (fun γ => qp rfl rfl (.v 0 rfl rfl .nil) (q_nil rfl rfl) rfl) (aq rfl (fun γ => qp rfl rfl (.v 1 rfl rfl .nil) (q_fa rfl rfl Tryz.underlying108 rfl rfl Tryz.sizeOf31 rfl) rfl) (aq rfl (fun γ => qp rfl rfl (.v 2 rfl rfl .nil) (q_load rfl rfl Tryz.isAgg31 (.obj 0 rfl rfl)) rfl) (aq rfl (fun γ => qp rfl rfl .nil (q_asg rfl rfl) rfl) (aq rfl (fun γ => qp rfl rfl (.v 3 rfl rfl .nil) (q_asg rfl rfl) rfl) zA))))))
 exact zA
 intro g6v
 refine nrm_then (sim_rtn ?_)
 refine rtn_then ?_
 exact rtn_fn (none, 0) rfl rfl rfl (.row_nil (.sel 0 rfl (.sel 0 rfl (.nil _))))

def slices_Sorted_string_maps_Keys_map_string_string_string_string_1.f (xp0_0 : List ((List UInt8) × (List UInt8))) : Option (List (List UInt8)) := if (xp0_0.map (·.1)).Nodup ∧ xp0_0.length * 16 ≤ 140737488355328 ∧ ∀ p ∈ xp0_0, p.1.length ≤ 140737488351232 then some (keysS xp0_0) else none
theorem slices_Sorted_string_maps_Keys_map_string_string_string_string_1.calls (W : World) (F : HA) (bp0 : Nat) (mp0_0 : Nat) (xp0_0 : List ((List UInt8) × (List UInt8))) :
    Fn Tryz.prog W 52 [.func (.func 90) #[] #[.pointer (some ⟨bp0, 0, none⟩)]] [obj bp0 55 [.map (some mp0_0)], mapO mp0_0 enc9 enc9 xp0_0] F (slices_Sorted_string_maps_Keys_map_string_string_string_string_1.f xp0_0) (fun (r : List (List UInt8)) (y : Option Addr × Nat) => .slice y.1 r.length y.2) (fun r y => [RowV 9 1 (V9 tt) y.1 r y.2, obj bp0 55 [.map (some mp0_0)], mapO mp0_0 enc9 enc9 xp0_0]) := by
  unfold slices_Sorted_string_maps_Keys_map_string_string_string_string_1.f
  exact fn_sortedS (V := (V9 tt)) (fun _ => rfl) Tryz.underlying9 (fun w D0 nn => lib_sorted52_90 w D0 nn mp0_0 bp0)

def kv_Store_Each_1_s.l0 {S : Type} (step : S → (List UInt8 × List UInt8) → Option S) (s1v : List ((List UInt8) × (List UInt8))) (s7v : List (List UInt8)) : Nat → Int → S → Option (S)
  | 0, _, _ => none
  | k + 1, z12v, z13v => if z12v < (s7v.length : Int) then (if 0 ≤ z12v ∧ z12v < (s7v.length : Int) then ((step z13v ((s7v.getD z12v.toNat ([] : List UInt8)), ((mget s1v (s7v.getD z12v.toNat ([] : List UInt8))).getD ([] : List UInt8)))).bind fun s26v => (kv_Store_Each_1_s.l0 step s1v s7v k (IntKind.i64.wrap (z12v + 1)) s26v)) else none) else (some z13v)
def kv_Store_Each_1_s.f {S : Type} (k : Nat) (step : S → (List UInt8 × List UInt8) → Option S) (s0 : S) (xp1_0 : List ((List UInt8) × (List UInt8))) (xp1_1 : List ((Int) × (Ty69))) : Option (S) := (maps_Clone_map_string_string_string_string.f xp1_0).bind fun s1v => ((maps_Keys_map_string_string_string_string.f).bind fun s4v => ((slices_Sorted_string_maps_Keys_map_string_string_string_string_1.f s1v).bind fun s7v => (kv_Store_Each_1_s.l0 step s1v s7v k 0 s0)))
theorem kv_Store_Each_1_s.calls (W : World) (F : HA) (k : Nat) (S Y : Type) (l : Nat) (step : S → List UInt8 × List UInt8 → Option S) (A : S → Y → HA) (s0 : S) (y0 : Y) (bp0 : Nat) (bp1 : Nat) (mp1_0 : Nat) (xp1_0 : List ((List UInt8) × (List UInt8))) (mp1_1 : Nat) (xp1_1 : List ((Int) × (Ty69))) (hY : YieldOk Tryz.prog W l (fun (x : List UInt8 × List UInt8) => [str x.1, str x.2]) step A) :
    Fn Tryz.prog W 51 [.func (.yield l) #[] #[], .pointer (some ⟨bp0, 0, none⟩)] [A s0 y0, obj bp1 58 [.map (some mp1_0), .map (some mp1_1)], mapO mp1_0 enc9 enc9 xp1_0, mapO mp1_1 enc3 enc69 xp1_1, obj bp0 26 [.pointer (some ⟨bp1, 0, none⟩)]] F (kv_Store_Each_1_s.f k step s0 xp1_0 xp1_1) (fun (r : S) (y : Y) => .tuple #[]) (fun r y => [A r y, obj bp1 58 [.map (some mp1_0), .map (some mp1_1)], mapO mp1_0 enc9 enc9 xp1_0, mapO mp1_1 enc3 enc69 xp1_1, obj bp0 26 [.pointer (some ⟨bp1, 0, none⟩)]]) := by
 unfold kv_Store_Each_1_s.f
 refine fn_intro 27 Tryz.func51 rfl Tryz.ntmps51 rfl ?_
 refine sr ?_
 refine vq (q_load rfl rfl Tryz.isAgg26 (.obj 4 rfl rfl)) rfl ?_
 refine vn rfl rfl ?_
 refine vq (q_fa rfl rfl Tryz.underlying58 rfl rfl Tryz.sizeOf55 rfl) rfl ?_
 refine vq (q_load rfl rfl Tryz.isAgg55 (.obj 1 rfl rfl)) rfl ?_
 refine simL_bind (fun s1v hs2v => ?_)
 refine simL_eff (re_call (vs := [.map (some mp1_0)]) (cap := []) (A := [mapO mp1_0 enc9 enc9 xp1_0]) (rst := [A s0 y0, obj bp1 58 [.map (some mp1_0), .map (some mp1_1)], mapO mp1_1 enc3 enc69 xp1_1, obj bp0 26 [.pointer (some ⟨bp1, 0, none⟩)], F]) rfl rfl rfl rfl rfl rfl Tryz.call40 (.sel 2 rfl (.sel 0 rfl (.sel 0 rfl (.sel 0 rfl (.sel 0 rfl (.sel 0 rfl (.nil _))))))) (maps_Clone_map_string_string_string_string.calls _ _ mp1_0 xp1_0 ) hs2v) rfl rfl rfl ?_
 intro y3v
 refine va rfl rfl (nx ?_)
 refine vm rfl rfl ?_
 refine simL_bind (fun s4v hs5v => ?_)
 refine simL_eff (re_call (vs := [.map (some y3v)]) (cap := []) (A := []) (rst := [mapO y3v enc9 enc9 s1v, mapO mp1_0 enc9 enc9 xp1_0, A s0 y0, obj bp1 58 [.map (some mp1_0), .map (some mp1_1)], mapO mp1_1 enc3 enc69 xp1_1, obj bp0 26 [.pointer (some ⟨bp1, 0, none⟩)], F]) rfl rfl rfl rfl rfl rfl Tryz.call53 (.sel 0 rfl (.sel 0 rfl (.sel 0 rfl (.sel 0 rfl (.sel 0 rfl (.sel 0 rfl (.sel 0 rfl (.nil _)))))))) (maps_Keys_map_string_string_string_string.calls _ _ y3v ) hs5v) rfl rfl rfl ?_
 intro y6v
 refine simL_bind (fun s7v hs8v => ?_)
 refine simL_eff (re_call (vs := [.func (.func 90) #[] #[.pointer (some ⟨y6v, 0, none⟩)]]) (cap := []) (A := [obj y6v 55 [.map (some y3v)], mapO y3v enc9 enc9 s1v]) (rst := [mapO mp1_0 enc9 enc9 xp1_0, A s0 y0, obj bp1 58 [.map (some mp1_0), .map (some mp1_1)], mapO mp1_1 enc3 enc69 xp1_1, obj bp0 26 [.pointer (some ⟨bp1, 0, none⟩)], F]) rfl rfl rfl rfl rfl rfl Tryz.call52 (.sel 0 rfl (.sel 0 rfl (.sel 0 rfl (.sel 0 rfl (.sel 0 rfl (.sel 0 rfl (.sel 0 rfl (.sel 0 rfl (.nil _))))))))) (slices_Sorted_string_maps_Keys_map_string_string_string_string_1.calls _ _ y6v y3v s1v ) hs8v) rfl rfl rfl ?_
 intro y9v
 refine vq (q_len rfl rfl rfl Tryz.underlying94) rfl ?_
 refine vm rfl rfl (simL_nil (nrm_then ?_))
 refine sim_block ?_
 refine sim_loop (S := Int × S) (Y) (fun k s => kv_Store_Each_1_s.l0 step s1v s7v k s.1 s.2) (fun s y => [(0, .func (.yield l) #[] #[]), (3, .map (some y3v)), (13, .slice y9v.1 s7v.length y9v.2), (14, .int .i64 (s7v.length : Int)), (15, .int .i64 s.1)]) (fun s y => [obj bp1 58 [.map (some mp1_0), .map (some mp1_1)], obj bp0 26 [.pointer (some ⟨bp1, 0, none⟩)], mapO y3v enc9 enc9 s1v, RowV 9 1 (V9 tt) y9v.1 s7v y9v.2, mapO mp1_0 enc9 enc9 xp1_0, mapO mp1_1 enc3 enc69 xp1_1, A s.2 y, F]) (fun _ => by rw [kv_Store_Each_1_s.l0]) ?_ k (0, s0) y0 ⟨rfl, rfl, rfl, rfl, rfl, trivial⟩ (.sel 5 rfl (.sel 6 rfl (.sel 2 rfl (.sel 0 rfl (.sel 1 rfl (.sel 2 rfl (.sel 1 rfl (.sel 1 rfl (.nil _)))))))))
 intro k s10v y11v
 refine sim_eq (by rw [kv_Store_Each_1_s.l0]) ?_
 refine sr ?_
 refine vq (q_lss rfl rfl rfl) rfl (simL_nil (nrm_then (sim_seq ?_)))
 refine sim_cond rfl (fun h14v => ?_) (fun h15v => ?_)
 refine sim_skip ?_
 refine nrm_then (sim_seq ?_)
 refine sim_block ?_
 refine sr ?_
 refine simL_openV 3 rfl (fun rs24v hl25v => ?_)
 refine simL_ask (fun hi16v => ?_)
 refine simL_posV 3 rfl hl25v rfl (i := s10v.1.toNat) (by omega) ([] : List UInt8) (fun b17v b17vo r20v ha18v hV21v hlr22v hcell23v => ?_)
 obtain rfl := hV21v
 refine vq (q_idx rfl rfl rfl ha18v Tryz.underlying94 Tryz.sizeOf9 hi16v.1 hi16v.2) rfl ?_
 refine vq (q_load rfl rfl Tryz.isAgg9 (hcell23v 3 rfl 0 _ rfl)) rfl ?_
 refine va rfl rfl (nx ?_)
 refine vm rfl rfl ?_
 refine vm rfl rfl ?_
 refine vm rfl rfl ?_
 refine vm rfl rfl ?_
 refine vq ((q_mlook (ek := enc9) (ev := enc9) (z := ([] : List UInt8)) 2 (s7v.getD s10v.1.toNat ([] : List UInt8)) rfl rfl rfl Tryz.underlying55 key9 Tryz.zeroValue9 rfl : RQ _ _ _ _ (str ((mget s1v (s7v.getD s10v.1.toNat ([] : List UInt8))).getD ([] : List UInt8))))) rfl ?_
 refine simL_bind (fun s26v hs28v => ?_)
 refine simL_eff (re_yield ((s7v.getD s10v.1.toNat ([] : List UInt8)), ((mget s1v (s7v.getD s10v.1.toNat ([] : List UInt8))).getD ([] : List UInt8))) 6 rfl rfl rfl rfl rfl rfl hY rfl hs28v) rfl rfl rfl ?_
 intro y27v
 refine vq (q_not rfl rfl) rfl (simL_nil (nrm_then ?_))
 refine sim_false rfl ?_
 refine sim_skip ?_
 refine nrm_block (nrm_then (sim_region ?_))
 refine vq (q_add rfl rfl rfl) rfl ?_
 refine vm rfl rfl (simL_nil ?_)
 exact nrm_again (s := (IntKind.i64.wrap (s10v.1 + 1), s26v)) y27v ⟨rfl, rfl, rfl, rfl, rfl, trivial⟩ (.sel 0 rfl (.sel 0 rfl (.sel 0 rfl (.sel' 0 rfl (RowV.mk hl25v) (.sel 0 rfl (.sel 0 rfl (.sel 0 rfl (.sel 0 rfl (.nil _)))))))))
 refine sim_exi ?_
 refine exi_then ?_
 refine exi_loop ?_
 refine exi_here ?_
 exact nrm_fn y11v rfl rfl rfl (.sel 6 rfl (.sel 0 rfl (.sel 3 rfl (.sel 3 rfl (.sel 0 rfl (.sel 2 rfl (.nil _)))))))

def kv_Store_Snapshot.l0 (s30v : List (Ty69)) : Nat → Int → List UInt8 → Int → Option (List UInt8 × Int)
  | 0, _, _, _ => none
  | k + 1, z35v, z36v, z37v => if z35v < (s30v.length : Int) then (if 0 ≤ z35v ∧ z35v < (s30v.length : Int) then ((wire_Writer_Int.f k z36v z37v ((s30v.getD z35v.toNat dz69).1)).bind fun s51v => ((wire_Writer_Int.f k s51v.1 s51v.2 ((s30v.getD z35v.toNat dz69).2.1)).bind fun s54v => ((wire_Writer_Int.f k s54v.1 s54v.2 ((s30v.getD z35v.toNat dz69).2.2.1)).bind fun s57v => ((wire_Writer_Text.f k s57v.1 s57v.2 ((s30v.getD z35v.toNat dz69).2.2.2) (1024 : Int)).bind fun s60v => (kv_Store_Snapshot.l0 s30v k (IntKind.i64.wrap (z35v + 1)) s60v.1 s60v.2))))) else none) else (some (z36v, z37v))
def kv_Store_Snapshot.f (k : Nat) (x0_0 : List ((List UInt8) × (List UInt8))) (x0_1 : List ((Int) × (Ty69))) : Option (List UInt8) := (wire_NewWriter.f).bind fun s1v => ((wire_Writer_Int.f k s1v.1 s1v.2 (x0_0.length : Int)).bind fun s5v => ((kv_Store_Each.f).bind fun s9v => ((kv_Store_Each_1_s.f k (fun (s13v : List UInt8 × Int) (x12v : List UInt8 × List UInt8) => (wire_Writer_Text.f k s13v.1 s13v.2 x12v.1 (64 : Int)).bind fun s15v => ((wire_Writer_Text.f k s15v.1 s15v.2 x12v.2 (1024 : Int)).bind fun s18v => (some (s18v.1, s18v.2)))) (s5v.1, s5v.2) x0_0 x0_1).bind fun s21v => ((wire_Writer_Int.f k s21v.1 s21v.2 (x0_1.length : Int)).bind fun s24v => (((kv_Store_Sessions.f k x0_0 x0_1).bind fun s30v => (kv_Store_Snapshot.l0 s30v k 0 s24v.1 s24v.2)).bind fun s28v => ((wire_Writer_Done.f s28v.1 s28v.2).bind fun s67v => (some s67v.1)))))))
theorem kv_Store_Snapshot.calls (W : World) (F : HA) (k : Nat) (b0 : Nat) (m0_0 : Nat) (x0_0 : List ((List UInt8) × (List UInt8))) (m0_1 : Nat) (x0_1 : List ((Int) × (Ty69)))  :
    Fn Tryz.prog W 9 [.pointer (some ⟨b0, 0, none⟩)] [obj b0 58 [.map (some m0_0), .map (some m0_1)], mapO m0_0 enc9 enc9 x0_0, mapO m0_1 enc3 enc69 x0_1] F (kv_Store_Snapshot.f k x0_0 x0_1) (fun (r : List UInt8) (y : Option Addr × Nat) => .slice y.1 r.length y.2) (fun r y => [Row 5 1 y.1 r.length y.2 (encB r), obj b0 58 [.map (some m0_0), .map (some m0_1)], mapO m0_0 enc9 enc9 x0_0, mapO m0_1 enc3 enc69 x0_1]) := by
 unfold kv_Store_Snapshot.f
 refine fn_introM 67 Tryz.func9 rfl Tryz.ntmps9 rfl ?_
 refine sr ?_
 refine va rfl rfl (nx ?_)
 refine simL_bind (fun s1v hs2v => ?_)
 refine simL_eff (re_call (vs := []) (cap := []) (A := []) (rst := [obj b0 58 [.map (some m0_0), .map (some m0_1)], mapO m0_0 enc9 enc9 x0_0, mapO m0_1 enc3 enc69 x0_1, F]) rfl rfl rfl rfl rfl rfl Tryz.call24 (.sel 0 rfl (.sel 0 rfl (.sel 0 rfl (.sel 0 rfl (.nil _))))) (wire_NewWriter.calls _ _  ) hs2v) rfl rfl rfl ?_
 intro y3v
 refine simL_eff (re_alloc rfl Tryz.zeroValue59 rfl) rfl rfl rfl ?_
 intro b4v
 refine simL_do (re_store 0 rfl rfl rfl Tryz.sizeOf59 rfl rfl (one_of (by rfl)) rfl rfl) rfl rfl ?_
 intro _
 refine simL_nil (nrm_then (sim_seq ?_))
 refine sim_bind (fun s5v hs6v => ?_)
 refine sim_draw (Γ := (Option Addr × Nat)) (none, 0) [[], [], [1], [1, 2], [1, 2, 3], [1, 2, 3, 4], rL 6] [6] [0, 1, 2, 3, 4, 5] (fun i => [[0], [0], [0], [0], [0], [0], []].getD i []) (fun i => [[], [], [], [], [], [], rL 6].getD i []) (fun γ i => [.pointer (some ⟨y3v.1, 0, none⟩), .pointer (some ⟨b0, 0, none⟩), .pointer (some ⟨b0, 0, none⟩), .pointer (some ⟨b0, 0, none⟩), .map (some m0_0), .int .i64 (x0_0.length : Int), .tuple #[]].getD i undef) (fun j γ => [[obj b4v 59 [.pointer (some ⟨y3v.1, 0, none⟩)], obj y3v.1 108 [.slice y3v.2.1 s1v.1.length y3v.2.2, .int .i64 s1v.2], Row 5 1 y3v.2.1 s1v.1.length y3v.2.2 (encB s1v.1), obj b0 58 [.map (some m0_0), .map (some m0_1)], mapO m0_0 enc9 enc9 x0_0, mapO m0_1 enc3 enc69 x0_1, F], [obj y3v.1 108 [.slice γ.1 s5v.1.length γ.2, .int .i64 s5v.2], Row 5 1 γ.1 s5v.1.length γ.2 (encB s5v.1), obj b4v 59 [.pointer (some ⟨y3v.1, 0, none⟩)], obj b0 58 [.map (some m0_0), .map (some m0_1)], mapO m0_0 enc9 enc9 x0_0, mapO m0_1 enc3 enc69 x0_1, F]].getD j []) (fun γ => [(0, .pointer (some ⟨b0, 0, none⟩)), (3, .pointer (some ⟨b4v, 0, none⟩))]) mixed (by decide) (by decide) (by decide) (by decide) (by decide) (by decide) (by decide) 67 rfl (by decide) (by decide) (by decide) (Ent.refl _) ?_ ?_ (fun _ => ⟨rfl, rfl, trivial⟩) ?_
 exact (aq rfl (fun γ => qp rfl rfl (.o (s := 3) rfl (by decide) .nil) (q_load rfl rfl Tryz.isAgg59 (.obj 0 rfl rfl)) rfl) (aq rfl (fun γ => qm rfl (.o (s := 0) rfl (by decide) .nil) rfl) (aq rfl (fun γ => qp rfl rfl (.v 1 rfl rfl .nil) (q_nil rfl rfl) rfl) (aq rfl (fun γ => qp rfl rfl (.v 2 rfl rfl .nil) (q_fa rfl rfl Tryz.underlying58 rfl rfl Tryz.sizeOf55 rfl) rfl) (aq rfl (fun γ => qp rfl rfl (.v 3 rfl rfl .nil) (q_load rfl rfl Tryz.isAgg55 (.obj 3 rfl rfl)) rfl) (aq rfl (fun γ => qp rfl rfl (.v 4 rfl rfl .nil) (q_mlen 4 rfl rfl rfl Tryz.underlying55 rfl) rfl) zA))))))
 exact (ac (fun γ => eo (Z := Option Addr × Nat) (fun z => z) rfl rfl (.v 0 rfl rfl (.v 5 rfl rfl .nil)) (re_call (vs := [.pointer (some ⟨y3v.1, 0, none⟩), .int .i64 (x0_0.length : Int)]) (cap := []) (A := [obj y3v.1 108 [.slice y3v.2.1 s1v.1.length y3v.2.2, .int .i64 s1v.2], Row 5 1 y3v.2.1 s1v.1.length y3v.2.2 (encB s1v.1)]) (rst := [obj b4v 59 [.pointer (some ⟨y3v.1, 0, none⟩)], obj b0 58 [.map (some m0_0), .map (some m0_1)], mapO m0_0 enc9 enc9 x0_0, mapO m0_1 enc3 enc69 x0_1, F]) rfl rfl rfl rfl rfl rfl Tryz.call25 (.sel 1 rfl (.sel 1 rfl (.sel 0 rfl (.sel 0 rfl (.sel 0 rfl (.sel 0 rfl (.sel 0 rfl (.nil _)))))))) (wire_Writer_Int.calls _ _ k y3v.1 y3v.2.1 y3v.2.2 s1v.1 s1v.2 (x0_0.length : Int) ) hs6v) (fun _ => ⟨rfl, rfl, rfl, rfl, rfl, rfl, trivial⟩) (fun _ => .inr rfl) (fun z => Ent.refl _)) zA)
 intro g8v
 refine nrm_then (sim_seq (sr ?_))
 refine vm rfl rfl ?_
 refine simL_bind (fun s9v hs10v => ?_)
 refine simL_eff (re_call (vs := [.pointer (some ⟨b0, 0, none⟩)]) (cap := []) (A := []) (rst := [obj y3v.1 108 [.slice g8v.1 s5v.1.length g8v.2, .int .i64 s5v.2], Row 5 1 g8v.1 s5v.1.length g8v.2 (encB s5v.1), obj b4v 59 [.pointer (some ⟨y3v.1, 0, none⟩)], obj b0 58 [.map (some m0_0), .map (some m0_1)], mapO m0_0 enc9 enc9 x0_0, mapO m0_1 enc3 enc69 x0_1, F]) rfl rfl rfl rfl rfl rfl Tryz.call26 (.sel 0 rfl (.sel 0 rfl (.sel 0 rfl (.sel 0 rfl (.sel 0 rfl (.sel 0 rfl (.sel 0 rfl (.nil _)))))))) (kv_Store_Each.calls _ _ b0 ) hs10v) rfl rfl rfl ?_
 intro y11v
 refine simL_nil (nrm_then ?_)
 refine sim_block ?_
 refine sim_range (S := List UInt8 × Int) (Y := Option Addr × Nat) (R' := (List UInt8 × Int)) (Y' := (Option Addr × Nat)) (ps := [20, 21]) (Cap := [obj b0 58 [.map (some m0_0), .map (some m0_1)], mapO m0_0 enc9 enc9 x0_0, mapO m0_1 enc3 enc69 x0_1, obj y11v 26 [.pointer (some ⟨b0, 0, none⟩)]]) (rst := []) (CapB := fun r y => [obj b0 58 [.map (some m0_0), .map (some m0_1)], mapO m0_0 enc9 enc9 x0_0, mapO m0_1 enc3 enc69 x0_1, obj y11v 26 [.pointer (some ⟨b0, 0, none⟩)]]) (enc := fun (x : List UInt8 × List UInt8) => [str x.1, str x.2]) (oN := kv_Store_Each_1_s.f k (fun (s13v : List UInt8 × Int) (x12v : List UInt8 × List UInt8) => (wire_Writer_Text.f k s13v.1 s13v.2 x12v.1 (64 : Int)).bind fun s15v => ((wire_Writer_Text.f k s15v.1 s15v.2 x12v.2 (1024 : Int)).bind fun s18v => (some (s18v.1, s18v.2)))) (s5v.1, s5v.2) x0_0 x0_1) (fun s y => [obj y3v.1 108 [.slice y.1 s.1.length y.2, .int .i64 s.2], obj b4v 59 [.pointer (some ⟨y3v.1, 0, none⟩)], Row 5 1 y.1 s.1.length y.2 (encB s.1), F]) (s5v.1, s5v.2) (g8v.1, g8v.2) (fun s13v x12v y14v => [(3, .pointer (some ⟨b4v, 0, none⟩)), (4, str x12v.1), (5, str x12v.2)]) (fun r => r) (fun r y => y) rfl rfl Tryz.call51 (fun l A hY X => kv_Store_Each_1_s.calls _ _ k _ _ l _ A _ _ y11v b0 m0_0 x0_0 m0_1 x0_1 hY) rfl (fun _ => rfl) (.sel 1 rfl (.sel 2 rfl (.sel 1 rfl (.sel 4 rfl (.sel 1 rfl (.sel 1 rfl (.sel 1 rfl (.sel 0 rfl (.nil _))))))))) ?_ ?_ ?_
 intro l s13v x12v y14v Fr
 refine sim_ent (H' := [obj y3v.1 108 [.slice y14v.1 s13v.1.length y14v.2, .int .i64 s13v.2], obj b4v 59 [.pointer (some ⟨y3v.1, 0, none⟩)], Row 5 1 y14v.1 s13v.1.length y14v.2 (encB s13v.1), F, Fr]) (Ent.refl _) ?_
 refine sr ?_
 refine va rfl rfl (ny ?_)
 refine va rfl rfl (simL_nil ?_)
 exact nrm_cut () ⟨rfl, rfl, rfl, trivial⟩ (Ent.refl _)
 intro l s13v x12v y14v Fr
 refine sim_ent (H' := [obj y3v.1 108 [.slice y14v.1 s13v.1.length y14v.2, .int .i64 s13v.2], obj b4v 59 [.pointer (some ⟨y3v.1, 0, none⟩)], Row 5 1 y14v.1 s13v.1.length y14v.2 (encB s13v.1), F, Fr]) (Ent.refl _) ?_
 refine sim_block ?_
 refine sr ?_
 refine vq (q_load rfl rfl Tryz.isAgg59 (.obj 1 rfl rfl)) rfl ?_
 refine vm rfl rfl ?_
 refine simL_bind (fun s15v hs16v => ?_)
 refine simL_eff (re_call (vs := [.pointer (some ⟨y3v.1, 0, none⟩), str x12v.1, .int .i64 64]) (cap := []) (A := [obj y3v.1 108 [.slice y14v.1 s13v.1.length y14v.2, .int .i64 s13v.2], Row 5 1 y14v.1 s13v.1.length y14v.2 (encB s13v.1)]) (rst := [obj b4v 59 [.pointer (some ⟨y3v.1, 0, none⟩)], F, Fr]) rfl rfl rfl rfl rfl rfl Tryz.call27 (.sel 0 rfl (.sel 1 rfl (.sel 0 rfl (.sel 0 rfl (.sel 0 rfl (.nil _)))))) (wire_Writer_Text.calls _ _ k y3v.1 y14v.1 y14v.2 s13v.1 s13v.2 x12v.1 (64 : Int) ) hs16v) rfl rfl rfl ?_
 intro y17v
 refine ny ?_
 refine vq (q_load rfl rfl Tryz.isAgg59 (.obj 2 rfl rfl)) rfl ?_
 refine vm rfl rfl ?_
 refine simL_bind (fun s18v hs19v => ?_)
 refine simL_eff (re_call (vs := [.pointer (some ⟨y3v.1, 0, none⟩), str x12v.2, .int .i64 1024]) (cap := []) (A := [obj y3v.1 108 [.slice y17v.1 s15v.1.length y17v.2, .int .i64 s15v.2], Row 5 1 y17v.1 s15v.1.length y17v.2 (encB s15v.1)]) (rst := [obj b4v 59 [.pointer (some ⟨y3v.1, 0, none⟩)], F, Fr]) rfl rfl rfl rfl rfl rfl Tryz.call27 (.sel 0 rfl (.sel 0 rfl (.sel 0 rfl (.sel 0 rfl (.sel 0 rfl (.nil _)))))) (wire_Writer_Text.calls _ _ k y3v.1 y17v.1 y17v.2 s15v.1 s15v.2 x12v.2 (1024 : Int) ) hs19v) rfl rfl rfl ?_
 intro y20v
 refine simL_nil (nrm_block ?_)
 exact nrm_cut (s := (s18v.1, s18v.2)) (y20v.1, y20v.2) trivial (.sel 0 rfl (.sel 1 rfl (.sel 0 rfl (.sel 0 rfl (.sel 0 rfl (.nil _))))))
 intro D23v s21v y22v
 refine nrm_ent (H' := [shutD D23v, obj y3v.1 108 [.slice y22v.1 s21v.1.length y22v.2, .int .i64 s21v.2], obj b4v 59 [.pointer (some ⟨y3v.1, 0, none⟩)], Row 5 1 y22v.1 s21v.1.length y22v.2 (encB s21v.1), F, obj b0 58 [.map (some m0_0), .map (some m0_1)], mapO m0_0 enc9 enc9 x0_0, mapO m0_1 enc3 enc69 x0_1, obj y11v 26 [.pointer (some ⟨b0, 0, none⟩)]]) (Ent.refl _) ?_
 refine nrm_block (nrm_then (sim_seq ?_))
 refine sim_bind (fun s24v hs25v => ?_)
 refine sim_draw (Γ := (Option Addr × Nat)) (none, 0) [[], [], [1], [1, 2], [1, 2, 3], [1, 2, 3, 4], rL 6] [6] [0, 1, 2, 3, 4, 5] (fun i => [[0], [0], [0], [0], [0], [0], []].getD i []) (fun i => [[], [], [], [], [], [], rL 6].getD i []) (fun γ i => [.pointer (some ⟨y3v.1, 0, none⟩), .pointer (some ⟨b0, 0, none⟩), .pointer (some ⟨b0, 0, none⟩), .pointer (some ⟨b0, 1, none⟩), .map (some m0_1), .int .i64 (x0_1.length : Int), .tuple #[]].getD i undef) (fun j γ => [[shutD D23v, obj y3v.1 108 [.slice y22v.1 s21v.1.length y22v.2, .int .i64 s21v.2], obj b4v 59 [.pointer (some ⟨y3v.1, 0, none⟩)], Row 5 1 y22v.1 s21v.1.length y22v.2 (encB s21v.1), F, obj b0 58 [.map (some m0_0), .map (some m0_1)], mapO m0_0 enc9 enc9 x0_0, mapO m0_1 enc3 enc69 x0_1, obj y11v 26 [.pointer (some ⟨b0, 0, none⟩)]], [obj y3v.1 108 [.slice γ.1 s24v.1.length γ.2, .int .i64 s24v.2], Row 5 1 γ.1 s24v.1.length γ.2 (encB s24v.1), shutD D23v, obj b4v 59 [.pointer (some ⟨y3v.1, 0, none⟩)], F, obj b0 58 [.map (some m0_0), .map (some m0_1)], mapO m0_0 enc9 enc9 x0_0, mapO m0_1 enc3 enc69 x0_1, obj y11v 26 [.pointer (some ⟨b0, 0, none⟩)]]].getD j []) (fun γ => [(0, .pointer (some ⟨b0, 0, none⟩)), (3, .pointer (some ⟨b4v, 0, none⟩))]) mixed (by decide) (by decide) (by decide) (by decide) (by decide) (by decide) (by decide) 67 rfl (by decide) (by decide) (by decide) (Ent.refl _) ?_ ?_ (fun _ => ⟨rfl, rfl, trivial⟩) ?_
 exact (aq rfl (fun γ => qp rfl rfl (.o (s := 3) rfl (by decide) .nil) (q_load rfl rfl Tryz.isAgg59 (.obj 2 rfl rfl)) rfl) (aq rfl (fun γ => qm rfl (.o (s := 0) rfl (by decide) .nil) rfl) (aq rfl (fun γ => qp rfl rfl (.v 1 rfl rfl .nil) (q_nil rfl rfl) rfl) (aq rfl (fun γ => qp rfl rfl (.v 2 rfl rfl .nil) (q_fa rfl rfl Tryz.underlying58 rfl rfl Tryz.sizeOf56 rfl) rfl) (aq rfl (fun γ => qp rfl rfl (.v 3 rfl rfl .nil) (q_load rfl rfl Tryz.isAgg56 (.obj 5 rfl rfl)) rfl) (aq rfl (fun γ => qp rfl rfl (.v 4 rfl rfl .nil) (q_mlen 7 rfl rfl rfl Tryz.underlying56 rfl) rfl) zA))))))
 exact (ac (fun γ => eo (Z := Option Addr × Nat) (fun z => z) rfl rfl (.v 0 rfl rfl (.v 5 rfl rfl .nil)) (re_call (vs := [.pointer (some ⟨y3v.1, 0, none⟩), .int .i64 (x0_1.length : Int)]) (cap := []) (A := [obj y3v.1 108 [.slice y22v.1 s21v.1.length y22v.2, .int .i64 s21v.2], Row 5 1 y22v.1 s21v.1.length y22v.2 (encB s21v.1)]) (rst := [shutD D23v, obj b4v 59 [.pointer (some ⟨y3v.1, 0, none⟩)], F, obj b0 58 [.map (some m0_0), .map (some m0_1)], mapO m0_0 enc9 enc9 x0_0, mapO m0_1 enc3 enc69 x0_1, obj y11v 26 [.pointer (some ⟨b0, 0, none⟩)]]) rfl rfl rfl rfl rfl rfl Tryz.call25 (.sel 1 rfl (.sel 2 rfl (.sel 0 rfl (.sel 0 rfl (.sel 0 rfl (.sel 0 rfl (.sel 0 rfl (.sel 0 rfl (.sel 0 rfl (.nil _)))))))))) (wire_Writer_Int.calls _ _ k y3v.1 y22v.1 y22v.2 s21v.1 s21v.2 (x0_1.length : Int) ) hs25v) (fun _ => ⟨rfl, rfl, rfl, rfl, rfl, rfl, trivial⟩) (fun _ => .inr rfl) (fun z => Ent.refl _)) zA)
 intro g27v
 refine nrm_then ?_
 refine sim_cut (S := List UInt8 × Int) (Option Addr × Nat) (fun s y => [(3, .pointer (some ⟨b4v, 0, none⟩))]) (fun s y => [obj b0 58 [.map (some m0_0), .map (some m0_1)], obj y3v.1 108 [.slice y.1 s.1.length y.2, .int .i64 s.2], obj b4v 59 [.pointer (some ⟨y3v.1, 0, none⟩)], mapO m0_0 enc9 enc9 x0_0, mapO m0_1 enc3 enc69 x0_1, Row 5 1 y.1 s.1.length y.2 (encB s.1), shutD D23v, F]) ?_ ?_
 refine sr ?_
 refine vm rfl rfl ?_
 refine simL_bind (fun s30v hs31v => ?_)
 refine simL_eff (re_call (vs := [.pointer (some ⟨b0, 0, none⟩)]) (cap := []) (A := [obj b0 58 [.map (some m0_0), .map (some m0_1)], mapO m0_0 enc9 enc9 x0_0, mapO m0_1 enc3 enc69 x0_1]) (rst := [obj y3v.1 108 [.slice g27v.1 s24v.1.length g27v.2, .int .i64 s24v.2], Row 5 1 g27v.1 s24v.1.length g27v.2 (encB s24v.1), shutD D23v, obj b4v 59 [.pointer (some ⟨y3v.1, 0, none⟩)], F, obj y11v 26 [.pointer (some ⟨b0, 0, none⟩)]]) rfl rfl rfl rfl rfl rfl Tryz.call28 (.sel 5 rfl (.sel 5 rfl (.sel 5 rfl (.sel 0 rfl (.sel 0 rfl (.sel 0 rfl (.sel 0 rfl (.sel 0 rfl (.sel 0 rfl (.nil _)))))))))) (kv_Store_Sessions.calls _ _ k b0 m0_0 x0_0 m0_1 x0_1 ) hs31v) rfl rfl rfl ?_
 intro y32v
 refine vq (q_len rfl rfl rfl Tryz.underlying66) rfl ?_
 refine vm rfl rfl (simL_nil (nrm_then ?_))
 refine sim_block ?_
 refine sim_loop (S := Int × List UInt8 × Int) (Option Addr × Nat) (fun k s => kv_Store_Snapshot.l0 s30v k s.1 s.2.1 s.2.2) (fun s y => [(3, .pointer (some ⟨b4v, 0, none⟩)), (36, .slice y32v.1 s30v.length y32v.2), (37, .int .i64 (s30v.length : Int)), (38, .int .i64 s.1)]) (fun s y => [obj b0 58 [.map (some m0_0), .map (some m0_1)], obj y3v.1 108 [.slice y.1 s.2.1.length y.2, .int .i64 s.2.2], obj b4v 59 [.pointer (some ⟨y3v.1, 0, none⟩)], RowV 69 4 (V69 tt) y32v.1 s30v y32v.2, mapO m0_0 enc9 enc9 x0_0, mapO m0_1 enc3 enc69 x0_1, Row 5 1 y.1 s.2.1.length y.2 (encB s.2.1), shutD D23v, F]) (fun _ => by rw [kv_Store_Snapshot.l0]) ?_ k (0, s24v.1, s24v.2) (g27v.1, g27v.2) ⟨rfl, rfl, rfl, rfl, trivial⟩ (.sel 1 rfl (.sel 3 rfl (.sel 5 rfl (.sel 0 rfl (.sel 0 rfl (.sel 0 rfl (.sel 0 rfl (.sel 0 rfl (.sel 0 rfl (.nil _))))))))))
 intro k s33v y34v
 refine sim_eq (by rw [kv_Store_Snapshot.l0]) ?_
 refine sr ?_
 refine vq (q_lss rfl rfl rfl) rfl (simL_nil (nrm_then (sim_seq ?_)))
 refine sim_cond rfl (fun h38v => ?_) (fun h39v => ?_)
 refine sim_skip ?_
 refine nrm_then (sim_seq ?_)
 refine sim_block ?_
 refine sr ?_
 refine simL_openV 3 rfl (fun rs48v hl49v => ?_)
 refine simL_ask (fun hi40v => ?_)
 refine simL_posV 3 rfl hl49v rfl (i := s33v.1.toNat) (by omega) dz69 (fun b41v b41vo r44v ha42v hV45v hlr46v hcell47v => ?_)
 obtain rfl := hV45v
 refine vq (q_idx rfl rfl rfl ha42v Tryz.underlying66 Tryz.sizeOf69 hi40v.1 hi40v.2) rfl ?_
 refine vq (q_loads rfl rfl Tryz.isAgg69 Tryz.sizeOf69 rfl (fun j v hj => hcell47v 3 rfl j v hj)) rfl ?_
 refine simL_eff (re_alloc rfl Tryz.zeroValue69 rfl) rfl rfl rfl ?_
 intro b50v
 refine simL_do (re_store 0 rfl rfl rfl Tryz.sizeOf69 rfl rfl (one_of (by rfl)) rfl rfl) rfl rfl ?_
 intro _
 refine nx ?_
 refine vq (q_load rfl rfl Tryz.isAgg59 (.obj 3 rfl rfl)) rfl ?_
 refine vq (q_fa rfl rfl Tryz.underlying69 rfl rfl Tryz.sizeOf3 rfl) rfl ?_
 refine vq (q_load rfl rfl Tryz.isAgg3 (.obj 0 rfl rfl)) rfl ?_
 refine simL_bind (fun s51v hs52v => ?_)
 refine simL_eff (re_call (vs := [.pointer (some ⟨y3v.1, 0, none⟩), .int .i64 ((s30v.getD s33v.1.toNat dz69).1)]) (cap := []) (A := [obj y3v.1 108 [.slice y34v.1 s33v.2.1.length y34v.2, .int .i64 s33v.2.2], Row 5 1 y34v.1 s33v.2.1.length y34v.2 (encB s33v.2.1)]) (rst := [obj b50v 69 [.int .i64 ((s30v.getD s33v.1.toNat dz69).1), .int .i64 ((s30v.getD s33v.1.toNat dz69).2.1), .int .i64 ((s30v.getD s33v.1.toNat dz69).2.2.1), str ((s30v.getD s33v.1.toNat dz69).2.2.2)], obj b0 58 [.map (some m0_0), .map (some m0_1)], obj b4v 59 [.pointer (some ⟨y3v.1, 0, none⟩)], Row 69 4 y32v.1 s30v.length y32v.2 rs48v.flatten, mapO m0_0 enc9 enc9 x0_0, mapO m0_1 enc3 enc69 x0_1, shutD D23v, F]) rfl rfl rfl rfl rfl rfl Tryz.call25 (.sel 2 rfl (.sel 6 rfl (.sel 0 rfl (.sel 0 rfl (.sel 0 rfl (.sel 0 rfl (.sel 0 rfl (.sel 0 rfl (.sel 0 rfl (.sel 0 rfl (.nil _))))))))))) (wire_Writer_Int.calls _ _ k y3v.1 y34v.1 y34v.2 s33v.2.1 s33v.2.2 ((s30v.getD s33v.1.toNat dz69).1) ) hs52v) rfl rfl rfl ?_
 intro y53v
 refine nx ?_
 refine vq (q_load rfl rfl Tryz.isAgg59 (.obj 4 rfl rfl)) rfl ?_
 refine vq (q_fa rfl rfl Tryz.underlying69 rfl rfl Tryz.sizeOf3 rfl) rfl ?_
 refine vq (q_load rfl rfl Tryz.isAgg3 (.obj 2 rfl rfl)) rfl ?_
 refine simL_bind (fun s54v hs55v => ?_)
 refine simL_eff (re_call (vs := [.pointer (some ⟨y3v.1, 0, none⟩), .int .i64 ((s30v.getD s33v.1.toNat dz69).2.1)]) (cap := []) (A := [obj y3v.1 108 [.slice y53v.1 s51v.1.length y53v.2, .int .i64 s51v.2], Row 5 1 y53v.1 s51v.1.length y53v.2 (encB s51v.1)]) (rst := [obj b50v 69 [.int .i64 ((s30v.getD s33v.1.toNat dz69).1), .int .i64 ((s30v.getD s33v.1.toNat dz69).2.1), .int .i64 ((s30v.getD s33v.1.toNat dz69).2.2.1), str ((s30v.getD s33v.1.toNat dz69).2.2.2)], obj b0 58 [.map (some m0_0), .map (some m0_1)], obj b4v 59 [.pointer (some ⟨y3v.1, 0, none⟩)], Row 69 4 y32v.1 s30v.length y32v.2 rs48v.flatten, mapO m0_0 enc9 enc9 x0_0, mapO m0_1 enc3 enc69 x0_1, shutD D23v, F]) rfl rfl rfl rfl rfl rfl Tryz.call25 (.sel 0 rfl (.sel 0 rfl (.sel 0 rfl (.sel 0 rfl (.sel 0 rfl (.sel 0 rfl (.sel 0 rfl (.sel 0 rfl (.sel 0 rfl (.sel 0 rfl (.nil _))))))))))) (wire_Writer_Int.calls _ _ k y3v.1 y53v.1 y53v.2 s51v.1 s51v.2 ((s30v.getD s33v.1.toNat dz69).2.1) ) hs55v) rfl rfl rfl ?_
 intro y56v
 refine nx ?_
 refine vq (q_load rfl rfl Tryz.isAgg59 (.obj 4 rfl rfl)) rfl ?_
 refine vq (q_fa rfl rfl Tryz.underlying69 rfl rfl Tryz.sizeOf45 rfl) rfl ?_
 refine vq (q_fa rfl rfl Tryz.underlying45 rfl rfl Tryz.sizeOf3 rfl) rfl ?_
 refine vq (q_load rfl rfl Tryz.isAgg3 (.obj 2 rfl rfl)) rfl ?_
 refine simL_bind (fun s57v hs58v => ?_)
 refine simL_eff (re_call (vs := [.pointer (some ⟨y3v.1, 0, none⟩), .int .i64 ((s30v.getD s33v.1.toNat dz69).2.2.1)]) (cap := []) (A := [obj y3v.1 108 [.slice y56v.1 s54v.1.length y56v.2, .int .i64 s54v.2], Row 5 1 y56v.1 s54v.1.length y56v.2 (encB s54v.1)]) (rst := [obj b50v 69 [.int .i64 ((s30v.getD s33v.1.toNat dz69).1), .int .i64 ((s30v.getD s33v.1.toNat dz69).2.1), .int .i64 ((s30v.getD s33v.1.toNat dz69).2.2.1), str ((s30v.getD s33v.1.toNat dz69).2.2.2)], obj b0 58 [.map (some m0_0), .map (some m0_1)], obj b4v 59 [.pointer (some ⟨y3v.1, 0, none⟩)], Row 69 4 y32v.1 s30v.length y32v.2 rs48v.flatten, mapO m0_0 enc9 enc9 x0_0, mapO m0_1 enc3 enc69 x0_1, shutD D23v, F]) rfl rfl rfl rfl rfl rfl Tryz.call25 (.sel 0 rfl (.sel 0 rfl (.sel 0 rfl (.sel 0 rfl (.sel 0 rfl (.sel 0 rfl (.sel 0 rfl (.sel 0 rfl (.sel 0 rfl (.sel 0 rfl (.nil _))))))))))) (wire_Writer_Int.calls _ _ k y3v.1 y56v.1 y56v.2 s54v.1 s54v.2 ((s30v.getD s33v.1.toNat dz69).2.2.1) ) hs58v) rfl rfl rfl ?_
 intro y59v
 refine ny ?_
 refine vq (q_load rfl rfl Tryz.isAgg59 (.obj 4 rfl rfl)) rfl ?_
 refine vq (q_fa rfl rfl Tryz.underlying69 rfl rfl Tryz.sizeOf45 rfl) rfl ?_
 refine vq (q_fa rfl rfl Tryz.underlying45 rfl rfl Tryz.sizeOf9 rfl) rfl ?_
 refine vq (q_load rfl rfl Tryz.isAgg9 (.obj 2 rfl rfl)) rfl ?_
 refine simL_bind (fun s60v hs61v => ?_)
 refine simL_eff (re_call (vs := [.pointer (some ⟨y3v.1, 0, none⟩), str ((s30v.getD s33v.1.toNat dz69).2.2.2), .int .i64 1024]) (cap := []) (A := [obj y3v.1 108 [.slice y59v.1 s57v.1.length y59v.2, .int .i64 s57v.2], Row 5 1 y59v.1 s57v.1.length y59v.2 (encB s57v.1)]) (rst := [obj b50v 69 [.int .i64 ((s30v.getD s33v.1.toNat dz69).1), .int .i64 ((s30v.getD s33v.1.toNat dz69).2.1), .int .i64 ((s30v.getD s33v.1.toNat dz69).2.2.1), str ((s30v.getD s33v.1.toNat dz69).2.2.2)], obj b0 58 [.map (some m0_0), .map (some m0_1)], obj b4v 59 [.pointer (some ⟨y3v.1, 0, none⟩)], Row 69 4 y32v.1 s30v.length y32v.2 rs48v.flatten, mapO m0_0 enc9 enc9 x0_0, mapO m0_1 enc3 enc69 x0_1, shutD D23v, F]) rfl rfl rfl rfl rfl rfl Tryz.call27 (.sel 0 rfl (.sel 0 rfl (.sel 0 rfl (.sel 0 rfl (.sel 0 rfl (.sel 0 rfl (.sel 0 rfl (.sel 0 rfl (.sel 0 rfl (.sel 0 rfl (.nil _))))))))))) (wire_Writer_Text.calls _ _ k y3v.1 y59v.1 y59v.2 s57v.1 s57v.2 ((s30v.getD s33v.1.toNat dz69).2.2.2) (1024 : Int) ) hs61v) rfl rfl rfl ?_
 intro y62v
 refine simL_nil (nrm_block (nrm_then (sim_region ?_)))
 refine vq (q_add rfl rfl rfl) rfl ?_
 refine vm rfl rfl (simL_nil ?_)
 exact nrm_again (s := (IntKind.i64.wrap (s33v.1 + 1), s60v.1, s60v.2)) (y62v.1, y62v.2) ⟨rfl, rfl, rfl, rfl, trivial⟩ (.sel 3 rfl (.sel 0 rfl (.sel 2 rfl (.sel' 2 rfl (RowV.mk hl49v) (.sel 2 rfl (.sel 2 rfl (.sel 0 rfl (.sel 1 rfl (.sel 1 rfl (.nil _))))))))))
 refine sim_exi ?_
 refine exi_then ?_
 refine exi_loop ?_
 refine exi_here ?_
 exact nrm_cut (s := (s33v.2.1, s33v.2.2)) (y34v.1, y34v.2) ⟨rfl, trivial⟩ (.sel 0 rfl (.sel 0 rfl (.sel 0 rfl (.sel 1 rfl (.sel 1 rfl (.sel 1 rfl (.sel 1 rfl (.sel 1 rfl (.nil _)))))))))
 intro s28v y29v
 refine sr ?_
 refine vq (q_load rfl rfl Tryz.isAgg59 (.obj 2 rfl rfl)) rfl ?_
 refine simL_bind (fun s67v hs68v => ?_)
 refine simL_lend 5 rfl (fun hq63v hq64v hq65v hq66v => ?_)
 refine simL_eff (re_call (vs := [.pointer (some ⟨y3v.1, 0, none⟩)]) (cap := []) (A := [obj y3v.1 108 [.slice y29v.1 s28v.1.length y29v.2, .int .i64 s28v.2]]) (rst := [obj b0 58 [.map (some m0_0), .map (some m0_1)], obj b4v 59 [.pointer (some ⟨y3v.1, 0, none⟩)], mapO m0_0 enc9 enc9 x0_0, mapO m0_1 enc3 enc69 x0_1, Row 5 1 y29v.1 s28v.1.length y29v.2 (encB s28v.1), shutD D23v, F]) rfl rfl rfl rfl rfl rfl Tryz.call29 (.sel 1 rfl (.sel 0 rfl (.sel 0 rfl (.sel 0 rfl (.sel 0 rfl (.sel 0 rfl (.sel 0 rfl (.sel 0 rfl (.nil _))))))))) (wire_Writer_Done.calls _ _ y3v.1 y29v.1 y29v.2 s28v.1 s28v.2 (hq63v.lend 4 rfl) hq64v hq65v) hs68v) rfl rfl rfl ?_
 intro y69v
 refine vm rfl rfl ?_
 refine vq (q_ext rfl rfl rfl) rfl ?_
 refine vq (q_ext rfl rfl rfl) rfl ?_
 refine va rfl rfl ?_
 refine va rfl rfl (nx ?_)
 refine vm rfl rfl ?_
 refine va rfl rfl (simL_nil (nrm_then (sim_rtn ?_)))
 exact rtn_fnM [D23v] (y69v.1, y69v.2) rfl rfl rfl (.sel 7 rfl (.sel 0 rfl (.sel 1 rfl (.sel 2 rfl (.sel 2 rfl (.sel 3 rfl (.nil _)))))))

def wire_NewReader.f (x0 : List UInt8) : Option (List UInt8 × Int × Int) := (wire_fresh.f x0).bind fun s1v => (some (s1v, 0, 0))
theorem wire_NewReader.calls (W : World) (F : HA) (a0 : Option Addr) (c0 : Nat) (x0 : List UInt8) (h0 : Rd F a0 (encB x0)) (hc0 : x0.length ≤ c0) (hm0 : c0 ≤ maxLen) :
    Fn Tryz.prog W 30 [.slice a0 x0.length c0] [] F (wire_NewReader.f x0) (fun (r : List UInt8 × Int × Int) (y : Nat × Option Addr × Nat) => .pointer (some ⟨y.1, 0, none⟩)) (fun r y => [obj y.1 125 [.slice y.2.1 r.1.length y.2.2, .int .i64 r.2.1, .int .i64 r.2.2], Row 5 1 y.2.1 r.1.length y.2.2 (encB r.1)]) := by
 unfold wire_NewReader.f
 refine fn_intro 7 Tryz.func30 rfl Tryz.ntmps30 rfl ?_
 refine sr ?_
 refine va rfl rfl (nx ?_)
 refine vm rfl rfl ?_
 refine simL_bind (fun s1v hs2v => ?_)
 refine simL_eff (re_call (vs := [.slice a0 x0.length c0]) (cap := []) (A := []) (rst := [F]) rfl rfl rfl rfl rfl rfl Tryz.call57 (.sel 0 rfl (.nil _)) (wire_fresh.calls _ _ a0 c0 x0 (h0.lend 0 rfl) hc0 hm0) hs2v) rfl rfl rfl ?_
 intro y3v
 refine vq (q_build (v := .agg #[.slice y3v.1 s1v.length y3v.2, .int .i64 0, .int .i64 0]) rfl rfl (fun _ => by kernel_rfl)) rfl ?_
 refine simL_eff (re_box rfl rfl rfl) rfl rfl rfl ?_
 intro b4v
 refine va rfl rfl (simL_nil (nrm_then (sim_rtn ?_)))
 exact rtn_fn (b4v, y3v.1, y3v.2) rfl rfl rfl (.sel 0 rfl (.sel 0 rfl (.sel 0 rfl (.nil _))))

def wire_Int.l0 (x0 : List UInt8) (x1 : Int) : Nat → Int → Int → Option ((Unit) ⊕ (Int × Int × Int))
  | 0, _, _ => none
  | k + 1, z7v, z8v => if z8v < (9 : Int) then (if IntKind.i64.wrap ((x0.length : Int) - x1) ≤ z8v then (some (.inr (0, 0, 2))) else (if 0 ≤ IntKind.i64.wrap (x1 + z8v) ∧ IntKind.i64.wrap (x1 + z8v) < (x0.length : Int) then (if 0 ≤ IntKind.i64.wrap (7 * z8v) then (if (128 : Int) ≤ ((x0.getD (IntKind.i64.wrap (x1 + z8v)).toNat 0).toNat : Int) then (wire_Int.l0 x0 x1 k (bitsV .or .i64 z7v (IntKind.i64.wrap ((IntKind.i64.wrap (bitsV .and .u8 ((x0.getD (IntKind.i64.wrap (x1 + z8v)).toNat 0).toNat : Int) 127)) * 2 ^ (min (IntKind.i64.wrap (7 * z8v)).toNat IntKind.i64.bits)))) (IntKind.i64.wrap (z8v + 1))) else (if ((decide (((x0.getD (IntKind.i64.wrap (x1 + z8v)).toNat 0).toNat : Int) = (0 : Int))) && (decide ((0 : Int) < z8v))) = true then (some (.inr (0, 0, 4))) else (if (4611686018427387904 : Int) < bitsV .or .i64 z7v (IntKind.i64.wrap ((IntKind.i64.wrap (bitsV .and .u8 ((x0.getD (IntKind.i64.wrap (x1 + z8v)).toNat 0).toNat : Int) 127)) * 2 ^ (min (IntKind.i64.wrap (7 * z8v)).toNat IntKind.i64.bits))) then (some (.inr (0, 0, 1))) else (some (.inr (bitsV .or .i64 z7v (IntKind.i64.wrap ((IntKind.i64.wrap (bitsV .and .u8 ((x0.getD (IntKind.i64.wrap (x1 + z8v)).toNat 0).toNat : Int) 127)) * 2 ^ (min (IntKind.i64.wrap (7 * z8v)).toNat IntKind.i64.bits))), IntKind.i64.wrap (z8v + 1), 0)))))) else none) else none)) else (some (.inl ()))
def wire_Int.f (k : Nat) (x0 : List UInt8) (x1 : Int) : Option (Int × Int × Int) := if ((decide (x1 < (0 : Int))) || (decide ((x0.length : Int) ≤ x1))) = true then (some (0, 0, 2)) else (orR (wire_Int.l0 x0 x1 k 0 0) fun s3v => (some (0, 0, 4)))
theorem wire_Int.calls (W : World) (F : HA) (k : Nat) (a0 : Option Addr) (c0 : Nat) (x0 : List UInt8) (x1 : Int) (h0 : Rd F a0 (encB x0)) (hc0 : x0.length ≤ c0) (hm0 : c0 ≤ maxLen) :
    Fn Tryz.prog W 104 [.slice a0 x0.length c0, .int .i64 x1] [] F (wire_Int.f k x0 x1) (fun (r : Int × Int × Int) (y : Unit) => .tuple #[.int .i64 r.1, .int .i64 r.2.1, .int .i64 r.2.2]) (fun r y => []) := by
 unfold wire_Int.f
 refine fn_intro 55 Tryz.func104 rfl Tryz.ntmps104 rfl ?_
 refine sr ?_
 refine va rfl rfl ?_
 refine va rfl rfl ?_
 refine va rfl rfl (simL_nil (nrm_then (sim_seq (sr ?_))))
 refine vm rfl rfl ?_
 refine vq (q_lss rfl rfl rfl) rfl ?_
 refine vm rfl rfl ?_
 refine simL_valc (b := decide (x1 < (0 : Int))) (fun hb29v => RQ.sub (E' := [(1, .int .i64 x1)]) ⟨rfl, trivial⟩ (q_move rfl rfl)) rfl rfl rfl rfl rfl ?_
 refine simL_valc (b := decide (x1 < (0 : Int))) (fun hb28v => RQ.sub (E' := [(0, .slice a0 x0.length c0)]) ⟨rfl, trivial⟩ (q_move rfl rfl)) rfl rfl rfl rfl rfl ?_
 refine simL_valc (b := decide (x1 < (0 : Int))) (fun hb27v => RQ.sub (E' := [(14, .slice a0 x0.length c0)]) ⟨lk_cv rfl hb27v, trivial⟩ (q_len rfl rfl rfl Tryz.underlying23)) rfl rfl rfl rfl rfl ?_
 refine simL_valc (b := decide (x1 < (0 : Int))) (fun hb26v => RQ.sub (E' := [(13, .int .i64 x1), (15, .int .i64 (x0.length : Int))]) ⟨lk_cv rfl hb26v, lk_cv rfl hb26v, trivial⟩ (q_geq rfl rfl rfl)) rfl rfl rfl rfl rfl ?_
 refine vq (q_or rfl rfl rfl) rfl (simL_nil (nrm_then ?_))
 refine sim_condb rfl (fun h1v => ?_) (fun h2v => ?_)
 refine sr ?_
 refine va rfl rfl ?_
 refine va rfl rfl ?_
 refine va rfl rfl (simL_nil (nrm_then (sim_rtn ?_)))
 refine rtn_then ?_
 exact rtn_fn () rfl rfl rfl (.sel 0 rfl (.nil _))
 refine sim_skip ?_
 refine nrm_then (sr ?_)
 refine va rfl rfl (simL_nil (nrm_then ?_))
 refine sim_cutR (S := Unit) (Unit) (fun s y => []) (fun s y => [F]) ?_ ?_
 refine sr ?_
 refine va rfl rfl (simL_nil (nrm_then ?_))
 refine sim_block ?_
 refine sim_loop (S := Int × Int) (Unit) (fun k s => wire_Int.l0 x0 x1 k s.1 s.2) (fun s y => [(0, .slice a0 x0.length c0), (1, .int .i64 x1), (7, .int .i64 s.1), (8, .int .i64 s.2)]) (fun s y => [F]) (fun _ => by rw [wire_Int.l0]) ?_ k (0, 0) () ⟨rfl, rfl, rfl, rfl, trivial⟩ (.sel 0 rfl (.nil _))
 intro k s5v y6v
 refine sim_eq (by rw [wire_Int.l0]) ?_
 refine sim_seq (sr ?_)
 refine vm rfl rfl ?_
 refine vq (q_lss rfl rfl rfl) rfl (simL_nil (nrm_then ?_))
 refine sim_cond rfl (fun h9v => ?_) (fun h10v => ?_)
 refine sim_skip ?_
 refine nrm_then (sim_seq ?_)
 refine sim_block ?_
 refine sim_seq (sr ?_)
 refine vm rfl rfl ?_
 refine vm rfl rfl ?_
 refine vq (q_len rfl rfl rfl Tryz.underlying23) rfl ?_
 refine vm rfl rfl ?_
 refine vq (q_sub rfl rfl rfl) rfl ?_
 refine vq (q_geq rfl rfl rfl) rfl (simL_nil (nrm_then ?_))
 refine sim_cond rfl (fun h11v => ?_) (fun h12v => ?_)
 refine sr ?_
 refine va rfl rfl ?_
 refine va rfl rfl ?_
 refine va rfl rfl (simL_nil (nrm_then (sim_rtn ?_)))
 refine rtn_then ?_
 refine rtn_block ?_
 refine rtn_then ?_
 refine rtn_loop ?_
 refine rtn_block ?_
 refine rtn_cutR ?_
 exact rtn_fn () rfl rfl rfl (.sel 0 rfl (.nil _))
 refine sim_skip ?_
 refine nrm_then (sr ?_)
 refine vm rfl rfl ?_
 refine vm rfl rfl ?_
 refine vm rfl rfl ?_
 refine vq (q_add rfl rfl rfl) rfl ?_
 refine simL_ask (fun hi13v => ?_)
 obtain ⟨b14v, b14vo, ha15v⟩ := h0.pos (encB_ne (j := (IntKind.i64.wrap (x1 + s5v.2)).toNat) (by omega))
 refine vq (q_idx1 rfl rfl rfl ha15v Tryz.underlying23 Tryz.sizeOf5 hi13v.1 hi13v.2) rfl ?_
 refine vq (q_load rfl rfl Tryz.isAgg5 (h0.cell 0 rfl ha15v (encB_get (by omega)))) rfl ?_
 refine va rfl rfl (nx ?_)
 refine vm rfl rfl ?_
 refine vm rfl rfl ?_
 refine vq (q_and_ rfl rfl rfl) rfl ?_
 refine vq (q_conv rfl rfl Tryz.underlying5 Tryz.underlying3) rfl ?_
 refine vm rfl rfl ?_
 refine vq (q_mul rfl rfl rfl) rfl ?_
 refine simL_ask (fun hb17v => ?_)
 refine vq (q_shl rfl rfl rfl hb17v) rfl ?_
 refine vq (q_or_ rfl rfl rfl) rfl ?_
 refine va rfl rfl (simL_nil (nrm_then (sim_seq (sr ?_))))
 refine vm rfl rfl ?_
 refine vq (q_geq rfl rfl rfl) rfl (simL_nil (nrm_then ?_))
 refine sim_cond rfl (fun h18v => ?_) (fun h19v => ?_)
 refine sim_exi ?_
 refine exi_then ?_
 refine exi_here ?_
 refine nrm_then (sim_region ?_)
 refine vm rfl rfl ?_
 refine vq (q_add rfl rfl rfl) rfl ?_
 refine va rfl rfl (simL_nil ?_)
 exact nrm_again (s := (bitsV .or .i64 s5v.1 (IntKind.i64.wrap ((IntKind.i64.wrap (bitsV .and .u8 ((x0.getD (IntKind.i64.wrap (x1 + s5v.2)).toNat 0).toNat : Int) 127)) * 2 ^ (min (IntKind.i64.wrap (7 * s5v.2)).toNat IntKind.i64.bits))), IntKind.i64.wrap (s5v.2 + 1))) () ⟨rfl, rfl, rfl, rfl, trivial⟩ (.sel 0 rfl (.nil _))
 refine sim_skip ?_
 refine nrm_then (sim_seq (sr ?_))
 refine vm rfl rfl ?_
 refine vq (q_eql rfl rfl rfl) rfl ?_
 refine vm rfl rfl ?_
 refine simL_valc (b := decide (((x0.getD (IntKind.i64.wrap (x1 + s5v.2)).toNat 0).toNat : Int) = (0 : Int))) (fun hb25v => RQ.sub (E' := [(8, .int .i64 s5v.2)]) ⟨rfl, trivial⟩ (q_move rfl rfl)) rfl rfl rfl rfl rfl ?_
 refine simL_valc (b := decide (((x0.getD (IntKind.i64.wrap (x1 + s5v.2)).toNat 0).toNat : Int) = (0 : Int))) (fun hb24v => RQ.sub (E' := [(47, .int .i64 s5v.2)]) ⟨lk_cv rfl hb24v, trivial⟩ (q_gtr rfl rfl rfl)) rfl rfl rfl rfl rfl ?_
 refine vq (q_and rfl rfl rfl) rfl (simL_nil (nrm_then ?_))
 refine sim_condb rfl (fun h20v => ?_) (fun h21v => ?_)
 refine sr ?_
 refine va rfl rfl ?_
 refine va rfl rfl ?_
 refine va rfl rfl (simL_nil (nrm_then (sim_rtn ?_)))
 refine rtn_then ?_
 refine rtn_block ?_
 refine rtn_then ?_
 refine rtn_loop ?_
 refine rtn_block ?_
 refine rtn_cutR ?_
 exact rtn_fn () rfl rfl rfl (.sel 0 rfl (.nil _))
 refine sim_skip ?_
 refine nrm_then (sim_seq (sr ?_))
 refine vm rfl rfl ?_
 refine vq (q_gtr rfl rfl rfl) rfl (simL_nil (nrm_then ?_))
 refine sim_cond rfl (fun h22v => ?_) (fun h23v => ?_)
 refine sr ?_
 refine va rfl rfl ?_
 refine va rfl rfl ?_
 refine va rfl rfl (simL_nil (nrm_then (sim_rtn ?_)))
 refine rtn_then ?_
 refine rtn_block ?_
 refine rtn_then ?_
 refine rtn_loop ?_
 refine rtn_block ?_
 refine rtn_cutR ?_
 exact rtn_fn () rfl rfl rfl (.sel 0 rfl (.nil _))
 refine sim_skip ?_
 refine nrm_then (sr ?_)
 refine vm rfl rfl ?_
 refine vm rfl rfl ?_
 refine vq (q_add rfl rfl rfl) rfl ?_
 refine va rfl rfl ?_
 refine va rfl rfl ?_
 refine va rfl rfl (simL_nil (nrm_then (sim_rtn ?_)))
 refine rtn_block ?_
 refine rtn_then ?_
 refine rtn_loop ?_
 refine rtn_block ?_
 refine rtn_cutR ?_
 exact rtn_fn () rfl rfl rfl (.sel 0 rfl (.nil _))
 refine sim_exi ?_
 refine exi_then ?_
 refine exi_loop ?_
 refine exi_here ?_
 exact nrm_cutR (s := ()) () trivial (.sel 0 rfl (.nil _))
 intro s3v y4v
 refine sr ?_
 refine va rfl rfl ?_
 refine va rfl rfl ?_
 refine va rfl rfl (simL_nil (nrm_then (sim_rtn ?_)))
 exact rtn_fn () rfl rfl rfl (.sel 0 rfl (.nil _))

def wire_Reader_look.f (k : Nat) (x0_0 : List UInt8) (x0_1 : Int) (x0_2 : Int) : Option (Int × Int × Bool × Int × Int) := if x0_2 = (0 : Int) then ((wire_Int.f k x0_0 x0_1).bind fun s3v => (some (s3v.1, s3v.2.1, decide (s3v.2.2 = (0 : Int)), x0_1, s3v.2.2))) else (some (0, 0, false, x0_1, x0_2))
theorem wire_Reader_look.calls (W : World) (F : HA) (k : Nat) (b0 : Nat) (a0_0 : Option Addr) (c0_0 : Nat) (x0_0 : List UInt8) (x0_1 : Int) (x0_2 : Int) (h0_0 : Rd F a0_0 (encB x0_0)) (hc0_0 : x0_0.length ≤ c0_0) (hm0_0 : c0_0 ≤ maxLen) :
    Fn Tryz.prog W 95 [.pointer (some ⟨b0, 0, none⟩)] [obj b0 125 [.slice a0_0 x0_0.length c0_0, .int .i64 x0_1, .int .i64 x0_2]] F (wire_Reader_look.f k x0_0 x0_1 x0_2) (fun (r : Int × Int × Bool × Int × Int) (y : Unit) => .tuple #[.int .i64 r.1, .int .i64 r.2.1, .bool r.2.2.1]) (fun r y => [obj b0 125 [.slice a0_0 x0_0.length c0_0, .int .i64 r.2.2.2.1, .int .i64 r.2.2.2.2]]) := by
 unfold wire_Reader_look.f
 refine fn_intro 34 Tryz.func95 rfl Tryz.ntmps95 rfl ?_
 refine sr ?_
 refine va rfl rfl ?_
 refine va rfl rfl ?_
 refine va rfl rfl (simL_nil (nrm_then (sim_seq (sr ?_))))
 refine vm rfl rfl ?_
 refine vn rfl rfl ?_
 refine vq (q_fa rfl rfl Tryz.underlying125 rfl rfl Tryz.sizeOf31 rfl) rfl ?_
 refine vq (q_load rfl rfl Tryz.isAgg31 (.obj 0 rfl rfl)) rfl ?_
 refine vq (q_neq rfl rfl rfl) rfl (simL_nil (nrm_then ?_))
 refine sim_condn rfl (fun h1v => ?_) (fun h2v => ?_)
 refine sim_skip ?_
 refine nrm_then (sim_seq ?_)
 refine sim_bind (fun s3v hs4v => ?_)
 refine sim_draw (Γ := Unit) () [[], [0], [0, 1], [0, 1, 2], [], [4], [4, 5], [4, 5, 6], rL 8, rL 9, rL 10, rL 10, rL 10, rL 11, [0, 1, 2, 3, 4, 5, 6, 7, 8, 9, 10, 11, 13], rL 15] [8] [0, 1, 2, 3, 4, 5, 6, 7, 9, 10, 11, 12, 13, 14, 15] (fun i => [[0], [0], [0], [0], [0], [0], [0], [0], [], [1], [1], [1], [1], [1], [1], [1]].getD i []) (fun i => [[], [], [], [], [], [], [], [], rL 8, [], [], [], [], [], [], []].getD i []) (fun γ i => [.pointer (some ⟨b0, 0, none⟩), .pointer (some ⟨b0, 0, none⟩), .pointer (some ⟨b0, 0, none⟩), .slice a0_0 x0_0.length c0_0, .pointer (some ⟨b0, 0, none⟩), .pointer (some ⟨b0, 0, none⟩), .pointer (some ⟨b0, 1, none⟩), .int .i64 x0_1, .tuple #[.int .i64 s3v.1, .int .i64 s3v.2.1, .int .i64 s3v.2.2], .tuple #[.int .i64 s3v.1, .int .i64 s3v.2.1, .int .i64 s3v.2.2], .int .i64 s3v.1, .int .i64 s3v.2.1, .int .i64 s3v.2.2, .int .i64 s3v.1, .int .i64 s3v.2.1, .int .i64 s3v.2.2].getD i undef) (fun j γ => [[obj b0 125 [.slice a0_0 x0_0.length c0_0, .int .i64 x0_1, .int .i64 x0_2], F], [obj b0 125 [.slice a0_0 x0_0.length c0_0, .int .i64 x0_1, .int .i64 x0_2], F]].getD j []) (fun γ => [(0, .pointer (some ⟨b0, 0, none⟩)), (5, .int .i64 s3v.1), (6, .int .i64 s3v.2.1), (7, .int .i64 s3v.2.2)]) mixed (by decide) (by decide) (by decide) (by decide) (by decide) (by decide) (by decide) 34 rfl (by decide) (by decide) (by decide) (Ent.refl _) ?_ ?_ (fun _ => ⟨rfl, rfl, rfl, rfl, trivial⟩) ?_
 exact (aq rfl (fun γ => qm rfl (.o (s := 0) rfl (by decide) .nil) rfl) (aq rfl (fun γ => qp rfl rfl (.v 0 rfl rfl .nil) (q_nil rfl rfl) rfl) (aq rfl (fun γ => qp rfl rfl (.v 1 rfl rfl .nil) (q_fa rfl rfl Tryz.underlying125 rfl rfl Tryz.sizeOf23 rfl) rfl) (aq rfl (fun γ => qp rfl rfl (.v 2 rfl rfl .nil) (q_load rfl rfl Tryz.isAgg23 (.obj 0 rfl rfl)) rfl) (aq rfl (fun γ => qm rfl (.o (s := 0) rfl (by decide) .nil) rfl) (aq rfl (fun γ => qp rfl rfl (.v 4 rfl rfl .nil) (q_nil rfl rfl) rfl) (aq rfl (fun γ => qp rfl rfl (.v 5 rfl rfl .nil) (q_fa rfl rfl Tryz.underlying125 rfl rfl Tryz.sizeOf3 rfl) rfl) (aq rfl (fun γ => qp rfl rfl (.v 6 rfl rfl .nil) (q_load rfl rfl Tryz.isAgg3 (.obj 0 rfl rfl)) rfl) (aq rfl (fun γ => qm rfl (.v 8 rfl rfl .nil) rfl) (aq rfl (fun γ => qp rfl rfl (.v 9 rfl rfl .nil) (q_ext rfl rfl rfl) rfl) (aq rfl (fun γ => qp rfl rfl (.v 9 rfl rfl .nil) (q_ext rfl rfl rfl) rfl) (aq rfl (fun γ => qp rfl rfl (.v 9 rfl rfl .nil) (q_ext rfl rfl rfl) rfl) (aq rfl (fun γ => qp rfl rfl (.v 10 rfl rfl .nil) (q_asg rfl rfl) rfl) (aq rfl (fun γ => qp rfl rfl (.v 11 rfl rfl .nil) (q_asg rfl rfl) rfl) (aq rfl (fun γ => qp rfl rfl (.v 12 rfl rfl .nil) (q_asg rfl rfl) rfl) zA)))))))))))))))
 exact (ac (fun γ => eo (Z := Unit) (fun z => ()) rfl rfl (.v 3 rfl rfl (.v 7 rfl rfl .nil)) (re_call (vs := [.slice a0_0 x0_0.length c0_0, .int .i64 x0_1]) (cap := []) (A := []) (rst := [obj b0 125 [.slice a0_0 x0_0.length c0_0, .int .i64 x0_1, .int .i64 x0_2], F]) rfl rfl rfl rfl rfl rfl Tryz.call104 (.sel 0 rfl (.sel 0 rfl (.nil _))) (wire_Int.calls _ _ k a0_0 c0_0 x0_0 x0_1 (h0_0.lend 1 rfl) hc0_0 hm0_0) hs4v) (fun _ => ⟨rfl, rfl, rfl, rfl, rfl, rfl, rfl, rfl, trivial⟩) (fun _ => .inr rfl) (fun z => Ent.refl _)) zA)
 intro g6v
 refine nrm_then (sr ?_)
 refine vm rfl rfl ?_
 refine vm rfl rfl ?_
 refine vn rfl rfl ?_
 refine vq (q_fa rfl rfl Tryz.underlying125 rfl rfl Tryz.sizeOf31 rfl) rfl ?_
 refine simL_do (re_store 0 rfl rfl rfl Tryz.sizeOf31 rfl rfl (one_of (by rfl)) rfl rfl) rfl rfl ?_
 intro _
 refine nx ?_
 refine vm rfl rfl ?_
 refine vm rfl rfl ?_
 refine vm rfl rfl ?_
 refine vq (q_eql rfl rfl rfl) rfl ?_
 refine va rfl rfl ?_
 refine va rfl rfl ?_
 refine va rfl rfl (simL_nil (nrm_then (sim_rtn ?_)))
 exact rtn_fn () rfl rfl rfl (.sel 0 rfl (.sel 0 rfl (.nil _)))
 refine sr ?_
 refine va rfl rfl ?_
 refine va rfl rfl ?_
 refine va rfl rfl (simL_nil (nrm_then (sim_rtn ?_)))
 refine rtn_then ?_
 exact rtn_fn () rfl rfl rfl (.sel 0 rfl (.sel 0 rfl (.nil _)))

def wire_Reader_Int.f (k : Nat) (x0_0 : List UInt8) (x0_1 : Int) (x0_2 : Int) : Option (Int × Int × Int) := (wire_Reader_look.f k x0_0 x0_1 x0_2).bind fun s1v => (if (!s1v.2.2.1) = true then (some (0, s1v.2.2.2.1, s1v.2.2.2.2)) else (some (s1v.1, IntKind.i64.wrap (s1v.2.2.2.1 + s1v.2.1), s1v.2.2.2.2)))
theorem wire_Reader_Int.calls (W : World) (F : HA) (k : Nat) (b0 : Nat) (a0_0 : Option Addr) (c0_0 : Nat) (x0_0 : List UInt8) (x0_1 : Int) (x0_2 : Int) (h0_0 : Rd F a0_0 (encB x0_0)) (hc0_0 : x0_0.length ≤ c0_0) (hm0_0 : c0_0 ≤ maxLen) :
    Fn Tryz.prog W 59 [.pointer (some ⟨b0, 0, none⟩)] [obj b0 125 [.slice a0_0 x0_0.length c0_0, .int .i64 x0_1, .int .i64 x0_2]] F (wire_Reader_Int.f k x0_0 x0_1 x0_2) (fun (r : Int × Int × Int) (y : Unit) => .int .i64 r.1) (fun r y => [obj b0 125 [.slice a0_0 x0_0.length c0_0, .int .i64 r.2.1, .int .i64 r.2.2]]) := by
 unfold wire_Reader_Int.f
 refine fn_intro 23 Tryz.func59 rfl Tryz.ntmps59 rfl ?_
 refine sr ?_
 refine va rfl rfl (nx ?_)
 refine vm rfl rfl ?_
 refine simL_bind (fun s1v hs2v => ?_)
 refine simL_eff (re_call (vs := [.pointer (some ⟨b0, 0, none⟩)]) (cap := []) (A := [obj b0 125 [.slice a0_0 x0_0.length c0_0, .int .i64 x0_1, .int .i64 x0_2]]) (rst := [F]) rfl rfl rfl rfl rfl rfl Tryz.call95 (.sel 0 rfl (.sel 0 rfl (.nil _))) (wire_Reader_look.calls _ _ k b0 a0_0 c0_0 x0_0 x0_1 x0_2 (h0_0.lend 0 rfl) hc0_0 hm0_0) hs2v) rfl rfl rfl ?_
 intro y3v
 refine vm rfl rfl ?_
 refine vq (q_ext rfl rfl rfl) rfl ?_
 refine vq (q_ext rfl rfl rfl) rfl ?_
 refine vq (q_ext rfl rfl rfl) rfl ?_
 refine va rfl rfl ?_
 refine va rfl rfl ?_
 refine va rfl rfl (simL_nil (nrm_then (sim_seq (sr ?_))))
 refine vm rfl rfl ?_
 refine vq (q_not rfl rfl) rfl (simL_nil (nrm_then ?_))
 refine sim_condb rfl (fun h4v => ?_) (fun h5v => ?_)
 refine sr ?_
 refine va rfl rfl (simL_nil (nrm_then (sim_rtn ?_)))
 refine rtn_then ?_
 exact rtn_fn () rfl rfl rfl (.sel 0 rfl (.sel 0 rfl (.nil _)))
 refine sim_skip ?_
 refine nrm_then (sr ?_)
 refine vm rfl rfl ?_
 refine vn rfl rfl ?_
 refine vq (q_fa rfl rfl Tryz.underlying125 rfl rfl Tryz.sizeOf3 rfl) rfl ?_
 refine vq (q_load rfl rfl Tryz.isAgg3 (.obj 0 rfl rfl)) rfl ?_
 refine vm rfl rfl ?_
 refine vq (q_add rfl rfl rfl) rfl ?_
 refine vn rfl rfl ?_
 refine vq (q_fa rfl rfl Tryz.underlying125 rfl rfl Tryz.sizeOf3 rfl) rfl ?_
 refine simL_do (re_store 0 rfl rfl rfl Tryz.sizeOf3 rfl rfl (one_of (by rfl)) rfl rfl) rfl rfl ?_
 intro _
 refine nx ?_
 refine vm rfl rfl ?_
 refine va rfl rfl (simL_nil (nrm_then (sim_rtn ?_)))
 exact rtn_fn () rfl rfl rfl (.sel 0 rfl (.sel 0 rfl (.nil _)))

def wire_Reader_At.f (x0_0 : List UInt8) (x0_1 : Int) (x0_2 : Int) : Option (Int) := some x0_1
theorem wire_Reader_At.calls (W : World) (F : HA) (b0 : Nat) (a0_0 : Option Addr) (c0_0 : Nat) (x0_0 : List UInt8) (x0_1 : Int) (x0_2 : Int) (h0_0 : Rd F a0_0 (encB x0_0)) (hc0_0 : x0_0.length ≤ c0_0) (hm0_0 : c0_0 ≤ maxLen) :
    Fn Tryz.prog W 94 [.pointer (some ⟨b0, 0, none⟩)] [obj b0 125 [.slice a0_0 x0_0.length c0_0, .int .i64 x0_1, .int .i64 x0_2]] F (wire_Reader_At.f x0_0 x0_1 x0_2) (fun (r : Int) (y : Unit) => .int .i64 r) (fun r y => [obj b0 125 [.slice a0_0 x0_0.length c0_0, .int .i64 x0_1, .int .i64 x0_2]]) := by
 unfold wire_Reader_At.f
 refine fn_intro 7 Tryz.func94 rfl Tryz.ntmps94 rfl ?_
 refine sr ?_
 refine va rfl rfl (nx ?_)
 refine vm rfl rfl ?_
 refine vn rfl rfl ?_
 refine vq (q_fa rfl rfl Tryz.underlying125 rfl rfl Tryz.sizeOf3 rfl) rfl ?_
 refine vq (q_load rfl rfl Tryz.isAgg3 (.obj 0 rfl rfl)) rfl ?_
 refine va rfl rfl (simL_nil (nrm_then (sim_rtn ?_)))
 exact rtn_fn () rfl rfl rfl (.sel 0 rfl (.sel 0 rfl (.nil _)))

def wire_Reader_Left.f (x0_0 : List UInt8) (x0_1 : Int) (x0_2 : Int) : Option (Int) := some (IntKind.i64.wrap ((x0_0.length : Int) - x0_1))
theorem wire_Reader_Left.calls (W : World) (F : HA) (b0 : Nat) (a0_0 : Option Addr) (c0_0 : Nat) (x0_0 : List UInt8) (x0_1 : Int) (x0_2 : Int) (h0_0 : Rd F a0_0 (encB x0_0)) (hc0_0 : x0_0.length ≤ c0_0) (hm0_0 : c0_0 ≤ maxLen) :
    Fn Tryz.prog W 73 [.pointer (some ⟨b0, 0, none⟩)] [obj b0 125 [.slice a0_0 x0_0.length c0_0, .int .i64 x0_1, .int .i64 x0_2]] F (wire_Reader_Left.f x0_0 x0_1 x0_2) (fun (r : Int) (y : Unit) => .int .i64 r) (fun r y => [obj b0 125 [.slice a0_0 x0_0.length c0_0, .int .i64 x0_1, .int .i64 x0_2]]) := by
 unfold wire_Reader_Left.f
 refine fn_intro 13 Tryz.func73 rfl Tryz.ntmps73 rfl ?_
 refine sr ?_
 refine va rfl rfl (simL_nil (nrm_then (sim_seq ?_)))
 refine sim_draw (Γ := Unit) () [[], [0], [0, 1], [0, 1, 2], rL 4, [], [5], [5, 6], [5, 6, 7], rL 9, rL 10] [] [0, 1, 2, 3, 4, 5, 6, 7, 8, 9, 10] (fun i => [[0], [0], [0], [0], [0], [0], [0], [0], [0], [0], [0]].getD i []) (fun i => [[], [], [], [], [], [], [], [], [], [], []].getD i []) (fun γ i => [.pointer (some ⟨b0, 0, none⟩), .pointer (some ⟨b0, 0, none⟩), .pointer (some ⟨b0, 0, none⟩), .slice a0_0 x0_0.length c0_0, .int .i64 (x0_0.length : Int), .pointer (some ⟨b0, 0, none⟩), .pointer (some ⟨b0, 0, none⟩), .pointer (some ⟨b0, 1, none⟩), .int .i64 x0_1, .int .i64 (IntKind.i64.wrap ((x0_0.length : Int) - x0_1)), .int .i64 (IntKind.i64.wrap ((x0_0.length : Int) - x0_1))].getD i undef) (fun j γ => [[obj b0 125 [.slice a0_0 x0_0.length c0_0, .int .i64 x0_1, .int .i64 x0_2], F]].getD j []) (fun γ => [(2, .int .i64 (IntKind.i64.wrap ((x0_0.length : Int) - x0_1)))]) mixed (by decide) (by decide) (by decide) (by decide) (by decide) (by decide) (by decide) 13 rfl (by decide) (by decide) (by decide) (Ent.refl _) ?_ ?_ (fun _ => ⟨rfl, trivial⟩) ?_
 exact (aq rfl (fun γ => qm rfl (.o (s := 0) rfl (by decide) .nil) rfl) (aq rfl (fun γ => qp rfl rfl (.v 0 rfl rfl .nil) (q_nil rfl rfl) rfl) (aq rfl (fun γ => qp rfl rfl (.v 1 rfl rfl .nil) (q_fa rfl rfl Tryz.underlying125 rfl rfl Tryz.sizeOf23 rfl) rfl) (aq rfl (fun γ => qp rfl rfl (.v 2 rfl rfl .nil) (q_load rfl rfl Tryz.isAgg23 (.obj 0 rfl rfl)) rfl) (aq rfl (fun γ => qp rfl rfl (.v 3 rfl rfl .nil) (q_len rfl rfl rfl Tryz.underlying23) rfl) (aq rfl (fun γ => qm rfl (.o (s := 0) rfl (by decide) .nil) rfl) (aq rfl (fun γ => qp rfl rfl (.v 5 rfl rfl .nil) (q_nil rfl rfl) rfl) (aq rfl (fun γ => qp rfl rfl (.v 6 rfl rfl .nil) (q_fa rfl rfl Tryz.underlying125 rfl rfl Tryz.sizeOf3 rfl) rfl) (aq rfl (fun γ => qp rfl rfl (.v 7 rfl rfl .nil) (q_load rfl rfl Tryz.isAgg3 (.obj 0 rfl rfl)) rfl) (aq rfl (fun γ => qp rfl rfl (.v 4 rfl rfl (.v 8 rfl rfl .nil)) (q_sub rfl rfl rfl) rfl) (aq rfl (fun γ => qp rfl rfl (.v 9 rfl rfl .nil) (q_asg rfl rfl) rfl) zA)))))))))))
 exact zA
 intro g1v
 refine nrm_then (sim_rtn ?_)
 exact rtn_fn () rfl rfl rfl (.sel 0 rfl (.sel 0 rfl (.nil _)))
def wire_Reader_Left.v (x0_0 : List UInt8) (x0_1 : Int) (x0_2 : Int) : Int := (wire_Reader_Left.f x0_0 x0_1 x0_2).getD 0
theorem wire_Reader_Left.tot (x0_0 : List UInt8) (x0_1 : Int) (x0_2 : Int) : wire_Reader_Left.f x0_0 x0_1 x0_2 = some (wire_Reader_Left.v x0_0 x0_1 x0_2) := by
  have h : ∃ r, wire_Reader_Left.f x0_0 x0_1 x0_2 = some r := by
    unfold wire_Reader_Left.f
    repeat' (first | exact ⟨_, rfl⟩ | split | simp only [Option.bind_some])
  obtain ⟨r, h⟩ := h
  unfold wire_Reader_Left.v
  rw [h]; rfl

def wire_Reader_Done.f (x0_0 : List UInt8) (x0_1 : Int) (x0_2 : Int) : Option (Int) := (if x0_2 = (0 : Int) then ((wire_Reader_Left.f x0_0 x0_1 x0_2).bind fun s3v => (some (decide ((0 : Int) < s3v)))) else (some false)).bind fun s1v => (if s1v = true then (some 3) else (some x0_2))
theorem wire_Reader_Done.calls (W : World) (F : HA) (b0 : Nat) (a0_0 : Option Addr) (c0_0 : Nat) (x0_0 : List UInt8) (x0_1 : Int) (x0_2 : Int) (h0_0 : Rd F a0_0 (encB x0_0)) (hc0_0 : x0_0.length ≤ c0_0) (hm0_0 : c0_0 ≤ maxLen) :
    Fn Tryz.prog W 33 [.pointer (some ⟨b0, 0, none⟩)] [obj b0 125 [.slice a0_0 x0_0.length c0_0, .int .i64 x0_1, .int .i64 x0_2]] F (wire_Reader_Done.f x0_0 x0_1 x0_2) (fun (r : Int) (y : Unit) => .int .i64 r) (fun r y => [obj b0 125 [.slice a0_0 x0_0.length c0_0, .int .i64 x0_1, .int .i64 x0_2]]) := by
 unfold wire_Reader_Done.f
 refine fn_intro 17 Tryz.func33 rfl Tryz.ntmps33 rfl ?_
 refine sr ?_
 refine va rfl rfl (simL_nil (nrm_then (sim_seq (sr ?_))))
 refine vm rfl rfl ?_
 refine vn rfl rfl ?_
 refine vq (q_fa rfl rfl Tryz.underlying125 rfl rfl Tryz.sizeOf31 rfl) rfl ?_
 refine vq (q_load rfl rfl Tryz.isAgg31 (.obj 0 rfl rfl)) rfl ?_
 refine vq (q_eql rfl rfl rfl) rfl ?_
 refine vm rfl rfl ?_
 refine simL_cut' 4 (S := Bool) (Unit) (fun s y => [(0, .pointer (some ⟨b0, 0, none⟩)), (12, .bool s)]) (fun s y => [obj b0 125 [.slice a0_0 x0_0.length c0_0, .int .i64 x0_1, .int .i64 x0_2], F]) ?_ ?_
 refine simL_casep (fun hb6v => ?_) (fun hb7v => ?_)
 rw [hb6v]
 refine simL_valg (q_move rfl rfl) rfl rfl rfl rfl rfl rfl ?_
 refine simL_bind (fun s3v hs4v => ?_)
 refine simL_effg (re_call (vs := [.pointer (some ⟨b0, 0, none⟩)]) (cap := []) (A := [obj b0 125 [.slice a0_0 x0_0.length c0_0, .int .i64 x0_1, .int .i64 x0_2]]) (rst := [F]) rfl rfl rfl rfl rfl rfl Tryz.call73 (.sel 0 rfl (.sel 0 rfl (.nil _))) (wire_Reader_Left.calls _ _ b0 a0_0 c0_0 x0_0 x0_1 x0_2 (h0_0.lend 0 rfl) hc0_0 hm0_0) hs4v) rfl rfl rfl rfl rfl rfl ?_
 intro y5v
 refine simL_valg (q_gtr rfl rfl rfl) rfl rfl rfl rfl rfl rfl ?_
 refine vq (q_pick rfl rfl rfl rfl rfl) rfl (simL_nil ?_)
 exact nrm_cut (s := decide ((0 : Int) < s3v)) () ⟨rfl, rfl, trivial⟩ (.sel 0 rfl (.sel 0 rfl (.nil _)))
 rw [hb7v]
 refine simL_skipd rfl rfl rfl rfl rfl rfl ?_
 refine simL_skipd rfl rfl rfl rfl rfl rfl ?_
 refine simL_skipd rfl rfl rfl rfl rfl rfl ?_
 refine vq (q_pick rfl rfl rfl rfl rfl) rfl (simL_nil ?_)
 exact nrm_cut (s := false) () ⟨rfl, rfl, trivial⟩ (.sel 0 rfl (.sel 0 rfl (.nil _)))
 intro s1v y2v
 refine simL_nil (nrm_then ?_)
 refine sim_condb rfl (fun h8v => ?_) (fun h9v => ?_)
 refine sr ?_
 refine va rfl rfl (simL_nil (nrm_then (sim_rtn ?_)))
 refine rtn_then ?_
 exact rtn_fn () rfl rfl rfl (.sel 0 rfl (.sel 0 rfl (.nil _)))
 refine sim_skip ?_
 refine nrm_then (sr ?_)
 refine vm rfl rfl ?_
 refine vn rfl rfl ?_
 refine vq (q_fa rfl rfl Tryz.underlying125 rfl rfl Tryz.sizeOf31 rfl) rfl ?_
 refine vq (q_load rfl rfl Tryz.isAgg31 (.obj 0 rfl rfl)) rfl ?_
 refine va rfl rfl (simL_nil (nrm_then (sim_rtn ?_)))
 exact rtn_fn () rfl rfl rfl (.sel 0 rfl (.sel 0 rfl (.nil _)))

def kv_reader_pairs_1.f (x0 : Int) : Option (Bool) := some (decide (x0 ≤ (128 : Int)))
theorem kv_reader_pairs_1.calls (W : World) (F : HA) (x0 : Int)  :
    Fn Tryz.prog W 60 [.int .i64 x0] [] F (kv_reader_pairs_1.f x0) (fun (r : Bool) (y : Unit) => .bool r) (fun r y => []) := by
 unfold kv_reader_pairs_1.f
 refine fn_intro 5 Tryz.func60 rfl Tryz.ntmps60 rfl ?_
 refine sr ?_
 refine va rfl rfl (nx ?_)
 refine vm rfl rfl ?_
 refine vq (q_leq rfl rfl rfl) rfl ?_
 refine va rfl rfl (simL_nil (nrm_then (sim_rtn ?_)))
 exact rtn_fn () rfl rfl rfl (.sel 0 rfl (.nil _))

def wire_Reader_Bytes.f (k : Nat) (x0_0 : List UInt8) (x0_1 : Int) (x0_2 : Int) (x1 : Int) : Option (List UInt8 × Int × Int) := (wire_Reader_look.f k x0_0 x0_1 x0_2).bind fun s1v => (if (!s1v.2.2.1) = true then (some (([] : List UInt8), s1v.2.2.2.1, s1v.2.2.2.2)) else (if max x1 (0 : Int) < s1v.1 then (some (([] : List UInt8), s1v.2.2.2.1, 3)) else (if IntKind.i64.wrap ((IntKind.i64.wrap ((x0_0.length : Int) - s1v.2.2.2.1)) - s1v.2.1) < s1v.1 then (some (([] : List UInt8), s1v.2.2.2.1, 2)) else (if 0 ≤ IntKind.i64.wrap (s1v.2.2.2.1 + s1v.2.1) ∧ IntKind.i64.wrap (s1v.2.2.2.1 + s1v.2.1) ≤ IntKind.i64.wrap ((IntKind.i64.wrap (s1v.2.2.2.1 + s1v.2.1)) + s1v.1) ∧ IntKind.i64.wrap ((IntKind.i64.wrap (s1v.2.2.2.1 + s1v.2.1)) + s1v.1) ≤ (x0_0.length : Int) then ((wire_fresh.f (cut x0_0 (IntKind.i64.wrap (s1v.2.2.2.1 + s1v.2.1)) (IntKind.i64.wrap ((IntKind.i64.wrap (s1v.2.2.2.1 + s1v.2.1)) + s1v.1)))).bind fun s18v => (some (s18v, IntKind.i64.wrap ((IntKind.i64.wrap (s1v.2.2.2.1 + s1v.2.1)) + s1v.1), s1v.2.2.2.2))) else none))))
theorem wire_Reader_Bytes.calls (W : World) (F : HA) (k : Nat) (b0 : Nat) (a0_0 : Option Addr) (c0_0 : Nat) (x0_0 : List UInt8) (x0_1 : Int) (x0_2 : Int) (x1 : Int) (h0_0 : Rd F a0_0 (encB x0_0)) (hc0_0 : x0_0.length ≤ c0_0) (hm0_0 : c0_0 ≤ maxLen) :
    Fn Tryz.prog W 96 [.pointer (some ⟨b0, 0, none⟩), .int .i64 x1] [obj b0 125 [.slice a0_0 x0_0.length c0_0, .int .i64 x0_1, .int .i64 x0_2]] F (wire_Reader_Bytes.f k x0_0 x0_1 x0_2 x1) (fun (r : List UInt8 × Int × Int) (y : Option Addr × Nat) => .slice y.1 r.1.length y.2) (fun r y => [Row 5 1 y.1 r.1.length y.2 (encB r.1), obj b0 125 [.slice a0_0 x0_0.length c0_0, .int .i64 r.2.1, .int .i64 r.2.2]]) := by
 unfold wire_Reader_Bytes.f
 refine fn_intro 67 Tryz.func96 rfl Tryz.ntmps96 rfl ?_
 refine sr ?_
 refine va rfl rfl (nx ?_)
 refine vm rfl rfl ?_
 refine simL_bind (fun s1v hs2v => ?_)
 refine simL_eff (re_call (vs := [.pointer (some ⟨b0, 0, none⟩)]) (cap := []) (A := [obj b0 125 [.slice a0_0 x0_0.length c0_0, .int .i64 x0_1, .int .i64 x0_2]]) (rst := [F]) rfl rfl rfl rfl rfl rfl Tryz.call95 (.sel 0 rfl (.sel 0 rfl (.nil _))) (wire_Reader_look.calls _ _ k b0 a0_0 c0_0 x0_0 x0_1 x0_2 (h0_0.lend 0 rfl) hc0_0 hm0_0) hs2v) rfl rfl rfl ?_
 intro y3v
 refine vm rfl rfl ?_
 refine vq (q_ext rfl rfl rfl) rfl ?_
 refine vq (q_ext rfl rfl rfl) rfl ?_
 refine vq (q_ext rfl rfl rfl) rfl ?_
 refine va rfl rfl ?_
 refine va rfl rfl ?_
 refine va rfl rfl (simL_nil (nrm_then (sim_seq ?_)))
 refine sim_block ?_
 refine sr ?_
 refine vm rfl rfl ?_
 refine vq (q_not rfl rfl) rfl ?_
 refine va rfl rfl (simL_nil (nrm_then ?_))
 refine sim_condb rfl (fun h4v => ?_) (fun h5v => ?_)
 refine sr ?_
 refine va rfl rfl (simL_nil (nrm_then (sim_rtn ?_)))
 refine rtn_block ?_
 refine rtn_then ?_
 exact rtn_fn (none, 0) rfl rfl rfl (.row_nil (.sel 0 rfl (.sel 0 rfl (.nil _))))
 refine sr ?_
 refine vm rfl rfl ?_
 refine vm rfl rfl ?_
 refine vq (q_max rfl rfl rfl) rfl ?_
 refine vq (q_gtr rfl rfl rfl) rfl ?_
 refine va rfl rfl (simL_nil (nrm_then ?_))
 refine sim_cond rfl (fun h6v => ?_) (fun h7v => ?_)
 refine sr ?_
 refine vm rfl rfl ?_
 refine vn rfl rfl ?_
 refine vq (q_fa rfl rfl Tryz.underlying125 rfl rfl Tryz.sizeOf31 rfl) rfl ?_
 refine simL_do (re_store 0 rfl rfl rfl Tryz.sizeOf31 rfl rfl (one_of (by rfl)) rfl rfl) rfl rfl ?_
 intro _
 refine nx ?_
 refine va rfl rfl (simL_nil (nrm_then (sim_rtn ?_)))
 refine rtn_block ?_
 refine rtn_then ?_
 exact rtn_fn (none, 0) rfl rfl rfl (.row_nil (.sel 0 rfl (.sel 0 rfl (.nil _))))
 refine sim_seq ?_
 refine sim_draw (Γ := Unit) () [[], [], [1], [1, 2], [1, 2, 3], [1, 2, 3, 4], [], [6], [6, 7], [6, 7, 8], [1, 2, 3, 4, 5, 6, 7, 8, 9], [], [1, 2, 3, 4, 5, 6, 7, 8, 9, 10, 11], rL 13, rL 14] [] [0, 1, 2, 3, 4, 5, 6, 7, 8, 9, 10, 11, 12, 13, 14] (fun i => [[0], [0], [0], [0], [0], [0], [0], [0], [0], [0], [0], [0], [0], [0], [0]].getD i []) (fun i => [[], [], [], [], [], [], [], [], [], [], [], [], [], [], []].getD i []) (fun γ i => [.int .i64 s1v.1, .pointer (some ⟨b0, 0, none⟩), .pointer (some ⟨b0, 0, none⟩), .pointer (some ⟨b0, 0, none⟩), .slice a0_0 x0_0.length c0_0, .int .i64 (x0_0.length : Int), .pointer (some ⟨b0, 0, none⟩), .pointer (some ⟨b0, 0, none⟩), .pointer (some ⟨b0, 1, none⟩), .int .i64 s1v.2.2.2.1, .int .i64 (IntKind.i64.wrap ((x0_0.length : Int) - s1v.2.2.2.1)), .int .i64 s1v.2.1, .int .i64 (IntKind.i64.wrap ((IntKind.i64.wrap ((x0_0.length : Int) - s1v.2.2.2.1)) - s1v.2.1)), .bool (decide (IntKind.i64.wrap ((IntKind.i64.wrap ((x0_0.length : Int) - s1v.2.2.2.1)) - s1v.2.1) < s1v.1)), .bool (decide (IntKind.i64.wrap ((IntKind.i64.wrap ((x0_0.length : Int) - s1v.2.2.2.1)) - s1v.2.1) < s1v.1))].getD i undef) (fun j γ => [[obj b0 125 [.slice a0_0 x0_0.length c0_0, .int .i64 s1v.2.2.2.1, .int .i64 s1v.2.2.2.2], F]].getD j []) (fun γ => [(0, .pointer (some ⟨b0, 0, none⟩)), (5, .int .i64 s1v.1), (6, .int .i64 s1v.2.1), (26, .bool (decide (IntKind.i64.wrap ((IntKind.i64.wrap ((x0_0.length : Int) - s1v.2.2.2.1)) - s1v.2.1) < s1v.1)))]) mixed (by decide) (by decide) (by decide) (by decide) (by decide) (by decide) (by decide) 67 rfl (by decide) (by decide) (by decide) (Ent.refl _) ?_ ?_ (fun _ => ⟨rfl, rfl, rfl, rfl, trivial⟩) ?_
 exact (aq rfl (fun γ => qm rfl (.o (s := 5) rfl (by decide) .nil) rfl) (aq rfl (fun γ => qm rfl (.o (s := 0) rfl (by decide) .nil) rfl) (aq rfl (fun γ => qp rfl rfl (.v 1 rfl rfl .nil) (q_nil rfl rfl) rfl) (aq rfl (fun γ => qp rfl rfl (.v 2 rfl rfl .nil) (q_fa rfl rfl Tryz.underlying125 rfl rfl Tryz.sizeOf23 rfl) rfl) (aq rfl (fun γ => qp rfl rfl (.v 3 rfl rfl .nil) (q_load rfl rfl Tryz.isAgg23 (.obj 0 rfl rfl)) rfl) (aq rfl (fun γ => qp rfl rfl (.v 4 rfl rfl .nil) (q_len rfl rfl rfl Tryz.underlying23) rfl) (aq rfl (fun γ => qm rfl (.o (s := 0) rfl (by decide) .nil) rfl) (aq rfl (fun γ => qp rfl rfl (.v 6 rfl rfl .nil) (q_nil rfl rfl) rfl) (aq rfl (fun γ => qp rfl rfl (.v 7 rfl rfl .nil) (q_fa rfl rfl Tryz.underlying125 rfl rfl Tryz.sizeOf3 rfl) rfl) (aq rfl (fun γ => qp rfl rfl (.v 8 rfl rfl .nil) (q_load rfl rfl Tryz.isAgg3 (.obj 0 rfl rfl)) rfl) (aq rfl (fun γ => qp rfl rfl (.v 5 rfl rfl (.v 9 rfl rfl .nil)) (q_sub rfl rfl rfl) rfl) (aq rfl (fun γ => qm rfl (.o (s := 6) rfl (by decide) .nil) rfl) (aq rfl (fun γ => qp rfl rfl (.v 10 rfl rfl (.v 11 rfl rfl .nil)) (q_sub rfl rfl rfl) rfl) (aq rfl (fun γ => qp rfl rfl (.v 0 rfl rfl (.v 12 rfl rfl .nil)) (q_gtr rfl rfl rfl) rfl) (aq rfl (fun γ => qp rfl rfl (.v 13 rfl rfl .nil) (q_asg rfl rfl) rfl) zA)))))))))))))))
 exact zA
 intro g8v
 refine nrm_then ?_
 refine sim_cond rfl (fun h9v => ?_) (fun h10v => ?_)
 refine sr ?_
 refine vm rfl rfl ?_
 refine vn rfl rfl ?_
 refine vq (q_fa rfl rfl Tryz.underlying125 rfl rfl Tryz.sizeOf31 rfl) rfl ?_
 refine simL_do (re_store 0 rfl rfl rfl Tryz.sizeOf31 rfl rfl (one_of (by rfl)) rfl rfl) rfl rfl ?_
 intro _
 refine nx ?_
 refine va rfl rfl (simL_nil (nrm_then (sim_rtn ?_)))
 refine rtn_block ?_
 refine rtn_then ?_
 exact rtn_fn (none, 0) rfl rfl rfl (.row_nil (.sel 0 rfl (.sel 0 rfl (.nil _))))
 refine sim_skip ?_
 refine nrm_block (nrm_then (sr ?_))
 refine vm rfl rfl ?_
 refine vn rfl rfl ?_
 refine vq (q_fa rfl rfl Tryz.underlying125 rfl rfl Tryz.sizeOf3 rfl) rfl ?_
 refine vq (q_load rfl rfl Tryz.isAgg3 (.obj 0 rfl rfl)) rfl ?_
 refine vm rfl rfl ?_
 refine vq (q_add rfl rfl rfl) rfl ?_
 refine va rfl rfl (nx ?_)
 refine vm rfl rfl ?_
 refine vm rfl rfl ?_
 refine vm rfl rfl ?_
 refine vq (q_add rfl rfl rfl) rfl ?_
 refine vn rfl rfl ?_
 refine vq (q_fa rfl rfl Tryz.underlying125 rfl rfl Tryz.sizeOf3 rfl) rfl ?_
 refine simL_do (re_store 0 rfl rfl rfl Tryz.sizeOf3 rfl rfl (one_of (by rfl)) rfl rfl) rfl rfl ?_
 intro _
 refine simL_nil (nrm_then (sim_seq ?_))
 refine sim_ask (fun hb11v => ?_)
 obtain ⟨a12v, c13v, hS14v, hr15v, hc16v, hm17v⟩ := slice_pre (lo := IntKind.i64.wrap (s1v.2.2.2.1 + s1v.2.1)) (hi := IntKind.i64.wrap ((IntKind.i64.wrap (s1v.2.2.2.1 + s1v.2.1)) + s1v.1)) h0_0 hc0_0 hb11v
 refine sim_bind (fun s18v hs19v => ?_)
 refine sim_draw (Γ := (Option Addr × Nat)) (none, 0) [[], [0], [0, 1], [0, 1, 2], [], [], [5], [5, 6], [5, 6, 7], rL 9, rL 10, rL 11] [10] [0, 1, 2, 3, 4, 5, 6, 7, 8, 9, 11] (fun i => [[0], [0], [0], [0], [0], [0], [0], [0], [0], [0], [], [1]].getD i []) (fun i => [[], [], [], [], [], [], [], [], [], [], rL 10, []].getD i []) (fun γ i => [.pointer (some ⟨b0, 0, none⟩), .pointer (some ⟨b0, 0, none⟩), .pointer (some ⟨b0, 0, none⟩), .slice a0_0 x0_0.length c0_0, .int .i64 (IntKind.i64.wrap (s1v.2.2.2.1 + s1v.2.1)), .pointer (some ⟨b0, 0, none⟩), .pointer (some ⟨b0, 0, none⟩), .pointer (some ⟨b0, 1, none⟩), .int .i64 (IntKind.i64.wrap ((IntKind.i64.wrap (s1v.2.2.2.1 + s1v.2.1)) + s1v.1)), .slice a12v ((cut x0_0 (IntKind.i64.wrap (s1v.2.2.2.1 + s1v.2.1)) (IntKind.i64.wrap ((IntKind.i64.wrap (s1v.2.2.2.1 + s1v.2.1)) + s1v.1))).length) c13v, .slice γ.1 s18v.length γ.2, .slice γ.1 s18v.length γ.2].getD i undef) (fun j γ => [[obj b0 125 [.slice a0_0 x0_0.length c0_0, .int .i64 (IntKind.i64.wrap ((IntKind.i64.wrap (s1v.2.2.2.1 + s1v.2.1)) + s1v.1)), .int .i64 s1v.2.2.2.2], F], [Row 5 1 γ.1 s18v.length γ.2 (encB s18v), obj b0 125 [.slice a0_0 x0_0.length c0_0, .int .i64 (IntKind.i64.wrap ((IntKind.i64.wrap (s1v.2.2.2.1 + s1v.2.1)) + s1v.1)), .int .i64 s1v.2.2.2.2], F]].getD j []) (fun γ => [(4, .slice γ.1 s18v.length γ.2)]) mixed (by decide) (by decide) (by decide) (by decide) (by decide) (by decide) (by decide) 67 rfl (by decide) (by decide) (by decide) (Ent.refl _) ?_ ?_ (fun _ => ⟨rfl, trivial⟩) ?_
 exact (aq rfl (fun γ => qm rfl (.o (s := 0) rfl (by decide) .nil) rfl) (aq rfl (fun γ => qp rfl rfl (.v 0 rfl rfl .nil) (q_nil rfl rfl) rfl) (aq rfl (fun γ => qp rfl rfl (.v 1 rfl rfl .nil) (q_fa rfl rfl Tryz.underlying125 rfl rfl Tryz.sizeOf23 rfl) rfl) (aq rfl (fun γ => qp rfl rfl (.v 2 rfl rfl .nil) (q_load rfl rfl Tryz.isAgg23 (.obj 0 rfl rfl)) rfl) (aq rfl (fun γ => qm rfl (.o (s := 8) rfl (by decide) .nil) rfl) (aq rfl (fun γ => qm rfl (.o (s := 0) rfl (by decide) .nil) rfl) (aq rfl (fun γ => qp rfl rfl (.v 5 rfl rfl .nil) (q_nil rfl rfl) rfl) (aq rfl (fun γ => qp rfl rfl (.v 6 rfl rfl .nil) (q_fa rfl rfl Tryz.underlying125 rfl rfl Tryz.sizeOf3 rfl) rfl) (aq rfl (fun γ => qp rfl rfl (.v 7 rfl rfl .nil) (q_load rfl rfl Tryz.isAgg3 (.obj 0 rfl rfl)) rfl) (aq rfl (fun γ => qp rfl rfl (.v 3 rfl rfl (.v 4 rfl rfl (.v 8 rfl rfl .nil))) (q_sub_ro (l := x0_0) (lo' := IntKind.i64.wrap (s1v.2.2.2.1 + s1v.2.1)) (hi' := IntKind.i64.wrap ((IntKind.i64.wrap (s1v.2.2.2.1 + s1v.2.1)) + s1v.1)) rfl rfl rfl rfl Tryz.underlying23 Tryz.sizeOf5 (.inr ⟨_, rfl⟩) (.inr ⟨_, rfl⟩) hb11v hc0_0 hS14v) rfl) (aq rfl (fun γ => qp rfl rfl (.v 10 rfl rfl .nil) (q_asg rfl rfl) rfl) zA)))))))))))
 exact (ac (fun γ => eo (Z := Option Addr × Nat) (fun z => z) rfl rfl (.v 9 rfl rfl .nil) (re_call (vs := [.slice a12v ((cut x0_0 (IntKind.i64.wrap (s1v.2.2.2.1 + s1v.2.1)) (IntKind.i64.wrap ((IntKind.i64.wrap (s1v.2.2.2.1 + s1v.2.1)) + s1v.1))).length) c13v]) (cap := []) (A := []) (rst := [obj b0 125 [.slice a0_0 x0_0.length c0_0, .int .i64 (IntKind.i64.wrap ((IntKind.i64.wrap (s1v.2.2.2.1 + s1v.2.1)) + s1v.1)), .int .i64 s1v.2.2.2.2], F]) rfl rfl rfl rfl rfl rfl Tryz.call57 (.sel 0 rfl (.sel 0 rfl (.nil _))) (wire_fresh.calls _ _ a12v c13v (cut x0_0 (IntKind.i64.wrap (s1v.2.2.2.1 + s1v.2.1)) (IntKind.i64.wrap ((IntKind.i64.wrap (s1v.2.2.2.1 + s1v.2.1)) + s1v.1))) (hr15v.lend 1 rfl) hc16v (Nat.le_trans hm17v hm0_0)) hs19v) (fun _ => ⟨rfl, rfl, rfl, rfl, rfl, rfl, rfl, rfl, rfl, rfl, trivial⟩) (fun _ => .inr rfl) (fun z => Ent.refl _)) zA)
 intro g21v
 refine nrm_then (sim_rtn ?_)
 exact rtn_fn (g21v.1, g21v.2) rfl rfl rfl (.sel 0 rfl (.sel 0 rfl (.sel 0 rfl (.nil _))))

def wire_Reader_Text.f (k : Nat) (x0_0 : List UInt8) (x0_1 : Int) (x0_2 : Int) (x1 : Int) : Option (List UInt8 × Int × Int) := (wire_Reader_Bytes.f k x0_0 x0_1 x0_2 x1).bind fun s1v => (some (s1v.1, s1v.2.1, s1v.2.2))
theorem wire_Reader_Text.calls (W : World) (F : HA) (k : Nat) (b0 : Nat) (a0_0 : Option Addr) (c0_0 : Nat) (x0_0 : List UInt8) (x0_1 : Int) (x0_2 : Int) (x1 : Int) (h0_0 : Rd F a0_0 (encB x0_0)) (hc0_0 : x0_0.length ≤ c0_0) (hm0_0 : c0_0 ≤ maxLen) :
    Fn Tryz.prog W 63 [.pointer (some ⟨b0, 0, none⟩), .int .i64 x1] [obj b0 125 [.slice a0_0 x0_0.length c0_0, .int .i64 x0_1, .int .i64 x0_2]] F (wire_Reader_Text.f k x0_0 x0_1 x0_2 x1) (fun (r : List UInt8 × Int × Int) (y : Unit) => str r.1) (fun r y => [obj b0 125 [.slice a0_0 x0_0.length c0_0, .int .i64 r.2.1, .int .i64 r.2.2]]) := by
 unfold wire_Reader_Text.f
 refine fn_intro 9 Tryz.func63 rfl Tryz.ntmps63 rfl ?_
 refine sr ?_
 refine va rfl rfl (nx ?_)
 refine vm rfl rfl ?_
 refine vm rfl rfl ?_
 refine simL_bind (fun s1v hs2v => ?_)
 refine simL_eff (re_call (vs := [.pointer (some ⟨b0, 0, none⟩), .int .i64 x1]) (cap := []) (A := [obj b0 125 [.slice a0_0 x0_0.length c0_0, .int .i64 x0_1, .int .i64 x0_2]]) (rst := [F]) rfl rfl rfl rfl rfl rfl Tryz.call96 (.sel 0 rfl (.sel 0 rfl (.nil _))) (wire_Reader_Bytes.calls _ _ k b0 a0_0 c0_0 x0_0 x0_1 x0_2 x1 (h0_0.lend 0 rfl) hc0_0 hm0_0) hs2v) rfl rfl rfl ?_
 intro y3v
 refine vq (q_tostr rfl rfl Tryz.underlying23 Tryz.underlying5 Tryz.underlying9 (Rds.row 0 rfl) rfl) rfl ?_
 refine va rfl rfl (simL_nil (nrm_then (sim_rtn ?_)))
 exact rtn_fn () rfl rfl rfl (.sel 1 rfl (.sel 1 rfl (.nil _)))

def kv_reader_pairs_3.f (x0 : List UInt8) (x1_0 : List UInt8) : Option (Bool) := some (!(Op.bytesLess x0 x1_0 || decide (x0 = x1_0)))
theorem kv_reader_pairs_3.calls (W : World) (F : HA) (x0 : List UInt8) (b1 : Nat) (x1_0 : List UInt8)  :
    Fn Tryz.prog W 64 [str x0, .pointer (some ⟨b1, 0, none⟩)] [obj b1 9 [str x1_0]] F (kv_reader_pairs_3.f x0 x1_0) (fun (r : Bool) (y : Unit) => .bool r) (fun r y => [obj b1 9 [str x1_0]]) := by
 unfold kv_reader_pairs_3.f
 refine fn_intro 7 Tryz.func64 rfl Tryz.ntmps64 rfl ?_
 refine sr ?_
 refine va rfl rfl (nx ?_)
 refine vm rfl rfl ?_
 refine vq (q_load rfl rfl Tryz.isAgg9 (.obj 0 rfl rfl)) rfl ?_
 refine vq (q_gts rfl rfl rfl) rfl ?_
 refine va rfl rfl (simL_nil (nrm_then (sim_rtn ?_)))
 exact rtn_fn () rfl rfl rfl (.sel 0 rfl (.sel 0 rfl (.nil _)))

def kv_reader_pairs_5.f (x0 : List UInt8) : Option (Bool) := some true
theorem kv_reader_pairs_5.calls (W : World) (F : HA) (x0 : List UInt8)  :
    Fn Tryz.prog W 66 [str x0] [] F (kv_reader_pairs_5.f x0) (fun (r : Bool) (y : Unit) => .bool r) (fun r y => []) := by
 unfold kv_reader_pairs_5.f
 refine fn_intro 3 Tryz.func66 rfl Tryz.ntmps66 rfl ?_
 refine sr ?_
 refine va rfl rfl (nx ?_)
 refine va rfl rfl (simL_nil (nrm_then (sim_rtn ?_)))
 exact rtn_fn () rfl rfl rfl (.sel 0 rfl (.nil _))

def kv_reader_clients_1.f (x0 : Int) : Option (Bool) := some (decide (x0 ≤ (32 : Int)))
theorem kv_reader_clients_1.calls (W : World) (F : HA) (x0 : Int)  :
    Fn Tryz.prog W 67 [.int .i64 x0] [] F (kv_reader_clients_1.f x0) (fun (r : Bool) (y : Unit) => .bool r) (fun r y => []) := by
 unfold kv_reader_clients_1.f
 refine fn_intro 5 Tryz.func67 rfl Tryz.ntmps67 rfl ?_
 refine sr ?_
 refine va rfl rfl (nx ?_)
 refine vm rfl rfl ?_
 refine vq (q_leq rfl rfl rfl) rfl ?_
 refine va rfl rfl (simL_nil (nrm_then (sim_rtn ?_)))
 exact rtn_fn () rfl rfl rfl (.sel 0 rfl (.nil _))

def kv_reader_clients_2.f (x0 : Int) (x1_0 : Int) : Option (Bool) := some (decide (x1_0 < x0))
theorem kv_reader_clients_2.calls (W : World) (F : HA) (x0 : Int) (b1 : Nat) (x1_0 : Int)  :
    Fn Tryz.prog W 68 [.int .i64 x0, .pointer (some ⟨b1, 0, none⟩)] [obj b1 3 [.int .i64 x1_0]] F (kv_reader_clients_2.f x0 x1_0) (fun (r : Bool) (y : Unit) => .bool r) (fun r y => [obj b1 3 [.int .i64 x1_0]]) := by
 unfold kv_reader_clients_2.f
 refine fn_intro 7 Tryz.func68 rfl Tryz.ntmps68 rfl ?_
 refine sr ?_
 refine va rfl rfl (nx ?_)
 refine vm rfl rfl ?_
 refine vq (q_load rfl rfl Tryz.isAgg3 (.obj 0 rfl rfl)) rfl ?_
 refine vq (q_gtr rfl rfl rfl) rfl ?_
 refine va rfl rfl (simL_nil (nrm_then (sim_rtn ?_)))
 exact rtn_fn () rfl rfl rfl (.sel 0 rfl (.sel 0 rfl (.nil _)))

def kv_reader_clients_3.f (x0 : Int) : Option (Bool) := some (decide ((0 : Int) < x0))
theorem kv_reader_clients_3.calls (W : World) (F : HA) (x0 : Int)  :
    Fn Tryz.prog W 69 [.int .i64 x0] [] F (kv_reader_clients_3.f x0) (fun (r : Bool) (y : Unit) => .bool r) (fun r y => []) := by
 unfold kv_reader_clients_3.f
 refine fn_intro 5 Tryz.func69 rfl Tryz.ntmps69 rfl ?_
 refine sr ?_
 refine va rfl rfl (nx ?_)
 refine vm rfl rfl ?_
 refine vq (q_gtr rfl rfl rfl) rfl ?_
 refine va rfl rfl (simL_nil (nrm_then (sim_rtn ?_)))
 exact rtn_fn () rfl rfl rfl (.sel 0 rfl (.nil _))

def kv_kept.f (x0 : Int) : Option (Bool) := some ((((decide (x0 = (1 : Int))) || (decide (x0 = (2 : Int)))) || (decide (x0 = (3 : Int)))) || (decide (x0 = (5 : Int))))
theorem kv_kept.calls (W : World) (F : HA) (x0 : Int)  :
    Fn Tryz.prog W 70 [.int .i64 x0] [] F (kv_kept.f x0) (fun (r : Bool) (y : Unit) => .bool r) (fun r y => []) := by
 unfold kv_kept.f
 refine fn_intro 17 Tryz.func70 rfl Tryz.ntmps70 rfl ?_
 refine sr ?_
 refine va rfl rfl (nx ?_)
 refine vm rfl rfl ?_
 refine vq (q_eql rfl rfl rfl) rfl ?_
 refine vm rfl rfl ?_
 refine simL_valc (b := decide (x0 = (1 : Int))) (fun hb6v => RQ.sub (E' := [(0, .int .i64 x0)]) ⟨rfl, trivial⟩ (q_move rfl rfl)) rfl rfl rfl rfl rfl ?_
 refine simL_valc (b := decide (x0 = (1 : Int))) (fun hb5v => RQ.sub (E' := [(6, .int .i64 x0)]) ⟨lk_cv rfl hb5v, trivial⟩ (q_eql rfl rfl rfl)) rfl rfl rfl rfl rfl ?_
 refine vq (q_or rfl rfl rfl) rfl ?_
 refine vm rfl rfl ?_
 refine simL_valc (b := (decide (x0 = (1 : Int))) || (decide (x0 = (2 : Int)))) (fun hb4v => RQ.sub (E' := [(0, .int .i64 x0)]) ⟨rfl, trivial⟩ (q_move rfl rfl)) rfl rfl rfl rfl rfl ?_
 refine simL_valc (b := (decide (x0 = (1 : Int))) || (decide (x0 = (2 : Int)))) (fun hb3v => RQ.sub (E' := [(10, .int .i64 x0)]) ⟨lk_cv rfl hb3v, trivial⟩ (q_eql rfl rfl rfl)) rfl rfl rfl rfl rfl ?_
 refine vq (q_or rfl rfl rfl) rfl ?_
 refine vm rfl rfl ?_
 refine simL_valc (b := ((decide (x0 = (1 : Int))) || (decide (x0 = (2 : Int)))) || (decide (x0 = (3 : Int)))) (fun hb2v => RQ.sub (E' := [(0, .int .i64 x0)]) ⟨rfl, trivial⟩ (q_move rfl rfl)) rfl rfl rfl rfl rfl ?_
 refine simL_valc (b := ((decide (x0 = (1 : Int))) || (decide (x0 = (2 : Int)))) || (decide (x0 = (3 : Int)))) (fun hb1v => RQ.sub (E' := [(14, .int .i64 x0)]) ⟨lk_cv rfl hb1v, trivial⟩ (q_eql rfl rfl rfl)) rfl rfl rfl rfl rfl ?_
 refine vq (q_or rfl rfl rfl) rfl ?_
 refine va rfl rfl (simL_nil (nrm_then (sim_rtn ?_)))
 exact rtn_fn () rfl rfl rfl (.sel 0 rfl (.nil _))

def kv_reader_clients_5.f (x0 : List UInt8) (x1_0 : Int) (x1_1 : Int) (x1_2 : Int) (x1_3 : List UInt8) : Option (Bool) := some ((decide (x0 = ([] : List UInt8))) || (decide (x1_2 = (3 : Int))))
theorem kv_reader_clients_5.calls (W : World) (F : HA) (x0 : List UInt8) (b1 : Nat) (x1_0 : Int) (x1_1 : Int) (x1_2 : Int) (x1_3 : List UInt8)  :
    Fn Tryz.prog W 72 [str x0, .pointer (some ⟨b1, 0, none⟩)] [obj b1 69 [.int .i64 x1_0, .int .i64 x1_1, .int .i64 x1_2, str x1_3]] F (kv_reader_clients_5.f x0 x1_0 x1_1 x1_2 x1_3) (fun (r : Bool) (y : Unit) => .bool r) (fun r y => [obj b1 69 [.int .i64 x1_0, .int .i64 x1_1, .int .i64 x1_2, str x1_3]]) := by
 unfold kv_reader_clients_5.f
 refine fn_intro 12 Tryz.func72 rfl Tryz.ntmps72 rfl ?_
 refine sr ?_
 refine va rfl rfl (nx ?_)
 refine vm rfl rfl ?_
 refine vq (q_eqs rfl rfl rfl) rfl ?_
 refine vm rfl rfl ?_
 refine simL_valc (b := decide (x0 = ([] : List UInt8))) (fun hb4v => RQ.sub (E' := [(1, .pointer (some ⟨b1, 0, none⟩))]) ⟨rfl, trivial⟩ (q_fa rfl rfl Tryz.underlying69 rfl rfl Tryz.sizeOf45 rfl)) rfl rfl rfl rfl rfl ?_
 refine simL_valc (b := decide (x0 = ([] : List UInt8))) (fun hb3v => RQ.sub (E' := [(7, .pointer (some ⟨b1, 2, none⟩))]) ⟨lk_cv rfl hb3v, trivial⟩ (q_fa rfl rfl Tryz.underlying45 rfl rfl Tryz.sizeOf3 rfl)) rfl rfl rfl rfl rfl ?_
 refine simL_valc (b := decide (x0 = ([] : List UInt8))) (fun hb2v => RQ.sub (E' := [(8, .pointer (some ⟨b1, 2, none⟩))]) ⟨lk_cv rfl hb2v, trivial⟩ (q_load rfl rfl Tryz.isAgg3 (.obj 0 rfl rfl))) rfl rfl rfl rfl rfl ?_
 refine simL_valc (b := decide (x0 = ([] : List UInt8))) (fun hb1v => RQ.sub (E' := [(9, .int .i64 x1_2)]) ⟨lk_cv rfl hb1v, trivial⟩ (q_eql rfl rfl rfl)) rfl rfl rfl rfl rfl ?_
 refine vq (q_or rfl rfl rfl) rfl ?_
 refine va rfl rfl (simL_nil (nrm_then (sim_rtn ?_)))
 exact rtn_fn () rfl rfl rfl (.sel 0 rfl (.sel 0 rfl (.nil _)))

def kv_is_int_wire_Reader_Int_kv_reader_pairs_1.f (k : Nat) (xp1_0 : List UInt8) (xp1_1 : Int) (xp1_2 : Int) (xp0_1 : Int) (x3 : Int) : Option (Int × Bool × Int × Int × Int) := (wire_Reader_At.f xp1_0 xp1_1 xp1_2).bind fun s1v => ((wire_Reader_Int.f k xp1_0 xp1_1 xp1_2).bind fun s4v => ((wire_Reader_At.f xp1_0 s4v.2.1 s4v.2.2).bind fun s7v => (if s7v = s1v then ((wire_Reader_Done.f xp1_0 s4v.2.1 s4v.2.2).bind fun s12v => (some (s4v.1, decide (s12v = (0 : Int)), s4v.2.1, s4v.2.2, s12v))) else ((kv_reader_pairs_1.f s4v.1).bind fun s16v => (if (!s16v) = true then (some (s4v.1, decide (x3 = (0 : Int)), s4v.2.1, s4v.2.2, x3)) else (some (s4v.1, decide (xp0_1 = (0 : Int)), s4v.2.1, s4v.2.2, xp0_1)))))))
theorem kv_is_int_wire_Reader_Int_kv_reader_pairs_1.calls (W : World) (F : HA) (k : Nat) (bp0 : Nat) (bp1 : Nat) (ap1_0 : Option Addr) (cp1_0 : Nat) (xp1_0 : List UInt8) (xp1_1 : Int) (xp1_2 : Int) (xp0_1 : Int) (x3 : Int) (hp1_0 : Rd F ap1_0 (encB xp1_0)) (hcp1_0 : xp1_0.length ≤ cp1_0) (hmp1_0 : cp1_0 ≤ maxLen) :
    Fn Tryz.prog W 58 [.pointer (some ⟨bp0, 0, none⟩), .func (.func 59) #[.pointer (some ⟨bp1, 0, none⟩)] #[], .func (.func 60) #[] #[], .int .i64 x3] [obj bp1 125 [.slice ap1_0 xp1_0.length cp1_0, .int .i64 xp1_1, .int .i64 xp1_2], obj bp0 76 [.pointer (some ⟨bp1, 0, none⟩), .int .i64 xp0_1]] F (kv_is_int_wire_Reader_Int_kv_reader_pairs_1.f k xp1_0 xp1_1 xp1_2 xp0_1 x3) (fun (r : Int × Bool × Int × Int × Int) (y : Unit) => .tuple #[.int .i64 r.1, .bool r.2.1]) (fun r y => [obj bp1 125 [.slice ap1_0 xp1_0.length cp1_0, .int .i64 r.2.2.1, .int .i64 r.2.2.2.1], obj bp0 76 [.pointer (some ⟨bp1, 0, none⟩), .int .i64 r.2.2.2.2]]) := by
 unfold kv_is_int_wire_Reader_Int_kv_reader_pairs_1.f
 refine fn_intro 50 Tryz.func58 rfl Tryz.ntmps58 rfl ?_
 refine sr ?_
 refine va rfl rfl ?_
 refine va rfl rfl (nx ?_)
 refine vm rfl rfl ?_
 refine vn rfl rfl ?_
 refine vq (q_fa rfl rfl Tryz.underlying76 rfl rfl Tryz.sizeOf73 rfl) rfl ?_
 refine vq (q_load rfl rfl Tryz.isAgg73 (.obj 1 rfl rfl)) rfl ?_
 refine simL_bind (fun s1v hs2v => ?_)
 refine simL_eff (re_call (vs := [.pointer (some ⟨bp1, 0, none⟩)]) (cap := []) (A := [obj bp1 125 [.slice ap1_0 xp1_0.length cp1_0, .int .i64 xp1_1, .int .i64 xp1_2]]) (rst := [obj bp0 76 [.pointer (some ⟨bp1, 0, none⟩), .int .i64 xp0_1], F]) rfl rfl rfl rfl rfl rfl Tryz.call94 (.sel 0 rfl (.sel 0 rfl (.sel 0 rfl (.nil _)))) (wire_Reader_At.calls _ _ bp1 ap1_0 cp1_0 xp1_0 xp1_1 xp1_2 (hp1_0.lend 1 rfl) hcp1_0 hmp1_0) hs2v) rfl rfl rfl ?_
 intro y3v
 refine va rfl rfl (nx ?_)
 refine vm rfl rfl ?_
 refine simL_bind (fun s4v hs5v => ?_)
 refine simL_eff (re_callf (fst := [.pointer (some ⟨bp1, 0, none⟩)]) (vs := []) (cap := []) (A := [obj bp1 125 [.slice ap1_0 xp1_0.length cp1_0, .int .i64 xp1_1, .int .i64 xp1_2]]) (rst := [obj bp0 76 [.pointer (some ⟨bp1, 0, none⟩), .int .i64 xp0_1], F]) rfl rfl rfl rfl rfl rfl Tryz.call59 (.sel 0 rfl (.sel 0 rfl (.sel 0 rfl (.nil _)))) (wire_Reader_Int.calls _ _ k bp1 ap1_0 cp1_0 xp1_0 xp1_1 xp1_2 (hp1_0.lend 1 rfl) hcp1_0 hmp1_0) hs5v) rfl rfl rfl ?_
 intro y6v
 refine va rfl rfl (simL_nil (nrm_then (sim_seq ?_)))
 refine sim_block ?_
 refine sr ?_
 refine vm rfl rfl ?_
 refine vn rfl rfl ?_
 refine vq (q_fa rfl rfl Tryz.underlying76 rfl rfl Tryz.sizeOf73 rfl) rfl ?_
 refine vq (q_load rfl rfl Tryz.isAgg73 (.obj 1 rfl rfl)) rfl ?_
 refine simL_bind (fun s7v hs8v => ?_)
 refine simL_eff (re_call (vs := [.pointer (some ⟨bp1, 0, none⟩)]) (cap := []) (A := [obj bp1 125 [.slice ap1_0 xp1_0.length cp1_0, .int .i64 s4v.2.1, .int .i64 s4v.2.2]]) (rst := [obj bp0 76 [.pointer (some ⟨bp1, 0, none⟩), .int .i64 xp0_1], F]) rfl rfl rfl rfl rfl rfl Tryz.call94 (.sel 0 rfl (.sel 0 rfl (.sel 0 rfl (.nil _)))) (wire_Reader_At.calls _ _ bp1 ap1_0 cp1_0 xp1_0 s4v.2.1 s4v.2.2 (hp1_0.lend 1 rfl) hcp1_0 hmp1_0) hs8v) rfl rfl rfl ?_
 intro y9v
 refine vm rfl rfl ?_
 refine vq (q_eql rfl rfl rfl) rfl ?_
 refine va rfl rfl (simL_nil (nrm_then ?_))
 refine sim_cond rfl (fun h10v => ?_) (fun h11v => ?_)
 refine sim_region ?_
 refine vm rfl rfl ?_
 refine vm rfl rfl ?_
 refine vn rfl rfl ?_
 refine vq (q_fa rfl rfl Tryz.underlying76 rfl rfl Tryz.sizeOf73 rfl) rfl ?_
 refine vq (q_load rfl rfl Tryz.isAgg73 (.obj 1 rfl rfl)) rfl ?_
 refine simL_bind (fun s12v hs13v => ?_)
 refine simL_eff (re_call (vs := [.pointer (some ⟨bp1, 0, none⟩)]) (cap := []) (A := [obj bp1 125 [.slice ap1_0 xp1_0.length cp1_0, .int .i64 s4v.2.1, .int .i64 s4v.2.2]]) (rst := [obj bp0 76 [.pointer (some ⟨bp1, 0, none⟩), .int .i64 xp0_1], F]) rfl rfl rfl rfl rfl rfl Tryz.call33 (.sel 0 rfl (.sel 0 rfl (.sel 0 rfl (.nil _)))) (wire_Reader_Done.calls _ _ bp1 ap1_0 cp1_0 xp1_0 s4v.2.1 s4v.2.2 (hp1_0.lend 1 rfl) hcp1_0 hmp1_0) hs13v) rfl rfl rfl ?_
 intro y14v
 refine vn rfl rfl ?_
 refine vq (q_fa rfl rfl Tryz.underlying76 rfl rfl Tryz.sizeOf31 rfl) rfl ?_
 refine simL_do (re_store 1 rfl rfl rfl Tryz.sizeOf31 rfl rfl (one_of (by rfl)) rfl rfl) rfl rfl ?_
 intro _
 refine simL_nil (nrm_block (nrm_then (sim_seq ?_)))
 refine sim_draw (Γ := Unit) () [[], [], [1], [1, 2], [1, 2, 3], [1, 2, 3, 4], [0], rL 7] [] [0, 1, 2, 3, 4, 5, 6, 7] (fun i => [[0], [0], [0], [0], [0], [0], [0], [0]].getD i []) (fun i => [[], [], [], [], [], [], [], []].getD i []) (fun γ i => [.int .i64 s4v.1, .pointer (some ⟨bp0, 0, none⟩), .pointer (some ⟨bp0, 0, none⟩), .pointer (some ⟨bp0, 1, none⟩), .int .i64 s12v, .bool (decide (s12v = (0 : Int))), .int .i64 s4v.1, .bool (decide (s12v = (0 : Int)))].getD i undef) (fun j γ => [[obj bp1 125 [.slice ap1_0 xp1_0.length cp1_0, .int .i64 s4v.2.1, .int .i64 s4v.2.2], obj bp0 76 [.pointer (some ⟨bp1, 0, none⟩), .int .i64 s12v], F]].getD j []) (fun γ => [(8, .int .i64 s4v.1), (9, .bool (decide (s12v = (0 : Int))))]) mixed (by decide) (by decide) (by decide) (by decide) (by decide) (by decide) (by decide) 50 rfl (by decide) (by decide) (by decide) (Ent.refl _) ?_ ?_ (fun _ => ⟨rfl, rfl, trivial⟩) ?_
 exact (aq rfl (fun γ => qm rfl (.o (s := 11) rfl (by decide) .nil) rfl) (aq rfl (fun γ => qm rfl (.o (s := 0) rfl (by decide) .nil) rfl) (aq rfl (fun γ => qp rfl rfl (.v 1 rfl rfl .nil) (q_nil rfl rfl) rfl) (aq rfl (fun γ => qp rfl rfl (.v 2 rfl rfl .nil) (q_fa rfl rfl Tryz.underlying76 rfl rfl Tryz.sizeOf31 rfl) rfl) (aq rfl (fun γ => qp rfl rfl (.v 3 rfl rfl .nil) (q_load rfl rfl Tryz.isAgg31 (.obj 1 rfl rfl)) rfl) (aq rfl (fun γ => qp rfl rfl (.v 4 rfl rfl .nil) (q_eql rfl rfl rfl) rfl) (aq rfl (fun γ => qp rfl rfl (.v 0 rfl rfl .nil) (q_asg rfl rfl) rfl) (aq rfl (fun γ => qp rfl rfl (.v 5 rfl rfl .nil) (q_asg rfl rfl) rfl) zA))))))))
 exact zA
 intro g15v
 refine nrm_then (sim_rtn ?_)
 exact rtn_fn () rfl rfl rfl (.sel 0 rfl (.sel 0 rfl (.sel 0 rfl (.nil _))))
 refine sr ?_
 refine vm rfl rfl ?_
 refine vm rfl rfl ?_
 refine simL_bind (fun s16v hs17v => ?_)
 refine simL_eff (re_call (vs := [.int .i64 s4v.1]) (cap := []) (A := []) (rst := [obj bp1 125 [.slice ap1_0 xp1_0.length cp1_0, .int .i64 s4v.2.1, .int .i64 s4v.2.2], obj bp0 76 [.pointer (some ⟨bp1, 0, none⟩), .int .i64 xp0_1], F]) rfl rfl rfl rfl rfl rfl Tryz.call60 (.sel 0 rfl (.sel 0 rfl (.sel 0 rfl (.nil _)))) (kv_reader_pairs_1.calls _ _ s4v.1 ) hs17v) rfl rfl rfl ?_
 intro y18v
 refine vq (q_not rfl rfl) rfl ?_
 refine va rfl rfl (simL_nil (nrm_then ?_))
 refine sim_condb rfl (fun h19v => ?_) (fun h20v => ?_)
 refine sim_region ?_
 refine vm rfl rfl ?_
 refine vm rfl rfl ?_
 refine vn rfl rfl ?_
 refine vq (q_fa rfl rfl Tryz.underlying76 rfl rfl Tryz.sizeOf31 rfl) rfl ?_
 refine simL_do (re_store 1 rfl rfl rfl Tryz.sizeOf31 rfl rfl (one_of (by rfl)) rfl rfl) rfl rfl ?_
 intro _
 refine simL_nil (nrm_block (nrm_then (sim_seq ?_)))
 refine sim_draw (Γ := Unit) () [[], [], [1], [1, 2], [1, 2, 3], [1, 2, 3, 4], [0], rL 7] [] [0, 1, 2, 3, 4, 5, 6, 7] (fun i => [[0], [0], [0], [0], [0], [0], [0], [0]].getD i []) (fun i => [[], [], [], [], [], [], [], []].getD i []) (fun γ i => [.int .i64 s4v.1, .pointer (some ⟨bp0, 0, none⟩), .pointer (some ⟨bp0, 0, none⟩), .pointer (some ⟨bp0, 1, none⟩), .int .i64 x3, .bool (decide (x3 = (0 : Int))), .int .i64 s4v.1, .bool (decide (x3 = (0 : Int)))].getD i undef) (fun j γ => [[obj bp1 125 [.slice ap1_0 xp1_0.length cp1_0, .int .i64 s4v.2.1, .int .i64 s4v.2.2], obj bp0 76 [.pointer (some ⟨bp1, 0, none⟩), .int .i64 x3], F]].getD j []) (fun γ => [(8, .int .i64 s4v.1), (9, .bool (decide (x3 = (0 : Int))))]) mixed (by decide) (by decide) (by decide) (by decide) (by decide) (by decide) (by decide) 50 rfl (by decide) (by decide) (by decide) (Ent.refl _) ?_ ?_ (fun _ => ⟨rfl, rfl, trivial⟩) ?_
 exact (aq rfl (fun γ => qm rfl (.o (s := 11) rfl (by decide) .nil) rfl) (aq rfl (fun γ => qm rfl (.o (s := 0) rfl (by decide) .nil) rfl) (aq rfl (fun γ => qp rfl rfl (.v 1 rfl rfl .nil) (q_nil rfl rfl) rfl) (aq rfl (fun γ => qp rfl rfl (.v 2 rfl rfl .nil) (q_fa rfl rfl Tryz.underlying76 rfl rfl Tryz.sizeOf31 rfl) rfl) (aq rfl (fun γ => qp rfl rfl (.v 3 rfl rfl .nil) (q_load rfl rfl Tryz.isAgg31 (.obj 1 rfl rfl)) rfl) (aq rfl (fun γ => qp rfl rfl (.v 4 rfl rfl .nil) (q_eql rfl rfl rfl) rfl) (aq rfl (fun γ => qp rfl rfl (.v 0 rfl rfl .nil) (q_asg rfl rfl) rfl) (aq rfl (fun γ => qp rfl rfl (.v 5 rfl rfl .nil) (q_asg rfl rfl) rfl) zA))))))))
 exact zA
 intro g21v
 refine nrm_then (sim_rtn ?_)
 exact rtn_fn () rfl rfl rfl (.sel 0 rfl (.sel 0 rfl (.sel 0 rfl (.nil _))))
 refine sim_skip ?_
 refine nrm_block (nrm_then (sim_seq ?_))
 refine sim_draw (Γ := Unit) () [[], [], [1], [1, 2], [1, 2, 3], [1, 2, 3, 4], [0], rL 7] [] [0, 1, 2, 3, 4, 5, 6, 7] (fun i => [[0], [0], [0], [0], [0], [0], [0], [0]].getD i []) (fun i => [[], [], [], [], [], [], [], []].getD i []) (fun γ i => [.int .i64 s4v.1, .pointer (some ⟨bp0, 0, none⟩), .pointer (some ⟨bp0, 0, none⟩), .pointer (some ⟨bp0, 1, none⟩), .int .i64 xp0_1, .bool (decide (xp0_1 = (0 : Int))), .int .i64 s4v.1, .bool (decide (xp0_1 = (0 : Int)))].getD i undef) (fun j γ => [[obj bp1 125 [.slice ap1_0 xp1_0.length cp1_0, .int .i64 s4v.2.1, .int .i64 s4v.2.2], obj bp0 76 [.pointer (some ⟨bp1, 0, none⟩), .int .i64 xp0_1], F]].getD j []) (fun γ => [(8, .int .i64 s4v.1), (9, .bool (decide (xp0_1 = (0 : Int))))]) mixed (by decide) (by decide) (by decide) (by decide) (by decide) (by decide) (by decide) 50 rfl (by decide) (by decide) (by decide) (Ent.refl _) ?_ ?_ (fun _ => ⟨rfl, rfl, trivial⟩) ?_
 exact (aq rfl (fun γ => qm rfl (.o (s := 11) rfl (by decide) .nil) rfl) (aq rfl (fun γ => qm rfl (.o (s := 0) rfl (by decide) .nil) rfl) (aq rfl (fun γ => qp rfl rfl (.v 1 rfl rfl .nil) (q_nil rfl rfl) rfl) (aq rfl (fun γ => qp rfl rfl (.v 2 rfl rfl .nil) (q_fa rfl rfl Tryz.underlying76 rfl rfl Tryz.sizeOf31 rfl) rfl) (aq rfl (fun γ => qp rfl rfl (.v 3 rfl rfl .nil) (q_load rfl rfl Tryz.isAgg31 (.obj 1 rfl rfl)) rfl) (aq rfl (fun γ => qp rfl rfl (.v 4 rfl rfl .nil) (q_eql rfl rfl rfl) rfl) (aq rfl (fun γ => qp rfl rfl (.v 0 rfl rfl .nil) (q_asg rfl rfl) rfl) (aq rfl (fun γ => qp rfl rfl (.v 5 rfl rfl .nil) (q_asg rfl rfl) rfl) zA))))))))
 exact zA
 intro g22v
 refine nrm_then (sim_rtn ?_)
 exact rtn_fn () rfl rfl rfl (.sel 0 rfl (.sel 0 rfl (.sel 0 rfl (.nil _))))

def kv_reader_pairs_2_s.f (k : Nat) (xp2_0 : List UInt8) (xp2_1 : Int) (xp2_2 : Int) (xp1_1 : Int) : Option (List UInt8 × Int × Int) := (wire_Reader_Text.f k xp2_0 xp2_1 xp2_2 (64 : Int)).bind fun s1v => (some (s1v.1, s1v.2.1, s1v.2.2))
theorem kv_reader_pairs_2_s.calls (W : World) (F : HA) (k : Nat) (bp0 : Nat) (bp1 : Nat) (bp2 : Nat) (ap2_0 : Option Addr) (cp2_0 : Nat) (xp2_0 : List UInt8) (xp2_1 : Int) (xp2_2 : Int) (xp1_1 : Int) (hp2_0 : Rd F ap2_0 (encB xp2_0)) (hcp2_0 : xp2_0.length ≤ cp2_0) (hmp2_0 : cp2_0 ≤ maxLen) :
    Fn Tryz.prog W 62 [.pointer (some ⟨bp0, 0, none⟩)] [obj bp2 125 [.slice ap2_0 xp2_0.length cp2_0, .int .i64 xp2_1, .int .i64 xp2_2], obj bp1 76 [.pointer (some ⟨bp2, 0, none⟩), .int .i64 xp1_1], obj bp0 72 [.pointer (some ⟨bp1, 0, none⟩)]] F (kv_reader_pairs_2_s.f k xp2_0 xp2_1 xp2_2 xp1_1) (fun (r : List UInt8 × Int × Int) (y : Unit) => str r.1) (fun r y => [obj bp2 125 [.slice ap2_0 xp2_0.length cp2_0, .int .i64 r.2.1, .int .i64 r.2.2], obj bp1 76 [.pointer (some ⟨bp2, 0, none⟩), .int .i64 xp1_1], obj bp0 72 [.pointer (some ⟨bp1, 0, none⟩)]]) := by
 unfold kv_reader_pairs_2_s.f
 refine fn_intro 7 Tryz.func62 rfl Tryz.ntmps62 rfl ?_
 refine sr ?_
 refine va rfl rfl (nx ?_)
 refine vq (q_load rfl rfl Tryz.isAgg72 (.obj 2 rfl rfl)) rfl ?_
 refine vn rfl rfl ?_
 refine vq (q_fa rfl rfl Tryz.underlying76 rfl rfl Tryz.sizeOf73 rfl) rfl ?_
 refine vq (q_load rfl rfl Tryz.isAgg73 (.obj 1 rfl rfl)) rfl ?_
 refine simL_bind (fun s1v hs2v => ?_)
 refine simL_eff (re_call (vs := [.pointer (some ⟨bp2, 0, none⟩), .int .i64 64]) (cap := []) (A := [obj bp2 125 [.slice ap2_0 xp2_0.length cp2_0, .int .i64 xp2_1, .int .i64 xp2_2]]) (rst := [obj bp1 76 [.pointer (some ⟨bp2, 0, none⟩), .int .i64 xp1_1], obj bp0 72 [.pointer (some ⟨bp1, 0, none⟩)], F]) rfl rfl rfl rfl rfl rfl Tryz.call63 (.sel 0 rfl (.sel 0 rfl (.sel 0 rfl (.sel 0 rfl (.nil _))))) (wire_Reader_Text.calls _ _ k bp2 ap2_0 cp2_0 xp2_0 xp2_1 xp2_2 (64 : Int) (hp2_0.lend 2 rfl) hcp2_0 hmp2_0) hs2v) rfl rfl rfl ?_
 intro y3v
 refine va rfl rfl (simL_nil (nrm_then (sim_rtn ?_)))
 exact rtn_fn () rfl rfl rfl (.sel 0 rfl (.sel 0 rfl (.sel 0 rfl (.sel 0 rfl (.nil _)))))

def kv_is_string_kv_reader_pairs_2_kv_reader_pairs_3.f (k : Nat) (xp1_0 : List UInt8) (xp1_1 : Int) (xp1_2 : Int) (xp0_1 : Int) (xp3_0 : List UInt8) (x3 : Int) : Option (List UInt8 × Bool × Int × Int × Int) := (wire_Reader_At.f xp1_0 xp1_1 xp1_2).bind fun s1v => ((kv_reader_pairs_2_s.f k xp1_0 xp1_1 xp1_2 xp0_1).bind fun s4v => ((wire_Reader_At.f xp1_0 s4v.2.1 s4v.2.2).bind fun s7v => (if s7v = s1v then ((wire_Reader_Done.f xp1_0 s4v.2.1 s4v.2.2).bind fun s12v => (some (s4v.1, decide (s12v = (0 : Int)), s4v.2.1, s4v.2.2, s12v))) else ((kv_reader_pairs_3.f s4v.1 xp3_0).bind fun s16v => (if (!s16v) = true then (some (s4v.1, decide (x3 = (0 : Int)), s4v.2.1, s4v.2.2, x3)) else (some (s4v.1, decide (xp0_1 = (0 : Int)), s4v.2.1, s4v.2.2, xp0_1)))))))
theorem kv_is_string_kv_reader_pairs_2_kv_reader_pairs_3.calls (W : World) (F : HA) (k : Nat) (bp0 : Nat) (bp1 : Nat) (ap1_0 : Option Addr) (cp1_0 : Nat) (xp1_0 : List UInt8) (xp1_1 : Int) (xp1_2 : Int) (xp0_1 : Int) (bp2 : Nat) (bp3 : Nat) (xp3_0 : List UInt8) (x3 : Int) (hp1_0 : Rd F ap1_0 (encB xp1_0)) (hcp1_0 : xp1_0.length ≤ cp1_0) (hmp1_0 : cp1_0 ≤ maxLen) :
    Fn Tryz.prog W 61 [.pointer (some ⟨bp0, 0, none⟩), .func (.func 62) #[] #[.pointer (some ⟨bp2, 0, none⟩)], .func (.func 64) #[] #[.pointer (some ⟨bp3, 0, none⟩)], .int .i64 x3] [obj bp1 125 [.slice ap1_0 xp1_0.length cp1_0, .int .i64 xp1_1, .int .i64 xp1_2], obj bp0 76 [.pointer (some ⟨bp1, 0, none⟩), .int .i64 xp0_1], obj bp2 72 [.pointer (some ⟨bp0, 0, none⟩)], obj bp3 9 [str xp3_0]] F (kv_is_string_kv_reader_pairs_2_kv_reader_pairs_3.f k xp1_0 xp1_1 xp1_2 xp0_1 xp3_0 x3) (fun (r : List UInt8 × Bool × Int × Int × Int) (y : Unit) => .tuple #[str r.1, .bool r.2.1]) (fun r y => [obj bp1 125 [.slice ap1_0 xp1_0.length cp1_0, .int .i64 r.2.2.1, .int .i64 r.2.2.2.1], obj bp0 76 [.pointer (some ⟨bp1, 0, none⟩), .int .i64 r.2.2.2.2], obj bp2 72 [.pointer (some ⟨bp0, 0, none⟩)], obj bp3 9 [str xp3_0]]) := by
 unfold kv_is_string_kv_reader_pairs_2_kv_reader_pairs_3.f
 refine fn_intro 50 Tryz.func61 rfl Tryz.ntmps61 rfl ?_
 refine sr ?_
 refine va rfl rfl ?_
 refine va rfl rfl (nx ?_)
 refine vm rfl rfl ?_
 refine vn rfl rfl ?_
 refine vq (q_fa rfl rfl Tryz.underlying76 rfl rfl Tryz.sizeOf73 rfl) rfl ?_
 refine vq (q_load rfl rfl Tryz.isAgg73 (.obj 1 rfl rfl)) rfl ?_
 refine simL_bind (fun s1v hs2v => ?_)
 refine simL_eff (re_call (vs := [.pointer (some ⟨bp1, 0, none⟩)]) (cap := []) (A := [obj bp1 125 [.slice ap1_0 xp1_0.length cp1_0, .int .i64 xp1_1, .int .i64 xp1_2]]) (rst := [obj bp0 76 [.pointer (some ⟨bp1, 0, none⟩), .int .i64 xp0_1], obj bp2 72 [.pointer (some ⟨bp0, 0, none⟩)], obj bp3 9 [str xp3_0], F]) rfl rfl rfl rfl rfl rfl Tryz.call94 (.sel 0 rfl (.sel 0 rfl (.sel 0 rfl (.sel 0 rfl (.sel 0 rfl (.nil _)))))) (wire_Reader_At.calls _ _ bp1 ap1_0 cp1_0 xp1_0 xp1_1 xp1_2 (hp1_0.lend 3 rfl) hcp1_0 hmp1_0) hs2v) rfl rfl rfl ?_
 intro y3v
 refine va rfl rfl (nx ?_)
 refine vm rfl rfl ?_
 refine simL_bind (fun s4v hs5v => ?_)
 refine simL_eff (re_call (vs := []) (cap := [.pointer (some ⟨bp2, 0, none⟩)]) (A := [obj bp1 125 [.slice ap1_0 xp1_0.length cp1_0, .int .i64 xp1_1, .int .i64 xp1_2], obj bp0 76 [.pointer (some ⟨bp1, 0, none⟩), .int .i64 xp0_1], obj bp2 72 [.pointer (some ⟨bp0, 0, none⟩)]]) (rst := [obj bp3 9 [str xp3_0], F]) rfl rfl rfl rfl rfl rfl Tryz.call62 (.sel 0 rfl (.sel 0 rfl (.sel 0 rfl (.sel 0 rfl (.sel 0 rfl (.nil _)))))) (kv_reader_pairs_2_s.calls _ _ k bp2 bp0 bp1 ap1_0 cp1_0 xp1_0 xp1_1 xp1_2 xp0_1 (hp1_0.lend 1 rfl) hcp1_0 hmp1_0) hs5v) rfl rfl rfl ?_
 intro y6v
 refine va rfl rfl (simL_nil (nrm_then (sim_seq ?_)))
 refine sim_block ?_
 refine sr ?_
 refine vm rfl rfl ?_
 refine vn rfl rfl ?_
 refine vq (q_fa rfl rfl Tryz.underlying76 rfl rfl Tryz.sizeOf73 rfl) rfl ?_
 refine vq (q_load rfl rfl Tryz.isAgg73 (.obj 1 rfl rfl)) rfl ?_
 refine simL_bind (fun s7v hs8v => ?_)
 refine simL_eff (re_call (vs := [.pointer (some ⟨bp1, 0, none⟩)]) (cap := []) (A := [obj bp1 125 [.slice ap1_0 xp1_0.length cp1_0, .int .i64 s4v.2.1, .int .i64 s4v.2.2]]) (rst := [obj bp0 76 [.pointer (some ⟨bp1, 0, none⟩), .int .i64 xp0_1], obj bp2 72 [.pointer (some ⟨bp0, 0, none⟩)], obj bp3 9 [str xp3_0], F]) rfl rfl rfl rfl rfl rfl Tryz.call94 (.sel 0 rfl (.sel 0 rfl (.sel 0 rfl (.sel 0 rfl (.sel 0 rfl (.nil _)))))) (wire_Reader_At.calls _ _ bp1 ap1_0 cp1_0 xp1_0 s4v.2.1 s4v.2.2 (hp1_0.lend 3 rfl) hcp1_0 hmp1_0) hs8v) rfl rfl rfl ?_
 intro y9v
 refine vm rfl rfl ?_
 refine vq (q_eql rfl rfl rfl) rfl ?_
 refine va rfl rfl (simL_nil (nrm_then ?_))
 refine sim_cond rfl (fun h10v => ?_) (fun h11v => ?_)
 refine sim_region ?_
 refine vm rfl rfl ?_
 refine vm rfl rfl ?_
 refine vn rfl rfl ?_
 refine vq (q_fa rfl rfl Tryz.underlying76 rfl rfl Tryz.sizeOf73 rfl) rfl ?_
 refine vq (q_load rfl rfl Tryz.isAgg73 (.obj 1 rfl rfl)) rfl ?_
 refine simL_bind (fun s12v hs13v => ?_)
 refine simL_eff (re_call (vs := [.pointer (some ⟨bp1, 0, none⟩)]) (cap := []) (A := [obj bp1 125 [.slice ap1_0 xp1_0.length cp1_0, .int .i64 s4v.2.1, .int .i64 s4v.2.2]]) (rst := [obj bp0 76 [.pointer (some ⟨bp1, 0, none⟩), .int .i64 xp0_1], obj bp2 72 [.pointer (some ⟨bp0, 0, none⟩)], obj bp3 9 [str xp3_0], F]) rfl rfl rfl rfl rfl rfl Tryz.call33 (.sel 0 rfl (.sel 0 rfl (.sel 0 rfl (.sel 0 rfl (.sel 0 rfl (.nil _)))))) (wire_Reader_Done.calls _ _ bp1 ap1_0 cp1_0 xp1_0 s4v.2.1 s4v.2.2 (hp1_0.lend 3 rfl) hcp1_0 hmp1_0) hs13v) rfl rfl rfl ?_
 intro y14v
 refine vn rfl rfl ?_
 refine vq (q_fa rfl rfl Tryz.underlying76 rfl rfl Tryz.sizeOf31 rfl) rfl ?_
 refine simL_do (re_store 1 rfl rfl rfl Tryz.sizeOf31 rfl rfl (one_of (by rfl)) rfl rfl) rfl rfl ?_
 intro _
 refine simL_nil (nrm_block (nrm_then (sim_seq ?_)))
 refine sim_draw (Γ := Unit) () [[], [], [1], [1, 2], [1, 2, 3], [1, 2, 3, 4], [0], rL 7] [] [0, 1, 2, 3, 4, 5, 6, 7] (fun i => [[0], [0], [0], [0], [0], [0], [0], [0]].getD i []) (fun i => [[], [], [], [], [], [], [], []].getD i []) (fun γ i => [str s4v.1, .pointer (some ⟨bp0, 0, none⟩), .pointer (some ⟨bp0, 0, none⟩), .pointer (some ⟨bp0, 1, none⟩), .int .i64 s12v, .bool (decide (s12v = (0 : Int))), str s4v.1, .bool (decide (s12v = (0 : Int)))].getD i undef) (fun j γ => [[obj bp1 125 [.slice ap1_0 xp1_0.length cp1_0, .int .i64 s4v.2.1, .int .i64 s4v.2.2], obj bp0 76 [.pointer (some ⟨bp1, 0, none⟩), .int .i64 s12v], obj bp2 72 [.pointer (some ⟨bp0, 0, none⟩)], obj bp3 9 [str xp3_0], F]].getD j []) (fun γ => [(8, str s4v.1), (9, .bool (decide (s12v = (0 : Int))))]) mixed (by decide) (by decide) (by decide) (by decide) (by decide) (by decide) (by decide) 50 rfl (by decide) (by decide) (by decide) (Ent.refl _) ?_ ?_ (fun _ => ⟨rfl, rfl, trivial⟩) ?_
 exact (aq rfl (fun γ => qm rfl (.o (s := 11) rfl (by decide) .nil) rfl) (aq rfl (fun γ => qm rfl (.o (s := 0) rfl (by decide) .nil) rfl) (aq rfl (fun γ => qp rfl rfl (.v 1 rfl rfl .nil) (q_nil rfl rfl) rfl) (aq rfl (fun γ => qp rfl rfl (.v 2 rfl rfl .nil) (q_fa rfl rfl Tryz.underlying76 rfl rfl Tryz.sizeOf31 rfl) rfl) (aq rfl (fun γ => qp rfl rfl (.v 3 rfl rfl .nil) (q_load rfl rfl Tryz.isAgg31 (.obj 1 rfl rfl)) rfl) (aq rfl (fun γ => qp rfl rfl (.v 4 rfl rfl .nil) (q_eql rfl rfl rfl) rfl) (aq rfl (fun γ => qp rfl rfl (.v 0 rfl rfl .nil) (q_asg rfl rfl) rfl) (aq rfl (fun γ => qp rfl rfl (.v 5 rfl rfl .nil) (q_asg rfl rfl) rfl) zA))))))))
 exact zA
 intro g15v
 refine nrm_then (sim_rtn ?_)
 exact rtn_fn () rfl rfl rfl (.sel 0 rfl (.sel 0 rfl (.sel 0 rfl (.sel 0 rfl (.sel 0 rfl (.nil _))))))
 refine sr ?_
 refine vm rfl rfl ?_
 refine vm rfl rfl ?_
 refine simL_bind (fun s16v hs17v => ?_)
 refine simL_eff (re_call (vs := [str s4v.1]) (cap := [.pointer (some ⟨bp3, 0, none⟩)]) (A := [obj bp3 9 [str xp3_0]]) (rst := [obj bp1 125 [.slice ap1_0 xp1_0.length cp1_0, .int .i64 s4v.2.1, .int .i64 s4v.2.2], obj bp0 76 [.pointer (some ⟨bp1, 0, none⟩), .int .i64 xp0_1], obj bp2 72 [.pointer (some ⟨bp0, 0, none⟩)], F]) rfl rfl rfl rfl rfl rfl Tryz.call64 (.sel 3 rfl (.sel 0 rfl (.sel 0 rfl (.sel 0 rfl (.sel 0 rfl (.nil _)))))) (kv_reader_pairs_3.calls _ _ s4v.1 bp3 xp3_0 ) hs17v) rfl rfl rfl ?_
 intro y18v
 refine vq (q_not rfl rfl) rfl ?_
 refine va rfl rfl (simL_nil (nrm_then ?_))
 refine sim_condb rfl (fun h19v => ?_) (fun h20v => ?_)
 refine sim_region ?_
 refine vm rfl rfl ?_
 refine vm rfl rfl ?_
 refine vn rfl rfl ?_
 refine vq (q_fa rfl rfl Tryz.underlying76 rfl rfl Tryz.sizeOf31 rfl) rfl ?_
 refine simL_do (re_store 2 rfl rfl rfl Tryz.sizeOf31 rfl rfl (one_of (by rfl)) rfl rfl) rfl rfl ?_
 intro _
 refine simL_nil (nrm_block (nrm_then (sim_seq ?_)))
 refine sim_draw (Γ := Unit) () [[], [], [1], [1, 2], [1, 2, 3], [1, 2, 3, 4], [0], rL 7] [] [0, 1, 2, 3, 4, 5, 6, 7] (fun i => [[0], [0], [0], [0], [0], [0], [0], [0]].getD i []) (fun i => [[], [], [], [], [], [], [], []].getD i []) (fun γ i => [str s4v.1, .pointer (some ⟨bp0, 0, none⟩), .pointer (some ⟨bp0, 0, none⟩), .pointer (some ⟨bp0, 1, none⟩), .int .i64 x3, .bool (decide (x3 = (0 : Int))), str s4v.1, .bool (decide (x3 = (0 : Int)))].getD i undef) (fun j γ => [[obj bp3 9 [str xp3_0], obj bp1 125 [.slice ap1_0 xp1_0.length cp1_0, .int .i64 s4v.2.1, .int .i64 s4v.2.2], obj bp0 76 [.pointer (some ⟨bp1, 0, none⟩), .int .i64 x3], obj bp2 72 [.pointer (some ⟨bp0, 0, none⟩)], F]].getD j []) (fun γ => [(8, str s4v.1), (9, .bool (decide (x3 = (0 : Int))))]) mixed (by decide) (by decide) (by decide) (by decide) (by decide) (by decide) (by decide) 50 rfl (by decide) (by decide) (by decide) (Ent.refl _) ?_ ?_ (fun _ => ⟨rfl, rfl, trivial⟩) ?_
 exact (aq rfl (fun γ => qm rfl (.o (s := 11) rfl (by decide) .nil) rfl) (aq rfl (fun γ => qm rfl (.o (s := 0) rfl (by decide) .nil) rfl) (aq rfl (fun γ => qp rfl rfl (.v 1 rfl rfl .nil) (q_nil rfl rfl) rfl) (aq rfl (fun γ => qp rfl rfl (.v 2 rfl rfl .nil) (q_fa rfl rfl Tryz.underlying76 rfl rfl Tryz.sizeOf31 rfl) rfl) (aq rfl (fun γ => qp rfl rfl (.v 3 rfl rfl .nil) (q_load rfl rfl Tryz.isAgg31 (.obj 2 rfl rfl)) rfl) (aq rfl (fun γ => qp rfl rfl (.v 4 rfl rfl .nil) (q_eql rfl rfl rfl) rfl) (aq rfl (fun γ => qp rfl rfl (.v 0 rfl rfl .nil) (q_asg rfl rfl) rfl) (aq rfl (fun γ => qp rfl rfl (.v 5 rfl rfl .nil) (q_asg rfl rfl) rfl) zA))))))))
 exact zA
 intro g21v
 refine nrm_then (sim_rtn ?_)
 exact rtn_fn () rfl rfl rfl (.sel 1 rfl (.sel 1 rfl (.sel 1 rfl (.sel 0 rfl (.sel 0 rfl (.nil _))))))
 refine sim_skip ?_
 refine nrm_block (nrm_then (sim_seq ?_))
 refine sim_draw (Γ := Unit) () [[], [], [1], [1, 2], [1, 2, 3], [1, 2, 3, 4], [0], rL 7] [] [0, 1, 2, 3, 4, 5, 6, 7] (fun i => [[0], [0], [0], [0], [0], [0], [0], [0]].getD i []) (fun i => [[], [], [], [], [], [], [], []].getD i []) (fun γ i => [str s4v.1, .pointer (some ⟨bp0, 0, none⟩), .pointer (some ⟨bp0, 0, none⟩), .pointer (some ⟨bp0, 1, none⟩), .int .i64 xp0_1, .bool (decide (xp0_1 = (0 : Int))), str s4v.1, .bool (decide (xp0_1 = (0 : Int)))].getD i undef) (fun j γ => [[obj bp3 9 [str xp3_0], obj bp1 125 [.slice ap1_0 xp1_0.length cp1_0, .int .i64 s4v.2.1, .int .i64 s4v.2.2], obj bp0 76 [.pointer (some ⟨bp1, 0, none⟩), .int .i64 xp0_1], obj bp2 72 [.pointer (some ⟨bp0, 0, none⟩)], F]].getD j []) (fun γ => [(8, str s4v.1), (9, .bool (decide (xp0_1 = (0 : Int))))]) mixed (by decide) (by decide) (by decide) (by decide) (by decide) (by decide) (by decide) 50 rfl (by decide) (by decide) (by decide) (Ent.refl _) ?_ ?_ (fun _ => ⟨rfl, rfl, trivial⟩) ?_
 exact (aq rfl (fun γ => qm rfl (.o (s := 11) rfl (by decide) .nil) rfl) (aq rfl (fun γ => qm rfl (.o (s := 0) rfl (by decide) .nil) rfl) (aq rfl (fun γ => qp rfl rfl (.v 1 rfl rfl .nil) (q_nil rfl rfl) rfl) (aq rfl (fun γ => qp rfl rfl (.v 2 rfl rfl .nil) (q_fa rfl rfl Tryz.underlying76 rfl rfl Tryz.sizeOf31 rfl) rfl) (aq rfl (fun γ => qp rfl rfl (.v 3 rfl rfl .nil) (q_load rfl rfl Tryz.isAgg31 (.obj 2 rfl rfl)) rfl) (aq rfl (fun γ => qp rfl rfl (.v 4 rfl rfl .nil) (q_eql rfl rfl rfl) rfl) (aq rfl (fun γ => qp rfl rfl (.v 0 rfl rfl .nil) (q_asg rfl rfl) rfl) (aq rfl (fun γ => qp rfl rfl (.v 5 rfl rfl .nil) (q_asg rfl rfl) rfl) zA))))))))
 exact zA
 intro g22v
 refine nrm_then (sim_rtn ?_)
 exact rtn_fn () rfl rfl rfl (.sel 1 rfl (.sel 1 rfl (.sel 1 rfl (.sel 0 rfl (.sel 0 rfl (.nil _))))))

def kv_reader_pairs_4_s.f (k : Nat) (xp2_0 : List UInt8) (xp2_1 : Int) (xp2_2 : Int) (xp1_1 : Int) : Option (List UInt8 × Int × Int) := (wire_Reader_Text.f k xp2_0 xp2_1 xp2_2 (1024 : Int)).bind fun s1v => (some (s1v.1, s1v.2.1, s1v.2.2))
theorem kv_reader_pairs_4_s.calls (W : World) (F : HA) (k : Nat) (bp0 : Nat) (bp1 : Nat) (bp2 : Nat) (ap2_0 : Option Addr) (cp2_0 : Nat) (xp2_0 : List UInt8) (xp2_1 : Int) (xp2_2 : Int) (xp1_1 : Int) (hp2_0 : Rd F ap2_0 (encB xp2_0)) (hcp2_0 : xp2_0.length ≤ cp2_0) (hmp2_0 : cp2_0 ≤ maxLen) :
    Fn Tryz.prog W 65 [.pointer (some ⟨bp0, 0, none⟩)] [obj bp2 125 [.slice ap2_0 xp2_0.length cp2_0, .int .i64 xp2_1, .int .i64 xp2_2], obj bp1 76 [.pointer (some ⟨bp2, 0, none⟩), .int .i64 xp1_1], obj bp0 72 [.pointer (some ⟨bp1, 0, none⟩)]] F (kv_reader_pairs_4_s.f k xp2_0 xp2_1 xp2_2 xp1_1) (fun (r : List UInt8 × Int × Int) (y : Unit) => str r.1) (fun r y => [obj bp2 125 [.slice ap2_0 xp2_0.length cp2_0, .int .i64 r.2.1, .int .i64 r.2.2], obj bp1 76 [.pointer (some ⟨bp2, 0, none⟩), .int .i64 xp1_1], obj bp0 72 [.pointer (some ⟨bp1, 0, none⟩)]]) := by
 unfold kv_reader_pairs_4_s.f
 refine fn_intro 7 Tryz.func65 rfl Tryz.ntmps65 rfl ?_
 refine sr ?_
 refine va rfl rfl (nx ?_)
 refine vq (q_load rfl rfl Tryz.isAgg72 (.obj 2 rfl rfl)) rfl ?_
 refine vn rfl rfl ?_
 refine vq (q_fa rfl rfl Tryz.underlying76 rfl rfl Tryz.sizeOf73 rfl) rfl ?_
 refine vq (q_load rfl rfl Tryz.isAgg73 (.obj 1 rfl rfl)) rfl ?_
 refine simL_bind (fun s1v hs2v => ?_)
 refine simL_eff (re_call (vs := [.pointer (some ⟨bp2, 0, none⟩), .int .i64 1024]) (cap := []) (A := [obj bp2 125 [.slice ap2_0 xp2_0.length cp2_0, .int .i64 xp2_1, .int .i64 xp2_2]]) (rst := [obj bp1 76 [.pointer (some ⟨bp2, 0, none⟩), .int .i64 xp1_1], obj bp0 72 [.pointer (some ⟨bp1, 0, none⟩)], F]) rfl rfl rfl rfl rfl rfl Tryz.call63 (.sel 0 rfl (.sel 0 rfl (.sel 0 rfl (.sel 0 rfl (.nil _))))) (wire_Reader_Text.calls _ _ k bp2 ap2_0 cp2_0 xp2_0 xp2_1 xp2_2 (1024 : Int) (hp2_0.lend 2 rfl) hcp2_0 hmp2_0) hs2v) rfl rfl rfl ?_
 intro y3v
 refine va rfl rfl (simL_nil (nrm_then (sim_rtn ?_)))
 exact rtn_fn () rfl rfl rfl (.sel 0 rfl (.sel 0 rfl (.sel 0 rfl (.sel 0 rfl (.nil _)))))

def kv_is_string_kv_reader_pairs_4_kv_reader_pairs_5.f (k : Nat) (xp1_0 : List UInt8) (xp1_1 : Int) (xp1_2 : Int) (xp0_1 : Int) (x3 : Int) : Option (List UInt8 × Bool × Int × Int × Int) := (wire_Reader_At.f xp1_0 xp1_1 xp1_2).bind fun s1v => ((kv_reader_pairs_4_s.f k xp1_0 xp1_1 xp1_2 xp0_1).bind fun s4v => ((wire_Reader_At.f xp1_0 s4v.2.1 s4v.2.2).bind fun s7v => (if s7v = s1v then ((wire_Reader_Done.f xp1_0 s4v.2.1 s4v.2.2).bind fun s12v => (some (s4v.1, decide (s12v = (0 : Int)), s4v.2.1, s4v.2.2, s12v))) else ((kv_reader_pairs_5.f s4v.1).bind fun s16v => (if (!s16v) = true then (some (s4v.1, decide (x3 = (0 : Int)), s4v.2.1, s4v.2.2, x3)) else (some (s4v.1, decide (xp0_1 = (0 : Int)), s4v.2.1, s4v.2.2, xp0_1)))))))
theorem kv_is_string_kv_reader_pairs_4_kv_reader_pairs_5.calls (W : World) (F : HA) (k : Nat) (bp0 : Nat) (bp1 : Nat) (ap1_0 : Option Addr) (cp1_0 : Nat) (xp1_0 : List UInt8) (xp1_1 : Int) (xp1_2 : Int) (xp0_1 : Int) (bp2 : Nat) (x3 : Int) (hp1_0 : Rd F ap1_0 (encB xp1_0)) (hcp1_0 : xp1_0.length ≤ cp1_0) (hmp1_0 : cp1_0 ≤ maxLen) :
    Fn Tryz.prog W 61 [.pointer (some ⟨bp0, 0, none⟩), .func (.func 65) #[] #[.pointer (some ⟨bp2, 0, none⟩)], .func (.func 66) #[] #[], .int .i64 x3] [obj bp1 125 [.slice ap1_0 xp1_0.length cp1_0, .int .i64 xp1_1, .int .i64 xp1_2], obj bp0 76 [.pointer (some ⟨bp1, 0, none⟩), .int .i64 xp0_1], obj bp2 72 [.pointer (some ⟨bp0, 0, none⟩)]] F (kv_is_string_kv_reader_pairs_4_kv_reader_pairs_5.f k xp1_0 xp1_1 xp1_2 xp0_1 x3) (fun (r : List UInt8 × Bool × Int × Int × Int) (y : Unit) => .tuple #[str r.1, .bool r.2.1]) (fun r y => [obj bp1 125 [.slice ap1_0 xp1_0.length cp1_0, .int .i64 r.2.2.1, .int .i64 r.2.2.2.1], obj bp0 76 [.pointer (some ⟨bp1, 0, none⟩), .int .i64 r.2.2.2.2], obj bp2 72 [.pointer (some ⟨bp0, 0, none⟩)]]) := by
 unfold kv_is_string_kv_reader_pairs_4_kv_reader_pairs_5.f
 refine fn_intro 50 Tryz.func61 rfl Tryz.ntmps61 rfl ?_
 refine sr ?_
 refine va rfl rfl ?_
 refine va rfl rfl (nx ?_)
 refine vm rfl rfl ?_
 refine vn rfl rfl ?_
 refine vq (q_fa rfl rfl Tryz.underlying76 rfl rfl Tryz.sizeOf73 rfl) rfl ?_
 refine vq (q_load rfl rfl Tryz.isAgg73 (.obj 1 rfl rfl)) rfl ?_
 refine simL_bind (fun s1v hs2v => ?_)
 refine simL_eff (re_call (vs := [.pointer (some ⟨bp1, 0, none⟩)]) (cap := []) (A := [obj bp1 125 [.slice ap1_0 xp1_0.length cp1_0, .int .i64 xp1_1, .int .i64 xp1_2]]) (rst := [obj bp0 76 [.pointer (some ⟨bp1, 0, none⟩), .int .i64 xp0_1], obj bp2 72 [.pointer (some ⟨bp0, 0, none⟩)], F]) rfl rfl rfl rfl rfl rfl Tryz.call94 (.sel 0 rfl (.sel 0 rfl (.sel 0 rfl (.sel 0 rfl (.nil _))))) (wire_Reader_At.calls _ _ bp1 ap1_0 cp1_0 xp1_0 xp1_1 xp1_2 (hp1_0.lend 2 rfl) hcp1_0 hmp1_0) hs2v) rfl rfl rfl ?_
 intro y3v
 refine va rfl rfl (nx ?_)
 refine vm rfl rfl ?_
 refine simL_bind (fun s4v hs5v => ?_)
 refine simL_eff (re_call (vs := []) (cap := [.pointer (some ⟨bp2, 0, none⟩)]) (A := [obj bp1 125 [.slice ap1_0 xp1_0.length cp1_0, .int .i64 xp1_1, .int .i64 xp1_2], obj bp0 76 [.pointer (some ⟨bp1, 0, none⟩), .int .i64 xp0_1], obj bp2 72 [.pointer (some ⟨bp0, 0, none⟩)]]) (rst := [F]) rfl rfl rfl rfl rfl rfl Tryz.call65 (.sel 0 rfl (.sel 0 rfl (.sel 0 rfl (.sel 0 rfl (.nil _))))) (kv_reader_pairs_4_s.calls _ _ k bp2 bp0 bp1 ap1_0 cp1_0 xp1_0 xp1_1 xp1_2 xp0_1 (hp1_0.lend 0 rfl) hcp1_0 hmp1_0) hs5v) rfl rfl rfl ?_
 intro y6v
 refine va rfl rfl (simL_nil (nrm_then (sim_seq ?_)))
 refine sim_block ?_
 refine sr ?_
 refine vm rfl rfl ?_
 refine vn rfl rfl ?_
 refine vq (q_fa rfl rfl Tryz.underlying76 rfl rfl Tryz.sizeOf73 rfl) rfl ?_
 refine vq (q_load rfl rfl Tryz.isAgg73 (.obj 1 rfl rfl)) rfl ?_
 refine simL_bind (fun s7v hs8v => ?_)
 refine simL_eff (re_call (vs := [.pointer (some ⟨bp1, 0, none⟩)]) (cap := []) (A := [obj bp1 125 [.slice ap1_0 xp1_0.length cp1_0, .int .i64 s4v.2.1, .int .i64 s4v.2.2]]) (rst := [obj bp0 76 [.pointer (some ⟨bp1, 0, none⟩), .int .i64 xp0_1], obj bp2 72 [.pointer (some ⟨bp0, 0, none⟩)], F]) rfl rfl rfl rfl rfl rfl Tryz.call94 (.sel 0 rfl (.sel 0 rfl (.sel 0 rfl (.sel 0 rfl (.nil _))))) (wire_Reader_At.calls _ _ bp1 ap1_0 cp1_0 xp1_0 s4v.2.1 s4v.2.2 (hp1_0.lend 2 rfl) hcp1_0 hmp1_0) hs8v) rfl rfl rfl ?_
 intro y9v
 refine vm rfl rfl ?_
 refine vq (q_eql rfl rfl rfl) rfl ?_
 refine va rfl rfl (simL_nil (nrm_then ?_))
 refine sim_cond rfl (fun h10v => ?_) (fun h11v => ?_)
 refine sim_region ?_
 refine vm rfl rfl ?_
 refine vm rfl rfl ?_
 refine vn rfl rfl ?_
 refine vq (q_fa rfl rfl Tryz.underlying76 rfl rfl Tryz.sizeOf73 rfl) rfl ?_
 refine vq (q_load rfl rfl Tryz.isAgg73 (.obj 1 rfl rfl)) rfl ?_
 refine simL_bind (fun s12v hs13v => ?_)
 refine simL_eff (re_call (vs := [.pointer (some ⟨bp1, 0, none⟩)]) (cap := []) (A := [obj bp1 125 [.slice ap1_0 xp1_0.length cp1_0, .int .i64 s4v.2.1, .int .i64 s4v.2.2]]) (rst := [obj bp0 76 [.pointer (some ⟨bp1, 0, none⟩), .int .i64 xp0_1], obj bp2 72 [.pointer (some ⟨bp0, 0, none⟩)], F]) rfl rfl rfl rfl rfl rfl Tryz.call33 (.sel 0 rfl (.sel 0 rfl (.sel 0 rfl (.sel 0 rfl (.nil _))))) (wire_Reader_Done.calls _ _ bp1 ap1_0 cp1_0 xp1_0 s4v.2.1 s4v.2.2 (hp1_0.lend 2 rfl) hcp1_0 hmp1_0) hs13v) rfl rfl rfl ?_
 intro y14v
 refine vn rfl rfl ?_
 refine vq (q_fa rfl rfl Tryz.underlying76 rfl rfl Tryz.sizeOf31 rfl) rfl ?_
 refine simL_do (re_store 1 rfl rfl rfl Tryz.sizeOf31 rfl rfl (one_of (by rfl)) rfl rfl) rfl rfl ?_
 intro _
 refine simL_nil (nrm_block (nrm_then (sim_seq ?_)))
 refine sim_draw (Γ := Unit) () [[], [], [1], [1, 2], [1, 2, 3], [1, 2, 3, 4], [0], rL 7] [] [0, 1, 2, 3, 4, 5, 6, 7] (fun i => [[0], [0], [0], [0], [0], [0], [0], [0]].getD i []) (fun i => [[], [], [], [], [], [], [], []].getD i []) (fun γ i => [str s4v.1, .pointer (some ⟨bp0, 0, none⟩), .pointer (some ⟨bp0, 0, none⟩), .pointer (some ⟨bp0, 1, none⟩), .int .i64 s12v, .bool (decide (s12v = (0 : Int))), str s4v.1, .bool (decide (s12v = (0 : Int)))].getD i undef) (fun j γ => [[obj bp1 125 [.slice ap1_0 xp1_0.length cp1_0, .int .i64 s4v.2.1, .int .i64 s4v.2.2], obj bp0 76 [.pointer (some ⟨bp1, 0, none⟩), .int .i64 s12v], obj bp2 72 [.pointer (some ⟨bp0, 0, none⟩)], F]].getD j []) (fun γ => [(8, str s4v.1), (9, .bool (decide (s12v = (0 : Int))))]) mixed (by decide) (by decide) (by decide) (by decide) (by decide) (by decide) (by decide) 50 rfl (by decide) (by decide) (by decide) (Ent.refl _) ?_ ?_ (fun _ => ⟨rfl, rfl, trivial⟩) ?_
 exact (aq rfl (fun γ => qm rfl (.o (s := 11) rfl (by decide) .nil) rfl) (aq rfl (fun γ => qm rfl (.o (s := 0) rfl (by decide) .nil) rfl) (aq rfl (fun γ => qp rfl rfl (.v 1 rfl rfl .nil) (q_nil rfl rfl) rfl) (aq rfl (fun γ => qp rfl rfl (.v 2 rfl rfl .nil) (q_fa rfl rfl Tryz.underlying76 rfl rfl Tryz.sizeOf31 rfl) rfl) (aq rfl (fun γ => qp rfl rfl (.v 3 rfl rfl .nil) (q_load rfl rfl Tryz.isAgg31 (.obj 1 rfl rfl)) rfl) (aq rfl (fun γ => qp rfl rfl (.v 4 rfl rfl .nil) (q_eql rfl rfl rfl) rfl) (aq rfl (fun γ => qp rfl rfl (.v 0 rfl rfl .nil) (q_asg rfl rfl) rfl) (aq rfl (fun γ => qp rfl rfl (.v 5 rfl rfl .nil) (q_asg rfl rfl) rfl) zA))))))))
 exact zA
 intro g15v
 refine nrm_then (sim_rtn ?_)
 exact rtn_fn () rfl rfl rfl (.sel 0 rfl (.sel 0 rfl (.sel 0 rfl (.sel 0 rfl (.nil _)))))
 refine sr ?_
 refine vm rfl rfl ?_
 refine vm rfl rfl ?_
 refine simL_bind (fun s16v hs17v => ?_)
 refine simL_eff (re_call (vs := [str s4v.1]) (cap := []) (A := []) (rst := [obj bp1 125 [.slice ap1_0 xp1_0.length cp1_0, .int .i64 s4v.2.1, .int .i64 s4v.2.2], obj bp0 76 [.pointer (some ⟨bp1, 0, none⟩), .int .i64 xp0_1], obj bp2 72 [.pointer (some ⟨bp0, 0, none⟩)], F]) rfl rfl rfl rfl rfl rfl Tryz.call66 (.sel 0 rfl (.sel 0 rfl (.sel 0 rfl (.sel 0 rfl (.nil _))))) (kv_reader_pairs_5.calls _ _ s4v.1 ) hs17v) rfl rfl rfl ?_
 intro y18v
 refine vq (q_not rfl rfl) rfl ?_
 refine va rfl rfl (simL_nil (nrm_then ?_))
 refine sim_condb rfl (fun h19v => ?_) (fun h20v => ?_)
 refine sim_region ?_
 refine vm rfl rfl ?_
 refine vm rfl rfl ?_
 refine vn rfl rfl ?_
 refine vq (q_fa rfl rfl Tryz.underlying76 rfl rfl Tryz.sizeOf31 rfl) rfl ?_
 refine simL_do (re_store 1 rfl rfl rfl Tryz.sizeOf31 rfl rfl (one_of (by rfl)) rfl rfl) rfl rfl ?_
 intro _
 refine simL_nil (nrm_block (nrm_then (sim_seq ?_)))
 refine sim_draw (Γ := Unit) () [[], [], [1], [1, 2], [1, 2, 3], [1, 2, 3, 4], [0], rL 7] [] [0, 1, 2, 3, 4, 5, 6, 7] (fun i => [[0], [0], [0], [0], [0], [0], [0], [0]].getD i []) (fun i => [[], [], [], [], [], [], [], []].getD i []) (fun γ i => [str s4v.1, .pointer (some ⟨bp0, 0, none⟩), .pointer (some ⟨bp0, 0, none⟩), .pointer (some ⟨bp0, 1, none⟩), .int .i64 x3, .bool (decide (x3 = (0 : Int))), str s4v.1, .bool (decide (x3 = (0 : Int)))].getD i undef) (fun j γ => [[obj bp1 125 [.slice ap1_0 xp1_0.length cp1_0, .int .i64 s4v.2.1, .int .i64 s4v.2.2], obj bp0 76 [.pointer (some ⟨bp1, 0, none⟩), .int .i64 x3], obj bp2 72 [.pointer (some ⟨bp0, 0, none⟩)], F]].getD j []) (fun γ => [(8, str s4v.1), (9, .bool (decide (x3 = (0 : Int))))]) mixed (by decide) (by decide) (by decide) (by decide) (by decide) (by decide) (by decide) 50 rfl (by decide) (by decide) (by decide) (Ent.refl _) ?_ ?_ (fun _ => ⟨rfl, rfl, trivial⟩) ?_
 exact (aq rfl (fun γ => qm rfl (.o (s := 11) rfl (by decide) .nil) rfl) (aq rfl (fun γ => qm rfl (.o (s := 0) rfl (by decide) .nil) rfl) (aq rfl (fun γ => qp rfl rfl (.v 1 rfl rfl .nil) (q_nil rfl rfl) rfl) (aq rfl (fun γ => qp rfl rfl (.v 2 rfl rfl .nil) (q_fa rfl rfl Tryz.underlying76 rfl rfl Tryz.sizeOf31 rfl) rfl) (aq rfl (fun γ => qp rfl rfl (.v 3 rfl rfl .nil) (q_load rfl rfl Tryz.isAgg31 (.obj 1 rfl rfl)) rfl) (aq rfl (fun γ => qp rfl rfl (.v 4 rfl rfl .nil) (q_eql rfl rfl rfl) rfl) (aq rfl (fun γ => qp rfl rfl (.v 0 rfl rfl .nil) (q_asg rfl rfl) rfl) (aq rfl (fun γ => qp rfl rfl (.v 5 rfl rfl .nil) (q_asg rfl rfl) rfl) zA))))))))
 exact zA
 intro g21v
 refine nrm_then (sim_rtn ?_)
 exact rtn_fn () rfl rfl rfl (.sel 0 rfl (.sel 0 rfl (.sel 0 rfl (.sel 0 rfl (.nil _)))))
 refine sim_skip ?_
 refine nrm_block (nrm_then (sim_seq ?_))
 refine sim_draw (Γ := Unit) () [[], [], [1], [1, 2], [1, 2, 3], [1, 2, 3, 4], [0], rL 7] [] [0, 1, 2, 3, 4, 5, 6, 7] (fun i => [[0], [0], [0], [0], [0], [0], [0], [0]].getD i []) (fun i => [[], [], [], [], [], [], [], []].getD i []) (fun γ i => [str s4v.1, .pointer (some ⟨bp0, 0, none⟩), .pointer (some ⟨bp0, 0, none⟩), .pointer (some ⟨bp0, 1, none⟩), .int .i64 xp0_1, .bool (decide (xp0_1 = (0 : Int))), str s4v.1, .bool (decide (xp0_1 = (0 : Int)))].getD i undef) (fun j γ => [[obj bp1 125 [.slice ap1_0 xp1_0.length cp1_0, .int .i64 s4v.2.1, .int .i64 s4v.2.2], obj bp0 76 [.pointer (some ⟨bp1, 0, none⟩), .int .i64 xp0_1], obj bp2 72 [.pointer (some ⟨bp0, 0, none⟩)], F]].getD j []) (fun γ => [(8, str s4v.1), (9, .bool (decide (xp0_1 = (0 : Int))))]) mixed (by decide) (by decide) (by decide) (by decide) (by decide) (by decide) (by decide) 50 rfl (by decide) (by decide) (by decide) (Ent.refl _) ?_ ?_ (fun _ => ⟨rfl, rfl, trivial⟩) ?_
 exact (aq rfl (fun γ => qm rfl (.o (s := 11) rfl (by decide) .nil) rfl) (aq rfl (fun γ => qm rfl (.o (s := 0) rfl (by decide) .nil) rfl) (aq rfl (fun γ => qp rfl rfl (.v 1 rfl rfl .nil) (q_nil rfl rfl) rfl) (aq rfl (fun γ => qp rfl rfl (.v 2 rfl rfl .nil) (q_fa rfl rfl Tryz.underlying76 rfl rfl Tryz.sizeOf31 rfl) rfl) (aq rfl (fun γ => qp rfl rfl (.v 3 rfl rfl .nil) (q_load rfl rfl Tryz.isAgg31 (.obj 1 rfl rfl)) rfl) (aq rfl (fun γ => qp rfl rfl (.v 4 rfl rfl .nil) (q_eql rfl rfl rfl) rfl) (aq rfl (fun γ => qp rfl rfl (.v 0 rfl rfl .nil) (q_asg rfl rfl) rfl) (aq rfl (fun γ => qp rfl rfl (.v 5 rfl rfl .nil) (q_asg rfl rfl) rfl) zA))))))))
 exact zA
 intro g22v
 refine nrm_then (sim_rtn ?_)
 exact rtn_fn () rfl rfl rfl (.sel 0 rfl (.sel 0 rfl (.sel 0 rfl (.sel 0 rfl (.nil _)))))

def kv_reader_pairs_s.l0 (xp1_0 : List UInt8) (xp2_1 : List ((Int) × (Ty69))) (s2v : Int × Bool × Int × Int × Int) : Nat → Bool → Int → List UInt8 → Int → Int → Int → List ((List UInt8) × (List UInt8)) → Option ((Bool × Int × Int × Int × (List ((List UInt8) × (List UInt8)))) ⊕ (Bool × Int × Int × Int × (List ((List UInt8) × (List UInt8))) × (List ((Int) × (Ty69)))))
  | 0, _, _, _, _, _, _, _ => none
  | k + 1, z11v, z12v, z13v, z14v, z15v, z16v, z17v => if (z11v && (decide (z12v < s2v.1))) = true then ((kv_is_string_kv_reader_pairs_2_kv_reader_pairs_3.f k xp1_0 z14v z15v z16v z13v (4 : Int)).bind fun s20v => (if (!s20v.2.1) = true then (some (.inr (false, s20v.2.2.1, s20v.2.2.2.1, s20v.2.2.2.2, z17v, xp2_1))) else ((kv_is_string_kv_reader_pairs_4_kv_reader_pairs_5.f k xp1_0 s20v.2.2.1 s20v.2.2.2.1 s20v.2.2.2.2 (0 : Int)).bind fun s25v => (kv_reader_pairs_s.l0 xp1_0 xp2_1 s2v k s25v.2.1 (IntKind.i64.wrap (z12v + 1)) s20v.1 s25v.2.2.1 s25v.2.2.2.1 s25v.2.2.2.2 (mput z17v s20v.1 s25v.1))))) else (some (.inl (z11v, z14v, z15v, z16v, z17v)))
def kv_reader_pairs_s.f (k : Nat) (xp1_0 : List UInt8) (xp1_1 : Int) (xp1_2 : Int) (xp0_1 : Int) (xp2_0 : List ((List UInt8) × (List UInt8))) (xp2_1 : List ((Int) × (Ty69))) : Option (Bool × Int × Int × Int × (List ((List UInt8) × (List UInt8))) × (List ((Int) × (Ty69)))) := (kv_is_int_wire_Reader_Int_kv_reader_pairs_1.f k xp1_0 xp1_1 xp1_2 xp0_1 (23 : Int)).bind fun s2v => (orR (kv_reader_pairs_s.l0 xp1_0 xp2_1 s2v k s2v.2.1 0 ([] : List UInt8) s2v.2.2.1 s2v.2.2.2.1 s2v.2.2.2.2 xp2_0) fun s7v => (some (s7v.1, s7v.2.1, s7v.2.2.1, s7v.2.2.2.1, s7v.2.2.2.2, xp2_1)))
theorem kv_reader_pairs_s.calls (W : World) (F : HA) (k : Nat) (bp0 : Nat) (bp1 : Nat) (ap1_0 : Option Addr) (cp1_0 : Nat) (xp1_0 : List UInt8) (xp1_1 : Int) (xp1_2 : Int) (xp0_1 : Int) (bp2 : Nat) (mp2_0 : Nat) (xp2_0 : List ((List UInt8) × (List UInt8))) (mp2_1 : Nat) (xp2_1 : List ((Int) × (Ty69))) (hp1_0 : Rd F ap1_0 (encB xp1_0)) (hcp1_0 : xp1_0.length ≤ cp1_0) (hmp1_0 : cp1_0 ≤ maxLen) :
    Fn Tryz.prog W 31 [.pointer (some ⟨bp0, 0, none⟩), .pointer (some ⟨bp2, 0, none⟩)] [obj bp1 125 [.slice ap1_0 xp1_0.length cp1_0, .int .i64 xp1_1, .int .i64 xp1_2], obj bp0 76 [.pointer (some ⟨bp1, 0, none⟩), .int .i64 xp0_1], obj bp2 58 [.map (some mp2_0), .map (some mp2_1)], mapO mp2_0 enc9 enc9 xp2_0, mapO mp2_1 enc3 enc69 xp2_1] F (kv_reader_pairs_s.f k xp1_0 xp1_1 xp1_2 xp0_1 xp2_0 xp2_1) (fun (r : Bool × Int × Int × Int × (List ((List UInt8) × (List UInt8))) × (List ((Int) × (Ty69)))) (y : Nat × Nat) => .bool r.1) (fun r y => [obj bp1 125 [.slice ap1_0 xp1_0.length cp1_0, .int .i64 r.2.1, .int .i64 r.2.2.1], obj bp0 76 [.pointer (some ⟨bp1, 0, none⟩), .int .i64 r.2.2.2.1], obj bp2 58 [.map (some y.1), .map (some y.2)], mapO y.1 enc9 enc9 r.2.2.2.2.1, mapO y.2 enc3 enc69 r.2.2.2.2.2]) := by
 unfold kv_reader_pairs_s.f
 refine fn_intro 51 Tryz.func31 rfl Tryz.ntmps31 rfl ?_
 refine sr ?_
 refine simL_eff (re_box rfl rfl rfl) rfl rfl rfl ?_
 intro b1v
 refine va rfl rfl (simL_nil (nrm_then (sim_seq ?_)))
 refine sim_bind (fun s2v hs3v => ?_)
 refine sim_draw (Γ := Unit) () [[], [], [1], [1, 2], [1, 2, 3], [1, 2, 3, 4], rL 6, rL 7, rL 8, rL 8, rL 9, rL 11] [6] [0, 1, 2, 3, 4, 5, 7, 8, 9, 10, 11] (fun i => [[0], [0], [0], [0], [0], [0], [], [1], [1], [1], [1], [1]].getD i []) (fun i => [[], [], [], [], [], [], rL 6, [], [], [], [], []].getD i []) (fun γ i => [.pointer (some ⟨bp0, 0, none⟩), .pointer (some ⟨bp0, 0, none⟩), .pointer (some ⟨bp0, 0, none⟩), .pointer (some ⟨bp0, 0, none⟩), .pointer (some ⟨bp1, 0, none⟩), .func (.func 59) #[.pointer (some ⟨bp1, 0, none⟩)] #[], .tuple #[.int .i64 s2v.1, .bool s2v.2.1], .tuple #[.int .i64 s2v.1, .bool s2v.2.1], .int .i64 s2v.1, .bool s2v.2.1, .int .i64 s2v.1, .bool s2v.2.1].getD i undef) (fun j γ => [[obj b1v 72 [.pointer (some ⟨bp0, 0, none⟩)], obj bp1 125 [.slice ap1_0 xp1_0.length cp1_0, .int .i64 xp1_1, .int .i64 xp1_2], obj bp0 76 [.pointer (some ⟨bp1, 0, none⟩), .int .i64 xp0_1], obj bp2 58 [.map (some mp2_0), .map (some mp2_1)], mapO mp2_0 enc9 enc9 xp2_0, mapO mp2_1 enc3 enc69 xp2_1, F], [obj bp1 125 [.slice ap1_0 xp1_0.length cp1_0, .int .i64 s2v.2.2.1, .int .i64 s2v.2.2.2.1], obj bp0 76 [.pointer (some ⟨bp1, 0, none⟩), .int .i64 s2v.2.2.2.2], obj b1v 72 [.pointer (some ⟨bp0, 0, none⟩)], obj bp2 58 [.map (some mp2_0), .map (some mp2_1)], mapO mp2_0 enc9 enc9 xp2_0, mapO mp2_1 enc3 enc69 xp2_1, F]].getD j []) (fun γ => [(1, .pointer (some ⟨bp2, 0, none⟩)), (2, .pointer (some ⟨b1v, 0, none⟩)), (5, .int .i64 s2v.1), (6, .bool s2v.2.1)]) mixed (by decide) (by decide) (by decide) (by decide) (by decide) (by decide) (by decide) 51 rfl (by decide) (by decide) (by decide) (Ent.refl _) ?_ ?_ (fun _ => ⟨rfl, rfl, rfl, rfl, trivial⟩) ?_
 exact (aq rfl (fun γ => qp rfl rfl (.o (s := 2) rfl (by decide) .nil) (q_load rfl rfl Tryz.isAgg72 (.obj 0 rfl rfl)) rfl) (aq rfl (fun γ => qp rfl rfl (.o (s := 2) rfl (by decide) .nil) (q_load rfl rfl Tryz.isAgg72 (.obj 0 rfl rfl)) rfl) (aq rfl (fun γ => qp rfl rfl (.v 1 rfl rfl .nil) (q_nil rfl rfl) rfl) (aq rfl (fun γ => qp rfl rfl (.v 2 rfl rfl .nil) (q_fa rfl rfl Tryz.underlying76 rfl rfl Tryz.sizeOf73 rfl) rfl) (aq rfl (fun γ => qp rfl rfl (.v 3 rfl rfl .nil) (q_load rfl rfl Tryz.isAgg73 (.obj 2 rfl rfl)) rfl) (aq rfl (fun γ => qp rfl rfl (.v 4 rfl rfl .nil) (q_mkfn rfl rfl rfl) rfl) (aq rfl (fun γ => qm rfl (.v 6 rfl rfl .nil) rfl) (aq rfl (fun γ => qp rfl rfl (.v 7 rfl rfl .nil) (q_ext rfl rfl rfl) rfl) (aq rfl (fun γ => qp rfl rfl (.v 7 rfl rfl .nil) (q_ext rfl rfl rfl) rfl) (aq rfl (fun γ => qp rfl rfl (.v 8 rfl rfl .nil) (q_asg rfl rfl) rfl) (aq rfl (fun γ => qp rfl rfl (.v 9 rfl rfl .nil) (q_asg rfl rfl) rfl) zA)))))))))))
 exact (ac (fun γ => eo (Z := Unit) (fun z => ()) rfl rfl (.v 0 rfl rfl (.v 5 rfl rfl .nil)) (re_call (vs := [.pointer (some ⟨bp0, 0, none⟩), .func (.func 59) #[.pointer (some ⟨bp1, 0, none⟩)] #[], .func (.func 60) #[] #[], .int .i64 23]) (cap := []) (A := [obj bp1 125 [.slice ap1_0 xp1_0.length cp1_0, .int .i64 xp1_1, .int .i64 xp1_2], obj bp0 76 [.pointer (some ⟨bp1, 0, none⟩), .int .i64 xp0_1]]) (rst := [obj b1v 72 [.pointer (some ⟨bp0, 0, none⟩)], obj bp2 58 [.map (some mp2_0), .map (some mp2_1)], mapO mp2_0 enc9 enc9 xp2_0, mapO mp2_1 enc3 enc69 xp2_1, F]) rfl rfl rfl rfl rfl rfl Tryz.call58 (.sel 1 rfl (.sel 1 rfl (.sel 0 rfl (.sel 0 rfl (.sel 0 rfl (.sel 0 rfl (.sel 0 rfl (.nil _)))))))) (kv_is_int_wire_Reader_Int_kv_reader_pairs_1.calls _ _ k bp0 bp1 ap1_0 cp1_0 xp1_0 xp1_1 xp1_2 xp0_1 (23 : Int) (hp1_0.lend 4 rfl) hcp1_0 hmp1_0) hs3v) (fun _ => ⟨rfl, rfl, rfl, rfl, rfl, rfl, trivial⟩) (fun _ => .inr rfl) (fun z => Ent.refl _)) zA)
 intro g5v
 refine nrm_then (sr ?_)
 refine simL_eff (re_alloc rfl Tryz.zeroValue9 rfl) rfl rfl rfl ?_
 intro b6v
 refine simL_do (re_store 0 rfl rfl rfl Tryz.sizeOf9 rfl rfl (one_of (by rfl)) rfl rfl) rfl rfl ?_
 intro _
 refine simL_nil (nrm_then ?_)
 refine sim_cutR (S := Bool × Int × Int × Int × (List ((List UInt8) × (List UInt8)))) (Unit) (fun s y => [(6, .bool s.1)]) (fun s y => [obj bp1 125 [.slice ap1_0 xp1_0.length cp1_0, .int .i64 s.2.1, .int .i64 s.2.2.1], obj bp0 76 [.pointer (some ⟨bp1, 0, none⟩), .int .i64 s.2.2.2.1], obj bp2 58 [.map (some mp2_0), .map (some mp2_1)], mapO mp2_0 enc9 enc9 s.2.2.2.2, mapO mp2_1 enc3 enc69 xp2_1, F]) ?_ ?_
 refine sr ?_
 refine va rfl rfl (simL_nil (nrm_then ?_))
 refine sim_block ?_
 refine sim_loop (S := Bool × Int × List UInt8 × Int × Int × Int × (List ((List UInt8) × (List UInt8)))) (Unit) (fun k s => kv_reader_pairs_s.l0 xp1_0 xp2_1 s2v k s.1 s.2.1 s.2.2.1 s.2.2.2.1 s.2.2.2.2.1 s.2.2.2.2.2.1 s.2.2.2.2.2.2) (fun s y => [(1, .pointer (some ⟨bp2, 0, none⟩)), (2, .pointer (some ⟨b1v, 0, none⟩)), (5, .int .i64 s2v.1), (6, .bool s.1), (7, .pointer (some ⟨b6v, 0, none⟩)), (8, .int .i64 s.2.1)]) (fun s y => [obj b6v 9 [str s.2.2.1], obj bp1 125 [.slice ap1_0 xp1_0.length cp1_0, .int .i64 s.2.2.2.1, .int .i64 s.2.2.2.2.1], obj bp0 76 [.pointer (some ⟨bp1, 0, none⟩), .int .i64 s.2.2.2.2.2.1], obj b1v 72 [.pointer (some ⟨bp0, 0, none⟩)], obj bp2 58 [.map (some mp2_0), .map (some mp2_1)], mapO mp2_0 enc9 enc9 s.2.2.2.2.2.2, mapO mp2_1 enc3 enc69 xp2_1, F]) (fun _ => by rw [kv_reader_pairs_s.l0]) ?_ k (s2v.2.1, 0, ([] : List UInt8), s2v.2.2.1, s2v.2.2.2.1, s2v.2.2.2.2, xp2_0) () ⟨rfl, rfl, rfl, rfl, rfl, rfl, trivial⟩ (.sel 0 rfl (.sel 0 rfl (.sel 0 rfl (.sel 0 rfl (.sel 0 rfl (.sel 0 rfl (.sel 0 rfl (.sel 0 rfl (.nil _)))))))))
 intro k s9v y10v
 refine sim_eq (by rw [kv_reader_pairs_s.l0]) ?_
 refine sim_seq (sr ?_)
 refine vm rfl rfl ?_
 refine vm rfl rfl ?_
 refine simL_valc (b := s9v.1) (fun hb31v => RQ.sub (E' := [(8, .int .i64 s9v.2.1)]) ⟨rfl, trivial⟩ (q_move rfl rfl)) rfl rfl rfl rfl rfl ?_
 refine simL_valc (b := s9v.1) (fun hb30v => RQ.sub (E' := [(5, .int .i64 s2v.1)]) ⟨rfl, trivial⟩ (q_move rfl rfl)) rfl rfl rfl rfl rfl ?_
 refine simL_valc (b := s9v.1) (fun hb29v => RQ.sub (E' := [(23, .int .i64 s9v.2.1), (24, .int .i64 s2v.1)]) ⟨lk_cv rfl hb29v, lk_cv rfl hb29v, trivial⟩ (q_lss rfl rfl rfl)) rfl rfl rfl rfl rfl ?_
 refine vq (q_and rfl rfl rfl) rfl (simL_nil (nrm_then ?_))
 refine sim_condb rfl (fun h18v => ?_) (fun h19v => ?_)
 refine sim_skip ?_
 refine nrm_then (sim_seq ?_)
 refine sim_block ?_
 refine sr ?_
 refine vq (q_load rfl rfl Tryz.isAgg72 (.obj 3 rfl rfl)) rfl ?_
 refine vq (q_mkfn rfl rfl rfl) rfl ?_
 refine vq (q_mkfn rfl rfl rfl) rfl ?_
 refine simL_bind (fun s20v hs21v => ?_)
 refine simL_eff (re_call (vs := [.pointer (some ⟨bp0, 0, none⟩), .func (.func 62) #[] #[.pointer (some ⟨b1v, 0, none⟩)], .func (.func 64) #[] #[.pointer (some ⟨b6v, 0, none⟩)], .int .i64 4]) (cap := []) (A := [obj bp1 125 [.slice ap1_0 xp1_0.length cp1_0, .int .i64 s9v.2.2.2.1, .int .i64 s9v.2.2.2.2.1], obj bp0 76 [.pointer (some ⟨bp1, 0, none⟩), .int .i64 s9v.2.2.2.2.2.1], obj b1v 72 [.pointer (some ⟨bp0, 0, none⟩)], obj b6v 9 [str s9v.2.2.1]]) (rst := [obj bp2 58 [.map (some mp2_0), .map (some mp2_1)], mapO mp2_0 enc9 enc9 s9v.2.2.2.2.2.2, mapO mp2_1 enc3 enc69 xp2_1, F]) rfl rfl rfl rfl rfl rfl Tryz.call61 (.sel 1 rfl (.sel 1 rfl (.sel 1 rfl (.sel 0 rfl (.sel 0 rfl (.sel 0 rfl (.sel 0 rfl (.sel 0 rfl (.nil _))))))))) (kv_is_string_kv_reader_pairs_2_kv_reader_pairs_3.calls _ _ k bp0 bp1 ap1_0 cp1_0 xp1_0 s9v.2.2.2.1 s9v.2.2.2.2.1 s9v.2.2.2.2.2.1 b1v b6v s9v.2.2.1 (4 : Int) (hp1_0.lend 3 rfl) hcp1_0 hmp1_0) hs21v) rfl rfl rfl ?_
 intro y22v
 refine vm rfl rfl ?_
 refine vq (q_ext rfl rfl rfl) rfl ?_
 refine vq (q_ext rfl rfl rfl) rfl ?_
 refine va rfl rfl ?_
 refine va rfl rfl (simL_nil (nrm_then (sim_seq (sr ?_))))
 refine vm rfl rfl ?_
 refine vq (q_not rfl rfl) rfl (simL_nil (nrm_then ?_))
 refine sim_condb rfl (fun h23v => ?_) (fun h24v => ?_)
 refine sr ?_
 refine va rfl rfl (simL_nil (nrm_then (sim_rtn ?_)))
 refine rtn_then ?_
 refine rtn_block ?_
 refine rtn_then ?_
 refine rtn_loop ?_
 refine rtn_block ?_
 refine rtn_cutR ?_
 exact rtn_fn (mp2_0, mp2_1) rfl rfl rfl (.sel 0 rfl (.sel 0 rfl (.sel 2 rfl (.sel 2 rfl (.sel 2 rfl (.sel 2 rfl (.nil _)))))))
 refine sim_skip ?_
 refine nrm_then (sr ?_)
 refine vm rfl rfl ?_
 refine simL_do (re_store 3 rfl rfl rfl Tryz.sizeOf9 rfl rfl (one_of (by rfl)) rfl rfl) rfl rfl ?_
 intro _
 refine simL_nil (nrm_then ?_)
 refine sim_bind (fun s25v hs26v => ?_)
 refine sim_draw (Γ := Unit) () [[], [0], [0, 1], [0, 1, 2], [], [], [], [5, 6], [5, 6, 7], [5, 6, 7, 8], [5, 6, 7, 8], rL 10, rL 12] [7, 11] [0, 1, 2, 3, 4, 5, 6, 8, 9, 10, 12] (fun i => [[0, 1], [0, 1], [0, 1], [0, 1], [0, 1], [0], [0], [], [1], [1], [1, 2], [], [2]].getD i []) (fun i => [[], [], [], [], [], [], [], rL 7, [], [], [], rL 11, []].getD i []) (fun γ i => [.pointer (some ⟨bp2, 0, none⟩), .pointer (some ⟨bp2, 0, none⟩), .pointer (some ⟨bp2, 0, none⟩), .map (some mp2_0), str s20v.1, .pointer (some ⟨bp0, 0, none⟩), .func (.func 65) #[] #[.pointer (some ⟨b1v, 0, none⟩)], .tuple #[str s25v.1, .bool s25v.2.1], .tuple #[str s25v.1, .bool s25v.2.1], str s25v.1, .bool s25v.2.1, undef, .bool s25v.2.1].getD i undef) (fun j γ => [[obj bp1 125 [.slice ap1_0 xp1_0.length cp1_0, .int .i64 s20v.2.2.1, .int .i64 s20v.2.2.2.1], obj bp0 76 [.pointer (some ⟨bp1, 0, none⟩), .int .i64 s20v.2.2.2.2], obj b1v 72 [.pointer (some ⟨bp0, 0, none⟩)], obj b6v 9 [str s20v.1], obj bp2 58 [.map (some mp2_0), .map (some mp2_1)], mapO mp2_0 enc9 enc9 s9v.2.2.2.2.2.2, mapO mp2_1 enc3 enc69 xp2_1, F], [obj bp1 125 [.slice ap1_0 xp1_0.length cp1_0, .int .i64 s25v.2.2.1, .int .i64 s25v.2.2.2.1], obj bp0 76 [.pointer (some ⟨bp1, 0, none⟩), .int .i64 s25v.2.2.2.2], obj b1v 72 [.pointer (some ⟨bp0, 0, none⟩)], obj b6v 9 [str s20v.1], obj bp2 58 [.map (some mp2_0), .map (some mp2_1)], mapO mp2_0 enc9 enc9 s9v.2.2.2.2.2.2, mapO mp2_1 enc3 enc69 xp2_1, F], [obj bp1 125 [.slice ap1_0 xp1_0.length cp1_0, .int .i64 s25v.2.2.1, .int .i64 s25v.2.2.2.1], obj bp0 76 [.pointer (some ⟨bp1, 0, none⟩), .int .i64 s25v.2.2.2.2], obj b1v 72 [.pointer (some ⟨bp0, 0, none⟩)], obj b6v 9 [str s20v.1], obj bp2 58 [.map (some mp2_0), .map (some mp2_1)], mapO mp2_0 enc9 enc9 (mput s9v.2.2.2.2.2.2 s20v.1 s25v.1), mapO mp2_1 enc3 enc69 xp2_1, F]].getD j []) (fun γ => [(1, .pointer (some ⟨bp2, 0, none⟩)), (2, .pointer (some ⟨b1v, 0, none⟩)), (5, .int .i64 s2v.1), (6, .bool s25v.2.1), (7, .pointer (some ⟨b6v, 0, none⟩)), (8, .int .i64 s9v.2.1), (23, cv (s9v.1 == true) (.int .i64 s9v.2.1)), (24, cv (s9v.1 == true) (.int .i64 s2v.1)), (25, cv (s9v.1 == true) (.bool (decide (s9v.2.1 < s2v.1))))]) mixed (by decide) (by decide) (by decide) (by decide) (by decide) (by decide) (by decide) 51 rfl (by decide) (by decide) (by decide) (Ent.refl _) ?_ ?_ (fun _ => ⟨rfl, rfl, rfl, rfl, rfl, rfl, rfl, rfl, rfl, trivial⟩) ?_
 exact (ac (fun γ => (ac (qm rfl (.o (s := 1) rfl (by decide) .nil) rfl) (ac (qm rfl (.o (s := 1) rfl (by decide) .nil) rfl) zA))) (ac (fun γ => (ac (qp rfl rfl (.v 0 rfl rfl .nil) (q_nil rfl rfl) rfl) (ac (qp rfl rfl (.v 0 rfl rfl .nil) (q_nil rfl rfl) rfl) zA))) (ac (fun γ => (ac (qp rfl rfl (.v 1 rfl rfl .nil) (q_fa rfl rfl Tryz.underlying58 rfl rfl Tryz.sizeOf55 rfl) rfl) (ac (qp rfl rfl (.v 1 rfl rfl .nil) (q_fa rfl rfl Tryz.underlying58 rfl rfl Tryz.sizeOf55 rfl) rfl) zA))) (ac (fun γ => (ac (qp rfl rfl (.v 2 rfl rfl .nil) (q_load rfl rfl Tryz.isAgg55 (.obj 4 rfl rfl)) rfl) (ac (qp rfl rfl (.v 2 rfl rfl .nil) (q_load rfl rfl Tryz.isAgg55 (.obj 4 rfl rfl)) rfl) zA))) (ac (fun γ => (ac (qm rfl (.o (s := 9) rfl (by decide) .nil) rfl) (ac (qm rfl (.o (s := 9) rfl (by decide) .nil) rfl) zA))) (aq rfl (fun γ => qp rfl rfl (.o (s := 2) rfl (by decide) .nil) (q_load rfl rfl Tryz.isAgg72 (.obj 2 rfl rfl)) rfl) (aq rfl (fun γ => qp rfl rfl (.o (s := 2) rfl (by decide) .nil) (q_mkfn rfl rfl rfl) rfl) (aq rfl (fun γ => qm rfl (.v 7 rfl rfl .nil) rfl) (aq rfl (fun γ => qp rfl rfl (.v 8 rfl rfl .nil) (q_ext rfl rfl rfl) rfl) (ac (fun γ => (ac (qp rfl rfl (.v 8 rfl rfl .nil) (q_ext rfl rfl rfl) rfl) (ac (qp rfl rfl (.v 8 rfl rfl .nil) (q_ext rfl rfl rfl) rfl) zA))) (aq rfl (fun γ => qp rfl rfl (.v 10 rfl rfl .nil) (q_asg rfl rfl) rfl) zA)))))))))))
 exact (ac (fun γ => eo (Z := Unit) (fun z => ()) rfl rfl (.v 5 rfl rfl (.v 6 rfl rfl .nil)) (re_call (vs := [.pointer (some ⟨bp0, 0, none⟩), .func (.func 65) #[] #[.pointer (some ⟨b1v, 0, none⟩)], .func (.func 66) #[] #[], .int .i64 0]) (cap := []) (A := [obj bp1 125 [.slice ap1_0 xp1_0.length cp1_0, .int .i64 s20v.2.2.1, .int .i64 s20v.2.2.2.1], obj bp0 76 [.pointer (some ⟨bp1, 0, none⟩), .int .i64 s20v.2.2.2.2], obj b1v 72 [.pointer (some ⟨bp0, 0, none⟩)]]) (rst := [obj b6v 9 [str s20v.1], obj bp2 58 [.map (some mp2_0), .map (some mp2_1)], mapO mp2_0 enc9 enc9 s9v.2.2.2.2.2.2, mapO mp2_1 enc3 enc69 xp2_1, F]) rfl rfl rfl rfl rfl rfl Tryz.call61 (.sel 0 rfl (.sel 0 rfl (.sel 0 rfl (.sel 0 rfl (.sel 0 rfl (.sel 0 rfl (.sel 0 rfl (.sel 0 rfl (.nil _))))))))) (kv_is_string_kv_reader_pairs_4_kv_reader_pairs_5.calls _ _ k bp0 bp1 ap1_0 cp1_0 xp1_0 s20v.2.2.1 s20v.2.2.2.1 s20v.2.2.2.2 b1v (0 : Int) (hp1_0.lend 4 rfl) hcp1_0 hmp1_0) hs26v) (fun _ => ⟨rfl, rfl, rfl, rfl, rfl, rfl, rfl, trivial⟩) (fun _ => .inr rfl) (fun z => Ent.refl _)) (ac (fun γ => eo (Z := Unit) (fun z => ()) rfl rfl (.v 3 rfl rfl (.v 4 rfl rfl (.v 9 rfl rfl .nil))) (re_mput (ek := enc9) (ev := enc9) 5 s20v.1 s25v.1 rfl rfl rfl rfl Tryz.underlying55 key9 rfl) (fun _ => ⟨rfl, rfl, rfl, rfl, rfl, rfl, rfl, rfl, rfl, rfl, rfl, trivial⟩) (fun _ => .inl rfl) (fun z => Ent.refl _)) zA))
 intro g28v
 refine nrm_block (nrm_then (sim_region ?_))
 refine vm rfl rfl ?_
 refine vq (q_add rfl rfl rfl) rfl ?_
 refine va rfl rfl (simL_nil ?_)
 exact nrm_again (s := (s25v.2.1, IntKind.i64.wrap (s9v.2.1 + 1), s20v.1, s25v.2.2.1, s25v.2.2.2.1, s25v.2.2.2.2, mput s9v.2.2.2.2.2.2 s20v.1 s25v.1)) () ⟨rfl, rfl, rfl, rfl, rfl, rfl, trivial⟩ (.sel 3 rfl (.sel 0 rfl (.sel 0 rfl (.sel 0 rfl (.sel 0 rfl (.sel 0 rfl (.sel 0 rfl (.sel 0 rfl (.nil _)))))))))
 refine sim_exi ?_
 refine exi_then ?_
 refine exi_loop ?_
 refine exi_here ?_
 exact nrm_cutR (s := (s9v.1, s9v.2.2.2.1, s9v.2.2.2.2.1, s9v.2.2.2.2.2.1, s9v.2.2.2.2.2.2)) () ⟨rfl, trivial⟩ (.sel 1 rfl (.sel 1 rfl (.sel 2 rfl (.sel 2 rfl (.sel 2 rfl (.sel 2 rfl (.nil _)))))))
 intro s7v y8v
 refine sr ?_
 refine vm rfl rfl ?_
 refine va rfl rfl (simL_nil (nrm_then (sim_rtn ?_)))
 exact rtn_fn (mp2_0, mp2_1) rfl rfl rfl (.sel 0 rfl (.sel 0 rfl (.sel 0 rfl (.sel 0 rfl (.sel 0 rfl (.sel 0 rfl (.nil _)))))))

def kv_is_int_wire_Reader_Int_kv_reader_clients_1.f (k : Nat) (xp1_0 : List UInt8) (xp1_1 : Int) (xp1_2 : Int) (xp0_1 : Int) (x3 : Int) : Option (Int × Bool × Int × Int × Int) := (wire_Reader_At.f xp1_0 xp1_1 xp1_2).bind fun s1v => ((wire_Reader_Int.f k xp1_0 xp1_1 xp1_2).bind fun s4v => ((wire_Reader_At.f xp1_0 s4v.2.1 s4v.2.2).bind fun s7v => (if s7v = s1v then ((wire_Reader_Done.f xp1_0 s4v.2.1 s4v.2.2).bind fun s12v => (some (s4v.1, decide (s12v = (0 : Int)), s4v.2.1, s4v.2.2, s12v))) else ((kv_reader_clients_1.f s4v.1).bind fun s16v => (if (!s16v) = true then (some (s4v.1, decide (x3 = (0 : Int)), s4v.2.1, s4v.2.2, x3)) else (some (s4v.1, decide (xp0_1 = (0 : Int)), s4v.2.1, s4v.2.2, xp0_1)))))))
theorem kv_is_int_wire_Reader_Int_kv_reader_clients_1.calls (W : World) (F : HA) (k : Nat) (bp0 : Nat) (bp1 : Nat) (ap1_0 : Option Addr) (cp1_0 : Nat) (xp1_0 : List UInt8) (xp1_1 : Int) (xp1_2 : Int) (xp0_1 : Int) (x3 : Int) (hp1_0 : Rd F ap1_0 (encB xp1_0)) (hcp1_0 : xp1_0.length ≤ cp1_0) (hmp1_0 : cp1_0 ≤ maxLen) :
    Fn Tryz.prog W 58 [.pointer (some ⟨bp0, 0, none⟩), .func (.func 59) #[.pointer (some ⟨bp1, 0, none⟩)] #[], .func (.func 67) #[] #[], .int .i64 x3] [obj bp1 125 [.slice ap1_0 xp1_0.length cp1_0, .int .i64 xp1_1, .int .i64 xp1_2], obj bp0 76 [.pointer (some ⟨bp1, 0, none⟩), .int .i64 xp0_1]] F (kv_is_int_wire_Reader_Int_kv_reader_clients_1.f k xp1_0 xp1_1 xp1_2 xp0_1 x3) (fun (r : Int × Bool × Int × Int × Int) (y : Unit) => .tuple #[.int .i64 r.1, .bool r.2.1]) (fun r y => [obj bp1 125 [.slice ap1_0 xp1_0.length cp1_0, .int .i64 r.2.2.1, .int .i64 r.2.2.2.1], obj bp0 76 [.pointer (some ⟨bp1, 0, none⟩), .int .i64 r.2.2.2.2]]) := by
 unfold kv_is_int_wire_Reader_Int_kv_reader_clients_1.f
 refine fn_intro 50 Tryz.func58 rfl Tryz.ntmps58 rfl ?_
 refine sr ?_
 refine va rfl rfl ?_
 refine va rfl rfl (nx ?_)
 refine vm rfl rfl ?_
 refine vn rfl rfl ?_
 refine vq (q_fa rfl rfl Tryz.underlying76 rfl rfl Tryz.sizeOf73 rfl) rfl ?_
 refine vq (q_load rfl rfl Tryz.isAgg73 (.obj 1 rfl rfl)) rfl ?_
 refine simL_bind (fun s1v hs2v => ?_)
 refine simL_eff (re_call (vs := [.pointer (some ⟨bp1, 0, none⟩)]) (cap := []) (A := [obj bp1 125 [.slice ap1_0 xp1_0.length cp1_0, .int .i64 xp1_1, .int .i64 xp1_2]]) (rst := [obj bp0 76 [.pointer (some ⟨bp1, 0, none⟩), .int .i64 xp0_1], F]) rfl rfl rfl rfl rfl rfl Tryz.call94 (.sel 0 rfl (.sel 0 rfl (.sel 0 rfl (.nil _)))) (wire_Reader_At.calls _ _ bp1 ap1_0 cp1_0 xp1_0 xp1_1 xp1_2 (hp1_0.lend 1 rfl) hcp1_0 hmp1_0) hs2v) rfl rfl rfl ?_
 intro y3v
 refine va rfl rfl (nx ?_)
 refine vm rfl rfl ?_
 refine simL_bind (fun s4v hs5v => ?_)
 refine simL_eff (re_callf (fst := [.pointer (some ⟨bp1, 0, none⟩)]) (vs := []) (cap := []) (A := [obj bp1 125 [.slice ap1_0 xp1_0.length cp1_0, .int .i64 xp1_1, .int .i64 xp1_2]]) (rst := [obj bp0 76 [.pointer (some ⟨bp1, 0, none⟩), .int .i64 xp0_1], F]) rfl rfl rfl rfl rfl rfl Tryz.call59 (.sel 0 rfl (.sel 0 rfl (.sel 0 rfl (.nil _)))) (wire_Reader_Int.calls _ _ k bp1 ap1_0 cp1_0 xp1_0 xp1_1 xp1_2 (hp1_0.lend 1 rfl) hcp1_0 hmp1_0) hs5v) rfl rfl rfl ?_
 intro y6v
 refine va rfl rfl (simL_nil (nrm_then (sim_seq ?_)))
 refine sim_block ?_
 refine sr ?_
 refine vm rfl rfl ?_
 refine vn rfl rfl ?_
 refine vq (q_fa rfl rfl Tryz.underlying76 rfl rfl Tryz.sizeOf73 rfl) rfl ?_
 refine vq (q_load rfl rfl Tryz.isAgg73 (.obj 1 rfl rfl)) rfl ?_
 refine simL_bind (fun s7v hs8v => ?_)
 refine simL_eff (re_call (vs := [.pointer (some ⟨bp1, 0, none⟩)]) (cap := []) (A := [obj bp1 125 [.slice ap1_0 xp1_0.length cp1_0, .int .i64 s4v.2.1, .int .i64 s4v.2.2]]) (rst := [obj bp0 76 [.pointer (some ⟨bp1, 0, none⟩), .int .i64 xp0_1], F]) rfl rfl rfl rfl rfl rfl Tryz.call94 (.sel 0 rfl (.sel 0 rfl (.sel 0 rfl (.nil _)))) (wire_Reader_At.calls _ _ bp1 ap1_0 cp1_0 xp1_0 s4v.2.1 s4v.2.2 (hp1_0.lend 1 rfl) hcp1_0 hmp1_0) hs8v) rfl rfl rfl ?_
 intro y9v
 refine vm rfl rfl ?_
 refine vq (q_eql rfl rfl rfl) rfl ?_
 refine va rfl rfl (simL_nil (nrm_then ?_))
 refine sim_cond rfl (fun h10v => ?_) (fun h11v => ?_)
 refine sim_region ?_
 refine vm rfl rfl ?_
 refine vm rfl rfl ?_
 refine vn rfl rfl ?_
 refine vq (q_fa rfl rfl Tryz.underlying76 rfl rfl Tryz.sizeOf73 rfl) rfl ?_
 refine vq (q_load rfl rfl Tryz.isAgg73 (.obj 1 rfl rfl)) rfl ?_
 refine simL_bind (fun s12v hs13v => ?_)
 refine simL_eff (re_call (vs := [.pointer (some ⟨bp1, 0, none⟩)]) (cap := []) (A := [obj bp1 125 [.slice ap1_0 xp1_0.length cp1_0, .int .i64 s4v.2.1, .int .i64 s4v.2.2]]) (rst := [obj bp0 76 [.pointer (some ⟨bp1, 0, none⟩), .int .i64 xp0_1], F]) rfl rfl rfl rfl rfl rfl Tryz.call33 (.sel 0 rfl (.sel 0 rfl (.sel 0 rfl (.nil _)))) (wire_Reader_Done.calls _ _ bp1 ap1_0 cp1_0 xp1_0 s4v.2.1 s4v.2.2 (hp1_0.lend 1 rfl) hcp1_0 hmp1_0) hs13v) rfl rfl rfl ?_
 intro y14v
 refine vn rfl rfl ?_
 refine vq (q_fa rfl rfl Tryz.underlying76 rfl rfl Tryz.sizeOf31 rfl) rfl ?_
 refine simL_do (re_store 1 rfl rfl rfl Tryz.sizeOf31 rfl rfl (one_of (by rfl)) rfl rfl) rfl rfl ?_
 intro _
 refine simL_nil (nrm_block (nrm_then (sim_seq ?_)))
 refine sim_draw (Γ := Unit) () [[], [], [1], [1, 2], [1, 2, 3], [1, 2, 3, 4], [0], rL 7] [] [0, 1, 2, 3, 4, 5, 6, 7] (fun i => [[0], [0], [0], [0], [0], [0], [0], [0]].getD i []) (fun i => [[], [], [], [], [], [], [], []].getD i []) (fun γ i => [.int .i64 s4v.1, .pointer (some ⟨bp0, 0, none⟩), .pointer (some ⟨bp0, 0, none⟩), .pointer (some ⟨bp0, 1, none⟩), .int .i64 s12v, .bool (decide (s12v = (0 : Int))), .int .i64 s4v.1, .bool (decide (s12v = (0 : Int)))].getD i undef) (fun j γ => [[obj bp1 125 [.slice ap1_0 xp1_0.length cp1_0, .int .i64 s4v.2.1, .int .i64 s4v.2.2], obj bp0 76 [.pointer (some ⟨bp1, 0, none⟩), .int .i64 s12v], F]].getD j []) (fun γ => [(8, .int .i64 s4v.1), (9, .bool (decide (s12v = (0 : Int))))]) mixed (by decide) (by decide) (by decide) (by decide) (by decide) (by decide) (by decide) 50 rfl (by decide) (by decide) (by decide) (Ent.refl _) ?_ ?_ (fun _ => ⟨rfl, rfl, trivial⟩) ?_
 exact (aq rfl (fun γ => qm rfl (.o (s := 11) rfl (by decide) .nil) rfl) (aq rfl (fun γ => qm rfl (.o (s := 0) rfl (by decide) .nil) rfl) (aq rfl (fun γ => qp rfl rfl (.v 1 rfl rfl .nil) (q_nil rfl rfl) rfl) (aq rfl (fun γ => qp rfl rfl (.v 2 rfl rfl .nil) (q_fa rfl rfl Tryz.underlying76 rfl rfl Tryz.sizeOf31 rfl) rfl) (aq rfl (fun γ => qp rfl rfl (.v 3 rfl rfl .nil) (q_load rfl rfl Tryz.isAgg31 (.obj 1 rfl rfl)) rfl) (aq rfl (fun γ => qp rfl rfl (.v 4 rfl rfl .nil) (q_eql rfl rfl rfl) rfl) (aq rfl (fun γ => qp rfl rfl (.v 0 rfl rfl .nil) (q_asg rfl rfl) rfl) (aq rfl (fun γ => qp rfl rfl (.v 5 rfl rfl .nil) (q_asg rfl rfl) rfl) zA))))))))
 exact zA
 intro g15v
 refine nrm_then (sim_rtn ?_)
 exact rtn_fn () rfl rfl rfl (.sel 0 rfl (.sel 0 rfl (.sel 0 rfl (.nil _))))
 refine sr ?_
 refine vm rfl rfl ?_
 refine vm rfl rfl ?_
 refine simL_bind (fun s16v hs17v => ?_)
 refine simL_eff (re_call (vs := [.int .i64 s4v.1]) (cap := []) (A := []) (rst := [obj bp1 125 [.slice ap1_0 xp1_0.length cp1_0, .int .i64 s4v.2.1, .int .i64 s4v.2.2], obj bp0 76 [.pointer (some ⟨bp1, 0, none⟩), .int .i64 xp0_1], F]) rfl rfl rfl rfl rfl rfl Tryz.call67 (.sel 0 rfl (.sel 0 rfl (.sel 0 rfl (.nil _)))) (kv_reader_clients_1.calls _ _ s4v.1 ) hs17v) rfl rfl rfl ?_
 intro y18v
 refine vq (q_not rfl rfl) rfl ?_
 refine va rfl rfl (simL_nil (nrm_then ?_))
 refine sim_condb rfl (fun h19v => ?_) (fun h20v => ?_)
 refine sim_region ?_
 refine vm rfl rfl ?_
 refine vm rfl rfl ?_
 refine vn rfl rfl ?_
 refine vq (q_fa rfl rfl Tryz.underlying76 rfl rfl Tryz.sizeOf31 rfl) rfl ?_
 refine simL_do (re_store 1 rfl rfl rfl Tryz.sizeOf31 rfl rfl (one_of (by rfl)) rfl rfl) rfl rfl ?_
 intro _
 refine simL_nil (nrm_block (nrm_then (sim_seq ?_)))
 refine sim_draw (Γ := Unit) () [[], [], [1], [1, 2], [1, 2, 3], [1, 2, 3, 4], [0], rL 7] [] [0, 1, 2, 3, 4, 5, 6, 7] (fun i => [[0], [0], [0], [0], [0], [0], [0], [0]].getD i []) (fun i => [[], [], [], [], [], [], [], []].getD i []) (fun γ i => [.int .i64 s4v.1, .pointer (some ⟨bp0, 0, none⟩), .pointer (some ⟨bp0, 0, none⟩), .pointer (some ⟨bp0, 1, none⟩), .int .i64 x3, .bool (decide (x3 = (0 : Int))), .int .i64 s4v.1, .bool (decide (x3 = (0 : Int)))].getD i undef) (fun j γ => [[obj bp1 125 [.slice ap1_0 xp1_0.length cp1_0, .int .i64 s4v.2.1, .int .i64 s4v.2.2], obj bp0 76 [.pointer (some ⟨bp1, 0, none⟩), .int .i64 x3], F]].getD j []) (fun γ => [(8, .int .i64 s4v.1), (9, .bool (decide (x3 = (0 : Int))))]) mixed (by decide) (by decide) (by decide) (by decide) (by decide) (by decide) (by decide) 50 rfl (by decide) (by decide) (by decide) (Ent.refl _) ?_ ?_ (fun _ => ⟨rfl, rfl, trivial⟩) ?_
 exact (aq rfl (fun γ => qm rfl (.o (s := 11) rfl (by decide) .nil) rfl) (aq rfl (fun γ => qm rfl (.o (s := 0) rfl (by decide) .nil) rfl) (aq rfl (fun γ => qp rfl rfl (.v 1 rfl rfl .nil) (q_nil rfl rfl) rfl) (aq rfl (fun γ => qp rfl rfl (.v 2 rfl rfl .nil) (q_fa rfl rfl Tryz.underlying76 rfl rfl Tryz.sizeOf31 rfl) rfl) (aq rfl (fun γ => qp rfl rfl (.v 3 rfl rfl .nil) (q_load rfl rfl Tryz.isAgg31 (.obj 1 rfl rfl)) rfl) (aq rfl (fun γ => qp rfl rfl (.v 4 rfl rfl .nil) (q_eql rfl rfl rfl) rfl) (aq rfl (fun γ => qp rfl rfl (.v 0 rfl rfl .nil) (q_asg rfl rfl) rfl) (aq rfl (fun γ => qp rfl rfl (.v 5 rfl rfl .nil) (q_asg rfl rfl) rfl) zA))))))))
 exact zA
 intro g21v
 refine nrm_then (sim_rtn ?_)
 exact rtn_fn () rfl rfl rfl (.sel 0 rfl (.sel 0 rfl (.sel 0 rfl (.nil _))))
 refine sim_skip ?_
 refine nrm_block (nrm_then (sim_seq ?_))
 refine sim_draw (Γ := Unit) () [[], [], [1], [1, 2], [1, 2, 3], [1, 2, 3, 4], [0], rL 7] [] [0, 1, 2, 3, 4, 5, 6, 7] (fun i => [[0], [0], [0], [0], [0], [0], [0], [0]].getD i []) (fun i => [[], [], [], [], [], [], [], []].getD i []) (fun γ i => [.int .i64 s4v.1, .pointer (some ⟨bp0, 0, none⟩), .pointer (some ⟨bp0, 0, none⟩), .pointer (some ⟨bp0, 1, none⟩), .int .i64 xp0_1, .bool (decide (xp0_1 = (0 : Int))), .int .i64 s4v.1, .bool (decide (xp0_1 = (0 : Int)))].getD i undef) (fun j γ => [[obj bp1 125 [.slice ap1_0 xp1_0.length cp1_0, .int .i64 s4v.2.1, .int .i64 s4v.2.2], obj bp0 76 [.pointer (some ⟨bp1, 0, none⟩), .int .i64 xp0_1], F]].getD j []) (fun γ => [(8, .int .i64 s4v.1), (9, .bool (decide (xp0_1 = (0 : Int))))]) mixed (by decide) (by decide) (by decide) (by decide) (by decide) (by decide) (by decide) 50 rfl (by decide) (by decide) (by decide) (Ent.refl _) ?_ ?_ (fun _ => ⟨rfl, rfl, trivial⟩) ?_
 exact (aq rfl (fun γ => qm rfl (.o (s := 11) rfl (by decide) .nil) rfl) (aq rfl (fun γ => qm rfl (.o (s := 0) rfl (by decide) .nil) rfl) (aq rfl (fun γ => qp rfl rfl (.v 1 rfl rfl .nil) (q_nil rfl rfl) rfl) (aq rfl (fun γ => qp rfl rfl (.v 2 rfl rfl .nil) (q_fa rfl rfl Tryz.underlying76 rfl rfl Tryz.sizeOf31 rfl) rfl) (aq rfl (fun γ => qp rfl rfl (.v 3 rfl rfl .nil) (q_load rfl rfl Tryz.isAgg31 (.obj 1 rfl rfl)) rfl) (aq rfl (fun γ => qp rfl rfl (.v 4 rfl rfl .nil) (q_eql rfl rfl rfl) rfl) (aq rfl (fun γ => qp rfl rfl (.v 0 rfl rfl .nil) (q_asg rfl rfl) rfl) (aq rfl (fun γ => qp rfl rfl (.v 5 rfl rfl .nil) (q_asg rfl rfl) rfl) zA))))))))
 exact zA
 intro g22v
 refine nrm_then (sim_rtn ?_)
 exact rtn_fn () rfl rfl rfl (.sel 0 rfl (.sel 0 rfl (.sel 0 rfl (.nil _))))

def kv_is_int_wire_Reader_Int_kv_reader_clients_2.f (k : Nat) (xp1_0 : List UInt8) (xp1_1 : Int) (xp1_2 : Int) (xp0_1 : Int) (xp2_0 : Int) (x3 : Int) : Option (Int × Bool × Int × Int × Int) := (wire_Reader_At.f xp1_0 xp1_1 xp1_2).bind fun s1v => ((wire_Reader_Int.f k xp1_0 xp1_1 xp1_2).bind fun s4v => ((wire_Reader_At.f xp1_0 s4v.2.1 s4v.2.2).bind fun s7v => (if s7v = s1v then ((wire_Reader_Done.f xp1_0 s4v.2.1 s4v.2.2).bind fun s12v => (some (s4v.1, decide (s12v = (0 : Int)), s4v.2.1, s4v.2.2, s12v))) else ((kv_reader_clients_2.f s4v.1 xp2_0).bind fun s16v => (if (!s16v) = true then (some (s4v.1, decide (x3 = (0 : Int)), s4v.2.1, s4v.2.2, x3)) else (some (s4v.1, decide (xp0_1 = (0 : Int)), s4v.2.1, s4v.2.2, xp0_1)))))))
theorem kv_is_int_wire_Reader_Int_kv_reader_clients_2.calls (W : World) (F : HA) (k : Nat) (bp0 : Nat) (bp1 : Nat) (ap1_0 : Option Addr) (cp1_0 : Nat) (xp1_0 : List UInt8) (xp1_1 : Int) (xp1_2 : Int) (xp0_1 : Int) (bp2 : Nat) (xp2_0 : Int) (x3 : Int) (hp1_0 : Rd F ap1_0 (encB xp1_0)) (hcp1_0 : xp1_0.length ≤ cp1_0) (hmp1_0 : cp1_0 ≤ maxLen) :
    Fn Tryz.prog W 58 [.pointer (some ⟨bp0, 0, none⟩), .func (.func 59) #[.pointer (some ⟨bp1, 0, none⟩)] #[], .func (.func 68) #[] #[.pointer (some ⟨bp2, 0, none⟩)], .int .i64 x3] [obj bp1 125 [.slice ap1_0 xp1_0.length cp1_0, .int .i64 xp1_1, .int .i64 xp1_2], obj bp0 76 [.pointer (some ⟨bp1, 0, none⟩), .int .i64 xp0_1], obj bp2 3 [.int .i64 xp2_0]] F (kv_is_int_wire_Reader_Int_kv_reader_clients_2.f k xp1_0 xp1_1 xp1_2 xp0_1 xp2_0 x3) (fun (r : Int × Bool × Int × Int × Int) (y : Unit) => .tuple #[.int .i64 r.1, .bool r.2.1]) (fun r y => [obj bp1 125 [.slice ap1_0 xp1_0.length cp1_0, .int .i64 r.2.2.1, .int .i64 r.2.2.2.1], obj bp0 76 [.pointer (some ⟨bp1, 0, none⟩), .int .i64 r.2.2.2.2], obj bp2 3 [.int .i64 xp2_0]]) := by
 unfold kv_is_int_wire_Reader_Int_kv_reader_clients_2.f
 refine fn_intro 50 Tryz.func58 rfl Tryz.ntmps58 rfl ?_
 refine sr ?_
 refine va rfl rfl ?_
 refine va rfl rfl (nx ?_)
 refine vm rfl rfl ?_
 refine vn rfl rfl ?_
 refine vq (q_fa rfl rfl Tryz.underlying76 rfl rfl Tryz.sizeOf73 rfl) rfl ?_
 refine vq (q_load rfl rfl Tryz.isAgg73 (.obj 1 rfl rfl)) rfl ?_
 refine simL_bind (fun s1v hs2v => ?_)
 refine simL_eff (re_call (vs := [.pointer (some ⟨bp1, 0, none⟩)]) (cap := []) (A := [obj bp1 125 [.slice ap1_0 xp1_0.length cp1_0, .int .i64 xp1_1, .int .i64 xp1_2]]) (rst := [obj bp0 76 [.pointer (some ⟨bp1, 0, none⟩), .int .i64 xp0_1], obj bp2 3 [.int .i64 xp2_0], F]) rfl rfl rfl rfl rfl rfl Tryz.call94 (.sel 0 rfl (.sel 0 rfl (.sel 0 rfl (.sel 0 rfl (.nil _))))) (wire_Reader_At.calls _ _ bp1 ap1_0 cp1_0 xp1_0 xp1_1 xp1_2 (hp1_0.lend 2 rfl) hcp1_0 hmp1_0) hs2v) rfl rfl rfl ?_
 intro y3v
 refine va rfl rfl (nx ?_)
 refine vm rfl rfl ?_
 refine simL_bind (fun s4v hs5v => ?_)
 refine simL_eff (re_callf (fst := [.pointer (some ⟨bp1, 0, none⟩)]) (vs := []) (cap := []) (A := [obj bp1 125 [.slice ap1_0 xp1_0.length cp1_0, .int .i64 xp1_1, .int .i64 xp1_2]]) (rst := [obj bp0 76 [.pointer (some ⟨bp1, 0, none⟩), .int .i64 xp0_1], obj bp2 3 [.int .i64 xp2_0], F]) rfl rfl rfl rfl rfl rfl Tryz.call59 (.sel 0 rfl (.sel 0 rfl (.sel 0 rfl (.sel 0 rfl (.nil _))))) (wire_Reader_Int.calls _ _ k bp1 ap1_0 cp1_0 xp1_0 xp1_1 xp1_2 (hp1_0.lend 2 rfl) hcp1_0 hmp1_0) hs5v) rfl rfl rfl ?_
 intro y6v
 refine va rfl rfl (simL_nil (nrm_then (sim_seq ?_)))
 refine sim_block ?_
 refine sr ?_
 refine vm rfl rfl ?_
 refine vn rfl rfl ?_
 refine vq (q_fa rfl rfl Tryz.underlying76 rfl rfl Tryz.sizeOf73 rfl) rfl ?_
 refine vq (q_load rfl rfl Tryz.isAgg73 (.obj 1 rfl rfl)) rfl ?_
 refine simL_bind (fun s7v hs8v => ?_)
 refine simL_eff (re_call (vs := [.pointer (some ⟨bp1, 0, none⟩)]) (cap := []) (A := [obj bp1 125 [.slice ap1_0 xp1_0.length cp1_0, .int .i64 s4v.2.1, .int .i64 s4v.2.2]]) (rst := [obj bp0 76 [.pointer (some ⟨bp1, 0, none⟩), .int .i64 xp0_1], obj bp2 3 [.int .i64 xp2_0], F]) rfl rfl rfl rfl rfl rfl Tryz.call94 (.sel 0 rfl (.sel 0 rfl (.sel 0 rfl (.sel 0 rfl (.nil _))))) (wire_Reader_At.calls _ _ bp1 ap1_0 cp1_0 xp1_0 s4v.2.1 s4v.2.2 (hp1_0.lend 2 rfl) hcp1_0 hmp1_0) hs8v) rfl rfl rfl ?_
 intro y9v
 refine vm rfl rfl ?_
 refine vq (q_eql rfl rfl rfl) rfl ?_
 refine va rfl rfl (simL_nil (nrm_then ?_))
 refine sim_cond rfl (fun h10v => ?_) (fun h11v => ?_)
 refine sim_region ?_
 refine vm rfl rfl ?_
 refine vm rfl rfl ?_
 refine vn rfl rfl ?_
 refine vq (q_fa rfl rfl Tryz.underlying76 rfl rfl Tryz.sizeOf73 rfl) rfl ?_
 refine vq (q_load rfl rfl Tryz.isAgg73 (.obj 1 rfl rfl)) rfl ?_
 refine simL_bind (fun s12v hs13v => ?_)
 refine simL_eff (re_call (vs := [.pointer (some ⟨bp1, 0, none⟩)]) (cap := []) (A := [obj bp1 125 [.slice ap1_0 xp1_0.length cp1_0, .int .i64 s4v.2.1, .int .i64 s4v.2.2]]) (rst := [obj bp0 76 [.pointer (some ⟨bp1, 0, none⟩), .int .i64 xp0_1], obj bp2 3 [.int .i64 xp2_0], F]) rfl rfl rfl rfl rfl rfl Tryz.call33 (.sel 0 rfl (.sel 0 rfl (.sel 0 rfl (.sel 0 rfl (.nil _))))) (wire_Reader_Done.calls _ _ bp1 ap1_0 cp1_0 xp1_0 s4v.2.1 s4v.2.2 (hp1_0.lend 2 rfl) hcp1_0 hmp1_0) hs13v) rfl rfl rfl ?_
 intro y14v
 refine vn rfl rfl ?_
 refine vq (q_fa rfl rfl Tryz.underlying76 rfl rfl Tryz.sizeOf31 rfl) rfl ?_
 refine simL_do (re_store 1 rfl rfl rfl Tryz.sizeOf31 rfl rfl (one_of (by rfl)) rfl rfl) rfl rfl ?_
 intro _
 refine simL_nil (nrm_block (nrm_then (sim_seq ?_)))
 refine sim_draw (Γ := Unit) () [[], [], [1], [1, 2], [1, 2, 3], [1, 2, 3, 4], [0], rL 7] [] [0, 1, 2, 3, 4, 5, 6, 7] (fun i => [[0], [0], [0], [0], [0], [0], [0], [0]].getD i []) (fun i => [[], [], [], [], [], [], [], []].getD i []) (fun γ i => [.int .i64 s4v.1, .pointer (some ⟨bp0, 0, none⟩), .pointer (some ⟨bp0, 0, none⟩), .pointer (some ⟨bp0, 1, none⟩), .int .i64 s12v, .bool (decide (s12v = (0 : Int))), .int .i64 s4v.1, .bool (decide (s12v = (0 : Int)))].getD i undef) (fun j γ => [[obj bp1 125 [.slice ap1_0 xp1_0.length cp1_0, .int .i64 s4v.2.1, .int .i64 s4v.2.2], obj bp0 76 [.pointer (some ⟨bp1, 0, none⟩), .int .i64 s12v], obj bp2 3 [.int .i64 xp2_0], F]].getD j []) (fun γ => [(8, .int .i64 s4v.1), (9, .bool (decide (s12v = (0 : Int))))]) mixed (by decide) (by decide) (by decide) (by decide) (by decide) (by decide) (by decide) 50 rfl (by decide) (by decide) (by decide) (Ent.refl _) ?_ ?_ (fun _ => ⟨rfl, rfl, trivial⟩) ?_
 exact (aq rfl (fun γ => qm rfl (.o (s := 11) rfl (by decide) .nil) rfl) (aq rfl (fun γ => qm rfl (.o (s := 0) rfl (by decide) .nil) rfl) (aq rfl (fun γ => qp rfl rfl (.v 1 rfl rfl .nil) (q_nil rfl rfl) rfl) (aq rfl (fun γ => qp rfl rfl (.v 2 rfl rfl .nil) (q_fa rfl rfl Tryz.underlying76 rfl rfl Tryz.sizeOf31 rfl) rfl) (aq rfl (fun γ => qp rfl rfl (.v 3 rfl rfl .nil) (q_load rfl rfl Tryz.isAgg31 (.obj 1 rfl rfl)) rfl) (aq rfl (fun γ => qp rfl rfl (.v 4 rfl rfl .nil) (q_eql rfl rfl rfl) rfl) (aq rfl (fun γ => qp rfl rfl (.v 0 rfl rfl .nil) (q_asg rfl rfl) rfl) (aq rfl (fun γ => qp rfl rfl (.v 5 rfl rfl .nil) (q_asg rfl rfl) rfl) zA))))))))
 exact zA
 intro g15v
 refine nrm_then (sim_rtn ?_)
 exact rtn_fn () rfl rfl rfl (.sel 0 rfl (.sel 0 rfl (.sel 0 rfl (.sel 0 rfl (.nil _)))))
 refine sr ?_
 refine vm rfl rfl ?_
 refine vm rfl rfl ?_
 refine simL_bind (fun s16v hs17v => ?_)
 refine simL_eff (re_call (vs := [.int .i64 s4v.1]) (cap := [.pointer (some ⟨bp2, 0, none⟩)]) (A := [obj bp2 3 [.int .i64 xp2_0]]) (rst := [obj bp1 125 [.slice ap1_0 xp1_0.length cp1_0, .int .i64 s4v.2.1, .int .i64 s4v.2.2], obj bp0 76 [.pointer (some ⟨bp1, 0, none⟩), .int .i64 xp0_1], F]) rfl rfl rfl rfl rfl rfl Tryz.call68 (.sel 2 rfl (.sel 0 rfl (.sel 0 rfl (.sel 0 rfl (.nil _))))) (kv_reader_clients_2.calls _ _ s4v.1 bp2 xp2_0 ) hs17v) rfl rfl rfl ?_
 intro y18v
 refine vq (q_not rfl rfl) rfl ?_
 refine va rfl rfl (simL_nil (nrm_then ?_))
 refine sim_condb rfl (fun h19v => ?_) (fun h20v => ?_)
 refine sim_region ?_
 refine vm rfl rfl ?_
 refine vm rfl rfl ?_
 refine vn rfl rfl ?_
 refine vq (q_fa rfl rfl Tryz.underlying76 rfl rfl Tryz.sizeOf31 rfl) rfl ?_
 refine simL_do (re_store 2 rfl rfl rfl Tryz.sizeOf31 rfl rfl (one_of (by rfl)) rfl rfl) rfl rfl ?_
 intro _
 refine simL_nil (nrm_block (nrm_then (sim_seq ?_)))
 refine sim_draw (Γ := Unit) () [[], [], [1], [1, 2], [1, 2, 3], [1, 2, 3, 4], [0], rL 7] [] [0, 1, 2, 3, 4, 5, 6, 7] (fun i => [[0], [0], [0], [0], [0], [0], [0], [0]].getD i []) (fun i => [[], [], [], [], [], [], [], []].getD i []) (fun γ i => [.int .i64 s4v.1, .pointer (some ⟨bp0, 0, none⟩), .pointer (some ⟨bp0, 0, none⟩), .pointer (some ⟨bp0, 1, none⟩), .int .i64 x3, .bool (decide (x3 = (0 : Int))), .int .i64 s4v.1, .bool (decide (x3 = (0 : Int)))].getD i undef) (fun j γ => [[obj bp2 3 [.int .i64 xp2_0], obj bp1 125 [.slice ap1_0 xp1_0.length cp1_0, .int .i64 s4v.2.1, .int .i64 s4v.2.2], obj bp0 76 [.pointer (some ⟨bp1, 0, none⟩), .int .i64 x3], F]].getD j []) (fun γ => [(8, .int .i64 s4v.1), (9, .bool (decide (x3 = (0 : Int))))]) mixed (by decide) (by decide) (by decide) (by decide) (by decide) (by decide) (by decide) 50 rfl (by decide) (by decide) (by decide) (Ent.refl _) ?_ ?_ (fun _ => ⟨rfl, rfl, trivial⟩) ?_
 exact (aq rfl (fun γ => qm rfl (.o (s := 11) rfl (by decide) .nil) rfl) (aq rfl (fun γ => qm rfl (.o (s := 0) rfl (by decide) .nil) rfl) (aq rfl (fun γ => qp rfl rfl (.v 1 rfl rfl .nil) (q_nil rfl rfl) rfl) (aq rfl (fun γ => qp rfl rfl (.v 2 rfl rfl .nil) (q_fa rfl rfl Tryz.underlying76 rfl rfl Tryz.sizeOf31 rfl) rfl) (aq rfl (fun γ => qp rfl rfl (.v 3 rfl rfl .nil) (q_load rfl rfl Tryz.isAgg31 (.obj 2 rfl rfl)) rfl) (aq rfl (fun γ => qp rfl rfl (.v 4 rfl rfl .nil) (q_eql rfl rfl rfl) rfl) (aq rfl (fun γ => qp rfl rfl (.v 0 rfl rfl .nil) (q_asg rfl rfl) rfl) (aq rfl (fun γ => qp rfl rfl (.v 5 rfl rfl .nil) (q_asg rfl rfl) rfl) zA))))))))
 exact zA
 intro g21v
 refine nrm_then (sim_rtn ?_)
 exact rtn_fn () rfl rfl rfl (.sel 1 rfl (.sel 1 rfl (.sel 0 rfl (.sel 0 rfl (.nil _)))))
 refine sim_skip ?_
 refine nrm_block (nrm_then (sim_seq ?_))
 refine sim_draw (Γ := Unit) () [[], [], [1], [1, 2], [1, 2, 3], [1, 2, 3, 4], [0], rL 7] [] [0, 1, 2, 3, 4, 5, 6, 7] (fun i => [[0], [0], [0], [0], [0], [0], [0], [0]].getD i []) (fun i => [[], [], [], [], [], [], [], []].getD i []) (fun γ i => [.int .i64 s4v.1, .pointer (some ⟨bp0, 0, none⟩), .pointer (some ⟨bp0, 0, none⟩), .pointer (some ⟨bp0, 1, none⟩), .int .i64 xp0_1, .bool (decide (xp0_1 = (0 : Int))), .int .i64 s4v.1, .bool (decide (xp0_1 = (0 : Int)))].getD i undef) (fun j γ => [[obj bp2 3 [.int .i64 xp2_0], obj bp1 125 [.slice ap1_0 xp1_0.length cp1_0, .int .i64 s4v.2.1, .int .i64 s4v.2.2], obj bp0 76 [.pointer (some ⟨bp1, 0, none⟩), .int .i64 xp0_1], F]].getD j []) (fun γ => [(8, .int .i64 s4v.1), (9, .bool (decide (xp0_1 = (0 : Int))))]) mixed (by decide) (by decide) (by decide) (by decide) (by decide) (by decide) (by decide) 50 rfl (by decide) (by decide) (by decide) (Ent.refl _) ?_ ?_ (fun _ => ⟨rfl, rfl, trivial⟩) ?_
 exact (aq rfl (fun γ => qm rfl (.o (s := 11) rfl (by decide) .nil) rfl) (aq rfl (fun γ => qm rfl (.o (s := 0) rfl (by decide) .nil) rfl) (aq rfl (fun γ => qp rfl rfl (.v 1 rfl rfl .nil) (q_nil rfl rfl) rfl) (aq rfl (fun γ => qp rfl rfl (.v 2 rfl rfl .nil) (q_fa rfl rfl Tryz.underlying76 rfl rfl Tryz.sizeOf31 rfl) rfl) (aq rfl (fun γ => qp rfl rfl (.v 3 rfl rfl .nil) (q_load rfl rfl Tryz.isAgg31 (.obj 2 rfl rfl)) rfl) (aq rfl (fun γ => qp rfl rfl (.v 4 rfl rfl .nil) (q_eql rfl rfl rfl) rfl) (aq rfl (fun γ => qp rfl rfl (.v 0 rfl rfl .nil) (q_asg rfl rfl) rfl) (aq rfl (fun γ => qp rfl rfl (.v 5 rfl rfl .nil) (q_asg rfl rfl) rfl) zA))))))))
 exact zA
 intro g22v
 refine nrm_then (sim_rtn ?_)
 exact rtn_fn () rfl rfl rfl (.sel 1 rfl (.sel 1 rfl (.sel 0 rfl (.sel 0 rfl (.nil _)))))
end Go.Proofs.YtdaedoklkmdhcaaGreat

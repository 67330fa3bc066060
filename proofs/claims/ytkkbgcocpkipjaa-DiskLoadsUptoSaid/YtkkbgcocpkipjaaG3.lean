/- Printed by gen.py: pure functions and the proofs that the Go functions simulate them. Conditions: as each theorem says. -/
import Derived.Test.YtkkbgcocpkipjaaG2
namespace Go.Proofs.Ytkkbgcocpkipjaa
open Go.RowKit
set_option linter.unusedVariables false
set_option linter.unusedSimpArgs false
set_option maxRecDepth 20000
set_option maxHeartbeats 20000000
def synodref4_Disk_Sync.f (k : Nat) (x0_0 : List (Ty36)) (x0_1 : Int) (x0_2 : Bool) (x0_3 : List UInt8) (x1 : List UInt8) : Option (Int × (List (Ty36)) × Int × Bool × List UInt8) := if x0_2 = true then (some (11, x0_0, x0_1, x0_2, x0_3)) else ((synodref4_Disk_at.f k x0_0 x0_1 x0_2 x0_3 x1).bind fun s9v => (if s9v < (0 : Int) then (some (8, x0_0, x0_1, x0_2, x0_3)) else ((synodref4_Disk_fails.f x0_0 x0_1 x0_2 x0_3).bind fun s18v => (if s18v.1 = true then (some (11, x0_0, s18v.2.1, s18v.2.2.1, s18v.2.2.2)) else (if 0 ≤ s9v ∧ s9v < (x0_0.length : Int) then (if 0 ≤ s9v ∧ s9v < (x0_0.length : Int) then (some (0, x0_0.set s9v.toNat ((x0_0.getD s9v.toNat dz36).1, (x0_0.getD s9v.toNat dz36).2.1, (((x0_0.getD s9v.toNat dz36).2.1).length : Int)), s18v.2.1, s18v.2.2.1, s18v.2.2.2)) else none) else none)))))
theorem synodref4_Disk_Sync.calls (W : World) (F : HA) (k : Nat) (b0 : Nat) (a0_0 : Option Addr) (c0_0 : Nat) (x0_0 : List (Ty36)) (z0_0 : HA) (x0_1 : Int) (x0_2 : Bool) (x0_3 : List UInt8) (x1 : List UInt8)  :
    Fn Try.prog W 50 [.pointer (some ⟨b0, 0, none⟩), str x1] [obj b0 29 [.slice a0_0 x0_0.length c0_0, .int .i64 x0_1, .bool x0_2, str x0_3], RowV 36 3 (V36 z0_0) a0_0 x0_0 c0_0, z0_0] F (synodref4_Disk_Sync.f k x0_0 x0_1 x0_2 x0_3 x1) (fun (r : Int × (List (Ty36)) × Int × Bool × List UInt8) (y : Option Addr × Nat × HA) => .int .i64 r.1) (fun r y => [obj b0 29 [.slice y.1 r.2.1.length y.2.1, .int .i64 r.2.2.1, .bool r.2.2.2.1, str r.2.2.2.2], RowV 36 3 (V36 (y.2.2)) y.1 r.2.1 y.2.1, y.2.2]) := by
 unfold synodref4_Disk_Sync.f
 refine fn_intro 33 Try.func50 rfl Try.ntmps50 rfl ?_
 refine sr ?_
 refine va rfl rfl (simL_nil (nrm_then (sim_seq (sr ?_))))
 refine vm rfl rfl ?_
 refine vn rfl rfl ?_
 refine vq (q_fa rfl rfl Try.underlying29 rfl rfl Try.sizeOf4 rfl) rfl ?_
 refine vq (q_load rfl rfl Try.isAgg4 (.obj 0 rfl rfl)) rfl (simL_nil (nrm_then ?_))
 refine sim_condb rfl (fun h1v => ?_) (fun h2v => ?_)
 refine sr ?_
 refine va rfl rfl (simL_nil (nrm_then (sim_rtn ?_)))
 refine rtn_then ?_
 exact rtn_fn (a0_0, c0_0, z0_0) rfl rfl rfl (.sel 0 rfl (.sel 0 rfl (.sel 0 rfl (.sel 0 rfl (.nil _)))))
 refine sim_skip ?_
 refine nrm_then (sr ?_)
 refine vm rfl rfl ?_
 refine vm rfl rfl ?_
 refine simL_openV 1 rfl (fun rs3v hl4v => ?_)
 refine simL_bind (fun s9v hs10v => ?_)
 refine simL_lend 1 rfl (fun hq5v hq6v hq7v hq8v => ?_)
 refine simL_eff (re_call (vs := [.pointer (some ⟨b0, 0, none⟩), str x1]) (cap := []) (A := [obj b0 29 [.slice a0_0 x0_0.length c0_0, .int .i64 x0_1, .bool x0_2, str x0_3]]) (rst := [Row 36 3 a0_0 x0_0.length c0_0 rs3v.flatten, z0_0, F]) rfl rfl rfl rfl rfl rfl Try.call37 (.sel 0 rfl (.sel 0 rfl (.sel 0 rfl (.sel 0 rfl (.nil _))))) (synodref4_Disk_at.calls _ _ k b0 a0_0 c0_0 x0_0 x0_1 x0_2 x0_3 x1 ((Rd.asV hl4v hq5v).up (Up.lend 0 rfl) (V36.up (Up.lend 1 rfl))) hq6v hq7v) hs10v) rfl rfl rfl ?_
 intro y11v
 refine va rfl rfl (simL_nil (nrm_then (sim_seq (sr ?_))))
 refine vm rfl rfl ?_
 refine vq (q_lss rfl rfl rfl) rfl (simL_nil (nrm_then ?_))
 refine sim_cond rfl (fun h12v => ?_) (fun h13v => ?_)
 refine sr ?_
 refine va rfl rfl (simL_nil (nrm_then (sim_rtn ?_)))
 refine rtn_then ?_
 exact rtn_fn (a0_0, c0_0, z0_0) rfl rfl rfl (.sel 0 rfl (.sel' 0 rfl (RowV.mk hl4v) (.sel 0 rfl (.sel 0 rfl (.nil _)))))
 refine sim_skip ?_
 refine nrm_then (sim_seq (sr ?_))
 refine vm rfl rfl ?_
 refine simL_bind (fun s18v hs19v => ?_)
 refine simL_lend 1 rfl (fun hq14v hq15v hq16v hq17v => ?_)
 refine simL_eff (re_call (vs := [.pointer (some ⟨b0, 0, none⟩)]) (cap := []) (A := [obj b0 29 [.slice a0_0 x0_0.length c0_0, .int .i64 x0_1, .bool x0_2, str x0_3]]) (rst := [Row 36 3 a0_0 x0_0.length c0_0 rs3v.flatten, z0_0, F]) rfl rfl rfl rfl rfl rfl Try.call38 (.sel 0 rfl (.sel 0 rfl (.sel 0 rfl (.sel 0 rfl (.nil _))))) (synodref4_Disk_fails.calls _ _ b0 a0_0 c0_0 x0_0 x0_1 x0_2 x0_3 ((Rd.asV hl4v hq14v).up (Up.lend 0 rfl) (V36.up (Up.lend 1 rfl))) hq15v hq16v) hs19v) rfl rfl rfl ?_
 intro y20v
 refine simL_nil (nrm_then ?_)
 refine sim_condb rfl (fun h21v => ?_) (fun h22v => ?_)
 refine sr ?_
 refine va rfl rfl (simL_nil (nrm_then (sim_rtn ?_)))
 refine rtn_then ?_
 exact rtn_fn (a0_0, c0_0, z0_0) rfl rfl rfl (.sel 0 rfl (.sel' 0 rfl (RowV.mk hl4v) (.sel 0 rfl (.sel 0 rfl (.nil _)))))
 refine sim_skip ?_
 refine nrm_then (sim_seq ?_)
 refine sim_ask (fun hi23v => ?_)
 refine sim_posV 1 rfl hl4v rfl (i := s9v.toNat) (by omega) dz36 (fun b24v b24vo r27v ha25v hV28v hlr29v hcell30v => ?_)
 obtain ⟨a31v, c32v, rfl, ⟨he33v, hc34v, hm35v⟩⟩ := hV28v
 refine sim_ask (fun hi36v => ?_)
 refine sim_posV 1 rfl hl4v rfl (i := s9v.toNat) (by omega) dz36 (fun b37v b37vo r40v ha38v hV41v hlr42v hcell43v => ?_)
 obtain ⟨a44v, c45v, rfl, ⟨he46v, hc47v, hm48v⟩⟩ := hV41v
 refine sim_draw (Γ := Unit) () [[], [0], [0, 1], [0, 1, 2], [], [], [5], [5, 6], [5, 6, 7], [], [5, 6, 7, 8, 9], [5, 6, 7, 8, 9, 10], [5, 6, 7, 8, 9, 10, 11], [5, 6, 7, 8, 9, 10, 11, 12], rL 14, rL 15, rL 16] [16] [0, 1, 2, 3, 4, 5, 6, 7, 8, 9, 10, 11, 12, 13, 14, 15] (fun i => [[0], [0], [0], [0], [0], [0], [0], [0], [0], [0], [0], [0], [0], [0], [0], [0], []].getD i []) (fun i => [[], [], [], [], [], [], [], [], [], [], [], [], [], [], [], [], rL 16].getD i []) (fun γ i => [.pointer (some ⟨b0, 0, none⟩), .pointer (some ⟨b0, 0, none⟩), .pointer (some ⟨b0, 0, none⟩), .slice a0_0 x0_0.length c0_0, .int .i64 s9v, .pointer (some ⟨b0, 0, none⟩), .pointer (some ⟨b0, 0, none⟩), .pointer (some ⟨b0, 0, none⟩), .slice a0_0 x0_0.length c0_0, .int .i64 s9v, .pointer (some ⟨b24v, b24vo + s9v.toNat * 3, none⟩), .pointer (some ⟨b24v, b24vo + s9v.toNat * 3 + 1, none⟩), .slice a31v (((x0_0.getD s9v.toNat dz36).2.1).length) c32v, .int .i64 (((x0_0.getD s9v.toNat dz36).2.1).length : Int), .pointer (some ⟨b37v, b37vo + s9v.toNat * 3, none⟩), .pointer (some ⟨b37v, b37vo + s9v.toNat * 3 + 2, none⟩), undef].getD i undef) (fun j γ => [[obj b0 29 [.slice a0_0 x0_0.length c0_0, .int .i64 s18v.2.1, .bool s18v.2.2.1, str s18v.2.2.2], Row 36 3 a0_0 x0_0.length c0_0 rs3v.flatten, z0_0, F], [obj b0 29 [.slice a0_0 ((x0_0.set s9v.toNat ((x0_0.getD s9v.toNat dz36).1, (x0_0.getD s9v.toNat dz36).2.1, (((x0_0.getD s9v.toNat dz36).2.1).length : Int))).length) c0_0, .int .i64 s18v.2.1, .bool s18v.2.2.1, str s18v.2.2.2], RowV 36 3 (V36 z0_0) a0_0 (x0_0.set s9v.toNat ((x0_0.getD s9v.toNat dz36).1, (x0_0.getD s9v.toNat dz36).2.1, (((x0_0.getD s9v.toNat dz36).2.1).length : Int))) c0_0, z0_0, F]].getD j []) (fun γ => []) mixed (by decide) (by decide) (by decide) (by decide) (by decide) (by decide) (by decide) 33 rfl (by decide) (by decide) (by decide) (Ent.refl _) ?_ ?_ (fun _ => trivial) ?_
 exact (aq rfl (fun γ => qm rfl (.o (s := 0) rfl (by decide) .nil) rfl) (aq rfl (fun γ => qp rfl rfl (.v 0 rfl rfl .nil) (q_nil rfl rfl) rfl) (aq rfl (fun γ => qp rfl rfl (.v 1 rfl rfl .nil) (q_fa rfl rfl Try.underlying29 rfl rfl Try.sizeOf27 rfl) rfl) (aq rfl (fun γ => qp rfl rfl (.v 2 rfl rfl .nil) (q_load rfl rfl Try.isAgg27 (.obj 0 rfl rfl)) rfl) (aq rfl (fun γ => qm rfl (.o (s := 5) rfl (by decide) .nil) rfl) (aq rfl (fun γ => qm rfl (.o (s := 0) rfl (by decide) .nil) rfl) (aq rfl (fun γ => qp rfl rfl (.v 5 rfl rfl .nil) (q_nil rfl rfl) rfl) (aq rfl (fun γ => qp rfl rfl (.v 6 rfl rfl .nil) (q_fa rfl rfl Try.underlying29 rfl rfl Try.sizeOf27 rfl) rfl) (aq rfl (fun γ => qp rfl rfl (.v 7 rfl rfl .nil) (q_load rfl rfl Try.isAgg27 (.obj 0 rfl rfl)) rfl) (aq rfl (fun γ => qm rfl (.o (s := 5) rfl (by decide) .nil) rfl) (aq rfl (fun γ => qp rfl rfl (.v 8 rfl rfl (.v 9 rfl rfl .nil)) (q_idx rfl rfl rfl ha25v Try.underlying27 Try.sizeOf36 hi23v.1 hi23v.2) rfl) (aq rfl (fun γ => qp rfl rfl (.v 10 rfl rfl .nil) (q_fa rfl rfl Try.underlying36 rfl rfl Try.sizeOf34 rfl) rfl) (aq rfl (fun γ => qp rfl rfl (.v 11 rfl rfl .nil) (q_load rfl rfl Try.isAgg34 (hcell30v 1 rfl 1 _ rfl)) rfl) (aq rfl (fun γ => qp rfl rfl (.v 12 rfl rfl .nil) (q_len rfl rfl rfl Try.underlying34) rfl) (aq rfl (fun γ => qp rfl rfl (.v 3 rfl rfl (.v 4 rfl rfl .nil)) (q_idx rfl rfl rfl ha38v Try.underlying27 Try.sizeOf36 hi36v.1 hi36v.2) rfl) (aq rfl (fun γ => qp rfl rfl (.v 14 rfl rfl .nil) (q_fa rfl rfl Try.underlying36 rfl rfl Try.sizeOf3 rfl) rfl) zA))))))))))))))))
 exact (ac (fun γ => eo (Z := Unit) (fun z => ()) rfl rfl (.v 13 rfl rfl (.v 15 rfl rfl .nil)) (re_storeV (V := (V36 z0_0)) ((x0_0.getD s9v.toNat dz36).1, (x0_0.getD s9v.toNat dz36).2.1, (((x0_0.getD s9v.toNat dz36).2.1).length : Int)) 2 dz36 1 rfl rfl rfl Try.sizeOf3 rfl rfl (one_of (by rfl)) rfl hl4v ha38v (by omega) rfl (fun r hr _ _ => by obtain ⟨a1', c1', rfl, h1'⟩ := hr; exact ⟨a1', c1', rfl, h1'⟩)) (fun _ => ⟨rfl, rfl, rfl, rfl, rfl, rfl, rfl, rfl, rfl, rfl, rfl, rfl, rfl, rfl, rfl, rfl, trivial⟩) (fun _ => .inl rfl) (fun z => ent_eq ((rfl : _ = [obj b0 29 [.slice a0_0 x0_0.length c0_0, .int .i64 s18v.2.1, .bool s18v.2.2.1, str s18v.2.2.2], RowV 36 3 (V36 z0_0) a0_0 (x0_0.set s9v.toNat ((x0_0.getD s9v.toNat dz36).1, (x0_0.getD s9v.toNat dz36).2.1, (((x0_0.getD s9v.toNat dz36).2.1).length : Int))) c0_0, z0_0, F]).trans ((by simp only [List.length_set, copyB_length] : [obj b0 29 [.slice a0_0 x0_0.length c0_0, .int .i64 s18v.2.1, .bool s18v.2.2.1, str s18v.2.2.2], RowV 36 3 (V36 z0_0) a0_0 (x0_0.set s9v.toNat ((x0_0.getD s9v.toNat dz36).1, (x0_0.getD s9v.toNat dz36).2.1, (((x0_0.getD s9v.toNat dz36).2.1).length : Int))) c0_0, z0_0, F] = [obj b0 29 [.slice a0_0 ((x0_0.set s9v.toNat ((x0_0.getD s9v.toNat dz36).1, (x0_0.getD s9v.toNat dz36).2.1, (((x0_0.getD s9v.toNat dz36).2.1).length : Int))).length) c0_0, .int .i64 s18v.2.1, .bool s18v.2.2.1, str s18v.2.2.2], RowV 36 3 (V36 z0_0) a0_0 (x0_0.set s9v.toNat ((x0_0.getD s9v.toNat dz36).1, (x0_0.getD s9v.toNat dz36).2.1, (((x0_0.getD s9v.toNat dz36).2.1).length : Int))) c0_0, z0_0, F]).trans rfl)))) zA)
 intro g49v
 refine nrm_then (sr ?_)
 refine va rfl rfl (simL_nil (nrm_then (sim_rtn ?_)))
 exact rtn_fn (a0_0, c0_0, z0_0) rfl rfl rfl (.sel 0 rfl (.sel 0 rfl (.sel 0 rfl (.sel 0 rfl (.nil _)))))

def disk_Disk_Cut.f (x0_0 : List ((List UInt8) × (List UInt8 × Int))) (x0_1 : List UInt8) (x0_2 : Int) (x0_3 : Bool) (x1 : List UInt8) (x2 : Int) : Option (Int × (List ((List UInt8) × (List UInt8 × Int))) × List UInt8 × Int × Bool) := if (mget x0_0 x1).isSome = true then (if x0_3 = true then (some (11, x0_0, x0_1, x0_2, x0_3)) else (if ((decide (x2 < (0 : Int))) || (decide (((((mget x0_0 x1).getD (([] : List UInt8), (0 : Int))).1).length : Int) < x2))) = true then (some (1, x0_0, x0_1, x0_2, x0_3)) else ((disk_Disk_fails.f x0_0 x0_1 x0_2 x0_3).bind fun s7v => (if s7v.1 = true then (some (11, x0_0, s7v.2.1, s7v.2.2.1, s7v.2.2.2)) else (if 0 ≤ (0 : Int) ∧ (0 : Int) ≤ x2 ∧ x2 ≤ ((((mget x0_0 x1).getD (([] : List UInt8), (0 : Int))).1).length : Int) then (some (0, mput x0_0 x1 (cut (((mget x0_0 x1).getD (([] : List UInt8), (0 : Int))).1) (0 : Int) x2, min (((mget x0_0 x1).getD (([] : List UInt8), (0 : Int))).2) x2), s7v.2.1, s7v.2.2.1, s7v.2.2.2)) else none))))) else (if x0_3 = true then (some (11, x0_0, x0_1, x0_2, x0_3)) else (some (8, x0_0, x0_1, x0_2, x0_3)))
theorem disk_Disk_Cut.calls (W : World) (F : HA) (b0 : Nat) (m0_0 : Nat) (q0_0 : Kps) (x0_0 : List ((List UInt8) × (List UInt8 × Int))) (x0_1 : List UInt8) (x0_2 : Int) (x0_3 : Bool) (x1 : List UInt8) (x2 : Int)  :
    Fn Try.prog W 44 [.pointer (some ⟨b0, 0, none⟩), str x1, .int .i64 x2] [obj b0 64 [.map (some m0_0), str x0_1, .int .i64 x0_2, .bool x0_3], mapF (mapO m0_0 enc9 encP q0_0) FA68 q0_0 x0_0] F (disk_Disk_Cut.f x0_0 x0_1 x0_2 x0_3 x1 x2) (fun (r : Int × (List ((List UInt8) × (List UInt8 × Int))) × List UInt8 × Int × Bool) (y : Nat × Kps) => .int .i64 r.1) (fun r y => [obj b0 64 [.map (some y.1), str r.2.2.1, .int .i64 r.2.2.2.1, .bool r.2.2.2.2], mapF (mapO y.1 enc9 encP y.2) FA68 y.2 r.2.1]) := by
 unfold disk_Disk_Cut.f
 refine fn_intro 55 Try.func44 rfl Try.ntmps44 rfl ?_
 refine sr ?_
 refine va rfl rfl (simL_nil (nrm_then (sim_seq ?_)))
 refine sim_if (fun hk1v => ?_) (fun hk1v => ?_)
 refine sim_region ?_
 refine vm rfl rfl ?_
 refine vn rfl rfl ?_
 refine vq (q_fa rfl rfl Try.underlying64 rfl rfl Try.sizeOf62 rfl) rfl ?_
 refine vq (q_load rfl rfl Try.isAgg62 (.obj 0 rfl rfl)) rfl ?_
 refine vm rfl rfl ?_
 refine vq ((q_mlookY (ek := enc9) x1 (tellsF 1 rfl) hk1v rfl rfl rfl Try.underlying62 key9 : RQ _ _ _ _ (.pointer (some ⟨(fptr q0_0 x1), 0, none⟩)))) rfl ?_
 refine va rfl rfl (simL_nil (nrm_then (sim_seq ?_)))
 refine sim_block ?_
 refine sr ?_
 refine vm rfl rfl ?_
 refine vn rfl rfl ?_
 refine vq (q_fa rfl rfl Try.underlying64 rfl rfl Try.sizeOf4 rfl) rfl ?_
 refine vq (q_load rfl rfl Try.isAgg4 (.obj 0 rfl rfl)) rfl ?_
 refine va rfl rfl (simL_nil (nrm_then ?_))
 refine sim_condb rfl (fun h2v => ?_) (fun h3v => ?_)
 refine sr ?_
 refine va rfl rfl (simL_nil (nrm_then (sim_rtn ?_)))
 refine rtn_block ?_
 refine rtn_then ?_
 exact rtn_fn (m0_0, q0_0) rfl rfl rfl (.sel 0 rfl (.sel 0 rfl (.sel 0 rfl (.nil _))))
 refine sr ?_
 refine vm rfl rfl ?_
 refine vq (q_eqp rfl rfl rfl Try.underlying66) rfl ?_
 refine va rfl rfl (simL_nil (nrm_then ?_))
 refine sim_false rfl ?_
 refine sim_seq ?_
 refine sim_openF (v := ((mget x0_0 x1).getD (([] : List UInt8), (0 : Int)))) 1 rfl (getD_some hk1v) (fun y4v => ?_)
 refine sim_ent (H' := [obj (fptr q0_0 x1) 68 [.slice y4v.1 ((((mget x0_0 x1).getD (([] : List UInt8), (0 : Int))).1).length) y4v.2, .int .i64 (((mget x0_0 x1).getD (([] : List UInt8), (0 : Int))).2)], Row 5 1 y4v.1 (((mget x0_0 x1).getD (([] : List UInt8), (0 : Int))).1).length y4v.2 (encB (((mget x0_0 x1).getD (([] : List UInt8), (0 : Int))).1)), mapH (mapO m0_0 enc9 encP q0_0) FA68 q0_0 x0_0 x1, obj b0 64 [.map (some m0_0), str x0_1, .int .i64 x0_2, .bool x0_3], F]) (Ent.refl _) ?_
 refine sim_region ?_
 refine vm rfl rfl ?_
 refine vq (q_lss rfl rfl rfl) rfl ?_
 refine vm rfl rfl ?_
 refine simL_valc (b := decide (x2 < (0 : Int))) (fun hb30v => RQ.sub (E' := [(2, .int .i64 x2)]) ⟨rfl, trivial⟩ (q_move rfl rfl)) rfl rfl rfl rfl rfl ?_
 refine simL_valc (b := decide (x2 < (0 : Int))) (fun hb29v => RQ.sub (E' := [(7, .pointer (some ⟨(fptr q0_0 x1), 0, none⟩))]) ⟨rfl, trivial⟩ (q_move rfl rfl)) rfl rfl rfl rfl rfl ?_
 refine simL_valc (b := decide (x2 < (0 : Int))) (fun hb28v => RQ.sub (E' := [(27, .pointer (some ⟨(fptr q0_0 x1), 0, none⟩))]) ⟨lk_cv rfl hb28v, trivial⟩ (q_nil rfl rfl)) rfl rfl rfl rfl rfl ?_
 refine simL_valc (b := decide (x2 < (0 : Int))) (fun hb27v => RQ.sub (E' := [(28, .pointer (some ⟨(fptr q0_0 x1), 0, none⟩))]) ⟨lk_cv rfl hb27v, trivial⟩ (q_fa rfl rfl Try.underlying68 rfl rfl Try.sizeOf34 rfl)) rfl rfl rfl rfl rfl ?_
 refine simL_valc (b := decide (x2 < (0 : Int))) (fun hb26v => RQ.sub (E' := [(29, .pointer (some ⟨(fptr q0_0 x1), 0, none⟩))]) ⟨lk_cv rfl hb26v, trivial⟩ (q_load rfl rfl Try.isAgg34 (.obj 0 rfl rfl))) rfl rfl rfl rfl rfl ?_
 refine simL_valc (b := decide (x2 < (0 : Int))) (fun hb25v => RQ.sub (E' := [(30, .slice y4v.1 ((((mget x0_0 x1).getD (([] : List UInt8), (0 : Int))).1).length) y4v.2)]) ⟨lk_cv rfl hb25v, trivial⟩ (q_len rfl rfl rfl Try.underlying34)) rfl rfl rfl rfl rfl ?_
 refine simL_valc (b := decide (x2 < (0 : Int))) (fun hb24v => RQ.sub (E' := [(26, .int .i64 x2), (31, .int .i64 ((((mget x0_0 x1).getD (([] : List UInt8), (0 : Int))).1).length : Int))]) ⟨lk_cv rfl hb24v, lk_cv rfl hb24v, trivial⟩ (q_gtr rfl rfl rfl)) rfl rfl rfl rfl rfl ?_
 refine vq (q_or rfl rfl rfl) rfl ?_
 refine va rfl rfl (simL_nil (nrm_then ?_))
 refine sim_condb rfl (fun h5v => ?_) (fun h6v => ?_)
 refine sr ?_
 refine va rfl rfl (simL_nil (nrm_then (sim_rtn ?_)))
 refine rtn_block ?_
 refine rtn_then ?_
 exact rtn_fn (m0_0, q0_0) rfl rfl rfl (.sel 3 rfl (.foldF0 (x := x1) (p := (fptr q0_0 x1)) (v := ((mget x0_0 x1).getD (([] : List UInt8), (0 : Int)))) (y4v.1, y4v.2) rfl (getD_some hk1v) (.sel 2 rfl (.sel 0 rfl (.sel 0 rfl (.sel 0 rfl (.nil _)))))))
 refine sr ?_
 refine vm rfl rfl ?_
 refine simL_ent (H' := [mapF (mapO m0_0 enc9 encP q0_0) FA68 q0_0 x0_0, obj b0 64 [.map (some m0_0), str x0_1, .int .i64 x0_2, .bool x0_3], F]) ((.foldF0 (x := x1) (p := (fptr q0_0 x1)) (v := ((mget x0_0 x1).getD (([] : List UInt8), (0 : Int)))) (y4v.1, y4v.2) rfl (getD_some hk1v) (.sel 2 rfl (.sel 0 rfl (.sel 0 rfl (.sel 0 rfl (.sel 0 rfl (.nil _)))))))) ?_
 refine simL_bind (fun s7v hs8v => ?_)
 refine simL_eff (re_call (vs := [.pointer (some ⟨b0, 0, none⟩)]) (cap := []) (A := [obj b0 64 [.map (some m0_0), str x0_1, .int .i64 x0_2, .bool x0_3], mapF (mapO m0_0 enc9 encP q0_0) FA68 q0_0 x0_0]) (rst := [F]) rfl rfl rfl rfl rfl rfl Try.call35 (.sel 1 rfl (.sel 0 rfl (.sel 0 rfl (.nil _)))) (disk_Disk_fails.calls _ _ b0 m0_0 q0_0 x0_0 x0_1 x0_2 x0_3 ) hs8v) rfl rfl rfl ?_
 intro y9v
 refine va rfl rfl (simL_nil (nrm_then ?_))
 refine sim_condb rfl (fun h10v => ?_) (fun h11v => ?_)
 refine sr ?_
 refine va rfl rfl (simL_nil (nrm_then (sim_rtn ?_)))
 refine rtn_block ?_
 refine rtn_then ?_
 exact rtn_fn (m0_0, q0_0) rfl rfl rfl (.sel 0 rfl (.sel 0 rfl (.sel 0 rfl (.nil _))))
 refine sim_skip ?_
 refine nrm_block (nrm_then (sim_seq ?_))
 refine sim_openF (v := ((mget x0_0 x1).getD (([] : List UInt8), (0 : Int)))) 1 rfl (getD_some hk1v) (fun y12v => ?_)
 refine sim_ent (H' := [obj (fptr q0_0 x1) 68 [.slice y12v.1 ((((mget x0_0 x1).getD (([] : List UInt8), (0 : Int))).1).length) y12v.2, .int .i64 (((mget x0_0 x1).getD (([] : List UInt8), (0 : Int))).2)], Row 5 1 y12v.1 (((mget x0_0 x1).getD (([] : List UInt8), (0 : Int))).1).length y12v.2 (encB (((mget x0_0 x1).getD (([] : List UInt8), (0 : Int))).1)), mapH (mapO m0_0 enc9 encP q0_0) FA68 q0_0 x0_0 x1, obj b0 64 [.map (some m0_0), str s7v.2.1, .int .i64 s7v.2.2.1, .bool s7v.2.2.2], F]) (Ent.refl _) ?_
 refine sim_region ?_
 refine vm rfl rfl ?_
 refine vm rfl rfl ?_
 refine vn rfl rfl ?_
 refine vq (q_fa rfl rfl Try.underlying68 rfl rfl Try.sizeOf34 rfl) rfl ?_
 refine vq (q_load rfl rfl Try.isAgg34 (.obj 0 rfl rfl)) rfl ?_
 refine vm rfl rfl ?_
 refine simL_ask (fun hb13v => ?_)
 refine simL_lend 1 rfl (fun hq20v hq21v hq22v hq23v => ?_)
 obtain ⟨a14v, c15v, hS16v, hr17v, hc18v, hm19v⟩ := slice_pre (lo := (0 : Int)) (hi := x2) hq20v hq21v hb13v
 refine vq (q_sub_ro (l := (((mget x0_0 x1).getD (([] : List UInt8), (0 : Int))).1)) (lo' := (0 : Int)) (hi' := x2) rfl rfl rfl rfl Try.underlying34 Try.sizeOf5 (.inr ⟨_, rfl⟩) (.inl ⟨rfl, rfl⟩) hb13v hq21v hS16v) rfl ?_
 refine vn rfl rfl ?_
 refine vq (q_fa rfl rfl Try.underlying68 rfl rfl Try.sizeOf34 rfl) rfl ?_
 refine simL_do (RE.ent (Ent.cutB 1 rfl hS16v hb13v hq21v) (re_store 0 rfl rfl rfl Try.sizeOf34 rfl rfl (one_of (by rfl)) rfl rfl)) rfl rfl ?_
 intro _
 refine nx ?_
 refine vm rfl rfl ?_
 refine vm rfl rfl ?_
 refine vn rfl rfl ?_
 refine vq (q_fa rfl rfl Try.underlying68 rfl rfl Try.sizeOf3 rfl) rfl ?_
 refine vq (q_load rfl rfl Try.isAgg3 (.obj 0 rfl rfl)) rfl ?_
 refine vm rfl rfl ?_
 refine vq (q_min rfl rfl rfl) rfl ?_
 refine vn rfl rfl ?_
 refine vq (q_fa rfl rfl Try.underlying68 rfl rfl Try.sizeOf3 rfl) rfl ?_
 refine simL_do (re_store 0 rfl rfl rfl Try.sizeOf3 rfl rfl (one_of (by rfl)) rfl rfl) rfl rfl ?_
 intro _
 refine nx ?_
 refine va rfl rfl (simL_nil (nrm_then (sim_rtn ?_)))
 exact rtn_fn (m0_0, q0_0) rfl rfl rfl (.sel 3 rfl (.foldF (x := x1) (p := (fptr q0_0 x1)) (v := (cut (((mget x0_0 x1).getD (([] : List UInt8), (0 : Int))).1) (0 : Int) x2, min (((mget x0_0 x1).getD (([] : List UInt8), (0 : Int))).2) x2)) (a14v, c15v) rfl (.sel 2 rfl (.sel 0 rfl (.sel 0 rfl (.sel 0 rfl (.nil _)))))))
 refine sim_region ?_
 refine vm rfl rfl ?_
 refine vn rfl rfl ?_
 refine vq (q_fa rfl rfl Try.underlying64 rfl rfl Try.sizeOf62 rfl) rfl ?_
 refine vq (q_load rfl rfl Try.isAgg62 (.obj 0 rfl rfl)) rfl ?_
 refine vm rfl rfl ?_
 refine vq (q_mlookN (ek := enc9) x1 (tellsF 1 rfl) (isNone_of hk1v) rfl rfl rfl Try.underlying62 key9 Try.zeroValue66) rfl ?_
 refine va rfl rfl (simL_nil (nrm_then (sim_seq ?_)))
 refine sim_block ?_
 refine sr ?_
 refine vm rfl rfl ?_
 refine vn rfl rfl ?_
 refine vq (q_fa rfl rfl Try.underlying64 rfl rfl Try.sizeOf4 rfl) rfl ?_
 refine vq (q_load rfl rfl Try.isAgg4 (.obj 0 rfl rfl)) rfl ?_
 refine va rfl rfl (simL_nil (nrm_then ?_))
 refine sim_condb rfl (fun h31v => ?_) (fun h32v => ?_)
 refine sr ?_
 refine va rfl rfl (simL_nil (nrm_then (sim_rtn ?_)))
 refine rtn_block ?_
 refine rtn_then ?_
 exact rtn_fn (m0_0, q0_0) rfl rfl rfl (.sel 0 rfl (.sel 0 rfl (.sel 0 rfl (.nil _))))
 refine sr ?_
 refine vm rfl rfl ?_
 refine vq (q_eqnn rfl rfl rfl Try.underlying66) rfl ?_
 refine va rfl rfl (simL_nil (nrm_then ?_))
 refine sim_true rfl ?_
 refine sr ?_
 refine va rfl rfl (simL_nil (nrm_then (sim_rtn ?_)))
 refine rtn_block ?_
 refine rtn_then ?_
 exact rtn_fn (m0_0, q0_0) rfl rfl rfl (.sel 0 rfl (.sel 0 rfl (.sel 0 rfl (.nil _))))

def synodref4_Disk_Cut.f (k : Nat) (x0_0 : List (Ty36)) (x0_1 : Int) (x0_2 : Bool) (x0_3 : List UInt8) (x1 : List UInt8) (x2 : Int) : Option (Int × (List (Ty36)) × Int × Bool × List UInt8) := if x0_2 = true then (some (11, x0_0, x0_1, x0_2, x0_3)) else ((synodref4_Disk_at.f k x0_0 x0_1 x0_2 x0_3 x1).bind fun s9v => (if s9v < (0 : Int) then (some (8, x0_0, x0_1, x0_2, x0_3)) else ((if x2 < (0 : Int) then (some true) else (if 0 ≤ s9v ∧ s9v < (x0_0.length : Int) then (some (decide ((((x0_0.getD s9v.toNat dz36).2.1).length : Int) < x2))) else none)).bind fun s14v => (if s14v = true then (some (1, x0_0, x0_1, x0_2, x0_3)) else ((synodref4_Disk_fails.f x0_0 x0_1 x0_2 x0_3).bind fun s39v => (if s39v.1 = true then (some (11, x0_0, s39v.2.1, s39v.2.2.1, s39v.2.2.2)) else (if 0 ≤ s9v ∧ s9v < (x0_0.length : Int) then (if 0 ≤ (0 : Int) ∧ (0 : Int) ≤ x2 ∧ x2 ≤ (((x0_0.getD s9v.toNat dz36).2.1).length : Int) then ((synodref_Bytes.f (cut ((x0_0.getD s9v.toNat dz36).2.1) (0 : Int) x2)).bind fun s64v => (if 0 ≤ s9v ∧ s9v < (x0_0.length : Int) then (if 0 ≤ s9v ∧ s9v < ((x0_0.set s9v.toNat ((x0_0.getD s9v.toNat dz36).1, s64v, (x0_0.getD s9v.toNat dz36).2.2)).length : Int) then (if 0 ≤ s9v ∧ s9v < ((x0_0.set s9v.toNat ((x0_0.getD s9v.toNat dz36).1, s64v, (x0_0.getD s9v.toNat dz36).2.2)).length : Int) then (some (0, (x0_0.set s9v.toNat ((x0_0.getD s9v.toNat dz36).1, s64v, (x0_0.getD s9v.toNat dz36).2.2)).set s9v.toNat (((x0_0.set s9v.toNat ((x0_0.getD s9v.toNat dz36).1, s64v, (x0_0.getD s9v.toNat dz36).2.2)).getD s9v.toNat dz36).1, ((x0_0.set s9v.toNat ((x0_0.getD s9v.toNat dz36).1, s64v, (x0_0.getD s9v.toNat dz36).2.2)).getD s9v.toNat dz36).2.1, min (((x0_0.set s9v.toNat ((x0_0.getD s9v.toNat dz36).1, s64v, (x0_0.getD s9v.toNat dz36).2.2)).getD s9v.toNat dz36).2.2) x2), s39v.2.1, s39v.2.2.1, s39v.2.2.2)) else none) else none) else none)) else none) else none)))))))
theorem synodref4_Disk_Cut.calls (W : World) (F : HA) (k : Nat) (b0 : Nat) (a0_0 : Option Addr) (c0_0 : Nat) (x0_0 : List (Ty36)) (z0_0 : HA) (x0_1 : Int) (x0_2 : Bool) (x0_3 : List UInt8) (x1 : List UInt8) (x2 : Int)  :
    Fn Try.prog W 51 [.pointer (some ⟨b0, 0, none⟩), str x1, .int .i64 x2] [obj b0 29 [.slice a0_0 x0_0.length c0_0, .int .i64 x0_1, .bool x0_2, str x0_3], RowV 36 3 (V36 z0_0) a0_0 x0_0 c0_0, z0_0] F (synodref4_Disk_Cut.f k x0_0 x0_1 x0_2 x0_3 x1 x2) (fun (r : Int × (List (Ty36)) × Int × Bool × List UInt8) (y : Option Addr × Nat × HA) => .int .i64 r.1) (fun r y => [obj b0 29 [.slice y.1 r.2.1.length y.2.1, .int .i64 r.2.2.1, .bool r.2.2.2.1, str r.2.2.2.2], RowV 36 3 (V36 (y.2.2)) y.1 r.2.1 y.2.1, y.2.2]) := by
 unfold synodref4_Disk_Cut.f
 refine fn_intro 69 Try.func51 rfl Try.ntmps51 rfl ?_
 refine sr ?_
 refine va rfl rfl (simL_nil (nrm_then (sim_seq (sr ?_))))
 refine vm rfl rfl ?_
 refine vn rfl rfl ?_
 refine vq (q_fa rfl rfl Try.underlying29 rfl rfl Try.sizeOf4 rfl) rfl ?_
 refine vq (q_load rfl rfl Try.isAgg4 (.obj 0 rfl rfl)) rfl (simL_nil (nrm_then ?_))
 refine sim_condb rfl (fun h1v => ?_) (fun h2v => ?_)
 refine sr ?_
 refine va rfl rfl (simL_nil (nrm_then (sim_rtn ?_)))
 refine rtn_then ?_
 exact rtn_fn (a0_0, c0_0, z0_0) rfl rfl rfl (.sel 0 rfl (.sel 0 rfl (.sel 0 rfl (.sel 0 rfl (.nil _)))))
 refine sim_skip ?_
 refine nrm_then (sr ?_)
 refine vm rfl rfl ?_
 refine vm rfl rfl ?_
 refine simL_openV 1 rfl (fun rs3v hl4v => ?_)
 refine simL_bind (fun s9v hs10v => ?_)
 refine simL_lend 1 rfl (fun hq5v hq6v hq7v hq8v => ?_)
 refine simL_eff (re_call (vs := [.pointer (some ⟨b0, 0, none⟩), str x1]) (cap := []) (A := [obj b0 29 [.slice a0_0 x0_0.length c0_0, .int .i64 x0_1, .bool x0_2, str x0_3]]) (rst := [Row 36 3 a0_0 x0_0.length c0_0 rs3v.flatten, z0_0, F]) rfl rfl rfl rfl rfl rfl Try.call37 (.sel 0 rfl (.sel 0 rfl (.sel 0 rfl (.sel 0 rfl (.nil _))))) (synodref4_Disk_at.calls _ _ k b0 a0_0 c0_0 x0_0 x0_1 x0_2 x0_3 x1 ((Rd.asV hl4v hq5v).up (Up.lend 0 rfl) (V36.up (Up.lend 1 rfl))) hq6v hq7v) hs10v) rfl rfl rfl ?_
 intro y11v
 refine va rfl rfl (simL_nil (nrm_then (sim_seq (sr ?_))))
 refine vm rfl rfl ?_
 refine vq (q_lss rfl rfl rfl) rfl (simL_nil (nrm_then ?_))
 refine sim_cond rfl (fun h12v => ?_) (fun h13v => ?_)
 refine sr ?_
 refine va rfl rfl (simL_nil (nrm_then (sim_rtn ?_)))
 refine rtn_then ?_
 exact rtn_fn (a0_0, c0_0, z0_0) rfl rfl rfl (.sel 0 rfl (.sel' 0 rfl (RowV.mk hl4v) (.sel 0 rfl (.sel 0 rfl (.nil _)))))
 refine sim_skip ?_
 refine nrm_then (sim_seq (sr ?_))
 refine vm rfl rfl ?_
 refine vq (q_lss rfl rfl rfl) rfl ?_
 refine vm rfl rfl ?_
 refine simL_cut' 12 (S := Bool) (Unit) (fun s y => [(0, .pointer (some ⟨b0, 0, none⟩)), (2, .int .i64 x2), (7, .int .i64 s9v), (31, .bool s)]) (fun s y => [obj b0 29 [.slice a0_0 x0_0.length c0_0, .int .i64 x0_1, .bool x0_2, str x0_3], RowV 36 3 (V36 (z0_0)) a0_0 x0_0 c0_0, z0_0, F]) ?_ ?_
 refine simL_casep (fun hb29v => ?_) (fun hb30v => ?_)
 rw [hb29v]
 refine simL_skipd rfl rfl rfl rfl rfl rfl ?_
 refine simL_skipd rfl rfl rfl rfl rfl rfl ?_
 refine simL_skipd rfl rfl rfl rfl rfl rfl ?_
 refine simL_skipd rfl rfl rfl rfl rfl rfl ?_
 refine simL_skipd rfl rfl rfl rfl rfl rfl ?_
 refine simL_skipd rfl rfl rfl rfl rfl rfl ?_
 refine simL_skipd rfl rfl rfl rfl rfl rfl ?_
 refine simL_skipd rfl rfl rfl rfl rfl rfl ?_
 refine simL_skipd rfl rfl rfl rfl rfl rfl ?_
 refine simL_skipd rfl rfl rfl rfl rfl rfl ?_
 refine simL_skipd rfl rfl rfl rfl rfl rfl ?_
 refine vq (q_pick rfl rfl rfl rfl rfl) rfl (simL_nil ?_)
 exact nrm_cut (s := true) () ⟨rfl, rfl, rfl, rfl, trivial⟩ (.sel 0 rfl (.sel' 0 rfl (RowV.mk hl4v) (.sel 0 rfl (.sel 0 rfl (.nil _)))))
 rw [hb30v]
 refine simL_valg (q_move rfl rfl) rfl rfl rfl rfl rfl rfl ?_
 refine simL_valg (q_move rfl rfl) rfl rfl rfl rfl rfl rfl ?_
 refine simL_valg (q_nil rfl rfl) rfl rfl rfl rfl rfl rfl ?_
 refine simL_valg (q_fa rfl rfl Try.underlying29 rfl rfl Try.sizeOf27 rfl) rfl rfl rfl rfl rfl rfl ?_
 refine simL_valg (q_load rfl rfl Try.isAgg27 (.obj 0 rfl rfl)) rfl rfl rfl rfl rfl rfl ?_
 refine simL_valg (q_move rfl rfl) rfl rfl rfl rfl rfl rfl ?_
 refine simL_ask (fun hi16v => ?_)
 refine simL_posV 1 rfl hl4v rfl (i := s9v.toNat) (by omega) dz36 (fun b17v b17vo r20v ha18v hV21v hlr22v hcell23v => ?_)
 obtain ⟨a24v, c25v, rfl, ⟨he26v, hc27v, hm28v⟩⟩ := hV21v
 refine simL_valg (q_idx rfl rfl rfl ha18v Try.underlying27 Try.sizeOf36 hi16v.1 hi16v.2) rfl rfl rfl rfl rfl rfl ?_
 refine simL_valg (q_fa rfl rfl Try.underlying36 rfl rfl Try.sizeOf34 rfl) rfl rfl rfl rfl rfl rfl ?_
 refine simL_valg (q_load rfl rfl Try.isAgg34 (hcell23v 1 rfl 1 _ rfl)) rfl rfl rfl rfl rfl rfl ?_
 refine simL_valg (q_len rfl rfl rfl Try.underlying34) rfl rfl rfl rfl rfl rfl ?_
 refine simL_valg (q_gtr rfl rfl rfl) rfl rfl rfl rfl rfl rfl ?_
 refine vq (q_pick rfl rfl rfl rfl rfl) rfl (simL_nil ?_)
 exact nrm_cut (s := decide ((((x0_0.getD s9v.toNat dz36).2.1).length : Int) < x2)) () ⟨rfl, rfl, rfl, rfl, trivial⟩ (.sel 0 rfl (.sel' 0 rfl (RowV.mk hl4v) (.sel 0 rfl (.sel 0 rfl (.nil _)))))
 intro s14v y15v
 refine simL_nil (nrm_then ?_)
 refine sim_condb rfl (fun h31v => ?_) (fun h32v => ?_)
 refine sr ?_
 refine va rfl rfl (simL_nil (nrm_then (sim_rtn ?_)))
 refine rtn_then ?_
 exact rtn_fn (a0_0, c0_0, z0_0) rfl rfl rfl (.sel 0 rfl (.sel 0 rfl (.sel 0 rfl (.sel 0 rfl (.nil _)))))
 refine sim_skip ?_
 refine nrm_then (sim_seq (sr ?_))
 refine vm rfl rfl ?_
 refine simL_openV 1 rfl (fun rs33v hl34v => ?_)
 refine simL_bind (fun s39v hs40v => ?_)
 refine simL_lend 1 rfl (fun hq35v hq36v hq37v hq38v => ?_)
 refine simL_eff (re_call (vs := [.pointer (some ⟨b0, 0, none⟩)]) (cap := []) (A := [obj b0 29 [.slice a0_0 x0_0.length c0_0, .int .i64 x0_1, .bool x0_2, str x0_3]]) (rst := [Row 36 3 a0_0 x0_0.length c0_0 rs33v.flatten, z0_0, F]) rfl rfl rfl rfl rfl rfl Try.call38 (.sel 0 rfl (.sel 0 rfl (.sel 0 rfl (.sel 0 rfl (.nil _))))) (synodref4_Disk_fails.calls _ _ b0 a0_0 c0_0 x0_0 x0_1 x0_2 x0_3 ((Rd.asV hl34v hq35v).up (Up.lend 0 rfl) (V36.up (Up.lend 1 rfl))) hq36v hq37v) hs40v) rfl rfl rfl ?_
 intro y41v
 refine simL_nil (nrm_then ?_)
 refine sim_condb rfl (fun h42v => ?_) (fun h43v => ?_)
 refine sr ?_
 refine va rfl rfl (simL_nil (nrm_then (sim_rtn ?_)))
 refine rtn_then ?_
 exact rtn_fn (a0_0, c0_0, z0_0) rfl rfl rfl (.sel 0 rfl (.sel' 0 rfl (RowV.mk hl34v) (.sel 0 rfl (.sel 0 rfl (.nil _)))))
 refine sim_skip ?_
 refine nrm_then (sim_seq ?_)
 refine sim_ask (fun hi44v => ?_)
 refine sim_posV 1 rfl hl34v rfl (i := s9v.toNat) (by omega) dz36 (fun b45v b45vo r48v ha46v hV49v hlr50v hcell51v => ?_)
 obtain ⟨a52v, c53v, rfl, ⟨he54v, hc55v, hm56v⟩⟩ := hV49v
 refine sim_ask (fun hb57v => ?_)
 obtain ⟨a58v, c59v, hS60v, hr61v, hc62v, hm63v⟩ := slice_pre (lo := (0 : Int)) (hi := x2) he54v hc55v hb57v
 refine sim_bind (fun s64v hs65v => ?_)
 refine sim_ask (fun hi67v => ?_)
 refine sim_posV 1 rfl hl34v rfl (i := s9v.toNat) (by omega) dz36 (fun b68v b68vo r71v ha69v hV72v hlr73v hcell74v => ?_)
 obtain ⟨a75v, c76v, rfl, ⟨he77v, hc78v, hm79v⟩⟩ := hV72v
 refine sim_draw (Γ := (Option Addr × Nat)) (none, 0) [[], [0], [0, 1], [0, 1, 2], [], [], [5], [5, 6], [5, 6, 7], [], [5, 6, 7, 8, 9], [5, 6, 7, 8, 9, 10], [5, 6, 7, 8, 9, 10, 11], [], [5, 6, 7, 8, 9, 10, 11, 12, 13], [5, 6, 7, 8, 9, 10, 11, 12, 13, 14], rL 16, rL 17, rL 18] [15, 18] [0, 1, 2, 3, 4, 5, 6, 7, 8, 9, 10, 11, 12, 13, 14, 16, 17] (fun i => [[0, 1], [0, 1], [0, 1], [0, 1], [0, 1], [0], [0], [0], [0], [0], [0], [0], [0], [0], [0], [], [1], [1], []].getD i []) (fun i => [[], [], [], [], [], [], [], [], [], [], [], [], [], [], [], rL 15, [], [], rL 18].getD i []) (fun γ i => [.pointer (some ⟨b0, 0, none⟩), .pointer (some ⟨b0, 0, none⟩), .pointer (some ⟨b0, 0, none⟩), .slice a0_0 x0_0.length c0_0, .int .i64 s9v, .pointer (some ⟨b0, 0, none⟩), .pointer (some ⟨b0, 0, none⟩), .pointer (some ⟨b0, 0, none⟩), .slice a0_0 x0_0.length c0_0, .int .i64 s9v, .pointer (some ⟨b45v, b45vo + s9v.toNat * 3, none⟩), .pointer (some ⟨b45v, b45vo + s9v.toNat * 3 + 1, none⟩), .slice a52v (((x0_0.getD s9v.toNat dz36).2.1).length) c53v, .int .i64 x2, .slice a58v ((cut ((x0_0.getD s9v.toNat dz36).2.1) (0 : Int) x2).length) c59v, .slice γ.1 s64v.length γ.2, .pointer (some ⟨b68v, b68vo + s9v.toNat * 3, none⟩), .pointer (some ⟨b68v, b68vo + s9v.toNat * 3 + 1, none⟩), undef].getD i undef) (fun j γ => [[obj b0 29 [.slice a0_0 x0_0.length c0_0, .int .i64 s39v.2.1, .bool s39v.2.2.1, str s39v.2.2.2], Row 36 3 a0_0 x0_0.length c0_0 rs33v.flatten, z0_0, F], [Row 5 1 γ.1 s64v.length γ.2 (encB s64v), obj b0 29 [.slice a0_0 x0_0.length c0_0, .int .i64 s39v.2.1, .bool s39v.2.2.1, str s39v.2.2.2], Row 36 3 a0_0 x0_0.length c0_0 rs33v.flatten, z0_0, F], [stars [Row 5 1 γ.1 s64v.length γ.2 (encB s64v), z0_0], obj b0 29 [.slice a0_0 ((x0_0.set s9v.toNat ((x0_0.getD s9v.toNat dz36).1, s64v, (x0_0.getD s9v.toNat dz36).2.2)).length) c0_0, .int .i64 s39v.2.1, .bool s39v.2.2.1, str s39v.2.2.2], RowV 36 3 (V36 (stars [Row 5 1 γ.1 s64v.length γ.2 (encB s64v), z0_0])) a0_0 (x0_0.set s9v.toNat ((x0_0.getD s9v.toNat dz36).1, s64v, (x0_0.getD s9v.toNat dz36).2.2)) c0_0, F]].getD j []) (fun γ => [(0, .pointer (some ⟨b0, 0, none⟩)), (2, .int .i64 x2), (7, .int .i64 s9v)]) mixed (by decide) (by decide) (by decide) (by decide) (by decide) (by decide) (by decide) 69 rfl (by decide) (by decide) (by decide) (Ent.refl _) ?_ ?_ (fun _ => ⟨rfl, rfl, rfl, trivial⟩) ?_
 exact (ac (fun γ => (ac (qm rfl (.o (s := 0) rfl (by decide) .nil) rfl) (ac (qm rfl (.o (s := 0) rfl (by decide) .nil) rfl) zA))) (ac (fun γ => (ac (qp rfl rfl (.v 0 rfl rfl .nil) (q_nil rfl rfl) rfl) (ac (qp rfl rfl (.v 0 rfl rfl .nil) (q_nil rfl rfl) rfl) zA))) (ac (fun γ => (ac (qp rfl rfl (.v 1 rfl rfl .nil) (q_fa rfl rfl Try.underlying29 rfl rfl Try.sizeOf27 rfl) rfl) (ac (qp rfl rfl (.v 1 rfl rfl .nil) (q_fa rfl rfl Try.underlying29 rfl rfl Try.sizeOf27 rfl) rfl) zA))) (ac (fun γ => (ac (qp rfl rfl (.v 2 rfl rfl .nil) (q_load rfl rfl Try.isAgg27 (.obj 0 rfl rfl)) rfl) (ac (qp rfl rfl (.v 2 rfl rfl .nil) (q_load rfl rfl Try.isAgg27 (.obj 1 rfl rfl)) rfl) zA))) (ac (fun γ => (ac (qm rfl (.o (s := 7) rfl (by decide) .nil) rfl) (ac (qm rfl (.o (s := 7) rfl (by decide) .nil) rfl) zA))) (aq rfl (fun γ => qm rfl (.o (s := 0) rfl (by decide) .nil) rfl) (aq rfl (fun γ => qp rfl rfl (.v 5 rfl rfl .nil) (q_nil rfl rfl) rfl) (aq rfl (fun γ => qp rfl rfl (.v 6 rfl rfl .nil) (q_fa rfl rfl Try.underlying29 rfl rfl Try.sizeOf27 rfl) rfl) (aq rfl (fun γ => qp rfl rfl (.v 7 rfl rfl .nil) (q_load rfl rfl Try.isAgg27 (.obj 0 rfl rfl)) rfl) (aq rfl (fun γ => qm rfl (.o (s := 7) rfl (by decide) .nil) rfl) (aq rfl (fun γ => qp rfl rfl (.v 8 rfl rfl (.v 9 rfl rfl .nil)) (q_idx rfl rfl rfl ha46v Try.underlying27 Try.sizeOf36 hi44v.1 hi44v.2) rfl) (aq rfl (fun γ => qp rfl rfl (.v 10 rfl rfl .nil) (q_fa rfl rfl Try.underlying36 rfl rfl Try.sizeOf34 rfl) rfl) (aq rfl (fun γ => qp rfl rfl (.v 11 rfl rfl .nil) (q_load rfl rfl Try.isAgg34 (hcell51v 1 rfl 1 _ rfl)) rfl) (aq rfl (fun γ => qm rfl (.o (s := 2) rfl (by decide) .nil) rfl) (aq rfl (fun γ => qp rfl rfl (.v 12 rfl rfl (.v 13 rfl rfl .nil)) (q_sub_ro (l := ((x0_0.getD s9v.toNat dz36).2.1)) (lo' := (0 : Int)) (hi' := x2) rfl rfl rfl rfl Try.underlying34 Try.sizeOf5 (.inr ⟨_, rfl⟩) (.inl ⟨rfl, rfl⟩) hb57v hc55v hS60v) rfl) (aq rfl (fun γ => qp rfl rfl (.v 3 rfl rfl (.v 4 rfl rfl .nil)) (q_idx rfl rfl rfl ha69v Try.underlying27 Try.sizeOf36 hi67v.1 hi67v.2) rfl) (aq rfl (fun γ => qp rfl rfl (.v 16 rfl rfl .nil) (q_fa rfl rfl Try.underlying36 rfl rfl Try.sizeOf34 rfl) rfl) zA)))))))))))))))))
 exact (ac (fun γ => eo (Z := Option Addr × Nat) (fun z => z) rfl rfl (.v 14 rfl rfl .nil) (re_call (vs := [.slice a58v ((cut ((x0_0.getD s9v.toNat dz36).2.1) (0 : Int) x2).length) c59v]) (cap := []) (A := []) (rst := [obj b0 29 [.slice a0_0 x0_0.length c0_0, .int .i64 s39v.2.1, .bool s39v.2.2.1, str s39v.2.2.2], Row 36 3 a0_0 x0_0.length c0_0 rs33v.flatten, z0_0, F]) rfl rfl rfl rfl rfl rfl Try.call40 (.sel 0 rfl (.sel 0 rfl (.sel 0 rfl (.sel 0 rfl (.nil _))))) (synodref_Bytes.calls _ _ a58v c59v (cut ((x0_0.getD s9v.toNat dz36).2.1) (0 : Int) x2) (hr61v.lend 2 rfl) hc62v (Nat.le_trans hm63v hm56v)) hs65v) (fun _ => ⟨rfl, rfl, rfl, rfl, rfl, rfl, rfl, rfl, rfl, rfl, rfl, rfl, rfl, rfl, rfl, trivial⟩) (fun _ => .inr rfl) (fun z => Ent.refl _)) (ac (fun γ => eo (Z := Unit) (fun z => γ) rfl rfl (.v 15 rfl rfl (.v 17 rfl rfl .nil)) (RE.lend 0 rfl (fun hq80v hq81v hq82v hq83v => RE.ent (H1 := [stars [Row 5 1 γ.1 s64v.length γ.2 (encB s64v), z0_0], obj b0 29 [.slice a0_0 x0_0.length c0_0, .int .i64 s39v.2.1, .bool s39v.2.2.1, str s39v.2.2.2], Row 36 3 a0_0 x0_0.length c0_0 rs33v.flatten, F]) (Ent.trans (m := [Row 5 1 γ.1 s64v.length γ.2 (encB s64v), z0_0, obj b0 29 [.slice a0_0 x0_0.length c0_0, .int .i64 s39v.2.1, .bool s39v.2.2.1, str s39v.2.2.2], Row 36 3 a0_0 x0_0.length c0_0 rs33v.flatten, F]) (.sel 0 rfl (.sel 2 rfl (.sel 0 rfl (.sel 0 rfl (.sel 0 rfl (.nil _)))))) (ent_pack [Row 5 1 γ.1 s64v.length γ.2 (encB s64v), z0_0] _)) (re_storeV (V := (V36 (stars [Row 5 1 γ.1 s64v.length γ.2 (encB s64v), z0_0]))) ((x0_0.getD s9v.toNat dz36).1, s64v, (x0_0.getD s9v.toNat dz36).2.2) 1 dz36 2 rfl rfl rfl Try.sizeOf34 rfl rfl (one_of (by rfl)) rfl (hl34v.mono (V36.up (Up.lend (l := [Row 5 1 γ.1 s64v.length γ.2 (encB s64v), z0_0]) 1 rfl))) ha69v (by omega) rfl (fun r hr _ _ => by obtain ⟨a1', c1', rfl, h1'⟩ := hr; exact ⟨γ.1, γ.2, rfl, ⟨(Rd.lend (l := [Row 5 1 γ.1 s64v.length γ.2 (encB s64v), z0_0]) hq80v 0 rfl), hq81v, hq82v⟩⟩)))) (fun _ => ⟨rfl, rfl, rfl, rfl, rfl, rfl, rfl, rfl, rfl, rfl, rfl, rfl, rfl, rfl, rfl, rfl, rfl, rfl, trivial⟩) (fun _ => .inl rfl) (fun z => ent_eq ((rfl : _ = [stars [Row 5 1 γ.1 s64v.length γ.2 (encB s64v), z0_0], obj b0 29 [.slice a0_0 x0_0.length c0_0, .int .i64 s39v.2.1, .bool s39v.2.2.1, str s39v.2.2.2], RowV 36 3 (V36 (stars [Row 5 1 γ.1 s64v.length γ.2 (encB s64v), z0_0])) a0_0 (x0_0.set s9v.toNat ((x0_0.getD s9v.toNat dz36).1, s64v, (x0_0.getD s9v.toNat dz36).2.2)) c0_0, F]).trans ((by simp only [List.length_set, copyB_length] : [stars [Row 5 1 γ.1 s64v.length γ.2 (encB s64v), z0_0], obj b0 29 [.slice a0_0 x0_0.length c0_0, .int .i64 s39v.2.1, .bool s39v.2.2.1, str s39v.2.2.2], RowV 36 3 (V36 (stars [Row 5 1 γ.1 s64v.length γ.2 (encB s64v), z0_0])) a0_0 (x0_0.set s9v.toNat ((x0_0.getD s9v.toNat dz36).1, s64v, (x0_0.getD s9v.toNat dz36).2.2)) c0_0, F] = [stars [Row 5 1 γ.1 s64v.length γ.2 (encB s64v), z0_0], obj b0 29 [.slice a0_0 ((x0_0.set s9v.toNat ((x0_0.getD s9v.toNat dz36).1, s64v, (x0_0.getD s9v.toNat dz36).2.2)).length) c0_0, .int .i64 s39v.2.1, .bool s39v.2.2.1, str s39v.2.2.2], RowV 36 3 (V36 (stars [Row 5 1 γ.1 s64v.length γ.2 (encB s64v), z0_0])) a0_0 (x0_0.set s9v.toNat ((x0_0.getD s9v.toNat dz36).1, s64v, (x0_0.getD s9v.toNat dz36).2.2)) c0_0, F]).trans rfl)))) zA))
 intro g84v
 refine nrm_then (sim_seq ?_)
 refine sim_openV 2 rfl (fun rs85v hl86v => ?_)
 refine sim_ask (fun hi87v => ?_)
 refine sim_posV 2 rfl hl86v rfl (i := s9v.toNat) (by omega) dz36 (fun b88v b88vo r91v ha89v hV92v hlr93v hcell94v => ?_)
 obtain ⟨a95v, c96v, rfl, ⟨he97v, hc98v, hm99v⟩⟩ := hV92v
 refine sim_ask (fun hi100v => ?_)
 refine sim_posV 2 rfl hl86v rfl (i := s9v.toNat) (by omega) dz36 (fun b101v b101vo r104v ha102v hV105v hlr106v hcell107v => ?_)
 obtain ⟨a108v, c109v, rfl, ⟨he110v, hc111v, hm112v⟩⟩ := hV105v
 refine sim_draw (Γ := Unit) () [[], [0], [0, 1], [0, 1, 2], [], [], [5], [5, 6], [5, 6, 7], [], [5, 6, 7, 8, 9], [5, 6, 7, 8, 9, 10], [5, 6, 7, 8, 9, 10, 11], [], [5, 6, 7, 8, 9, 10, 11, 12, 13], rL 15, rL 16, rL 17] [17] [0, 1, 2, 3, 4, 5, 6, 7, 8, 9, 10, 11, 12, 13, 14, 15, 16] (fun i => [[0], [0], [0], [0], [0], [0], [0], [0], [0], [0], [0], [0], [0], [0], [0], [0], [0], []].getD i []) (fun i => [[], [], [], [], [], [], [], [], [], [], [], [], [], [], [], [], [], rL 17].getD i []) (fun γ i => [.pointer (some ⟨b0, 0, none⟩), .pointer (some ⟨b0, 0, none⟩), .pointer (some ⟨b0, 0, none⟩), .slice a0_0 ((x0_0.set s9v.toNat ((x0_0.getD s9v.toNat dz36).1, s64v, (x0_0.getD s9v.toNat dz36).2.2)).length) c0_0, .int .i64 s9v, .pointer (some ⟨b0, 0, none⟩), .pointer (some ⟨b0, 0, none⟩), .pointer (some ⟨b0, 0, none⟩), .slice a0_0 ((x0_0.set s9v.toNat ((x0_0.getD s9v.toNat dz36).1, s64v, (x0_0.getD s9v.toNat dz36).2.2)).length) c0_0, .int .i64 s9v, .pointer (some ⟨b88v, b88vo + s9v.toNat * 3, none⟩), .pointer (some ⟨b88v, b88vo + s9v.toNat * 3 + 2, none⟩), .int .i64 (((x0_0.set s9v.toNat ((x0_0.getD s9v.toNat dz36).1, s64v, (x0_0.getD s9v.toNat dz36).2.2)).getD s9v.toNat dz36).2.2), .int .i64 x2, .int .i64 (min (((x0_0.set s9v.toNat ((x0_0.getD s9v.toNat dz36).1, s64v, (x0_0.getD s9v.toNat dz36).2.2)).getD s9v.toNat dz36).2.2) x2), .pointer (some ⟨b101v, b101vo + s9v.toNat * 3, none⟩), .pointer (some ⟨b101v, b101vo + s9v.toNat * 3 + 2, none⟩), undef].getD i undef) (fun j γ => [[stars [Row 5 1 g84v.1 s64v.length g84v.2 (encB s64v), z0_0], obj b0 29 [.slice a0_0 ((x0_0.set s9v.toNat ((x0_0.getD s9v.toNat dz36).1, s64v, (x0_0.getD s9v.toNat dz36).2.2)).length) c0_0, .int .i64 s39v.2.1, .bool s39v.2.2.1, str s39v.2.2.2], Row 36 3 a0_0 (x0_0.set s9v.toNat ((x0_0.getD s9v.toNat dz36).1, s64v, (x0_0.getD s9v.toNat dz36).2.2)).length c0_0 rs85v.flatten, F], [stars [Row 5 1 g84v.1 s64v.length g84v.2 (encB s64v), z0_0], obj b0 29 [.slice a0_0 (((x0_0.set s9v.toNat ((x0_0.getD s9v.toNat dz36).1, s64v, (x0_0.getD s9v.toNat dz36).2.2)).set s9v.toNat (((x0_0.set s9v.toNat ((x0_0.getD s9v.toNat dz36).1, s64v, (x0_0.getD s9v.toNat dz36).2.2)).getD s9v.toNat dz36).1, ((x0_0.set s9v.toNat ((x0_0.getD s9v.toNat dz36).1, s64v, (x0_0.getD s9v.toNat dz36).2.2)).getD s9v.toNat dz36).2.1, min (((x0_0.set s9v.toNat ((x0_0.getD s9v.toNat dz36).1, s64v, (x0_0.getD s9v.toNat dz36).2.2)).getD s9v.toNat dz36).2.2) x2)).length) c0_0, .int .i64 s39v.2.1, .bool s39v.2.2.1, str s39v.2.2.2], RowV 36 3 (V36 (stars [Row 5 1 g84v.1 s64v.length g84v.2 (encB s64v), z0_0])) a0_0 ((x0_0.set s9v.toNat ((x0_0.getD s9v.toNat dz36).1, s64v, (x0_0.getD s9v.toNat dz36).2.2)).set s9v.toNat (((x0_0.set s9v.toNat ((x0_0.getD s9v.toNat dz36).1, s64v, (x0_0.getD s9v.toNat dz36).2.2)).getD s9v.toNat dz36).1, ((x0_0.set s9v.toNat ((x0_0.getD s9v.toNat dz36).1, s64v, (x0_0.getD s9v.toNat dz36).2.2)).getD s9v.toNat dz36).2.1, min (((x0_0.set s9v.toNat ((x0_0.getD s9v.toNat dz36).1, s64v, (x0_0.getD s9v.toNat dz36).2.2)).getD s9v.toNat dz36).2.2) x2)) c0_0, F]].getD j []) (fun γ => []) mixed (by decide) (by decide) (by decide) (by decide) (by decide) (by decide) (by decide) 69 rfl (by decide) (by decide) (by decide) (Ent.refl _) ?_ ?_ (fun _ => trivial) ?_
 exact (aq rfl (fun γ => qm rfl (.o (s := 0) rfl (by decide) .nil) rfl) (aq rfl (fun γ => qp rfl rfl (.v 0 rfl rfl .nil) (q_nil rfl rfl) rfl) (aq rfl (fun γ => qp rfl rfl (.v 1 rfl rfl .nil) (q_fa rfl rfl Try.underlying29 rfl rfl Try.sizeOf27 rfl) rfl) (aq rfl (fun γ => qp rfl rfl (.v 2 rfl rfl .nil) (q_load rfl rfl Try.isAgg27 (.obj 1 rfl rfl)) rfl) (aq rfl (fun γ => qm rfl (.o (s := 7) rfl (by decide) .nil) rfl) (aq rfl (fun γ => qm rfl (.o (s := 0) rfl (by decide) .nil) rfl) (aq rfl (fun γ => qp rfl rfl (.v 5 rfl rfl .nil) (q_nil rfl rfl) rfl) (aq rfl (fun γ => qp rfl rfl (.v 6 rfl rfl .nil) (q_fa rfl rfl Try.underlying29 rfl rfl Try.sizeOf27 rfl) rfl) (aq rfl (fun γ => qp rfl rfl (.v 7 rfl rfl .nil) (q_load rfl rfl Try.isAgg27 (.obj 1 rfl rfl)) rfl) (aq rfl (fun γ => qm rfl (.o (s := 7) rfl (by decide) .nil) rfl) (aq rfl (fun γ => qp rfl rfl (.v 8 rfl rfl (.v 9 rfl rfl .nil)) (q_idx rfl rfl rfl ha89v Try.underlying27 Try.sizeOf36 hi87v.1 hi87v.2) rfl) (aq rfl (fun γ => qp rfl rfl (.v 10 rfl rfl .nil) (q_fa rfl rfl Try.underlying36 rfl rfl Try.sizeOf3 rfl) rfl) (aq rfl (fun γ => qp rfl rfl (.v 11 rfl rfl .nil) (q_load rfl rfl Try.isAgg3 (hcell94v 2 rfl 2 _ rfl)) rfl) (aq rfl (fun γ => qm rfl (.o (s := 2) rfl (by decide) .nil) rfl) (aq rfl (fun γ => qp rfl rfl (.v 12 rfl rfl (.v 13 rfl rfl .nil)) (q_min rfl rfl rfl) rfl) (aq rfl (fun γ => qp rfl rfl (.v 3 rfl rfl (.v 4 rfl rfl .nil)) (q_idx rfl rfl rfl ha102v Try.underlying27 Try.sizeOf36 hi100v.1 hi100v.2) rfl) (aq rfl (fun γ => qp rfl rfl (.v 15 rfl rfl .nil) (q_fa rfl rfl Try.underlying36 rfl rfl Try.sizeOf3 rfl) rfl) zA)))))))))))))))))
 exact (ac (fun γ => eo (Z := Unit) (fun z => ()) rfl rfl (.v 14 rfl rfl (.v 16 rfl rfl .nil)) (re_storeV (V := (V36 (stars [Row 5 1 g84v.1 s64v.length g84v.2 (encB s64v), z0_0]))) (((x0_0.set s9v.toNat ((x0_0.getD s9v.toNat dz36).1, s64v, (x0_0.getD s9v.toNat dz36).2.2)).getD s9v.toNat dz36).1, ((x0_0.set s9v.toNat ((x0_0.getD s9v.toNat dz36).1, s64v, (x0_0.getD s9v.toNat dz36).2.2)).getD s9v.toNat dz36).2.1, min (((x0_0.set s9v.toNat ((x0_0.getD s9v.toNat dz36).1, s64v, (x0_0.getD s9v.toNat dz36).2.2)).getD s9v.toNat dz36).2.2) x2) 2 dz36 2 rfl rfl rfl Try.sizeOf3 rfl rfl (one_of (by rfl)) rfl hl86v ha102v (by omega) rfl (fun r hr _ _ => by obtain ⟨a1', c1', rfl, h1'⟩ := hr; exact ⟨a1', c1', rfl, h1'⟩)) (fun _ => ⟨rfl, rfl, rfl, rfl, rfl, rfl, rfl, rfl, rfl, rfl, rfl, rfl, rfl, rfl, rfl, rfl, rfl, trivial⟩) (fun _ => .inl rfl) (fun z => ent_eq ((rfl : _ = [stars [Row 5 1 g84v.1 s64v.length g84v.2 (encB s64v), z0_0], obj b0 29 [.slice a0_0 ((x0_0.set s9v.toNat ((x0_0.getD s9v.toNat dz36).1, s64v, (x0_0.getD s9v.toNat dz36).2.2)).length) c0_0, .int .i64 s39v.2.1, .bool s39v.2.2.1, str s39v.2.2.2], RowV 36 3 (V36 (stars [Row 5 1 g84v.1 s64v.length g84v.2 (encB s64v), z0_0])) a0_0 ((x0_0.set s9v.toNat ((x0_0.getD s9v.toNat dz36).1, s64v, (x0_0.getD s9v.toNat dz36).2.2)).set s9v.toNat (((x0_0.set s9v.toNat ((x0_0.getD s9v.toNat dz36).1, s64v, (x0_0.getD s9v.toNat dz36).2.2)).getD s9v.toNat dz36).1, ((x0_0.set s9v.toNat ((x0_0.getD s9v.toNat dz36).1, s64v, (x0_0.getD s9v.toNat dz36).2.2)).getD s9v.toNat dz36).2.1, min (((x0_0.set s9v.toNat ((x0_0.getD s9v.toNat dz36).1, s64v, (x0_0.getD s9v.toNat dz36).2.2)).getD s9v.toNat dz36).2.2) x2)) c0_0, F]).trans ((by simp only [List.length_set, copyB_length] : [stars [Row 5 1 g84v.1 s64v.length g84v.2 (encB s64v), z0_0], obj b0 29 [.slice a0_0 ((x0_0.set s9v.toNat ((x0_0.getD s9v.toNat dz36).1, s64v, (x0_0.getD s9v.toNat dz36).2.2)).length) c0_0, .int .i64 s39v.2.1, .bool s39v.2.2.1, str s39v.2.2.2], RowV 36 3 (V36 (stars [Row 5 1 g84v.1 s64v.length g84v.2 (encB s64v), z0_0])) a0_0 ((x0_0.set s9v.toNat ((x0_0.getD s9v.toNat dz36).1, s64v, (x0_0.getD s9v.toNat dz36).2.2)).set s9v.toNat (((x0_0.set s9v.toNat ((x0_0.getD s9v.toNat dz36).1, s64v, (x0_0.getD s9v.toNat dz36).2.2)).getD s9v.toNat dz36).1, ((x0_0.set s9v.toNat ((x0_0.getD s9v.toNat dz36).1, s64v, (x0_0.getD s9v.toNat dz36).2.2)).getD s9v.toNat dz36).2.1, min (((x0_0.set s9v.toNat ((x0_0.getD s9v.toNat dz36).1, s64v, (x0_0.getD s9v.toNat dz36).2.2)).getD s9v.toNat dz36).2.2) x2)) c0_0, F] = [stars [Row 5 1 g84v.1 s64v.length g84v.2 (encB s64v), z0_0], obj b0 29 [.slice a0_0 (((x0_0.set s9v.toNat ((x0_0.getD s9v.toNat dz36).1, s64v, (x0_0.getD s9v.toNat dz36).2.2)).set s9v.toNat (((x0_0.set s9v.toNat ((x0_0.getD s9v.toNat dz36).1, s64v, (x0_0.getD s9v.toNat dz36).2.2)).getD s9v.toNat dz36).1, ((x0_0.set s9v.toNat ((x0_0.getD s9v.toNat dz36).1, s64v, (x0_0.getD s9v.toNat dz36).2.2)).getD s9v.toNat dz36).2.1, min (((x0_0.set s9v.toNat ((x0_0.getD s9v.toNat dz36).1, s64v, (x0_0.getD s9v.toNat dz36).2.2)).getD s9v.toNat dz36).2.2) x2)).length) c0_0, .int .i64 s39v.2.1, .bool s39v.2.2.1, str s39v.2.2.2], RowV 36 3 (V36 (stars [Row 5 1 g84v.1 s64v.length g84v.2 (encB s64v), z0_0])) a0_0 ((x0_0.set s9v.toNat ((x0_0.getD s9v.toNat dz36).1, s64v, (x0_0.getD s9v.toNat dz36).2.2)).set s9v.toNat (((x0_0.set s9v.toNat ((x0_0.getD s9v.toNat dz36).1, s64v, (x0_0.getD s9v.toNat dz36).2.2)).getD s9v.toNat dz36).1, ((x0_0.set s9v.toNat ((x0_0.getD s9v.toNat dz36).1, s64v, (x0_0.getD s9v.toNat dz36).2.2)).getD s9v.toNat dz36).2.1, min (((x0_0.set s9v.toNat ((x0_0.getD s9v.toNat dz36).1, s64v, (x0_0.getD s9v.toNat dz36).2.2)).getD s9v.toNat dz36).2.2) x2)) c0_0, F]).trans rfl)))) zA)
 intro g113v
 refine nrm_then (sr ?_)
 refine va rfl rfl (simL_nil (nrm_then (sim_rtn ?_)))
 exact rtn_fn (a0_0, c0_0, stars [Row 5 1 g84v.1 s64v.length g84v.2 (encB s64v), z0_0]) rfl rfl rfl (.sel 1 rfl (.sel 1 rfl (.sel 0 rfl (.sel 0 rfl (.nil _)))))

def disk_Disk_Rename.f (k : Nat) (x0_0 : List ((List UInt8) × (List UInt8 × Int))) (x0_1 : List UInt8) (x0_2 : Int) (x0_3 : Bool) (x1 : List UInt8) (x2 : List UInt8) : Option (Int × (List ((List UInt8) × (List UInt8 × Int))) × List UInt8 × Int × Bool) := if (mget x0_0 x1).isSome = true then (if x0_3 = true then (some (11, x0_0, x0_1, x0_2, x0_3)) else ((disk_named.f k x2).bind fun s4v => (if (!s4v) = true then (some (7, x0_0, x0_1, x0_2, x0_3)) else ((disk_Disk_fails.f x0_0 x0_1 x0_2 x0_3).bind fun s9v => (if s9v.1 = true then (some (11, x0_0, s9v.2.1, s9v.2.2.1, s9v.2.2.2)) else (if x1 = x2 then (some (0, x0_0, s9v.2.1, s9v.2.2.1, s9v.2.2.2)) else ((if s9v.2.1 = x1 then (some x2) else (if s9v.2.1 = x2 then (some ([] : List UInt8)) else (some s9v.2.1))).bind fun s16v => (some (0, mput (mdel x0_0 x1) x2 (((mget x0_0 x1).getD (([] : List UInt8), (0 : Int))).1, ((mget x0_0 x1).getD (([] : List UInt8), (0 : Int))).2), s16v, s9v.2.2.1, s9v.2.2.2))))))))) else (if x0_3 = true then (some (11, x0_0, x0_1, x0_2, x0_3)) else (some (8, x0_0, x0_1, x0_2, x0_3)))
theorem disk_Disk_Rename.calls (W : World) (F : HA) (k : Nat) (b0 : Nat) (m0_0 : Nat) (q0_0 : Kps) (x0_0 : List ((List UInt8) × (List UInt8 × Int))) (x0_1 : List UInt8) (x0_2 : Int) (x0_3 : Bool) (x1 : List UInt8) (x2 : List UInt8)  :
    Fn Try.prog W 45 [.pointer (some ⟨b0, 0, none⟩), str x1, str x2] [obj b0 64 [.map (some m0_0), str x0_1, .int .i64 x0_2, .bool x0_3], mapF (mapO m0_0 enc9 encP q0_0) FA68 q0_0 x0_0] F (disk_Disk_Rename.f k x0_0 x0_1 x0_2 x0_3 x1 x2) (fun (r : Int × (List ((List UInt8) × (List UInt8 × Int))) × List UInt8 × Int × Bool) (y : Nat × Kps) => .int .i64 r.1) (fun r y => [obj b0 64 [.map (some y.1), str r.2.2.1, .int .i64 r.2.2.2.1, .bool r.2.2.2.2], mapF (mapO y.1 enc9 encP y.2) FA68 y.2 r.2.1]) := by
 unfold disk_Disk_Rename.f
 refine fn_intro 61 Try.func45 rfl Try.ntmps45 rfl ?_
 refine sr ?_
 refine va rfl rfl (simL_nil (nrm_then (sim_seq ?_)))
 refine sim_if (fun hk1v => ?_) (fun hk1v => ?_)
 refine sim_region ?_
 refine vm rfl rfl ?_
 refine vn rfl rfl ?_
 refine vq (q_fa rfl rfl Try.underlying64 rfl rfl Try.sizeOf62 rfl) rfl ?_
 refine vq (q_load rfl rfl Try.isAgg62 (.obj 0 rfl rfl)) rfl ?_
 refine vm rfl rfl ?_
 refine vq ((q_mlookY (ek := enc9) x1 (tellsF 1 rfl) hk1v rfl rfl rfl Try.underlying62 key9 : RQ _ _ _ _ (.pointer (some ⟨(fptr q0_0 x1), 0, none⟩)))) rfl ?_
 refine va rfl rfl (simL_nil (nrm_then (sim_seq ?_)))
 refine sim_block ?_
 refine sr ?_
 refine vm rfl rfl ?_
 refine vn rfl rfl ?_
 refine vq (q_fa rfl rfl Try.underlying64 rfl rfl Try.sizeOf4 rfl) rfl ?_
 refine vq (q_load rfl rfl Try.isAgg4 (.obj 0 rfl rfl)) rfl ?_
 refine va rfl rfl (simL_nil (nrm_then ?_))
 refine sim_condb rfl (fun h2v => ?_) (fun h3v => ?_)
 refine sr ?_
 refine va rfl rfl (simL_nil (nrm_then (sim_rtn ?_)))
 refine rtn_block ?_
 refine rtn_then ?_
 exact rtn_fn (m0_0, q0_0) rfl rfl rfl (.sel 0 rfl (.sel 0 rfl (.sel 0 rfl (.nil _))))
 refine sr ?_
 refine vm rfl rfl ?_
 refine vq (q_eqp rfl rfl rfl Try.underlying66) rfl ?_
 refine va rfl rfl (simL_nil (nrm_then ?_))
 refine sim_false rfl ?_
 refine sr ?_
 refine vm rfl rfl ?_
 refine simL_bind (fun s4v hs5v => ?_)
 refine simL_eff (re_call (vs := [str x2]) (cap := []) (A := []) (rst := [obj b0 64 [.map (some m0_0), str x0_1, .int .i64 x0_2, .bool x0_3], mapF (mapO m0_0 enc9 encP q0_0) FA68 q0_0 x0_0, F]) rfl rfl rfl rfl rfl rfl Try.call33 (.sel 0 rfl (.sel 0 rfl (.sel 0 rfl (.nil _)))) (disk_named.calls _ _ k x2 ) hs5v) rfl rfl rfl ?_
 intro y6v
 refine vq (q_not rfl rfl) rfl ?_
 refine va rfl rfl (simL_nil (nrm_then ?_))
 refine sim_condb rfl (fun h7v => ?_) (fun h8v => ?_)
 refine sr ?_
 refine va rfl rfl (simL_nil (nrm_then (sim_rtn ?_)))
 refine rtn_block ?_
 refine rtn_then ?_
 exact rtn_fn (m0_0, q0_0) rfl rfl rfl (.sel 0 rfl (.sel 0 rfl (.sel 0 rfl (.nil _))))
 refine sr ?_
 refine vm rfl rfl ?_
 refine simL_bind (fun s9v hs10v => ?_)
 refine simL_eff (re_call (vs := [.pointer (some ⟨b0, 0, none⟩)]) (cap := []) (A := [obj b0 64 [.map (some m0_0), str x0_1, .int .i64 x0_2, .bool x0_3], mapF (mapO m0_0 enc9 encP q0_0) FA68 q0_0 x0_0]) (rst := [F]) rfl rfl rfl rfl rfl rfl Try.call35 (.sel 0 rfl (.sel 0 rfl (.sel 0 rfl (.nil _)))) (disk_Disk_fails.calls _ _ b0 m0_0 q0_0 x0_0 x0_1 x0_2 x0_3 ) hs10v) rfl rfl rfl ?_
 intro y11v
 refine va rfl rfl (simL_nil (nrm_then ?_))
 refine sim_condb rfl (fun h12v => ?_) (fun h13v => ?_)
 refine sr ?_
 refine va rfl rfl (simL_nil (nrm_then (sim_rtn ?_)))
 refine rtn_block ?_
 refine rtn_then ?_
 exact rtn_fn (m0_0, q0_0) rfl rfl rfl (.sel 0 rfl (.sel 0 rfl (.sel 0 rfl (.nil _))))
 refine sr ?_
 refine vm rfl rfl ?_
 refine vm rfl rfl ?_
 refine vq (q_eqs rfl rfl rfl) rfl ?_
 refine va rfl rfl (simL_nil (nrm_then ?_))
 refine sim_cond rfl (fun h14v => ?_) (fun h15v => ?_)
 refine sr ?_
 refine va rfl rfl (simL_nil (nrm_then (sim_rtn ?_)))
 refine rtn_block ?_
 refine rtn_then ?_
 exact rtn_fn (m0_0, q0_0) rfl rfl rfl (.sel 0 rfl (.sel 0 rfl (.sel 0 rfl (.nil _))))
 refine sim_skip ?_
 refine nrm_block (nrm_then ?_)
 refine sim_cut (S := List UInt8) (Unit) (fun s y => [(0, .pointer (some ⟨b0, 0, none⟩)), (1, str x1), (2, str x2), (7, .pointer (some ⟨(fptr q0_0 x1), 0, none⟩))]) (fun s y => [obj b0 64 [.map (some m0_0), str s, .int .i64 s9v.2.2.1, .bool s9v.2.2.2], mapF (mapO m0_0 enc9 encP q0_0) FA68 q0_0 x0_0, F]) ?_ ?_
 refine sr ?_
 refine vm rfl rfl ?_
 refine vn rfl rfl ?_
 refine vq (q_fa rfl rfl Try.underlying64 rfl rfl Try.sizeOf9 rfl) rfl ?_
 refine vq (q_load rfl rfl Try.isAgg9 (.obj 0 rfl rfl)) rfl (simL_nil (nrm_then ?_))
 refine sim_block ?_
 refine sr ?_
 refine vm rfl rfl ?_
 refine vq (q_eqs rfl rfl rfl) rfl ?_
 refine va rfl rfl (simL_nil (nrm_then ?_))
 refine sim_cond rfl (fun h18v => ?_) (fun h19v => ?_)
 refine sim_region ?_
 refine vm rfl rfl ?_
 refine vm rfl rfl ?_
 refine vn rfl rfl ?_
 refine vq (q_fa rfl rfl Try.underlying64 rfl rfl Try.sizeOf9 rfl) rfl ?_
 refine simL_do (re_store 0 rfl rfl rfl Try.sizeOf9 rfl rfl (one_of (by rfl)) rfl rfl) rfl rfl ?_
 intro _
 refine simL_nil (nrm_block ?_)
 exact nrm_cut (s := x2) () ⟨rfl, rfl, rfl, rfl, trivial⟩ (.sel 0 rfl (.sel 0 rfl (.sel 0 rfl (.nil _))))
 refine sr ?_
 refine vm rfl rfl ?_
 refine vq (q_eqs rfl rfl rfl) rfl ?_
 refine va rfl rfl (simL_nil (nrm_then ?_))
 refine sim_cond rfl (fun h20v => ?_) (fun h21v => ?_)
 refine sim_region ?_
 refine vm rfl rfl ?_
 refine vn rfl rfl ?_
 refine vq (q_fa rfl rfl Try.underlying64 rfl rfl Try.sizeOf9 rfl) rfl ?_
 refine simL_do (re_store 0 rfl rfl rfl Try.sizeOf9 rfl rfl (one_of (by rfl)) rfl rfl) rfl rfl ?_
 intro _
 refine simL_nil (nrm_block ?_)
 exact nrm_cut (s := ([] : List UInt8)) () ⟨rfl, rfl, rfl, rfl, trivial⟩ (.sel 0 rfl (.sel 0 rfl (.sel 0 rfl (.nil _))))
 refine sim_skip ?_
 refine nrm_block ?_
 exact nrm_cut (s := s9v.2.1) () ⟨rfl, rfl, rfl, rfl, trivial⟩ (.sel 0 rfl (.sel 0 rfl (.sel 0 rfl (.nil _))))
 intro s16v y17v
 refine sr ?_
 refine vm rfl rfl ?_
 refine vn rfl rfl ?_
 refine vq (q_fa rfl rfl Try.underlying64 rfl rfl Try.sizeOf62 rfl) rfl ?_
 refine vq (q_load rfl rfl Try.isAgg62 (.obj 0 rfl rfl)) rfl ?_
 refine vm rfl rfl ?_
 refine simL_openF (v := ((mget x0_0 x1).getD (([] : List UInt8), (0 : Int)))) 1 rfl (getD_some hk1v) (fun y22v => ?_)
 refine simL_ent (H' := [obj (fptr q0_0 x1) 68 [.slice y22v.1 ((((mget x0_0 x1).getD (([] : List UInt8), (0 : Int))).1).length) y22v.2, .int .i64 (((mget x0_0 x1).getD (([] : List UInt8), (0 : Int))).2)], Row 5 1 y22v.1 (((mget x0_0 x1).getD (([] : List UInt8), (0 : Int))).1).length y22v.2 (encB (((mget x0_0 x1).getD (([] : List UInt8), (0 : Int))).1)), mapH (mapO m0_0 enc9 encP q0_0) FA68 q0_0 x0_0 x1, obj b0 64 [.map (some m0_0), str s16v, .int .i64 s9v.2.2.1, .bool s9v.2.2.2], F]) (Ent.refl _) ?_
 refine simL_do (re_mdelH (ek := enc9) 2 x1 rfl rfl rfl rfl Try.underlying62 key9 rfl) rfl rfl ?_
 intro _
 refine nx ?_
 refine vm rfl rfl ?_
 refine vn rfl rfl ?_
 refine vq (q_fa rfl rfl Try.underlying64 rfl rfl Try.sizeOf62 rfl) rfl ?_
 refine vq (q_load rfl rfl Try.isAgg62 (.obj 3 rfl rfl)) rfl ?_
 refine vm rfl rfl ?_
 refine vm rfl rfl ?_
 refine simL_do (re_mputF (ek := enc9) 2 x2 (fptr q0_0 x1) rfl rfl rfl rfl Try.underlying62 key9 rfl) rfl rfl ?_
 intro _
 refine simL_ent (H' := [mapF (mapO m0_0 enc9 encP (mput (mdel q0_0 x1) x2 (fptr q0_0 x1))) FA68 (mput (mdel q0_0 x1) x2 (fptr q0_0 x1)) (mput (mdel x0_0 x1) x2 (((mget x0_0 x1).getD (([] : List UInt8), (0 : Int))).1, ((mget x0_0 x1).getD (([] : List UInt8), (0 : Int))).2)), obj b0 64 [.map (some m0_0), str s16v, .int .i64 s9v.2.2.1, .bool s9v.2.2.2], F]) ((.foldU (x := x2) (p := (fptr q0_0 x1)) (v := (((mget x0_0 x1).getD (([] : List UInt8), (0 : Int))).1, ((mget x0_0 x1).getD (([] : List UInt8), (0 : Int))).2)) (y22v.1, y22v.2) (.sel 2 rfl (.sel 0 rfl (.sel 0 rfl (.sel 0 rfl (.sel 0 rfl (.nil _)))))))) ?_
 refine nx ?_
 refine va rfl rfl (simL_nil (nrm_then (sim_rtn ?_)))
 exact rtn_fn (m0_0, mput (mdel q0_0 x1) x2 (fptr q0_0 x1)) rfl rfl rfl (.sel 1 rfl (.sel 0 rfl (.sel 0 rfl (.nil _))))
 refine sim_region ?_
 refine vm rfl rfl ?_
 refine vn rfl rfl ?_
 refine vq (q_fa rfl rfl Try.underlying64 rfl rfl Try.sizeOf62 rfl) rfl ?_
 refine vq (q_load rfl rfl Try.isAgg62 (.obj 0 rfl rfl)) rfl ?_
 refine vm rfl rfl ?_
 refine vq (q_mlookN (ek := enc9) x1 (tellsF 1 rfl) (isNone_of hk1v) rfl rfl rfl Try.underlying62 key9 Try.zeroValue66) rfl ?_
 refine va rfl rfl (simL_nil (nrm_then (sim_seq ?_)))
 refine sim_block ?_
 refine sr ?_
 refine vm rfl rfl ?_
 refine vn rfl rfl ?_
 refine vq (q_fa rfl rfl Try.underlying64 rfl rfl Try.sizeOf4 rfl) rfl ?_
 refine vq (q_load rfl rfl Try.isAgg4 (.obj 0 rfl rfl)) rfl ?_
 refine va rfl rfl (simL_nil (nrm_then ?_))
 refine sim_condb rfl (fun h23v => ?_) (fun h24v => ?_)
 refine sr ?_
 refine va rfl rfl (simL_nil (nrm_then (sim_rtn ?_)))
 refine rtn_block ?_
 refine rtn_then ?_
 exact rtn_fn (m0_0, q0_0) rfl rfl rfl (.sel 0 rfl (.sel 0 rfl (.sel 0 rfl (.nil _))))
 refine sr ?_
 refine vm rfl rfl ?_
 refine vq (q_eqnn rfl rfl rfl Try.underlying66) rfl ?_
 refine va rfl rfl (simL_nil (nrm_then ?_))
 refine sim_true rfl ?_
 refine sr ?_
 refine va rfl rfl (simL_nil (nrm_then (sim_rtn ?_)))
 refine rtn_block ?_
 refine rtn_then ?_
 exact rtn_fn (m0_0, q0_0) rfl rfl rfl (.sel 0 rfl (.sel 0 rfl (.sel 0 rfl (.nil _))))

def synodref4_Disk_take.f (x0_0 : List (Ty36)) (x0_1 : Int) (x0_2 : Bool) (x0_3 : List UInt8) (x1 : Int) : Option (List UInt8 × List UInt8 × Int × (List (Ty36)) × Int × Bool × List UInt8) := if 0 ≤ x1 ∧ x1 < (x0_0.length : Int) then (if 0 ≤ (0 : Int) ∧ (0 : Int) ≤ x1 ∧ x1 ≤ (x0_0.length : Int) then (if (([] : List (Ty36)).length + (cut x0_0 (0 : Int) x1).length) * 48 ≤ 140737488355328 then (if 0 ≤ IntKind.i64.wrap (x1 + 1) ∧ IntKind.i64.wrap (x1 + 1) ≤ (x0_0.length : Int) ∧ (x0_0.length : Int) ≤ (x0_0.length : Int) then (if ((([] : List (Ty36)) ++ (cut x0_0 (0 : Int) x1)).length + (cut x0_0 (IntKind.i64.wrap (x1 + 1)) (x0_0.length : Int)).length) * 48 ≤ 140737488355328 then (some ((x0_0.getD x1.toNat dz36).1, (x0_0.getD x1.toNat dz36).2.1, (x0_0.getD x1.toNat dz36).2.2, (([] : List (Ty36)) ++ (cut x0_0 (0 : Int) x1)) ++ (cut x0_0 (IntKind.i64.wrap (x1 + 1)) (x0_0.length : Int)), x0_1, x0_2, x0_3)) else none) else none) else none) else none) else none
theorem synodref4_Disk_take.calls (W : World) (F : HA) (b0 : Nat) (a0_0 : Option Addr) (c0_0 : Nat) (x0_0 : List (Ty36)) (z0_0 : HA) (x0_1 : Int) (x0_2 : Bool) (x0_3 : List UInt8) (x1 : Int)  :
    Fn Try.prog W 62 [.pointer (some ⟨b0, 0, none⟩), .int .i64 x1] [obj b0 29 [.slice a0_0 x0_0.length c0_0, .int .i64 x0_1, .bool x0_2, str x0_3], RowV 36 3 (V36 z0_0) a0_0 x0_0 c0_0, z0_0] F (synodref4_Disk_take.f x0_0 x0_1 x0_2 x0_3 x1) (fun (r : List UInt8 × List UInt8 × Int × (List (Ty36)) × Int × Bool × List UInt8) (y : Option Addr × Nat × Option Addr × Nat × HA) => .agg #[str r.1, .slice y.1 r.2.1.length y.2.1, .int .i64 r.2.2.1]) (fun r y => [pr (Rd (y.2.2.2.2) y.1 (encB r.2.1) ∧ r.2.1.length ≤ y.2.1 ∧ y.2.1 ≤ maxLen), pr (Up z0_0 y.2.2.2.2), obj b0 29 [.slice y.2.2.1 r.2.2.2.1.length y.2.2.2.1, .int .i64 r.2.2.2.2.1, .bool r.2.2.2.2.2.1, str r.2.2.2.2.2.2], RowV 36 3 (V36 (y.2.2.2.2)) y.2.2.1 r.2.2.2.1 y.2.2.2.1, y.2.2.2.2]) := by
 unfold synodref4_Disk_take.f
 refine fn_intro 35 Try.func62 rfl Try.ntmps62 rfl ?_
 refine sr ?_
 refine simL_eff (re_alloc rfl Try.zeroValue36 rfl) rfl rfl rfl ?_
 intro b1v
 refine nx ?_
 refine vm rfl rfl ?_
 refine vn rfl rfl ?_
 refine vq (q_fa rfl rfl Try.underlying29 rfl rfl Try.sizeOf27 rfl) rfl ?_
 refine vq (q_load rfl rfl Try.isAgg27 (.obj 1 rfl rfl)) rfl ?_
 refine vm rfl rfl ?_
 refine simL_openV 2 rfl (fun rs10v hl11v => ?_)
 refine simL_ask (fun hi2v => ?_)
 refine simL_posV 2 rfl hl11v rfl (i := x1.toNat) (by omega) dz36 (fun b3v b3vo r6v ha4v hV7v hlr8v hcell9v => ?_)
 obtain ⟨a12v, c13v, rfl, ⟨he14v, hc15v, hm16v⟩⟩ := hV7v
 refine vq (q_idx rfl rfl rfl ha4v Try.underlying27 Try.sizeOf36 hi2v.1 hi2v.2) rfl ?_
 refine vq (q_loads rfl rfl Try.isAgg36 Try.sizeOf36 rfl (fun j v hj => hcell9v 2 rfl j v hj)) rfl ?_
 refine simL_eff (re_alloc rfl Try.zeroValue36 rfl) rfl rfl rfl ?_
 intro b17v
 refine simL_do (re_store 0 rfl rfl rfl Try.sizeOf36 rfl rfl (one_of (by rfl)) rfl rfl) rfl rfl ?_
 intro _
 refine nx ?_
 refine simL_eff (re_lit0V (α := List UInt8 × List UInt8 × Int) (V := (V36 F)) rfl Try.underlying27 elt36) rfl rfl rfl ?_
 intro b18v
 refine vm rfl rfl ?_
 refine vn rfl rfl ?_
 refine vq (q_fa rfl rfl Try.underlying29 rfl rfl Try.sizeOf27 rfl) rfl ?_
 refine vq (q_load rfl rfl Try.isAgg27 (.obj 3 rfl rfl)) rfl ?_
 refine vm rfl rfl ?_
 refine simL_lend 4 rfl (fun hq20v hq21v hq22v hq23v => ?_)
 refine simL_ent (H' := [stars [Row 36 3 a0_0 x0_0.length c0_0 rs10v.flatten, z0_0], RowV 36 3 (V36 F) (some ⟨b18v, 0, none⟩) ([] : List (Ty36)) 0, obj b17v 36 [str ((x0_0.getD x1.toNat dz36).1), .slice a12v (((x0_0.getD x1.toNat dz36).2.1).length) c13v, .int .i64 ((x0_0.getD x1.toNat dz36).2.2)], obj b1v 36 [str ([] : List UInt8), .slice none 0 0, .int .i64 0], obj b0 29 [.slice a0_0 x0_0.length c0_0, .int .i64 x0_1, .bool x0_2, str x0_3], F]) (Ent.trans (m := [Row 36 3 a0_0 x0_0.length c0_0 rs10v.flatten, z0_0, RowV 36 3 (V36 F) (some ⟨b18v, 0, none⟩) ([] : List (Ty36)) 0, obj b17v 36 [str ((x0_0.getD x1.toNat dz36).1), .slice a12v (((x0_0.getD x1.toNat dz36).2.1).length) c13v, .int .i64 ((x0_0.getD x1.toNat dz36).2.2)], obj b1v 36 [str ([] : List UInt8), .slice none 0 0, .int .i64 0], obj b0 29 [.slice a0_0 x0_0.length c0_0, .int .i64 x0_1, .bool x0_2, str x0_3], F]) (.sel 4 rfl (.sel 4 rfl (.sel 0 rfl (.sel 0 rfl (.sel 0 rfl (.sel 0 rfl (.sel 0 rfl (.nil _)))))))) (ent_pack [Row 36 3 a0_0 x0_0.length c0_0 rs10v.flatten, z0_0] _)) ?_
 refine simL_ask (fun hb24v => ?_)
 obtain ⟨a25v, c26v, hS27v, hr28v, hc29v, hm30v⟩ := slice_preV (lo := (0 : Int)) (hi := x1) (Rd.asV (hl11v.mono (V36.up (Up.lend (l := [Row 36 3 a0_0 x0_0.length c0_0 rs10v.flatten, z0_0]) 1 rfl))) (Rd.lend (l := [Row 36 3 a0_0 x0_0.length c0_0 rs10v.flatten, z0_0]) hq20v 0 rfl)) hq21v hb24v
 refine vq (q_sub_roV (l := x0_0) (lo' := (0 : Int)) (hi' := x1) rfl rfl rfl rfl Try.underlying27 Try.sizeOf36 (.inr ⟨_, rfl⟩) (.inl ⟨rfl, rfl⟩) hb24v hq21v hS27v) rfl ?_
 refine simL_openV 1 rfl (fun rs35v hl36v => ?_)
 refine simL_ent (H' := [stars [Row 36 3 a0_0 x0_0.length c0_0 rs10v.flatten, z0_0], RowV 36 3 (V36 (stars [Row 36 3 a0_0 x0_0.length c0_0 rs10v.flatten, z0_0])) (some ⟨b18v, 0, none⟩) ([] : List (Ty36)) 0, obj b17v 36 [str ((x0_0.getD x1.toNat dz36).1), .slice a12v (((x0_0.getD x1.toNat dz36).2.1).length) c13v, .int .i64 ((x0_0.getD x1.toNat dz36).2.2)], obj b1v 36 [str ([] : List UInt8), .slice none 0 0, .int .i64 0], obj b0 29 [.slice a0_0 x0_0.length c0_0, .int .i64 x0_1, .bool x0_2, str x0_3], F]) (Ent.set' 1 rfl (fun _ h => RowV.empty (RowV.mk hl36v _ h))) ?_
 refine simL_openV 1 rfl (fun rs39v hl40v => ?_)
 refine simL_ask (fun hb38v => ?_)
 refine simL_eff (re_appendV 1 rfl rfl rfl Try.underlying27 elt36 rfl hl40v (hr28v.rds 0 rfl) hb38v) rfl rfl rfl ?_
 intro y37v
 refine va rfl rfl (nx ?_)
 refine vm rfl rfl ?_
 refine vm rfl rfl ?_
 refine vm rfl rfl ?_
 refine vn rfl rfl ?_
 refine vq (q_fa rfl rfl Try.underlying29 rfl rfl Try.sizeOf27 rfl) rfl ?_
 refine vq (q_load rfl rfl Try.isAgg27 (.obj 4 rfl rfl)) rfl ?_
 refine vm rfl rfl ?_
 refine vq (q_add rfl rfl rfl) rfl ?_
 refine simL_ask (fun hb41v => ?_)
 obtain ⟨a42v, c43v, hS44v, hr45v, hc46v, hm47v⟩ := slice_preV (lo := IntKind.i64.wrap (x1 + 1)) (hi := (x0_0.length : Int)) (Rd.asV (hl11v.mono (V36.up (Up.lend (l := [Row 36 3 a0_0 x0_0.length c0_0 rs10v.flatten, z0_0]) 1 rfl))) (Rd.lend (l := [Row 36 3 a0_0 x0_0.length c0_0 rs10v.flatten, z0_0]) hq20v 0 rfl)) hq21v hb41v
 refine vq (q_sub_roV (l := x0_0) (lo' := IntKind.i64.wrap (x1 + 1)) (hi' := (x0_0.length : Int)) rfl rfl rfl rfl Try.underlying27 Try.sizeOf36 (.inl ⟨rfl, rfl⟩) (.inr ⟨_, rfl⟩) hb41v hq21v hS44v) rfl ?_
 refine simL_openV 1 rfl (fun rs52v hl53v => ?_)
 refine simL_ask (fun hb51v => ?_)
 refine simL_eff (re_appendV 1 rfl rfl rfl Try.underlying27 elt36 rfl hl53v (hr45v.rds 0 rfl) hb51v) rfl rfl rfl ?_
 intro y50v
 refine vn rfl rfl ?_
 refine vq (q_fa rfl rfl Try.underlying29 rfl rfl Try.sizeOf27 rfl) rfl ?_
 refine simL_do (re_store 4 rfl rfl rfl Try.sizeOf27 rfl rfl (one_of (by rfl)) rfl rfl) rfl rfl ?_
 intro _
 refine nx ?_
 refine vq (q_loado 2 rfl rfl Try.isAgg36 Try.sizeOf36 rfl rfl) rfl ?_
 refine simL_do (re_store 3 rfl rfl rfl Try.sizeOf36 rfl rfl (one_of (by rfl)) rfl rfl) rfl rfl ?_
 intro _
 refine simL_nil (nrm_then (sim_rtn ?_))
 exact rtn_fnC (vs := [.agg #[str ((x0_0.getD x1.toNat dz36).1), .slice a12v (((x0_0.getD x1.toNat dz36).2.1).length) c13v, .int .i64 ((x0_0.getD x1.toNat dz36).2.2)]]) (a12v, c13v, y50v.1, y50v.2, stars [Row 36 3 a0_0 x0_0.length c0_0 rs10v.flatten, z0_0]) rfl ⟨⟨b1v, rfl, load_agg 3 Try.isAgg36 Try.sizeOf36 rfl rfl⟩, trivial⟩ rfl (.pr_in ⟨(he14v.up (Up.lend (l := [Row 36 3 a0_0 x0_0.length c0_0 rs10v.flatten, z0_0]) 1 rfl)), hc15v, hm16v⟩ (.pr_in (Up.lend (l := [Row 36 3 a0_0 x0_0.length c0_0 rs10v.flatten, z0_0]) 1 rfl) (.sel 4 rfl (.sel 1 rfl (.sel 0 rfl (.sel 2 rfl (.nil _)))))))

def synodref4_Disk_Rename.f (k : Nat) (x0_0 : List (Ty36)) (x0_1 : Int) (x0_2 : Bool) (x0_3 : List UInt8) (x1 : List UInt8) (x2 : List UInt8) : Option (Int × (List (Ty36)) × Int × Bool × List UInt8) := if x0_2 = true then (some (11, x0_0, x0_1, x0_2, x0_3)) else ((synodref4_Disk_at.f k x0_0 x0_1 x0_2 x0_3 x1).bind fun s9v => (if s9v < (0 : Int) then (some (8, x0_0, x0_1, x0_2, x0_3)) else ((synodref4_Name.f k x2).bind fun s14v => (if (!s14v) = true then (some (7, x0_0, x0_1, x0_2, x0_3)) else ((synodref4_Disk_fails.f x0_0 x0_1 x0_2 x0_3).bind fun s23v => (if s23v.1 = true then (some (11, x0_0, s23v.2.1, s23v.2.2.1, s23v.2.2.2)) else (if x1 = x2 then (some (0, x0_0, s23v.2.1, s23v.2.2.1, s23v.2.2.2)) else ((synodref4_Disk_at.f k x0_0 s23v.2.1 s23v.2.2.1 s23v.2.2.2 x1).bind fun s34v => ((synodref4_Disk_take.f x0_0 s23v.2.1 s23v.2.2.1 s23v.2.2.2 s34v).bind fun s37v => (((synodref4_Disk_at.f k s37v.2.2.2.1 s37v.2.2.2.2.1 s37v.2.2.2.2.2.1 s37v.2.2.2.2.2.2 x2).bind fun s51v => (if (0 : Int) ≤ s51v then ((synodref4_Disk_at.f k s37v.2.2.2.1 s37v.2.2.2.2.1 s37v.2.2.2.2.2.1 s37v.2.2.2.2.2.2 x2).bind fun s60v => ((synodref4_Disk_take.f s37v.2.2.2.1 s37v.2.2.2.2.1 s37v.2.2.2.2.2.1 s37v.2.2.2.2.2.2 s60v).bind fun s63v => (if s63v.2.2.2.2.2.2 = x2 then (some (s63v.2.2.2.1, s63v.2.2.2.2.1, s63v.2.2.2.2.2.1, ([] : List UInt8))) else (some (s63v.2.2.2.1, s63v.2.2.2.2.1, s63v.2.2.2.2.2.1, s63v.2.2.2.2.2.2))))) else (some (s37v.2.2.2.1, s37v.2.2.2.2.1, s37v.2.2.2.2.2.1, s37v.2.2.2.2.2.2)))).bind fun s43v => ((if s43v.2.2.2 = x1 then (some x2) else (some s43v.2.2.2)).bind fun s71v => ((synodref4_Disk_put.f k s43v.1 s43v.2.1 s43v.2.2.1 s71v x2 s37v.2.1 s37v.2.2.1).bind fun s77v => (some (0, s77v.1, s77v.2.1, s77v.2.2.1, s77v.2.2.2))))))))))))))
theorem synodref4_Disk_Rename.calls (W : World) (F : HA) (k : Nat) (b0 : Nat) (a0_0 : Option Addr) (c0_0 : Nat) (x0_0 : List (Ty36)) (z0_0 : HA) (x0_1 : Int) (x0_2 : Bool) (x0_3 : List UInt8) (x1 : List UInt8) (x2 : List UInt8)  :
    Fn Try.prog W 52 [.pointer (some ⟨b0, 0, none⟩), str x1, str x2] [obj b0 29 [.slice a0_0 x0_0.length c0_0, .int .i64 x0_1, .bool x0_2, str x0_3], RowV 36 3 (V36 z0_0) a0_0 x0_0 c0_0, z0_0] F (synodref4_Disk_Rename.f k x0_0 x0_1 x0_2 x0_3 x1 x2) (fun (r : Int × (List (Ty36)) × Int × Bool × List UInt8) (y : Option Addr × Nat × HA) => .int .i64 r.1) (fun r y => [obj b0 29 [.slice y.1 r.2.1.length y.2.1, .int .i64 r.2.2.1, .bool r.2.2.2.1, str r.2.2.2.2], RowV 36 3 (V36 (y.2.2)) y.1 r.2.1 y.2.1, y.2.2]) := by
 unfold synodref4_Disk_Rename.f
 refine fn_intro 64 Try.func52 rfl Try.ntmps52 rfl ?_
 refine sr ?_
 refine va rfl rfl (simL_nil (nrm_then (sim_seq (sr ?_))))
 refine vm rfl rfl ?_
 refine vn rfl rfl ?_
 refine vq (q_fa rfl rfl Try.underlying29 rfl rfl Try.sizeOf4 rfl) rfl ?_
 refine vq (q_load rfl rfl Try.isAgg4 (.obj 0 rfl rfl)) rfl (simL_nil (nrm_then ?_))
 refine sim_condb rfl (fun h1v => ?_) (fun h2v => ?_)
 refine sr ?_
 refine va rfl rfl (simL_nil (nrm_then (sim_rtn ?_)))
 refine rtn_then ?_
 exact rtn_fn (a0_0, c0_0, z0_0) rfl rfl rfl (.sel 0 rfl (.sel 0 rfl (.sel 0 rfl (.sel 0 rfl (.nil _)))))
 refine sim_skip ?_
 refine nrm_then (sim_seq (sr ?_))
 refine vm rfl rfl ?_
 refine vm rfl rfl ?_
 refine simL_openV 1 rfl (fun rs3v hl4v => ?_)
 refine simL_bind (fun s9v hs10v => ?_)
 refine simL_lend 1 rfl (fun hq5v hq6v hq7v hq8v => ?_)
 refine simL_eff (re_call (vs := [.pointer (some ⟨b0, 0, none⟩), str x1]) (cap := []) (A := [obj b0 29 [.slice a0_0 x0_0.length c0_0, .int .i64 x0_1, .bool x0_2, str x0_3]]) (rst := [Row 36 3 a0_0 x0_0.length c0_0 rs3v.flatten, z0_0, F]) rfl rfl rfl rfl rfl rfl Try.call37 (.sel 0 rfl (.sel 0 rfl (.sel 0 rfl (.sel 0 rfl (.nil _))))) (synodref4_Disk_at.calls _ _ k b0 a0_0 c0_0 x0_0 x0_1 x0_2 x0_3 x1 ((Rd.asV hl4v hq5v).up (Up.lend 0 rfl) (V36.up (Up.lend 1 rfl))) hq6v hq7v) hs10v) rfl rfl rfl ?_
 intro y11v
 refine vq (q_lss rfl rfl rfl) rfl (simL_nil (nrm_then ?_))
 refine sim_cond rfl (fun h12v => ?_) (fun h13v => ?_)
 refine sr ?_
 refine va rfl rfl (simL_nil (nrm_then (sim_rtn ?_)))
 refine rtn_then ?_
 exact rtn_fn (a0_0, c0_0, z0_0) rfl rfl rfl (.sel 0 rfl (.sel' 0 rfl (RowV.mk hl4v) (.sel 0 rfl (.sel 0 rfl (.nil _)))))
 refine sim_skip ?_
 refine nrm_then (sr ?_)
 refine vm rfl rfl ?_
 refine simL_bind (fun s14v hs15v => ?_)
 refine simL_eff (re_call (vs := [str x2]) (cap := []) (A := []) (rst := [obj b0 29 [.slice a0_0 x0_0.length c0_0, .int .i64 x0_1, .bool x0_2, str x0_3], Row 36 3 a0_0 x0_0.length c0_0 rs3v.flatten, z0_0, F]) rfl rfl rfl rfl rfl rfl Try.call36 (.sel 0 rfl (.sel 0 rfl (.sel 0 rfl (.sel 0 rfl (.nil _))))) (synodref4_Name.calls _ _ k x2 ) hs15v) rfl rfl rfl ?_
 intro y16v
 refine va rfl rfl (simL_nil (nrm_then (sim_seq (sr ?_))))
 refine vm rfl rfl ?_
 refine vq (q_not rfl rfl) rfl (simL_nil (nrm_then ?_))
 refine sim_condb rfl (fun h17v => ?_) (fun h18v => ?_)
 refine sr ?_
 refine va rfl rfl (simL_nil (nrm_then (sim_rtn ?_)))
 refine rtn_then ?_
 exact rtn_fn (a0_0, c0_0, z0_0) rfl rfl rfl (.sel 0 rfl (.sel' 0 rfl (RowV.mk hl4v) (.sel 0 rfl (.sel 0 rfl (.nil _)))))
 refine sim_skip ?_
 refine nrm_then (sim_seq (sr ?_))
 refine vm rfl rfl ?_
 refine simL_bind (fun s23v hs24v => ?_)
 refine simL_lend 1 rfl (fun hq19v hq20v hq21v hq22v => ?_)
 refine simL_eff (re_call (vs := [.pointer (some ⟨b0, 0, none⟩)]) (cap := []) (A := [obj b0 29 [.slice a0_0 x0_0.length c0_0, .int .i64 x0_1, .bool x0_2, str x0_3]]) (rst := [Row 36 3 a0_0 x0_0.length c0_0 rs3v.flatten, z0_0, F]) rfl rfl rfl rfl rfl rfl Try.call38 (.sel 0 rfl (.sel 0 rfl (.sel 0 rfl (.sel 0 rfl (.nil _))))) (synodref4_Disk_fails.calls _ _ b0 a0_0 c0_0 x0_0 x0_1 x0_2 x0_3 ((Rd.asV hl4v hq19v).up (Up.lend 0 rfl) (V36.up (Up.lend 1 rfl))) hq20v hq21v) hs24v) rfl rfl rfl ?_
 intro y25v
 refine simL_nil (nrm_then ?_)
 refine sim_condb rfl (fun h26v => ?_) (fun h27v => ?_)
 refine sr ?_
 refine va rfl rfl (simL_nil (nrm_then (sim_rtn ?_)))
 refine rtn_then ?_
 exact rtn_fn (a0_0, c0_0, z0_0) rfl rfl rfl (.sel 0 rfl (.sel' 0 rfl (RowV.mk hl4v) (.sel 0 rfl (.sel 0 rfl (.nil _)))))
 refine sim_skip ?_
 refine nrm_then (sim_seq (sr ?_))
 refine vm rfl rfl ?_
 refine vm rfl rfl ?_
 refine vq (q_eqs rfl rfl rfl) rfl (simL_nil (nrm_then ?_))
 refine sim_cond rfl (fun h28v => ?_) (fun h29v => ?_)
 refine sr ?_
 refine va rfl rfl (simL_nil (nrm_then (sim_rtn ?_)))
 refine rtn_then ?_
 exact rtn_fn (a0_0, c0_0, z0_0) rfl rfl rfl (.sel 0 rfl (.sel' 0 rfl (RowV.mk hl4v) (.sel 0 rfl (.sel 0 rfl (.nil _)))))
 refine sim_skip ?_
 refine nrm_then (sr ?_)
 refine vm rfl rfl ?_
 refine vm rfl rfl ?_
 refine vm rfl rfl ?_
 refine simL_bind (fun s34v hs35v => ?_)
 refine simL_lend 1 rfl (fun hq30v hq31v hq32v hq33v => ?_)
 refine simL_eff (re_call (vs := [.pointer (some ⟨b0, 0, none⟩), str x1]) (cap := []) (A := [obj b0 29 [.slice a0_0 x0_0.length c0_0, .int .i64 s23v.2.1, .bool s23v.2.2.1, str s23v.2.2.2]]) (rst := [Row 36 3 a0_0 x0_0.length c0_0 rs3v.flatten, z0_0, F]) rfl rfl rfl rfl rfl rfl Try.call37 (.sel 0 rfl (.sel 0 rfl (.sel 0 rfl (.sel 0 rfl (.nil _))))) (synodref4_Disk_at.calls _ _ k b0 a0_0 c0_0 x0_0 s23v.2.1 s23v.2.2.1 s23v.2.2.2 x1 ((Rd.asV hl4v hq30v).up (Up.lend 0 rfl) (V36.up (Up.lend 1 rfl))) hq31v hq32v) hs35v) rfl rfl rfl ?_
 intro y36v
 refine simL_bind (fun s37v hs38v => ?_)
 refine simL_eff (re_call (vs := [.pointer (some ⟨b0, 0, none⟩), .int .i64 s34v]) (cap := []) (A := [obj b0 29 [.slice a0_0 x0_0.length c0_0, .int .i64 s23v.2.1, .bool s23v.2.2.1, str s23v.2.2.2], RowV 36 3 (V36 z0_0) a0_0 x0_0 c0_0, z0_0]) (rst := [F]) rfl rfl rfl rfl rfl rfl Try.call62 (.sel 0 rfl (.sel' 0 rfl (RowV.mk hl4v) (.sel 0 rfl (.sel 0 rfl (.nil _))))) (synodref4_Disk_take.calls _ _ b0 a0_0 c0_0 x0_0 z0_0 s23v.2.1 s23v.2.2.1 s23v.2.2.2 s34v ) hs38v) rfl rfl rfl ?_
 intro y39v
 refine simL_pr (fun hp40v => ?_)
 refine simL_pr (fun hu41v => ?_)
 refine simL_eff (re_alloc rfl Try.zeroValue36 rfl) rfl rfl rfl ?_
 intro b42v
 refine simL_do (re_store 0 rfl rfl rfl Try.sizeOf36 rfl rfl (one_of (by rfl)) rfl rfl) rfl rfl ?_
 intro _
 refine simL_nil (nrm_then ?_)
 refine sim_cut (S := (List (Ty36)) × Int × Bool × List UInt8) (HA × Option Addr × Nat) (fun s y => [(0, .pointer (some ⟨b0, 0, none⟩)), (1, str x1), (2, str x2), (8, .pointer (some ⟨b42v, 0, none⟩))]) (fun s y => [pr (Rd (y.1) y39v.1 (encB s37v.2.1) ∧ s37v.2.1.length ≤ y39v.2.1 ∧ y39v.2.1 ≤ maxLen), obj b0 29 [.slice y.2.1 s.1.length y.2.2, .int .i64 s.2.1, .bool s.2.2.1, str s.2.2.2], obj b42v 36 [str s37v.1, .slice y39v.1 s37v.2.1.length y39v.2.1, .int .i64 s37v.2.2.1], RowV 36 3 (V36 (y.1)) y.2.1 s.1 y.2.2, y.1, F]) ?_ ?_
 refine sr ?_
 refine vm rfl rfl ?_
 refine vm rfl rfl ?_
 refine simL_openV 2 rfl (fun rs45v hl46v => ?_)
 refine simL_bind (fun s51v hs52v => ?_)
 refine simL_lend 2 rfl (fun hq47v hq48v hq49v hq50v => ?_)
 refine simL_eff (re_call (vs := [.pointer (some ⟨b0, 0, none⟩), str x2]) (cap := []) (A := [obj b0 29 [.slice y39v.2.2.1 s37v.2.2.2.1.length y39v.2.2.2.1, .int .i64 s37v.2.2.2.2.1, .bool s37v.2.2.2.2.2.1, str s37v.2.2.2.2.2.2]]) (rst := [obj b42v 36 [str s37v.1, .slice y39v.1 s37v.2.1.length y39v.2.1, .int .i64 s37v.2.2.1], Row 36 3 y39v.2.2.1 s37v.2.2.2.1.length y39v.2.2.2.1 rs45v.flatten, y39v.2.2.2.2, F]) rfl rfl rfl rfl rfl rfl Try.call37 (.sel 1 rfl (.sel 0 rfl (.sel 0 rfl (.sel 0 rfl (.sel 0 rfl (.nil _)))))) (synodref4_Disk_at.calls _ _ k b0 y39v.2.2.1 y39v.2.2.2.1 s37v.2.2.2.1 s37v.2.2.2.2.1 s37v.2.2.2.2.2.1 s37v.2.2.2.2.2.2 x2 ((Rd.asV hl46v hq47v).up (Up.lend 1 rfl) (V36.up (Up.lend 2 rfl))) hq48v hq49v) hs52v) rfl rfl rfl ?_
 intro y53v
 refine vq (q_geq rfl rfl rfl) rfl (simL_nil (nrm_then ?_))
 refine sim_cond rfl (fun h54v => ?_) (fun h55v => ?_)
 refine sr ?_
 refine vm rfl rfl ?_
 refine vm rfl rfl ?_
 refine vm rfl rfl ?_
 refine simL_bind (fun s60v hs61v => ?_)
 refine simL_lend 2 rfl (fun hq56v hq57v hq58v hq59v => ?_)
 refine simL_eff (re_call (vs := [.pointer (some ⟨b0, 0, none⟩), str x2]) (cap := []) (A := [obj b0 29 [.slice y39v.2.2.1 s37v.2.2.2.1.length y39v.2.2.2.1, .int .i64 s37v.2.2.2.2.1, .bool s37v.2.2.2.2.2.1, str s37v.2.2.2.2.2.2]]) (rst := [obj b42v 36 [str s37v.1, .slice y39v.1 s37v.2.1.length y39v.2.1, .int .i64 s37v.2.2.1], Row 36 3 y39v.2.2.1 s37v.2.2.2.1.length y39v.2.2.2.1 rs45v.flatten, y39v.2.2.2.2, F]) rfl rfl rfl rfl rfl rfl Try.call37 (.sel 0 rfl (.sel 0 rfl (.sel 0 rfl (.sel 0 rfl (.sel 0 rfl (.nil _)))))) (synodref4_Disk_at.calls _ _ k b0 y39v.2.2.1 y39v.2.2.2.1 s37v.2.2.2.1 s37v.2.2.2.2.1 s37v.2.2.2.2.2.1 s37v.2.2.2.2.2.2 x2 ((Rd.asV hl46v hq56v).up (Up.lend 1 rfl) (V36.up (Up.lend 2 rfl))) hq57v hq58v) hs61v) rfl rfl rfl ?_
 intro y62v
 refine simL_bind (fun s63v hs64v => ?_)
 refine simL_eff (re_call (vs := [.pointer (some ⟨b0, 0, none⟩), .int .i64 s60v]) (cap := []) (A := [obj b0 29 [.slice y39v.2.2.1 s37v.2.2.2.1.length y39v.2.2.2.1, .int .i64 s37v.2.2.2.2.1, .bool s37v.2.2.2.2.2.1, str s37v.2.2.2.2.2.2], RowV 36 3 (V36 (y39v.2.2.2.2)) y39v.2.2.1 s37v.2.2.2.1 y39v.2.2.2.1, y39v.2.2.2.2]) (rst := [obj b42v 36 [str s37v.1, .slice y39v.1 s37v.2.1.length y39v.2.1, .int .i64 s37v.2.2.1], F]) rfl rfl rfl rfl rfl rfl Try.call62 (.sel 0 rfl (.sel' 1 rfl (RowV.mk hl46v) (.sel 1 rfl (.sel 0 rfl (.sel 0 rfl (.nil _)))))) (synodref4_Disk_take.calls _ _ b0 y39v.2.2.1 y39v.2.2.2.1 s37v.2.2.2.1 y39v.2.2.2.2 s37v.2.2.2.2.1 s37v.2.2.2.2.2.1 s37v.2.2.2.2.2.2 s60v ) hs64v) rfl rfl rfl ?_
 intro y65v
 refine simL_pr (fun hp66v => ?_)
 refine simL_pr (fun hu67v => ?_)
 refine nx ?_
 refine vm rfl rfl ?_
 refine vn rfl rfl ?_
 refine vq (q_fa rfl rfl Try.underlying29 rfl rfl Try.sizeOf9 rfl) rfl ?_
 refine vq (q_load rfl rfl Try.isAgg9 (.obj 0 rfl rfl)) rfl ?_
 refine vm rfl rfl ?_
 refine vq (q_eqs rfl rfl rfl) rfl (simL_nil (nrm_then ?_))
 refine sim_cond rfl (fun h68v => ?_) (fun h69v => ?_)
 refine sim_region ?_
 refine vm rfl rfl ?_
 refine vn rfl rfl ?_
 refine vq (q_fa rfl rfl Try.underlying29 rfl rfl Try.sizeOf9 rfl) rfl ?_
 refine simL_do (re_store 0 rfl rfl rfl Try.sizeOf9 rfl rfl (one_of (by rfl)) rfl rfl) rfl rfl ?_
 intro _
 refine simL_nil ?_
 exact nrm_cut (s := (s63v.2.2.2.1, s63v.2.2.2.2.1, s63v.2.2.2.2.2.1, ([] : List UInt8))) (y65v.2.2.2.2, y65v.2.2.1, y65v.2.2.2.1) ⟨rfl, rfl, rfl, rfl, trivial⟩ (.pr_in ⟨(hp40v.1.up hu67v), hp40v.2.1, hp40v.2.2⟩ (.sel 0 rfl (.sel 2 rfl (.sel 0 rfl (.sel 0 rfl (.sel 0 rfl (.nil _)))))))
 refine sim_skip ?_
 exact nrm_cut (s := (s63v.2.2.2.1, s63v.2.2.2.2.1, s63v.2.2.2.2.2.1, s63v.2.2.2.2.2.2)) (y65v.2.2.2.2, y65v.2.2.1, y65v.2.2.2.1) ⟨rfl, rfl, rfl, rfl, trivial⟩ (.pr_in ⟨(hp40v.1.up hu67v), hp40v.2.1, hp40v.2.2⟩ (.sel 0 rfl (.sel 2 rfl (.sel 0 rfl (.sel 0 rfl (.sel 0 rfl (.nil _)))))))
 refine sim_skip ?_
 exact nrm_cut (s := (s37v.2.2.2.1, s37v.2.2.2.2.1, s37v.2.2.2.2.2.1, s37v.2.2.2.2.2.2)) (y39v.2.2.2.2, y39v.2.2.1, y39v.2.2.2.1) ⟨rfl, rfl, rfl, rfl, trivial⟩ (.pr_in ⟨hp40v.1, hp40v.2.1, hp40v.2.2⟩ (.sel 0 rfl (.sel 0 rfl (.sel' 0 rfl (RowV.mk hl46v) (.sel 0 rfl (.sel 0 rfl (.nil _)))))))
 intro s43v y44v
 refine sim_pr (fun hj70v => ?_)
 refine sim_cut (S := List UInt8) (Unit) (fun s y => [(0, .pointer (some ⟨b0, 0, none⟩)), (2, str x2), (8, .pointer (some ⟨b42v, 0, none⟩))]) (fun s y => [obj b0 29 [.slice y44v.2.1 s43v.1.length y44v.2.2, .int .i64 s43v.2.1, .bool s43v.2.2.1, str s], obj b42v 36 [str s37v.1, .slice y39v.1 s37v.2.1.length y39v.2.1, .int .i64 s37v.2.2.1], RowV 36 3 (V36 (y44v.1)) y44v.2.1 s43v.1 y44v.2.2, y44v.1, F]) ?_ ?_
 refine sr ?_
 refine vm rfl rfl ?_
 refine vn rfl rfl ?_
 refine vq (q_fa rfl rfl Try.underlying29 rfl rfl Try.sizeOf9 rfl) rfl ?_
 refine vq (q_load rfl rfl Try.isAgg9 (.obj 0 rfl rfl)) rfl ?_
 refine vm rfl rfl ?_
 refine vq (q_eqs rfl rfl rfl) rfl (simL_nil (nrm_then ?_))
 refine sim_cond rfl (fun h73v => ?_) (fun h74v => ?_)
 refine sim_region ?_
 refine vm rfl rfl ?_
 refine vm rfl rfl ?_
 refine vn rfl rfl ?_
 refine vq (q_fa rfl rfl Try.underlying29 rfl rfl Try.sizeOf9 rfl) rfl ?_
 refine simL_do (re_store 0 rfl rfl rfl Try.sizeOf9 rfl rfl (one_of (by rfl)) rfl rfl) rfl rfl ?_
 intro _
 refine simL_nil ?_
 exact nrm_cut (s := x2) () ⟨rfl, rfl, rfl, trivial⟩ (.sel 0 rfl (.sel 0 rfl (.sel 0 rfl (.sel 0 rfl (.sel 0 rfl (.nil _))))))
 refine sim_skip ?_
 exact nrm_cut (s := s43v.2.2.2) () ⟨rfl, rfl, rfl, trivial⟩ (.sel 0 rfl (.sel 0 rfl (.sel 0 rfl (.sel 0 rfl (.sel 0 rfl (.nil _))))))
 intro s71v y72v
 refine sr ?_
 refine vm rfl rfl ?_
 refine vq (q_fa rfl rfl Try.underlying36 rfl rfl Try.sizeOf9 rfl) rfl ?_
 refine simL_do (re_store 1 rfl rfl rfl Try.sizeOf9 rfl rfl (one_of (by rfl)) rfl rfl) rfl rfl ?_
 intro _
 refine nx ?_
 refine vm rfl rfl ?_
 refine vq (q_loado 1 rfl rfl Try.isAgg36 Try.sizeOf36 rfl rfl) rfl ?_
 refine simL_openV 2 rfl (fun rs75v hl76v => ?_)
 refine simL_bind (fun s77v hs78v => ?_)
 refine simL_eff (re_call (vs := [.pointer (some ⟨b0, 0, none⟩), .agg #[str x2, .slice y39v.1 s37v.2.1.length y39v.2.1, .int .i64 s37v.2.2.1]]) (cap := []) (A := [obj b0 29 [.slice y44v.2.1 s43v.1.length y44v.2.2, .int .i64 s43v.2.1, .bool s43v.2.2.1, str s71v], RowV 36 3 (V36 (y44v.1)) y44v.2.1 s43v.1 y44v.2.2, y44v.1]) (rst := [obj b42v 36 [str x2, .slice y39v.1 s37v.2.1.length y39v.2.1, .int .i64 s37v.2.2.1], F]) rfl rfl rfl rfl rfl rfl Try.call39 (.sel 0 rfl (.sel' 1 rfl (RowV.mk hl76v) (.sel 1 rfl (.sel 0 rfl (.sel 0 rfl (.nil _)))))) (synodref4_Disk_put.calls _ _ k b0 y44v.2.1 y44v.2.2 s43v.1 y44v.1 s43v.2.1 s43v.2.2.1 s71v x2 y39v.1 y39v.2.1 s37v.2.1 s37v.2.2.1 hj70v.1 hj70v.2.1 hj70v.2.2) hs78v) rfl rfl rfl ?_
 intro y79v
 refine nx ?_
 refine va rfl rfl (simL_nil (nrm_then (sim_rtn ?_)))
 exact rtn_fn (y79v.1, y79v.2.1, y79v.2.2) rfl rfl rfl (.sel 0 rfl (.sel 0 rfl (.sel 0 rfl (.sel 1 rfl (.nil _)))))

def disk_Disk_Remove.f (x0_0 : List ((List UInt8) × (List UInt8 × Int))) (x0_1 : List UInt8) (x0_2 : Int) (x0_3 : Bool) (x1 : List UInt8) : Option (Int × (List ((List UInt8) × (List UInt8 × Int))) × List UInt8 × Int × Bool) := if x0_3 = true then (some (11, x0_0, x0_1, x0_2, x0_3)) else ((disk_Disk_Has.f x0_0 x0_1 x0_2 x0_3 x1).bind fun s3v => (if (!s3v) = true then (some (8, x0_0, x0_1, x0_2, x0_3)) else ((disk_Disk_fails.f x0_0 x0_1 x0_2 x0_3).bind fun s8v => (if s8v.1 = true then (some (11, x0_0, s8v.2.1, s8v.2.2.1, s8v.2.2.2)) else ((if s8v.2.1 = x1 then (some ([] : List UInt8)) else (some s8v.2.1)).bind fun s13v => (some (0, mdel x0_0 x1, s13v, s8v.2.2.1, s8v.2.2.2)))))))
theorem disk_Disk_Remove.calls (W : World) (F : HA) (b0 : Nat) (m0_0 : Nat) (q0_0 : Kps) (x0_0 : List ((List UInt8) × (List UInt8 × Int))) (x0_1 : List UInt8) (x0_2 : Int) (x0_3 : Bool) (x1 : List UInt8)  :
    Fn Try.prog W 46 [.pointer (some ⟨b0, 0, none⟩), str x1] [obj b0 64 [.map (some m0_0), str x0_1, .int .i64 x0_2, .bool x0_3], mapF (mapO m0_0 enc9 encP q0_0) FA68 q0_0 x0_0] F (disk_Disk_Remove.f x0_0 x0_1 x0_2 x0_3 x1) (fun (r : Int × (List ((List UInt8) × (List UInt8 × Int))) × List UInt8 × Int × Bool) (y : Nat × Kps) => .int .i64 r.1) (fun r y => [obj b0 64 [.map (some y.1), str r.2.2.1, .int .i64 r.2.2.2.1, .bool r.2.2.2.2], mapF (mapO y.1 enc9 encP y.2) FA68 y.2 r.2.1]) := by
 unfold disk_Disk_Remove.f
 refine fn_intro 32 Try.func46 rfl Try.ntmps46 rfl ?_
 refine sr ?_
 refine va rfl rfl (simL_nil (nrm_then (sim_seq ?_)))
 refine sim_block ?_
 refine sr ?_
 refine vm rfl rfl ?_
 refine vn rfl rfl ?_
 refine vq (q_fa rfl rfl Try.underlying64 rfl rfl Try.sizeOf4 rfl) rfl ?_
 refine vq (q_load rfl rfl Try.isAgg4 (.obj 0 rfl rfl)) rfl ?_
 refine va rfl rfl (simL_nil (nrm_then ?_))
 refine sim_condb rfl (fun h1v => ?_) (fun h2v => ?_)
 refine sr ?_
 refine va rfl rfl (simL_nil (nrm_then (sim_rtn ?_)))
 refine rtn_block ?_
 refine rtn_then ?_
 exact rtn_fn (m0_0, q0_0) rfl rfl rfl (.sel 0 rfl (.sel 0 rfl (.sel 0 rfl (.nil _))))
 refine sr ?_
 refine vm rfl rfl ?_
 refine vm rfl rfl ?_
 refine simL_bind (fun s3v hs4v => ?_)
 refine simL_eff (re_call (vs := [.pointer (some ⟨b0, 0, none⟩), str x1]) (cap := []) (A := [obj b0 64 [.map (some m0_0), str x0_1, .int .i64 x0_2, .bool x0_3], mapF (mapO m0_0 enc9 encP q0_0) FA68 q0_0 x0_0]) (rst := [F]) rfl rfl rfl rfl rfl rfl Try.call34 (.sel 0 rfl (.sel 0 rfl (.sel 0 rfl (.nil _)))) (disk_Disk_Has.calls _ _ b0 m0_0 q0_0 x0_0 x0_1 x0_2 x0_3 x1 ) hs4v) rfl rfl rfl ?_
 intro y5v
 refine vq (q_not rfl rfl) rfl ?_
 refine va rfl rfl (simL_nil (nrm_then ?_))
 refine sim_condb rfl (fun h6v => ?_) (fun h7v => ?_)
 refine sr ?_
 refine va rfl rfl (simL_nil (nrm_then (sim_rtn ?_)))
 refine rtn_block ?_
 refine rtn_then ?_
 exact rtn_fn (m0_0, q0_0) rfl rfl rfl (.sel 0 rfl (.sel 0 rfl (.sel 0 rfl (.nil _))))
 refine sr ?_
 refine vm rfl rfl ?_
 refine simL_bind (fun s8v hs9v => ?_)
 refine simL_eff (re_call (vs := [.pointer (some ⟨b0, 0, none⟩)]) (cap := []) (A := [obj b0 64 [.map (some m0_0), str x0_1, .int .i64 x0_2, .bool x0_3], mapF (mapO m0_0 enc9 encP q0_0) FA68 q0_0 x0_0]) (rst := [F]) rfl rfl rfl rfl rfl rfl Try.call35 (.sel 0 rfl (.sel 0 rfl (.sel 0 rfl (.nil _)))) (disk_Disk_fails.calls _ _ b0 m0_0 q0_0 x0_0 x0_1 x0_2 x0_3 ) hs9v) rfl rfl rfl ?_
 intro y10v
 refine va rfl rfl (simL_nil (nrm_then ?_))
 refine sim_condb rfl (fun h11v => ?_) (fun h12v => ?_)
 refine sr ?_
 refine va rfl rfl (simL_nil (nrm_then (sim_rtn ?_)))
 refine rtn_block ?_
 refine rtn_then ?_
 exact rtn_fn (m0_0, q0_0) rfl rfl rfl (.sel 0 rfl (.sel 0 rfl (.sel 0 rfl (.nil _))))
 refine sim_skip ?_
 refine nrm_block (nrm_then (sr ?_))
 refine vm rfl rfl ?_
 refine vn rfl rfl ?_
 refine vq (q_fa rfl rfl Try.underlying64 rfl rfl Try.sizeOf62 rfl) rfl ?_
 refine vq (q_load rfl rfl Try.isAgg62 (.obj 0 rfl rfl)) rfl ?_
 refine vm rfl rfl ?_
 refine simL_do (re_mdelF (ek := enc9) 1 x1 rfl rfl rfl rfl Try.underlying62 key9 rfl) rfl rfl ?_
 intro _
 refine simL_nil (nrm_then ?_)
 refine sim_cut (S := List UInt8) (Unit) (fun s y => []) (fun s y => [obj b0 64 [.map (some m0_0), str s, .int .i64 s8v.2.2.1, .bool s8v.2.2.2], mapF (mapO m0_0 enc9 encP (mdel q0_0 x1)) FA68 (mdel q0_0 x1) (mdel x0_0 x1), F]) ?_ ?_
 refine sr ?_
 refine vm rfl rfl ?_
 refine vn rfl rfl ?_
 refine vq (q_fa rfl rfl Try.underlying64 rfl rfl Try.sizeOf9 rfl) rfl ?_
 refine vq (q_load rfl rfl Try.isAgg9 (.obj 0 rfl rfl)) rfl ?_
 refine vm rfl rfl ?_
 refine vq (q_eqs rfl rfl rfl) rfl (simL_nil (nrm_then ?_))
 refine sim_cond rfl (fun h15v => ?_) (fun h16v => ?_)
 refine sim_region ?_
 refine vm rfl rfl ?_
 refine vn rfl rfl ?_
 refine vq (q_fa rfl rfl Try.underlying64 rfl rfl Try.sizeOf9 rfl) rfl ?_
 refine simL_do (re_store 0 rfl rfl rfl Try.sizeOf9 rfl rfl (one_of (by rfl)) rfl rfl) rfl rfl ?_
 intro _
 refine simL_nil ?_
 exact nrm_cut (s := ([] : List UInt8)) () trivial (.sel 0 rfl (.sel 0 rfl (.sel 0 rfl (.nil _))))
 refine sim_skip ?_
 exact nrm_cut (s := s8v.2.1) () trivial (.sel 0 rfl (.sel 0 rfl (.sel 0 rfl (.nil _))))
 intro s13v y14v
 refine sr ?_
 refine va rfl rfl (simL_nil (nrm_then (sim_rtn ?_)))
 exact rtn_fn (m0_0, mdel q0_0 x1) rfl rfl rfl (.sel 0 rfl (.sel 0 rfl (.sel 0 rfl (.nil _))))

def synodref4_Disk_Remove.f (k : Nat) (x0_0 : List (Ty36)) (x0_1 : Int) (x0_2 : Bool) (x0_3 : List UInt8) (x1 : List UInt8) : Option (Int × (List (Ty36)) × Int × Bool × List UInt8) := if x0_2 = true then (some (11, x0_0, x0_1, x0_2, x0_3)) else ((synodref4_Disk_at.f k x0_0 x0_1 x0_2 x0_3 x1).bind fun s9v => (if s9v < (0 : Int) then (some (8, x0_0, x0_1, x0_2, x0_3)) else ((synodref4_Disk_fails.f x0_0 x0_1 x0_2 x0_3).bind fun s18v => (if s18v.1 = true then (some (11, x0_0, s18v.2.1, s18v.2.2.1, s18v.2.2.2)) else ((synodref4_Disk_take.f x0_0 s18v.2.1 s18v.2.2.1 s18v.2.2.2 s9v).bind fun s23v => ((if s23v.2.2.2.2.2.2 = x1 then (some ([] : List UInt8)) else (some s23v.2.2.2.2.2.2)).bind fun s28v => (some (0, s23v.2.2.2.1, s23v.2.2.2.2.1, s23v.2.2.2.2.2.1, s28v))))))))
theorem synodref4_Disk_Remove.calls (W : World) (F : HA) (k : Nat) (b0 : Nat) (a0_0 : Option Addr) (c0_0 : Nat) (x0_0 : List (Ty36)) (z0_0 : HA) (x0_1 : Int) (x0_2 : Bool) (x0_3 : List UInt8) (x1 : List UInt8)  :
    Fn Try.prog W 53 [.pointer (some ⟨b0, 0, none⟩), str x1] [obj b0 29 [.slice a0_0 x0_0.length c0_0, .int .i64 x0_1, .bool x0_2, str x0_3], RowV 36 3 (V36 z0_0) a0_0 x0_0 c0_0, z0_0] F (synodref4_Disk_Remove.f k x0_0 x0_1 x0_2 x0_3 x1) (fun (r : Int × (List (Ty36)) × Int × Bool × List UInt8) (y : Option Addr × Nat × HA) => .int .i64 r.1) (fun r y => [obj b0 29 [.slice y.1 r.2.1.length y.2.1, .int .i64 r.2.2.1, .bool r.2.2.2.1, str r.2.2.2.2], RowV 36 3 (V36 (y.2.2)) y.1 r.2.1 y.2.1, y.2.2]) := by
 unfold synodref4_Disk_Remove.f
 refine fn_intro 29 Try.func53 rfl Try.ntmps53 rfl ?_
 refine sr ?_
 refine va rfl rfl (simL_nil (nrm_then (sim_seq (sr ?_))))
 refine vm rfl rfl ?_
 refine vn rfl rfl ?_
 refine vq (q_fa rfl rfl Try.underlying29 rfl rfl Try.sizeOf4 rfl) rfl ?_
 refine vq (q_load rfl rfl Try.isAgg4 (.obj 0 rfl rfl)) rfl (simL_nil (nrm_then ?_))
 refine sim_condb rfl (fun h1v => ?_) (fun h2v => ?_)
 refine sr ?_
 refine va rfl rfl (simL_nil (nrm_then (sim_rtn ?_)))
 refine rtn_then ?_
 exact rtn_fn (a0_0, c0_0, z0_0) rfl rfl rfl (.sel 0 rfl (.sel 0 rfl (.sel 0 rfl (.sel 0 rfl (.nil _)))))
 refine sim_skip ?_
 refine nrm_then (sr ?_)
 refine vm rfl rfl ?_
 refine vm rfl rfl ?_
 refine simL_openV 1 rfl (fun rs3v hl4v => ?_)
 refine simL_bind (fun s9v hs10v => ?_)
 refine simL_lend 1 rfl (fun hq5v hq6v hq7v hq8v => ?_)
 refine simL_eff (re_call (vs := [.pointer (some ⟨b0, 0, none⟩), str x1]) (cap := []) (A := [obj b0 29 [.slice a0_0 x0_0.length c0_0, .int .i64 x0_1, .bool x0_2, str x0_3]]) (rst := [Row 36 3 a0_0 x0_0.length c0_0 rs3v.flatten, z0_0, F]) rfl rfl rfl rfl rfl rfl Try.call37 (.sel 0 rfl (.sel 0 rfl (.sel 0 rfl (.sel 0 rfl (.nil _))))) (synodref4_Disk_at.calls _ _ k b0 a0_0 c0_0 x0_0 x0_1 x0_2 x0_3 x1 ((Rd.asV hl4v hq5v).up (Up.lend 0 rfl) (V36.up (Up.lend 1 rfl))) hq6v hq7v) hs10v) rfl rfl rfl ?_
 intro y11v
 refine va rfl rfl (simL_nil (nrm_then (sim_seq (sr ?_))))
 refine vm rfl rfl ?_
 refine vq (q_lss rfl rfl rfl) rfl (simL_nil (nrm_then ?_))
 refine sim_cond rfl (fun h12v => ?_) (fun h13v => ?_)
 refine sr ?_
 refine va rfl rfl (simL_nil (nrm_then (sim_rtn ?_)))
 refine rtn_then ?_
 exact rtn_fn (a0_0, c0_0, z0_0) rfl rfl rfl (.sel 0 rfl (.sel' 0 rfl (RowV.mk hl4v) (.sel 0 rfl (.sel 0 rfl (.nil _)))))
 refine sim_skip ?_
 refine nrm_then (sim_seq (sr ?_))
 refine vm rfl rfl ?_
 refine simL_bind (fun s18v hs19v => ?_)
 refine simL_lend 1 rfl (fun hq14v hq15v hq16v hq17v => ?_)
 refine simL_eff (re_call (vs := [.pointer (some ⟨b0, 0, none⟩)]) (cap := []) (A := [obj b0 29 [.slice a0_0 x0_0.length c0_0, .int .i64 x0_1, .bool x0_2, str x0_3]]) (rst := [Row 36 3 a0_0 x0_0.length c0_0 rs3v.flatten, z0_0, F]) rfl rfl rfl rfl rfl rfl Try.call38 (.sel 0 rfl (.sel 0 rfl (.sel 0 rfl (.sel 0 rfl (.nil _))))) (synodref4_Disk_fails.calls _ _ b0 a0_0 c0_0 x0_0 x0_1 x0_2 x0_3 ((Rd.asV hl4v hq14v).up (Up.lend 0 rfl) (V36.up (Up.lend 1 rfl))) hq15v hq16v) hs19v) rfl rfl rfl ?_
 intro y20v
 refine simL_nil (nrm_then ?_)
 refine sim_condb rfl (fun h21v => ?_) (fun h22v => ?_)
 refine sr ?_
 refine va rfl rfl (simL_nil (nrm_then (sim_rtn ?_)))
 refine rtn_then ?_
 exact rtn_fn (a0_0, c0_0, z0_0) rfl rfl rfl (.sel 0 rfl (.sel' 0 rfl (RowV.mk hl4v) (.sel 0 rfl (.sel 0 rfl (.nil _)))))
 refine sim_skip ?_
 refine nrm_then (sr ?_)
 refine vm rfl rfl ?_
 refine vm rfl rfl ?_
 refine simL_bind (fun s23v hs24v => ?_)
 refine simL_eff (re_call (vs := [.pointer (some ⟨b0, 0, none⟩), .int .i64 s9v]) (cap := []) (A := [obj b0 29 [.slice a0_0 x0_0.length c0_0, .int .i64 s18v.2.1, .bool s18v.2.2.1, str s18v.2.2.2], RowV 36 3 (V36 z0_0) a0_0 x0_0 c0_0, z0_0]) (rst := [F]) rfl rfl rfl rfl rfl rfl Try.call62 (.sel 0 rfl (.sel' 0 rfl (RowV.mk hl4v) (.sel 0 rfl (.sel 0 rfl (.nil _))))) (synodref4_Disk_take.calls _ _ b0 a0_0 c0_0 x0_0 z0_0 s18v.2.1 s18v.2.2.1 s18v.2.2.2 s9v ) hs24v) rfl rfl rfl ?_
 intro y25v
 refine simL_pr (fun hp26v => ?_)
 refine simL_pr (fun hu27v => ?_)
 refine simL_nil (nrm_then ?_)
 refine sim_cut (S := List UInt8) (Unit) (fun s y => []) (fun s y => [obj b0 29 [.slice y25v.2.2.1 s23v.2.2.2.1.length y25v.2.2.2.1, .int .i64 s23v.2.2.2.2.1, .bool s23v.2.2.2.2.2.1, str s], RowV 36 3 (V36 (y25v.2.2.2.2)) y25v.2.2.1 s23v.2.2.2.1 y25v.2.2.2.1, y25v.2.2.2.2, F]) ?_ ?_
 refine sr ?_
 refine vm rfl rfl ?_
 refine vn rfl rfl ?_
 refine vq (q_fa rfl rfl Try.underlying29 rfl rfl Try.sizeOf9 rfl) rfl ?_
 refine vq (q_load rfl rfl Try.isAgg9 (.obj 0 rfl rfl)) rfl ?_
 refine vm rfl rfl ?_
 refine vq (q_eqs rfl rfl rfl) rfl (simL_nil (nrm_then ?_))
 refine sim_cond rfl (fun h30v => ?_) (fun h31v => ?_)
 refine sim_region ?_
 refine vm rfl rfl ?_
 refine vn rfl rfl ?_
 refine vq (q_fa rfl rfl Try.underlying29 rfl rfl Try.sizeOf9 rfl) rfl ?_
 refine simL_do (re_store 0 rfl rfl rfl Try.sizeOf9 rfl rfl (one_of (by rfl)) rfl rfl) rfl rfl ?_
 intro _
 refine simL_nil ?_
 exact nrm_cut (s := ([] : List UInt8)) () trivial (.sel 0 rfl (.sel 0 rfl (.sel 0 rfl (.sel 0 rfl (.nil _)))))
 refine sim_skip ?_
 exact nrm_cut (s := s23v.2.2.2.2.2.2) () trivial (.sel 0 rfl (.sel 0 rfl (.sel 0 rfl (.sel 0 rfl (.nil _)))))
 intro s28v y29v
 refine sr ?_
 refine va rfl rfl (simL_nil (nrm_then (sim_rtn ?_)))
 exact rtn_fn (y25v.2.2.1, y25v.2.2.2.1, y25v.2.2.2.2) rfl rfl rfl (.sel 0 rfl (.sel 0 rfl (.sel 0 rfl (.sel 0 rfl (.nil _)))))

def disk_Disk_Arm.f (x0_0 : List ((List UInt8) × (List UInt8 × Int))) (x0_1 : List UInt8) (x0_2 : Int) (x0_3 : Bool) (x1 : Int) : Option (List UInt8 × Int × Bool) := some (x0_1, max x1 (0 : Int), x0_3)
theorem disk_Disk_Arm.calls (W : World) (F : HA) (b0 : Nat) (m0_0 : Nat) (q0_0 : Kps) (x0_0 : List ((List UInt8) × (List UInt8 × Int))) (x0_1 : List UInt8) (x0_2 : Int) (x0_3 : Bool) (x1 : Int)  :
    Fn Try.prog W 47 [.pointer (some ⟨b0, 0, none⟩), .int .i64 x1] [obj b0 64 [.map (some m0_0), str x0_1, .int .i64 x0_2, .bool x0_3], mapF (mapO m0_0 enc9 encP q0_0) FA68 q0_0 x0_0] F (disk_Disk_Arm.f x0_0 x0_1 x0_2 x0_3 x1) (fun (r : List UInt8 × Int × Bool) (y : Unit) => .tuple #[]) (fun r y => [obj b0 64 [.map (some m0_0), str r.1, .int .i64 r.2.1, .bool r.2.2], mapF (mapO m0_0 enc9 encP q0_0) FA68 q0_0 x0_0]) := by
 unfold disk_Disk_Arm.f
 refine fn_intro 9 Try.func47 rfl Try.ntmps47 rfl ?_
 refine sim_region ?_
 refine vm rfl rfl ?_
 refine vm rfl rfl ?_
 refine vq (q_max rfl rfl rfl) rfl ?_
 refine vn rfl rfl ?_
 refine vq (q_fa rfl rfl Try.underlying64 rfl rfl Try.sizeOf3 rfl) rfl ?_
 refine simL_do (re_store 0 rfl rfl rfl Try.sizeOf3 rfl rfl (one_of (by rfl)) rfl rfl) rfl rfl ?_
 intro _
 refine simL_nil ?_
 exact nrm_fn () rfl rfl rfl (.sel 0 rfl (.sel 0 rfl (.sel 0 rfl (.nil _))))

def synodref4_Disk_Crash.l0 (x0_3 : List UInt8) (x1 : Int) : Nat → Int → List (Ty36) → Option ((List (Ty36)))
  | 0, _, _ => none
  | k + 1, z5v, z6v => if z5v < (z6v.length : Int) then (if 0 ≤ z5v ∧ z5v < (z6v.length : Int) then ((if 0 ≤ z5v ∧ z5v < (z6v.length : Int) then (if ((z6v.getD z5v.toNat dz36).1) = x0_3 then (if 0 ≤ z5v ∧ z5v < (z6v.length : Int) then (some (IntKind.i64.wrap (((z6v.getD z5v.toNat dz36).2.2) + (min (max x1 (0 : Int)) (IntKind.i64.wrap ((((z6v.getD z5v.toNat dz36).2.1).length : Int) - ((z6v.getD z5v.toNat dz36).2.2))))))) else none) else (some ((z6v.getD z5v.toNat dz36).2.2))) else none).bind fun s24v => (if 0 ≤ z5v ∧ z5v < (z6v.length : Int) then (if 0 ≤ (0 : Int) ∧ (0 : Int) ≤ s24v ∧ s24v ≤ (((z6v.getD z5v.toNat dz36).2.1).length : Int) then ((synodref_Bytes.f (cut ((z6v.getD z5v.toNat dz36).2.1) (0 : Int) s24v)).bind fun s77v => (if 0 ≤ z5v ∧ z5v < (z6v.length : Int) then (if 0 ≤ z5v ∧ z5v < ((z6v.set z5v.toNat ((z6v.getD z5v.toNat dz36).1, s77v, (z6v.getD z5v.toNat dz36).2.2)).length : Int) then (synodref4_Disk_Crash.l0 x0_3 x1 k (IntKind.i64.wrap (z5v + 1)) ((z6v.set z5v.toNat ((z6v.getD z5v.toNat dz36).1, s77v, (z6v.getD z5v.toNat dz36).2.2)).set z5v.toNat (((z6v.set z5v.toNat ((z6v.getD z5v.toNat dz36).1, s77v, (z6v.getD z5v.toNat dz36).2.2)).getD z5v.toNat dz36).1, ((z6v.set z5v.toNat ((z6v.getD z5v.toNat dz36).1, s77v, (z6v.getD z5v.toNat dz36).2.2)).getD z5v.toNat dz36).2.1, s24v))) else none) else none)) else none) else none)) else none) else (some z6v)
def synodref4_Disk_Crash.f (k : Nat) (x0_0 : List (Ty36)) (x0_1 : Int) (x0_2 : Bool) (x0_3 : List UInt8) (x1 : Int) : Option ((List (Ty36)) × Int × Bool × List UInt8) := (synodref4_Disk_Crash.l0 x0_3 x1 k 0 x0_0).bind fun s1v => (some (s1v, 0, false, ([] : List UInt8)))
theorem synodref4_Disk_Crash.calls (W : World) (F : HA) (k : Nat) (b0 : Nat) (a0_0 : Option Addr) (c0_0 : Nat) (x0_0 : List (Ty36)) (z0_0 : HA) (x0_1 : Int) (x0_2 : Bool) (x0_3 : List UInt8) (x1 : Int)  :
    Fn Try.prog W 54 [.pointer (some ⟨b0, 0, none⟩), .int .i64 x1] [obj b0 29 [.slice a0_0 x0_0.length c0_0, .int .i64 x0_1, .bool x0_2, str x0_3], RowV 36 3 (V36 z0_0) a0_0 x0_0 c0_0, z0_0] F (synodref4_Disk_Crash.f k x0_0 x0_1 x0_2 x0_3 x1) (fun (r : (List (Ty36)) × Int × Bool × List UInt8) (y : Option Addr × Nat × HA) => .tuple #[]) (fun r y => [obj b0 29 [.slice y.1 r.1.length y.2.1, .int .i64 r.2.1, .bool r.2.2.1, str r.2.2.2], RowV 36 3 (V36 (y.2.2)) y.1 r.1 y.2.1, y.2.2]) := by
 unfold synodref4_Disk_Crash.f
 refine fn_intro 87 Try.func54 rfl Try.ntmps54 rfl ?_
 refine sim_cut (S := (List (Ty36))) (HA) (fun s y => [(0, .pointer (some ⟨b0, 0, none⟩))]) (fun s y => [obj b0 29 [.slice a0_0 s.length c0_0, .int .i64 x0_1, .bool x0_2, str x0_3], RowV 36 3 (V36 (y)) a0_0 s c0_0, y, F]) ?_ ?_
 refine sr ?_
 refine va rfl rfl (simL_nil (nrm_then ?_))
 refine sim_block ?_
 refine sim_loop (S := Int × (List (Ty36))) (HA) (fun k s => synodref4_Disk_Crash.l0 x0_3 x1 k s.1 s.2) (fun s y => [(0, .pointer (some ⟨b0, 0, none⟩)), (1, .int .i64 x1), (4, .int .i64 s.1)]) (fun s y => [obj b0 29 [.slice a0_0 s.2.length c0_0, .int .i64 x0_1, .bool x0_2, str x0_3], RowV 36 3 (V36 (y)) a0_0 s.2 c0_0, y, F]) (fun _ => by rw [synodref4_Disk_Crash.l0]) ?_ k (0, x0_0) z0_0 ⟨rfl, rfl, rfl, trivial⟩ (.sel 0 rfl (.sel 0 rfl (.sel 0 rfl (.sel 0 rfl (.nil _)))))
 intro k s3v y4v
 refine sim_eq (by rw [synodref4_Disk_Crash.l0]) ?_
 refine sim_seq (sr ?_)
 refine vm rfl rfl ?_
 refine vm rfl rfl ?_
 refine vn rfl rfl ?_
 refine vq (q_fa rfl rfl Try.underlying29 rfl rfl Try.sizeOf27 rfl) rfl ?_
 refine vq (q_load rfl rfl Try.isAgg27 (.obj 0 rfl rfl)) rfl ?_
 refine vq (q_len rfl rfl rfl Try.underlying27) rfl ?_
 refine vq (q_lss rfl rfl rfl) rfl (simL_nil (nrm_then ?_))
 refine sim_cond rfl (fun h7v => ?_) (fun h8v => ?_)
 refine sim_skip ?_
 refine nrm_then (sim_seq ?_)
 refine sim_block ?_
 refine sr ?_
 refine vm rfl rfl ?_
 refine vn rfl rfl ?_
 refine vq (q_fa rfl rfl Try.underlying29 rfl rfl Try.sizeOf27 rfl) rfl ?_
 refine vq (q_load rfl rfl Try.isAgg27 (.obj 0 rfl rfl)) rfl ?_
 refine vm rfl rfl ?_
 refine simL_openV 1 rfl (fun rs17v hl18v => ?_)
 refine simL_ask (fun hi9v => ?_)
 refine simL_posV 1 rfl hl18v rfl (i := s3v.1.toNat) (by omega) dz36 (fun b10v b10vo r13v ha11v hV14v hlr15v hcell16v => ?_)
 obtain ⟨a19v, c20v, rfl, ⟨he21v, hc22v, hm23v⟩⟩ := hV14v
 refine vq (q_idx rfl rfl rfl ha11v Try.underlying27 Try.sizeOf36 hi9v.1 hi9v.2) rfl ?_
 refine vq (q_fa rfl rfl Try.underlying36 rfl rfl Try.sizeOf3 rfl) rfl ?_
 refine vq (q_load rfl rfl Try.isAgg3 (hcell16v 1 rfl 2 _ rfl)) rfl ?_
 refine va rfl rfl (simL_nil (nrm_then ?_))
 refine sim_cut (S := Int) (Unit) (fun s y => [(0, .pointer (some ⟨b0, 0, none⟩)), (1, .int .i64 x1), (4, .int .i64 s3v.1), (5, .int .i64 s)]) (fun s y => [obj b0 29 [.slice a0_0 s3v.2.length c0_0, .int .i64 x0_1, .bool x0_2, str x0_3], RowV 36 3 (V36 (y4v)) a0_0 s3v.2 c0_0, y4v, F]) ?_ ?_
 refine sim_seq ?_
 refine sim_ask (fun hi26v => ?_)
 refine sim_posV 1 rfl hl18v rfl (i := s3v.1.toNat) (by omega) dz36 (fun b27v b27vo r30v ha28v hV31v hlr32v hcell33v => ?_)
 obtain ⟨a34v, c35v, rfl, ⟨he36v, hc37v, hm38v⟩⟩ := hV31v
 refine sim_draw (Γ := Unit) () [[], [0], [0, 1], [0, 1, 2], [], rL 5, rL 6, rL 7, [], [8], [8, 9], [8, 9, 10], rL 12] [] [0, 1, 2, 3, 4, 5, 6, 7, 8, 9, 10, 11, 12] (fun i => [[0], [0], [0], [0], [0], [0], [0], [0], [0], [0], [0], [0], [0]].getD i []) (fun i => [[], [], [], [], [], [], [], [], [], [], [], [], []].getD i []) (fun γ i => [.pointer (some ⟨b0, 0, none⟩), .pointer (some ⟨b0, 0, none⟩), .pointer (some ⟨b0, 0, none⟩), .slice a0_0 s3v.2.length c0_0, .int .i64 s3v.1, .pointer (some ⟨b27v, b27vo + s3v.1.toNat * 3, none⟩), .pointer (some ⟨b27v, b27vo + s3v.1.toNat * 3 + 0, none⟩), str ((s3v.2.getD s3v.1.toNat dz36).1), .pointer (some ⟨b0, 0, none⟩), .pointer (some ⟨b0, 0, none⟩), .pointer (some ⟨b0, 3, none⟩), str x0_3, .bool (decide (((s3v.2.getD s3v.1.toNat dz36).1) = x0_3))].getD i undef) (fun j γ => [[obj b0 29 [.slice a0_0 s3v.2.length c0_0, .int .i64 x0_1, .bool x0_2, str x0_3], Row 36 3 a0_0 s3v.2.length c0_0 rs17v.flatten, y4v, F]].getD j []) (fun γ => [(0, .pointer (some ⟨b0, 0, none⟩)), (1, .int .i64 x1), (4, .int .i64 s3v.1), (5, .int .i64 ((s3v.2.getD s3v.1.toNat dz36).2.2)), (35, .bool (decide (((s3v.2.getD s3v.1.toNat dz36).1) = x0_3)))]) mixed (by decide) (by decide) (by decide) (by decide) (by decide) (by decide) (by decide) 87 rfl (by decide) (by decide) (by decide) (Ent.refl _) ?_ ?_ (fun _ => ⟨rfl, rfl, rfl, rfl, rfl, trivial⟩) ?_
 exact (aq rfl (fun γ => qm rfl (.o (s := 0) rfl (by decide) .nil) rfl) (aq rfl (fun γ => qp rfl rfl (.v 0 rfl rfl .nil) (q_nil rfl rfl) rfl) (aq rfl (fun γ => qp rfl rfl (.v 1 rfl rfl .nil) (q_fa rfl rfl Try.underlying29 rfl rfl Try.sizeOf27 rfl) rfl) (aq rfl (fun γ => qp rfl rfl (.v 2 rfl rfl .nil) (q_load rfl rfl Try.isAgg27 (.obj 0 rfl rfl)) rfl) (aq rfl (fun γ => qm rfl (.o (s := 4) rfl (by decide) .nil) rfl) (aq rfl (fun γ => qp rfl rfl (.v 3 rfl rfl (.v 4 rfl rfl .nil)) (q_idx rfl rfl rfl ha28v Try.underlying27 Try.sizeOf36 hi26v.1 hi26v.2) rfl) (aq rfl (fun γ => qp rfl rfl (.v 5 rfl rfl .nil) (q_fa rfl rfl Try.underlying36 rfl rfl Try.sizeOf9 rfl) rfl) (aq rfl (fun γ => qp rfl rfl (.v 6 rfl rfl .nil) (q_load rfl rfl Try.isAgg9 (hcell33v 1 rfl 0 _ rfl)) rfl) (aq rfl (fun γ => qm rfl (.o (s := 0) rfl (by decide) .nil) rfl) (aq rfl (fun γ => qp rfl rfl (.v 8 rfl rfl .nil) (q_nil rfl rfl) rfl) (aq rfl (fun γ => qp rfl rfl (.v 9 rfl rfl .nil) (q_fa rfl rfl Try.underlying29 rfl rfl Try.sizeOf9 rfl) rfl) (aq rfl (fun γ => qp rfl rfl (.v 10 rfl rfl .nil) (q_load rfl rfl Try.isAgg9 (.obj 0 rfl rfl)) rfl) (aq rfl (fun γ => qp rfl rfl (.v 7 rfl rfl (.v 11 rfl rfl .nil)) (q_eqs rfl rfl rfl) rfl) zA)))))))))))))
 exact zA
 intro g39v
 refine nrm_then ?_
 refine sim_cond rfl (fun h40v => ?_) (fun h41v => ?_)
 refine sim_region ?_
 refine vm rfl rfl ?_
 refine vm rfl rfl ?_
 refine vq (q_max rfl rfl rfl) rfl ?_
 refine vm rfl rfl ?_
 refine vn rfl rfl ?_
 refine vq (q_fa rfl rfl Try.underlying29 rfl rfl Try.sizeOf27 rfl) rfl ?_
 refine vq (q_load rfl rfl Try.isAgg27 (.obj 0 rfl rfl)) rfl ?_
 refine vm rfl rfl ?_
 refine simL_ask (fun hi42v => ?_)
 refine simL_posV 1 rfl hl18v rfl (i := s3v.1.toNat) (by omega) dz36 (fun b43v b43vo r46v ha44v hV47v hlr48v hcell49v => ?_)
 obtain ⟨a50v, c51v, rfl, ⟨he52v, hc53v, hm54v⟩⟩ := hV47v
 refine vq (q_idx rfl rfl rfl ha44v Try.underlying27 Try.sizeOf36 hi42v.1 hi42v.2) rfl ?_
 refine vq (q_fa rfl rfl Try.underlying36 rfl rfl Try.sizeOf34 rfl) rfl ?_
 refine vq (q_load rfl rfl Try.isAgg34 (hcell49v 1 rfl 1 _ rfl)) rfl ?_
 refine vq (q_len rfl rfl rfl Try.underlying34) rfl ?_
 refine vm rfl rfl ?_
 refine vq (q_sub rfl rfl rfl) rfl ?_
 refine vq (q_min rfl rfl rfl) rfl ?_
 refine vq (q_add rfl rfl rfl) rfl ?_
 refine va rfl rfl (simL_nil ?_)
 exact nrm_cut (s := IntKind.i64.wrap (((s3v.2.getD s3v.1.toNat dz36).2.2) + (min (max x1 (0 : Int)) (IntKind.i64.wrap ((((s3v.2.getD s3v.1.toNat dz36).2.1).length : Int) - ((s3v.2.getD s3v.1.toNat dz36).2.2)))))) () ⟨rfl, rfl, rfl, rfl, trivial⟩ (.sel 0 rfl (.sel' 0 rfl (RowV.mk hl18v) (.sel 0 rfl (.sel 0 rfl (.nil _)))))
 refine sim_skip ?_
 exact nrm_cut (s := (s3v.2.getD s3v.1.toNat dz36).2.2) () ⟨rfl, rfl, rfl, rfl, trivial⟩ (.sel 0 rfl (.sel' 0 rfl (RowV.mk hl18v) (.sel 0 rfl (.sel 0 rfl (.nil _)))))
 intro s24v y25v
 refine sim_seq ?_
 refine sim_openV 1 rfl (fun rs55v hl56v => ?_)
 refine sim_ask (fun hi57v => ?_)
 refine sim_posV 1 rfl hl56v rfl (i := s3v.1.toNat) (by omega) dz36 (fun b58v b58vo r61v ha59v hV62v hlr63v hcell64v => ?_)
 obtain ⟨a65v, c66v, rfl, ⟨he67v, hc68v, hm69v⟩⟩ := hV62v
 refine sim_ask (fun hb70v => ?_)
 obtain ⟨a71v, c72v, hS73v, hr74v, hc75v, hm76v⟩ := slice_pre (lo := (0 : Int)) (hi := s24v) he67v hc68v hb70v
 refine sim_bind (fun s77v hs78v => ?_)
 refine sim_ask (fun hi80v => ?_)
 refine sim_posV 1 rfl hl56v rfl (i := s3v.1.toNat) (by omega) dz36 (fun b81v b81vo r84v ha82v hV85v hlr86v hcell87v => ?_)
 obtain ⟨a88v, c89v, rfl, ⟨he90v, hc91v, hm92v⟩⟩ := hV85v
 refine sim_draw (Γ := (Option Addr × Nat)) (none, 0) [[], [0], [0, 1], [0, 1, 2], [], [], [5], [5, 6], [5, 6, 7], [], [5, 6, 7, 8, 9], [5, 6, 7, 8, 9, 10], [5, 6, 7, 8, 9, 10, 11], [], [5, 6, 7, 8, 9, 10, 11, 12, 13], [5, 6, 7, 8, 9, 10, 11, 12, 13, 14], rL 16, rL 17, rL 18] [15, 18] [0, 1, 2, 3, 4, 5, 6, 7, 8, 9, 10, 11, 12, 13, 14, 16, 17] (fun i => [[0, 1], [0, 1], [0, 1], [0, 1], [0, 1], [0], [0], [0], [0], [0], [0], [0], [0], [0], [0], [], [1], [1], []].getD i []) (fun i => [[], [], [], [], [], [], [], [], [], [], [], [], [], [], [], rL 15, [], [], rL 18].getD i []) (fun γ i => [.pointer (some ⟨b0, 0, none⟩), .pointer (some ⟨b0, 0, none⟩), .pointer (some ⟨b0, 0, none⟩), .slice a0_0 s3v.2.length c0_0, .int .i64 s3v.1, .pointer (some ⟨b0, 0, none⟩), .pointer (some ⟨b0, 0, none⟩), .pointer (some ⟨b0, 0, none⟩), .slice a0_0 s3v.2.length c0_0, .int .i64 s3v.1, .pointer (some ⟨b58v, b58vo + s3v.1.toNat * 3, none⟩), .pointer (some ⟨b58v, b58vo + s3v.1.toNat * 3 + 1, none⟩), .slice a65v (((s3v.2.getD s3v.1.toNat dz36).2.1).length) c66v, .int .i64 s24v, .slice a71v ((cut ((s3v.2.getD s3v.1.toNat dz36).2.1) (0 : Int) s24v).length) c72v, .slice γ.1 s77v.length γ.2, .pointer (some ⟨b81v, b81vo + s3v.1.toNat * 3, none⟩), .pointer (some ⟨b81v, b81vo + s3v.1.toNat * 3 + 1, none⟩), undef].getD i undef) (fun j γ => [[obj b0 29 [.slice a0_0 s3v.2.length c0_0, .int .i64 x0_1, .bool x0_2, str x0_3], Row 36 3 a0_0 s3v.2.length c0_0 rs55v.flatten, y4v, F], [Row 5 1 γ.1 s77v.length γ.2 (encB s77v), obj b0 29 [.slice a0_0 s3v.2.length c0_0, .int .i64 x0_1, .bool x0_2, str x0_3], Row 36 3 a0_0 s3v.2.length c0_0 rs55v.flatten, y4v, F], [stars [Row 5 1 γ.1 s77v.length γ.2 (encB s77v), y4v], obj b0 29 [.slice a0_0 ((s3v.2.set s3v.1.toNat ((s3v.2.getD s3v.1.toNat dz36).1, s77v, (s3v.2.getD s3v.1.toNat dz36).2.2)).length) c0_0, .int .i64 x0_1, .bool x0_2, str x0_3], RowV 36 3 (V36 (stars [Row 5 1 γ.1 s77v.length γ.2 (encB s77v), y4v])) a0_0 (s3v.2.set s3v.1.toNat ((s3v.2.getD s3v.1.toNat dz36).1, s77v, (s3v.2.getD s3v.1.toNat dz36).2.2)) c0_0, F]].getD j []) (fun γ => [(0, .pointer (some ⟨b0, 0, none⟩)), (1, .int .i64 x1), (4, .int .i64 s3v.1), (5, .int .i64 s24v)]) mixed (by decide) (by decide) (by decide) (by decide) (by decide) (by decide) (by decide) 87 rfl (by decide) (by decide) (by decide) (Ent.refl _) ?_ ?_ (fun _ => ⟨rfl, rfl, rfl, rfl, trivial⟩) ?_
 exact (ac (fun γ => (ac (qm rfl (.o (s := 0) rfl (by decide) .nil) rfl) (ac (qm rfl (.o (s := 0) rfl (by decide) .nil) rfl) zA))) (ac (fun γ => (ac (qp rfl rfl (.v 0 rfl rfl .nil) (q_nil rfl rfl) rfl) (ac (qp rfl rfl (.v 0 rfl rfl .nil) (q_nil rfl rfl) rfl) zA))) (ac (fun γ => (ac (qp rfl rfl (.v 1 rfl rfl .nil) (q_fa rfl rfl Try.underlying29 rfl rfl Try.sizeOf27 rfl) rfl) (ac (qp rfl rfl (.v 1 rfl rfl .nil) (q_fa rfl rfl Try.underlying29 rfl rfl Try.sizeOf27 rfl) rfl) zA))) (ac (fun γ => (ac (qp rfl rfl (.v 2 rfl rfl .nil) (q_load rfl rfl Try.isAgg27 (.obj 0 rfl rfl)) rfl) (ac (qp rfl rfl (.v 2 rfl rfl .nil) (q_load rfl rfl Try.isAgg27 (.obj 1 rfl rfl)) rfl) zA))) (ac (fun γ => (ac (qm rfl (.o (s := 4) rfl (by decide) .nil) rfl) (ac (qm rfl (.o (s := 4) rfl (by decide) .nil) rfl) zA))) (aq rfl (fun γ => qm rfl (.o (s := 0) rfl (by decide) .nil) rfl) (aq rfl (fun γ => qp rfl rfl (.v 5 rfl rfl .nil) (q_nil rfl rfl) rfl) (aq rfl (fun γ => qp rfl rfl (.v 6 rfl rfl .nil) (q_fa rfl rfl Try.underlying29 rfl rfl Try.sizeOf27 rfl) rfl) (aq rfl (fun γ => qp rfl rfl (.v 7 rfl rfl .nil) (q_load rfl rfl Try.isAgg27 (.obj 0 rfl rfl)) rfl) (aq rfl (fun γ => qm rfl (.o (s := 4) rfl (by decide) .nil) rfl) (aq rfl (fun γ => qp rfl rfl (.v 8 rfl rfl (.v 9 rfl rfl .nil)) (q_idx rfl rfl rfl ha59v Try.underlying27 Try.sizeOf36 hi57v.1 hi57v.2) rfl) (aq rfl (fun γ => qp rfl rfl (.v 10 rfl rfl .nil) (q_fa rfl rfl Try.underlying36 rfl rfl Try.sizeOf34 rfl) rfl) (aq rfl (fun γ => qp rfl rfl (.v 11 rfl rfl .nil) (q_load rfl rfl Try.isAgg34 (hcell64v 1 rfl 1 _ rfl)) rfl) (aq rfl (fun γ => qm rfl (.o (s := 5) rfl (by decide) .nil) rfl) (aq rfl (fun γ => qp rfl rfl (.v 12 rfl rfl (.v 13 rfl rfl .nil)) (q_sub_ro (l := ((s3v.2.getD s3v.1.toNat dz36).2.1)) (lo' := (0 : Int)) (hi' := s24v) rfl rfl rfl rfl Try.underlying34 Try.sizeOf5 (.inr ⟨_, rfl⟩) (.inl ⟨rfl, rfl⟩) hb70v hc68v hS73v) rfl) (aq rfl (fun γ => qp rfl rfl (.v 3 rfl rfl (.v 4 rfl rfl .nil)) (q_idx rfl rfl rfl ha82v Try.underlying27 Try.sizeOf36 hi80v.1 hi80v.2) rfl) (aq rfl (fun γ => qp rfl rfl (.v 16 rfl rfl .nil) (q_fa rfl rfl Try.underlying36 rfl rfl Try.sizeOf34 rfl) rfl) zA)))))))))))))))))
 exact (ac (fun γ => eo (Z := Option Addr × Nat) (fun z => z) rfl rfl (.v 14 rfl rfl .nil) (re_call (vs := [.slice a71v ((cut ((s3v.2.getD s3v.1.toNat dz36).2.1) (0 : Int) s24v).length) c72v]) (cap := []) (A := []) (rst := [obj b0 29 [.slice a0_0 s3v.2.length c0_0, .int .i64 x0_1, .bool x0_2, str x0_3], Row 36 3 a0_0 s3v.2.length c0_0 rs55v.flatten, y4v, F]) rfl rfl rfl rfl rfl rfl Try.call40 (.sel 0 rfl (.sel 0 rfl (.sel 0 rfl (.sel 0 rfl (.nil _))))) (synodref_Bytes.calls _ _ a71v c72v (cut ((s3v.2.getD s3v.1.toNat dz36).2.1) (0 : Int) s24v) (hr74v.lend 2 rfl) hc75v (Nat.le_trans hm76v hm69v)) hs78v) (fun _ => ⟨rfl, rfl, rfl, rfl, rfl, rfl, rfl, rfl, rfl, rfl, rfl, rfl, rfl, rfl, rfl, trivial⟩) (fun _ => .inr rfl) (fun z => Ent.refl _)) (ac (fun γ => eo (Z := Unit) (fun z => γ) rfl rfl (.v 15 rfl rfl (.v 17 rfl rfl .nil)) (RE.lend 0 rfl (fun hq93v hq94v hq95v hq96v => RE.ent (H1 := [stars [Row 5 1 γ.1 s77v.length γ.2 (encB s77v), y4v], obj b0 29 [.slice a0_0 s3v.2.length c0_0, .int .i64 x0_1, .bool x0_2, str x0_3], Row 36 3 a0_0 s3v.2.length c0_0 rs55v.flatten, F]) (Ent.trans (m := [Row 5 1 γ.1 s77v.length γ.2 (encB s77v), y4v, obj b0 29 [.slice a0_0 s3v.2.length c0_0, .int .i64 x0_1, .bool x0_2, str x0_3], Row 36 3 a0_0 s3v.2.length c0_0 rs55v.flatten, F]) (.sel 0 rfl (.sel 2 rfl (.sel 0 rfl (.sel 0 rfl (.sel 0 rfl (.nil _)))))) (ent_pack [Row 5 1 γ.1 s77v.length γ.2 (encB s77v), y4v] _)) (re_storeV (V := (V36 (stars [Row 5 1 γ.1 s77v.length γ.2 (encB s77v), y4v]))) ((s3v.2.getD s3v.1.toNat dz36).1, s77v, (s3v.2.getD s3v.1.toNat dz36).2.2) 1 dz36 2 rfl rfl rfl Try.sizeOf34 rfl rfl (one_of (by rfl)) rfl (hl56v.mono (V36.up (Up.lend (l := [Row 5 1 γ.1 s77v.length γ.2 (encB s77v), y4v]) 1 rfl))) ha82v (by omega) rfl (fun r hr _ _ => by obtain ⟨a1', c1', rfl, h1'⟩ := hr; exact ⟨γ.1, γ.2, rfl, ⟨(Rd.lend (l := [Row 5 1 γ.1 s77v.length γ.2 (encB s77v), y4v]) hq93v 0 rfl), hq94v, hq95v⟩⟩)))) (fun _ => ⟨rfl, rfl, rfl, rfl, rfl, rfl, rfl, rfl, rfl, rfl, rfl, rfl, rfl, rfl, rfl, rfl, rfl, rfl, trivial⟩) (fun _ => .inl rfl) (fun z => ent_eq ((rfl : _ = [stars [Row 5 1 γ.1 s77v.length γ.2 (encB s77v), y4v], obj b0 29 [.slice a0_0 s3v.2.length c0_0, .int .i64 x0_1, .bool x0_2, str x0_3], RowV 36 3 (V36 (stars [Row 5 1 γ.1 s77v.length γ.2 (encB s77v), y4v])) a0_0 (s3v.2.set s3v.1.toNat ((s3v.2.getD s3v.1.toNat dz36).1, s77v, (s3v.2.getD s3v.1.toNat dz36).2.2)) c0_0, F]).trans ((by simp only [List.length_set, copyB_length] : [stars [Row 5 1 γ.1 s77v.length γ.2 (encB s77v), y4v], obj b0 29 [.slice a0_0 s3v.2.length c0_0, .int .i64 x0_1, .bool x0_2, str x0_3], RowV 36 3 (V36 (stars [Row 5 1 γ.1 s77v.length γ.2 (encB s77v), y4v])) a0_0 (s3v.2.set s3v.1.toNat ((s3v.2.getD s3v.1.toNat dz36).1, s77v, (s3v.2.getD s3v.1.toNat dz36).2.2)) c0_0, F] = [stars [Row 5 1 γ.1 s77v.length γ.2 (encB s77v), y4v], obj b0 29 [.slice a0_0 ((s3v.2.set s3v.1.toNat ((s3v.2.getD s3v.1.toNat dz36).1, s77v, (s3v.2.getD s3v.1.toNat dz36).2.2)).length) c0_0, .int .i64 x0_1, .bool x0_2, str x0_3], RowV 36 3 (V36 (stars [Row 5 1 γ.1 s77v.length γ.2 (encB s77v), y4v])) a0_0 (s3v.2.set s3v.1.toNat ((s3v.2.getD s3v.1.toNat dz36).1, s77v, (s3v.2.getD s3v.1.toNat dz36).2.2)) c0_0, F]).trans rfl)))) zA))
 intro g97v
 refine nrm_then (sim_region ?_)
 refine vm rfl rfl ?_
 refine vn rfl rfl ?_
 refine vq (q_fa rfl rfl Try.underlying29 rfl rfl Try.sizeOf27 rfl) rfl ?_
 refine vq (q_load rfl rfl Try.isAgg27 (.obj 1 rfl rfl)) rfl ?_
 refine vm rfl rfl ?_
 refine vm rfl rfl ?_
 refine simL_openV 2 rfl (fun rs106v hl107v => ?_)
 refine simL_ask (fun hi98v => ?_)
 refine simL_posV 2 rfl hl107v rfl (i := s3v.1.toNat) (by omega) dz36 (fun b99v b99vo r102v ha100v hV103v hlr104v hcell105v => ?_)
 obtain ⟨a108v, c109v, rfl, ⟨he110v, hc111v, hm112v⟩⟩ := hV103v
 refine vq (q_idx rfl rfl rfl ha100v Try.underlying27 Try.sizeOf36 hi98v.1 hi98v.2) rfl ?_
 refine vq (q_fa rfl rfl Try.underlying36 rfl rfl Try.sizeOf3 rfl) rfl ?_
 refine simL_do (re_storeV (V := (V36 (stars [Row 5 1 g97v.1 s77v.length g97v.2 (encB s77v), y4v]))) (((s3v.2.set s3v.1.toNat ((s3v.2.getD s3v.1.toNat dz36).1, s77v, (s3v.2.getD s3v.1.toNat dz36).2.2)).getD s3v.1.toNat dz36).1, ((s3v.2.set s3v.1.toNat ((s3v.2.getD s3v.1.toNat dz36).1, s77v, (s3v.2.getD s3v.1.toNat dz36).2.2)).getD s3v.1.toNat dz36).2.1, s24v) 2 dz36 2 rfl rfl rfl Try.sizeOf3 rfl rfl (one_of (by rfl)) rfl hl107v ha100v (by omega) rfl (fun r hr _ _ => by obtain ⟨a1', c1', rfl, h1'⟩ := hr; exact ⟨a1', c1', rfl, h1'⟩)) rfl rfl ?_
 intro _
 refine simL_ren (.slice a0_0 (((s3v.2.set s3v.1.toNat ((s3v.2.getD s3v.1.toNat dz36).1, s77v, (s3v.2.getD s3v.1.toNat dz36).2.2)).set s3v.1.toNat (((s3v.2.set s3v.1.toNat ((s3v.2.getD s3v.1.toNat dz36).1, s77v, (s3v.2.getD s3v.1.toNat dz36).2.2)).getD s3v.1.toNat dz36).1, ((s3v.2.set s3v.1.toNat ((s3v.2.getD s3v.1.toNat dz36).1, s77v, (s3v.2.getD s3v.1.toNat dz36).2.2)).getD s3v.1.toNat dz36).2.1, s24v)).length) c0_0) (d := 73) rfl (slc_len (by simp)) ?_
 refine simL_ent (H' := [stars [Row 5 1 g97v.1 s77v.length g97v.2 (encB s77v), y4v], obj b0 29 [.slice a0_0 (((s3v.2.set s3v.1.toNat ((s3v.2.getD s3v.1.toNat dz36).1, s77v, (s3v.2.getD s3v.1.toNat dz36).2.2)).set s3v.1.toNat (((s3v.2.set s3v.1.toNat ((s3v.2.getD s3v.1.toNat dz36).1, s77v, (s3v.2.getD s3v.1.toNat dz36).2.2)).getD s3v.1.toNat dz36).1, ((s3v.2.set s3v.1.toNat ((s3v.2.getD s3v.1.toNat dz36).1, s77v, (s3v.2.getD s3v.1.toNat dz36).2.2)).getD s3v.1.toNat dz36).2.1, s24v)).length) c0_0, .int .i64 x0_1, .bool x0_2, str x0_3], RowV 36 3 (V36 (stars [Row 5 1 g97v.1 s77v.length g97v.2 (encB s77v), y4v])) a0_0 ((s3v.2.set s3v.1.toNat ((s3v.2.getD s3v.1.toNat dz36).1, s77v, (s3v.2.getD s3v.1.toNat dz36).2.2)).set s3v.1.toNat (((s3v.2.set s3v.1.toNat ((s3v.2.getD s3v.1.toNat dz36).1, s77v, (s3v.2.getD s3v.1.toNat dz36).2.2)).getD s3v.1.toNat dz36).1, ((s3v.2.set s3v.1.toNat ((s3v.2.getD s3v.1.toNat dz36).1, s77v, (s3v.2.getD s3v.1.toNat dz36).2.2)).getD s3v.1.toNat dz36).2.1, s24v)) c0_0, F]) (ent_eq ((rfl : _ = [stars [Row 5 1 g97v.1 s77v.length g97v.2 (encB s77v), y4v], obj b0 29 [.slice a0_0 ((s3v.2.set s3v.1.toNat ((s3v.2.getD s3v.1.toNat dz36).1, s77v, (s3v.2.getD s3v.1.toNat dz36).2.2)).length) c0_0, .int .i64 x0_1, .bool x0_2, str x0_3], RowV 36 3 (V36 (stars [Row 5 1 g97v.1 s77v.length g97v.2 (encB s77v), y4v])) a0_0 ((s3v.2.set s3v.1.toNat ((s3v.2.getD s3v.1.toNat dz36).1, s77v, (s3v.2.getD s3v.1.toNat dz36).2.2)).set s3v.1.toNat (((s3v.2.set s3v.1.toNat ((s3v.2.getD s3v.1.toNat dz36).1, s77v, (s3v.2.getD s3v.1.toNat dz36).2.2)).getD s3v.1.toNat dz36).1, ((s3v.2.set s3v.1.toNat ((s3v.2.getD s3v.1.toNat dz36).1, s77v, (s3v.2.getD s3v.1.toNat dz36).2.2)).getD s3v.1.toNat dz36).2.1, s24v)) c0_0, F]).trans ((by simp only [List.length_set, copyB_length] : [stars [Row 5 1 g97v.1 s77v.length g97v.2 (encB s77v), y4v], obj b0 29 [.slice a0_0 ((s3v.2.set s3v.1.toNat ((s3v.2.getD s3v.1.toNat dz36).1, s77v, (s3v.2.getD s3v.1.toNat dz36).2.2)).length) c0_0, .int .i64 x0_1, .bool x0_2, str x0_3], RowV 36 3 (V36 (stars [Row 5 1 g97v.1 s77v.length g97v.2 (encB s77v), y4v])) a0_0 ((s3v.2.set s3v.1.toNat ((s3v.2.getD s3v.1.toNat dz36).1, s77v, (s3v.2.getD s3v.1.toNat dz36).2.2)).set s3v.1.toNat (((s3v.2.set s3v.1.toNat ((s3v.2.getD s3v.1.toNat dz36).1, s77v, (s3v.2.getD s3v.1.toNat dz36).2.2)).getD s3v.1.toNat dz36).1, ((s3v.2.set s3v.1.toNat ((s3v.2.getD s3v.1.toNat dz36).1, s77v, (s3v.2.getD s3v.1.toNat dz36).2.2)).getD s3v.1.toNat dz36).2.1, s24v)) c0_0, F] = [stars [Row 5 1 g97v.1 s77v.length g97v.2 (encB s77v), y4v], obj b0 29 [.slice a0_0 (((s3v.2.set s3v.1.toNat ((s3v.2.getD s3v.1.toNat dz36).1, s77v, (s3v.2.getD s3v.1.toNat dz36).2.2)).set s3v.1.toNat (((s3v.2.set s3v.1.toNat ((s3v.2.getD s3v.1.toNat dz36).1, s77v, (s3v.2.getD s3v.1.toNat dz36).2.2)).getD s3v.1.toNat dz36).1, ((s3v.2.set s3v.1.toNat ((s3v.2.getD s3v.1.toNat dz36).1, s77v, (s3v.2.getD s3v.1.toNat dz36).2.2)).getD s3v.1.toNat dz36).2.1, s24v)).length) c0_0, .int .i64 x0_1, .bool x0_2, str x0_3], RowV 36 3 (V36 (stars [Row 5 1 g97v.1 s77v.length g97v.2 (encB s77v), y4v])) a0_0 ((s3v.2.set s3v.1.toNat ((s3v.2.getD s3v.1.toNat dz36).1, s77v, (s3v.2.getD s3v.1.toNat dz36).2.2)).set s3v.1.toNat (((s3v.2.set s3v.1.toNat ((s3v.2.getD s3v.1.toNat dz36).1, s77v, (s3v.2.getD s3v.1.toNat dz36).2.2)).getD s3v.1.toNat dz36).1, ((s3v.2.set s3v.1.toNat ((s3v.2.getD s3v.1.toNat dz36).1, s77v, (s3v.2.getD s3v.1.toNat dz36).2.2)).getD s3v.1.toNat dz36).2.1, s24v)) c0_0, F]).trans rfl))) ?_
 refine simL_nil (nrm_block (nrm_then (sim_region ?_)))
 refine vm rfl rfl ?_
 refine vq (q_add rfl rfl rfl) rfl ?_
 refine va rfl rfl (simL_nil ?_)
 exact nrm_again (s := (IntKind.i64.wrap (s3v.1 + 1), (s3v.2.set s3v.1.toNat ((s3v.2.getD s3v.1.toNat dz36).1, s77v, (s3v.2.getD s3v.1.toNat dz36).2.2)).set s3v.1.toNat (((s3v.2.set s3v.1.toNat ((s3v.2.getD s3v.1.toNat dz36).1, s77v, (s3v.2.getD s3v.1.toNat dz36).2.2)).getD s3v.1.toNat dz36).1, ((s3v.2.set s3v.1.toNat ((s3v.2.getD s3v.1.toNat dz36).1, s77v, (s3v.2.getD s3v.1.toNat dz36).2.2)).getD s3v.1.toNat dz36).2.1, s24v))) (stars [Row 5 1 g97v.1 s77v.length g97v.2 (encB s77v), y4v]) ⟨rfl, rfl, rfl, trivial⟩ (.sel 1 rfl (.sel 1 rfl (.sel 0 rfl (.sel 0 rfl (.nil _)))))
 refine sim_exi ?_
 refine exi_then ?_
 refine exi_loop ?_
 refine exi_here ?_
 exact nrm_cut (s := s3v.2) y4v ⟨rfl, trivial⟩ (.sel 0 rfl (.sel 0 rfl (.sel 0 rfl (.sel 0 rfl (.nil _)))))
 intro s1v y2v
 refine sr ?_
 refine vm rfl rfl ?_
 refine vn rfl rfl ?_
 refine vq (q_fa rfl rfl Try.underlying29 rfl rfl Try.sizeOf3 rfl) rfl ?_
 refine simL_do (re_store 0 rfl rfl rfl Try.sizeOf3 rfl rfl (one_of (by rfl)) rfl rfl) rfl rfl ?_
 intro _
 refine nx ?_
 refine vm rfl rfl ?_
 refine vn rfl rfl ?_
 refine vq (q_fa rfl rfl Try.underlying29 rfl rfl Try.sizeOf4 rfl) rfl ?_
 refine simL_do (re_store 0 rfl rfl rfl Try.sizeOf4 rfl rfl (one_of (by rfl)) rfl rfl) rfl rfl ?_
 intro _
 refine ny ?_
 refine vm rfl rfl ?_
 refine vn rfl rfl ?_
 refine vq (q_fa rfl rfl Try.underlying29 rfl rfl Try.sizeOf9 rfl) rfl ?_
 refine simL_do (re_store 0 rfl rfl rfl Try.sizeOf9 rfl rfl (one_of (by rfl)) rfl rfl) rfl rfl ?_
 intro _
 refine simL_nil ?_
 exact nrm_fn (a0_0, c0_0, y2v) rfl rfl rfl (.sel 0 rfl (.sel 0 rfl (.sel 0 rfl (.sel 0 rfl (.nil _)))))

def disk_Disk_Read.f (x0_0 : List ((List UInt8) × (List UInt8 × Int))) (x0_1 : List UInt8) (x0_2 : Int) (x0_3 : Bool) (x1 : List UInt8) : Option (List UInt8 × Int) := if (mget x0_0 x1).isSome = true then ((disk_fresh.f (((mget x0_0 x1).getD (([] : List UInt8), (0 : Int))).1)).bind fun s7v => (some (s7v, 0))) else (some (([] : List UInt8), 8))
theorem disk_Disk_Read.calls (W : World) (F : HA) (b0 : Nat) (m0_0 : Nat) (q0_0 : Kps) (x0_0 : List ((List UInt8) × (List UInt8 × Int))) (x0_1 : List UInt8) (x0_2 : Int) (x0_3 : Bool) (x1 : List UInt8)  :
    Fn Try.prog W 55 [.pointer (some ⟨b0, 0, none⟩), str x1] [obj b0 64 [.map (some m0_0), str x0_1, .int .i64 x0_2, .bool x0_3], mapF (mapO m0_0 enc9 encP q0_0) FA68 q0_0 x0_0] F (disk_Disk_Read.f x0_0 x0_1 x0_2 x0_3 x1) (fun (r : List UInt8 × Int) (y : Option Addr × Nat) => .tuple #[.slice y.1 r.1.length y.2, .int .i64 r.2]) (fun r y => [Row 5 1 y.1 r.1.length y.2 (encB r.1), obj b0 64 [.map (some m0_0), str x0_1, .int .i64 x0_2, .bool x0_3], mapF (mapO m0_0 enc9 encP q0_0) FA68 q0_0 x0_0]) := by
 unfold disk_Disk_Read.f
 refine fn_intro 20 Try.func55 rfl Try.ntmps55 rfl ?_
 refine sr ?_
 refine va rfl rfl ?_
 refine va rfl rfl (simL_nil (nrm_then (sim_seq ?_)))
 refine sim_if (fun hk1v => ?_) (fun hk1v => ?_)
 refine sim_region ?_
 refine vm rfl rfl ?_
 refine vn rfl rfl ?_
 refine vq (q_fa rfl rfl Try.underlying64 rfl rfl Try.sizeOf62 rfl) rfl ?_
 refine vq (q_load rfl rfl Try.isAgg62 (.obj 0 rfl rfl)) rfl ?_
 refine vm rfl rfl ?_
 refine vq ((q_mlookY (ek := enc9) x1 (tellsF 1 rfl) hk1v rfl rfl rfl Try.underlying62 key9 : RQ _ _ _ _ (.pointer (some ⟨(fptr q0_0 x1), 0, none⟩)))) rfl ?_
 refine va rfl rfl (simL_nil (nrm_then (sim_seq (sr ?_))))
 refine vm rfl rfl ?_
 refine vq (q_eqp rfl rfl rfl Try.underlying66) rfl (simL_nil (nrm_then ?_))
 refine sim_false rfl ?_
 refine sim_skip ?_
 refine nrm_then (sim_seq ?_)
 refine sim_openF (v := ((mget x0_0 x1).getD (([] : List UInt8), (0 : Int)))) 1 rfl (getD_some hk1v) (fun y2v => ?_)
 refine sim_ent (H' := [obj (fptr q0_0 x1) 68 [.slice y2v.1 ((((mget x0_0 x1).getD (([] : List UInt8), (0 : Int))).1).length) y2v.2, .int .i64 (((mget x0_0 x1).getD (([] : List UInt8), (0 : Int))).2)], Row 5 1 y2v.1 (((mget x0_0 x1).getD (([] : List UInt8), (0 : Int))).1).length y2v.2 (encB (((mget x0_0 x1).getD (([] : List UInt8), (0 : Int))).1)), mapH (mapO m0_0 enc9 encP q0_0) FA68 q0_0 x0_0 x1, obj b0 64 [.map (some m0_0), str x0_1, .int .i64 x0_2, .bool x0_3], F]) (Ent.refl _) ?_
 refine sim_region ?_
 refine vm rfl rfl ?_
 refine vn rfl rfl ?_
 refine vq (q_fa rfl rfl Try.underlying68 rfl rfl Try.sizeOf34 rfl) rfl ?_
 refine vq (q_load rfl rfl Try.isAgg34 (.obj 0 rfl rfl)) rfl ?_
 refine simL_bind (fun s7v hs8v => ?_)
 refine simL_lend 1 rfl (fun hq3v hq4v hq5v hq6v => ?_)
 refine simL_eff (re_call (vs := [.slice y2v.1 ((((mget x0_0 x1).getD (([] : List UInt8), (0 : Int))).1).length) y2v.2]) (cap := []) (A := []) (rst := [obj (fptr q0_0 x1) 68 [.slice y2v.1 ((((mget x0_0 x1).getD (([] : List UInt8), (0 : Int))).1).length) y2v.2, .int .i64 (((mget x0_0 x1).getD (([] : List UInt8), (0 : Int))).2)], Row 5 1 y2v.1 (((mget x0_0 x1).getD (([] : List UInt8), (0 : Int))).1).length y2v.2 (encB (((mget x0_0 x1).getD (([] : List UInt8), (0 : Int))).1)), mapH (mapO m0_0 enc9 encP q0_0) FA68 q0_0 x0_0 x1, obj b0 64 [.map (some m0_0), str x0_1, .int .i64 x0_2, .bool x0_3], F]) rfl rfl rfl rfl rfl rfl Try.call43 (.sel 0 rfl (.sel 0 rfl (.sel 0 rfl (.sel 0 rfl (.sel 0 rfl (.nil _)))))) (disk_fresh.calls _ _ y2v.1 y2v.2 (((mget x0_0 x1).getD (([] : List UInt8), (0 : Int))).1) (hq3v.lend 1 rfl) hq4v hq5v) hs8v) rfl rfl rfl ?_
 intro y9v
 refine va rfl rfl ?_
 refine va rfl rfl (simL_nil (nrm_then (sim_rtn ?_)))
 exact rtn_fn (y9v.1, y9v.2) rfl rfl rfl (.sel 0 rfl (.sel 3 rfl (.foldF0 (x := x1) (p := (fptr q0_0 x1)) (v := ((mget x0_0 x1).getD (([] : List UInt8), (0 : Int)))) (y2v.1, y2v.2) rfl (getD_some hk1v) (.sel 2 rfl (.sel 0 rfl (.sel 0 rfl (.sel 0 rfl (.nil _))))))))
 refine sim_region ?_
 refine vm rfl rfl ?_
 refine vn rfl rfl ?_
 refine vq (q_fa rfl rfl Try.underlying64 rfl rfl Try.sizeOf62 rfl) rfl ?_
 refine vq (q_load rfl rfl Try.isAgg62 (.obj 0 rfl rfl)) rfl ?_
 refine vm rfl rfl ?_
 refine vq (q_mlookN (ek := enc9) x1 (tellsF 1 rfl) (isNone_of hk1v) rfl rfl rfl Try.underlying62 key9 Try.zeroValue66) rfl ?_
 refine va rfl rfl (simL_nil (nrm_then (sim_seq (sr ?_))))
 refine vm rfl rfl ?_
 refine vq (q_eqnn rfl rfl rfl Try.underlying66) rfl (simL_nil (nrm_then ?_))
 refine sim_true rfl ?_
 refine sr ?_
 refine va rfl rfl ?_
 refine va rfl rfl (simL_nil (nrm_then (sim_rtn ?_)))
 refine rtn_then ?_
 exact rtn_fn (none, 0) rfl rfl rfl (.row_nil (.sel 0 rfl (.sel 0 rfl (.sel 0 rfl (.nil _)))))

def synodref4_Disk_Read.f (k : Nat) (x0_0 : List (Ty36)) (x0_1 : Int) (x0_2 : Bool) (x0_3 : List UInt8) (x1 : List UInt8) : Option (List UInt8 × Int) := (synodref4_Disk_at.f k x0_0 x0_1 x0_2 x0_3 x1).bind fun s1v => (if s1v < (0 : Int) then (some (([] : List UInt8), 8)) else (if 0 ≤ s1v ∧ s1v < (x0_0.length : Int) then ((synodref_Bytes.f ((x0_0.getD s1v.toNat dz36).2.1)).bind fun s19v => (some (s19v, 0))) else none))
theorem synodref4_Disk_Read.calls (W : World) (F : HA) (k : Nat) (b0 : Nat) (a0_0 : Option Addr) (c0_0 : Nat) (x0_0 : List (Ty36)) (x0_1 : Int) (x0_2 : Bool) (x0_3 : List UInt8) (x1 : List UInt8) (h0_0 : RdV F 3 (V36 F) a0_0 x0_0) (hc0_0 : x0_0.length ≤ c0_0) (hm0_0 : c0_0 ≤ maxLen) :
    Fn Try.prog W 56 [.pointer (some ⟨b0, 0, none⟩), str x1] [obj b0 29 [.slice a0_0 x0_0.length c0_0, .int .i64 x0_1, .bool x0_2, str x0_3]] F (synodref4_Disk_Read.f k x0_0 x0_1 x0_2 x0_3 x1) (fun (r : List UInt8 × Int) (y : Option Addr × Nat) => .tuple #[.slice y.1 r.1.length y.2, .int .i64 r.2]) (fun r y => [Row 5 1 y.1 r.1.length y.2 (encB r.1), obj b0 29 [.slice a0_0 x0_0.length c0_0, .int .i64 x0_1, .bool x0_2, str x0_3]]) := by
 unfold synodref4_Disk_Read.f
 refine fn_intro 21 Try.func56 rfl Try.ntmps56 rfl ?_
 refine sr ?_
 refine va rfl rfl ?_
 refine va rfl rfl (nx ?_)
 refine vm rfl rfl ?_
 refine vm rfl rfl ?_
 refine simL_bind (fun s1v hs2v => ?_)
 refine simL_eff (re_call (vs := [.pointer (some ⟨b0, 0, none⟩), str x1]) (cap := []) (A := [obj b0 29 [.slice a0_0 x0_0.length c0_0, .int .i64 x0_1, .bool x0_2, str x0_3]]) (rst := [F]) rfl rfl rfl rfl rfl rfl Try.call37 (.sel 0 rfl (.sel 0 rfl (.nil _))) (synodref4_Disk_at.calls _ _ k b0 a0_0 c0_0 x0_0 x0_1 x0_2 x0_3 x1 (h0_0.up (Up.lend 0 rfl) (V36.up (Up.lend 0 rfl))) hc0_0 hm0_0) hs2v) rfl rfl rfl ?_
 intro y3v
 refine va rfl rfl (simL_nil (nrm_then (sim_seq (sr ?_))))
 refine vm rfl rfl ?_
 refine vq (q_lss rfl rfl rfl) rfl (simL_nil (nrm_then ?_))
 refine sim_cond rfl (fun h4v => ?_) (fun h5v => ?_)
 refine sr ?_
 refine va rfl rfl ?_
 refine va rfl rfl (simL_nil (nrm_then (sim_rtn ?_)))
 refine rtn_then ?_
 exact rtn_fn (none, 0) rfl rfl rfl (.row_nil (.sel 0 rfl (.sel 0 rfl (.nil _))))
 refine sim_skip ?_
 refine nrm_then (sr ?_)
 refine vm rfl rfl ?_
 refine vn rfl rfl ?_
 refine vq (q_fa rfl rfl Try.underlying29 rfl rfl Try.sizeOf27 rfl) rfl ?_
 refine vq (q_load rfl rfl Try.isAgg27 (.obj 0 rfl rfl)) rfl ?_
 refine vm rfl rfl ?_
 refine simL_ask (fun hi6v => ?_)
 obtain ⟨b7v, b7vo, r10v, ha8v, hV11v, hlr12v, hcell13v⟩ := RdV.pos h0_0 (Up.refl _) rfl (i := s1v.toNat) (by omega) dz36
 obtain ⟨a14v, c15v, rfl, ⟨he16v, hc17v, hm18v⟩⟩ := hV11v
 refine vq (q_idx rfl rfl rfl ha8v Try.underlying27 Try.sizeOf36 hi6v.1 hi6v.2) rfl ?_
 refine vq (q_fa rfl rfl Try.underlying36 rfl rfl Try.sizeOf34 rfl) rfl ?_
 refine vq (q_load rfl rfl Try.isAgg34 (hcell13v 1 rfl 1 _ rfl)) rfl ?_
 refine simL_bind (fun s19v hs20v => ?_)
 refine simL_eff (re_call (vs := [.slice a14v (((x0_0.getD s1v.toNat dz36).2.1).length) c15v]) (cap := []) (A := []) (rst := [obj b0 29 [.slice a0_0 x0_0.length c0_0, .int .i64 x0_1, .bool x0_2, str x0_3], F]) rfl rfl rfl rfl rfl rfl Try.call40 (.sel 0 rfl (.sel 0 rfl (.nil _))) (synodref_Bytes.calls _ _ a14v c15v ((x0_0.getD s1v.toNat dz36).2.1) (he16v.lend 1 rfl) hc17v hm18v) hs20v) rfl rfl rfl ?_
 intro y21v
 refine va rfl rfl ?_
 refine va rfl rfl (simL_nil (nrm_then (sim_rtn ?_)))
 exact rtn_fn (y21v.1, y21v.2) rfl rfl rfl (.sel 0 rfl (.sel 0 rfl (.sel 0 rfl (.nil _))))
end Go.Proofs.Ytkkbgcocpkipjaa

/- Printed by gen.py: pure functions and the proofs that the Go functions simulate them. Conditions: as each theorem says. -/
import Derived.Test.YtkkbgcocpkipjaaG1
namespace Go.Proofs.Ytkkbgcocpkipjaa
open Go.RowKit
set_option linter.unusedVariables false
set_option linter.unusedSimpArgs false
set_option maxRecDepth 20000
set_option maxHeartbeats 20000000
def synodref4_Disk_Append.f (k : Nat) (x0_0 : List (Ty36)) (x0_1 : Int) (x0_2 : Bool) (x0_3 : List UInt8) (x1 : List UInt8) (x2 : List UInt8) : Option (Int × (List (Ty36)) × Int × Bool × List UInt8) := if x0_2 = true then (some (11, x0_0, x0_1, x0_2, x0_3)) else ((synodref4_Disk_at.f k x0_0 x0_1 x0_2 x0_3 x1).bind fun s9v => (if s9v < (0 : Int) then (some (8, x0_0, x0_1, x0_2, x0_3)) else ((synodref4_Disk_Size.f k x0_0 x0_1 x0_2 x0_3).bind fun s18v => (if IntKind.i64.wrap (16777216 - s18v) < (x2.length : Int) then (some (10, x0_0, x0_1, x0_2, x0_3)) else ((synodref4_Disk_fails.f x0_0 x0_1 x0_2 x1).bind fun s27v => (if s27v.1 = true then (if 0 ≤ s9v ∧ s9v < (x0_0.length : Int) then ((synodref_Bytes.f ((x0_0.getD s9v.toNat dz36).2.1)).bind fun s45v => (if 0 ≤ (0 : Int) ∧ (0 : Int) ≤ IntKind.i64.wrap (Int.tdiv (x2.length : Int) 2) ∧ IntKind.i64.wrap (Int.tdiv (x2.length : Int) 2) ≤ (x2.length : Int) then (if (s45v.length + (cut x2 (0 : Int) (IntKind.i64.wrap (Int.tdiv (x2.length : Int) 2))).length) * 1 ≤ 140737488355328 then (if 0 ≤ s9v ∧ s9v < (x0_0.length : Int) then (some (11, x0_0.set s9v.toNat ((x0_0.getD s9v.toNat dz36).1, s45v ++ (cut x2 (0 : Int) (IntKind.i64.wrap (Int.tdiv (x2.length : Int) 2))), (x0_0.getD s9v.toNat dz36).2.2), s27v.2.1, s27v.2.2.1, s27v.2.2.2)) else none) else none) else none)) else none) else (if 0 ≤ s9v ∧ s9v < (x0_0.length : Int) then ((synodref_Bytes.f ((x0_0.getD s9v.toNat dz36).2.1)).bind fun s89v => (if (s89v.length + x2.length) * 1 ≤ 140737488355328 then (if 0 ≤ s9v ∧ s9v < (x0_0.length : Int) then (some (0, x0_0.set s9v.toNat ((x0_0.getD s9v.toNat dz36).1, s89v ++ x2, (x0_0.getD s9v.toNat dz36).2.2), s27v.2.1, s27v.2.2.1, s27v.2.2.2)) else none) else none)) else none)))))))
theorem synodref4_Disk_Append.calls (W : World) (F : HA) (k : Nat) (b0 : Nat) (a0_0 : Option Addr) (c0_0 : Nat) (x0_0 : List (Ty36)) (z0_0 : HA) (x0_1 : Int) (x0_2 : Bool) (x0_3 : List UInt8) (x1 : List UInt8) (a2 : Option Addr) (c2 : Nat) (x2 : List UInt8) (h2 : Rd F a2 (encB x2)) (hc2 : x2.length ≤ c2) (hm2 : c2 ≤ maxLen) :
    Fn Try.prog W 15 [.pointer (some ⟨b0, 0, none⟩), str x1, .slice a2 x2.length c2] [obj b0 29 [.slice a0_0 x0_0.length c0_0, .int .i64 x0_1, .bool x0_2, str x0_3], RowV 36 3 (V36 z0_0) a0_0 x0_0 c0_0, z0_0] F (synodref4_Disk_Append.f k x0_0 x0_1 x0_2 x0_3 x1 x2) (fun (r : Int × (List (Ty36)) × Int × Bool × List UInt8) (y : Option Addr × Nat × HA) => .int .i64 r.1) (fun r y => [obj b0 29 [.slice y.1 r.2.1.length y.2.1, .int .i64 r.2.2.1, .bool r.2.2.2.1, str r.2.2.2.2], RowV 36 3 (V36 (y.2.2)) y.1 r.2.1 y.2.1, y.2.2]) := by
 unfold synodref4_Disk_Append.f
 refine fn_intro 69 Try.func15 rfl Try.ntmps15 rfl ?_
 refine sr ?_
 refine va rfl rfl (simL_nil (nrm_then (sim_seq (sr ?_))))
 refine vm rfl rfl ?_
 refine vn rfl rfl ?_
 refine vq (q_fa rfl rfl Try.underlying29 rfl rfl Try.sizeOf4 rfl) rfl ?_
 refine vq (q_load rfl rfl Try.isAgg4 (.obj 0 rfl rfl)) rfl (simL_nil (nrm_then ?_))
 refine sim_condb rfl (fun h1v => ?_) (fun h2v => ?_)
 refine sr ?_
 refine va rfl rfl (simL_nil (nrm_then (sim_rtn ?_)))
 refine rtn_then ?_
 exact rtn_fn (a0_0, c0_0, z0_0) rfl rfl rfl (.sel 0 rfl (.sel 0 rfl (.sel 0 rfl (.sel 0 rfl (.nil _)))))
 refine sim_skip ?_
 refine nrm_then (sr ?_)
 refine vm rfl rfl ?_
 refine vm rfl rfl ?_
 refine simL_openV 1 rfl (fun rs3v hl4v => ?_)
 refine simL_bind (fun s9v hs10v => ?_)
 refine simL_lend 1 rfl (fun hq5v hq6v hq7v hq8v => ?_)
 refine simL_eff (re_call (vs := [.pointer (some ⟨b0, 0, none⟩), str x1]) (cap := []) (A := [obj b0 29 [.slice a0_0 x0_0.length c0_0, .int .i64 x0_1, .bool x0_2, str x0_3]]) (rst := [Row 36 3 a0_0 x0_0.length c0_0 rs3v.flatten, z0_0, F]) rfl rfl rfl rfl rfl rfl Try.call37 (.sel 0 rfl (.sel 0 rfl (.sel 0 rfl (.sel 0 rfl (.nil _))))) (synodref4_Disk_at.calls _ _ k b0 a0_0 c0_0 x0_0 x0_1 x0_2 x0_3 x1 ((Rd.asV hl4v hq5v).up (Up.lend 0 rfl) (V36.up (Up.lend 1 rfl))) hq6v hq7v) hs10v) rfl rfl rfl ?_
 intro y11v
 refine va rfl rfl (simL_nil (nrm_then (sim_seq (sr ?_))))
 refine vm rfl rfl ?_
 refine vq (q_lss rfl rfl rfl) rfl (simL_nil (nrm_then ?_))
 refine sim_cond rfl (fun h12v => ?_) (fun h13v => ?_)
 refine sr ?_
 refine va rfl rfl (simL_nil (nrm_then (sim_rtn ?_)))
 refine rtn_then ?_
 exact rtn_fn (a0_0, c0_0, z0_0) rfl rfl rfl (.sel 0 rfl (.sel' 0 rfl (RowV.mk hl4v) (.sel 0 rfl (.sel 0 rfl (.nil _)))))
 refine sim_skip ?_
 refine nrm_then (sim_seq (sr ?_))
 refine vm rfl rfl ?_
 refine vq (q_len rfl rfl rfl Try.underlying34) rfl ?_
 refine vm rfl rfl ?_
 refine simL_bind (fun s18v hs19v => ?_)
 refine simL_lend 1 rfl (fun hq14v hq15v hq16v hq17v => ?_)
 refine simL_eff (re_call (vs := [.pointer (some ⟨b0, 0, none⟩)]) (cap := []) (A := [obj b0 29 [.slice a0_0 x0_0.length c0_0, .int .i64 x0_1, .bool x0_2, str x0_3]]) (rst := [Row 36 3 a0_0 x0_0.length c0_0 rs3v.flatten, z0_0, F]) rfl rfl rfl rfl rfl rfl Try.call17 (.sel 0 rfl (.sel 0 rfl (.sel 0 rfl (.sel 0 rfl (.nil _))))) (synodref4_Disk_Size.calls _ _ k b0 a0_0 c0_0 x0_0 x0_1 x0_2 x0_3 ((Rd.asV hl4v hq14v).up (Up.lend 0 rfl) (V36.up (Up.lend 1 rfl))) hq15v hq16v) hs19v) rfl rfl rfl ?_
 intro y20v
 refine vq (q_sub rfl rfl rfl) rfl ?_
 refine vq (q_gtr rfl rfl rfl) rfl (simL_nil (nrm_then ?_))
 refine sim_cond rfl (fun h21v => ?_) (fun h22v => ?_)
 refine sr ?_
 refine va rfl rfl (simL_nil (nrm_then (sim_rtn ?_)))
 refine rtn_then ?_
 exact rtn_fn (a0_0, c0_0, z0_0) rfl rfl rfl (.sel 0 rfl (.sel' 0 rfl (RowV.mk hl4v) (.sel 0 rfl (.sel 0 rfl (.nil _)))))
 refine sim_skip ?_
 refine nrm_then (sr ?_)
 refine vm rfl rfl ?_
 refine vm rfl rfl ?_
 refine vn rfl rfl ?_
 refine vq (q_fa rfl rfl Try.underlying29 rfl rfl Try.sizeOf9 rfl) rfl ?_
 refine simL_do (re_store 0 rfl rfl rfl Try.sizeOf9 rfl rfl (one_of (by rfl)) rfl rfl) rfl rfl ?_
 intro _
 refine simL_nil (nrm_then (sim_seq (sr ?_)))
 refine vm rfl rfl ?_
 refine simL_bind (fun s27v hs28v => ?_)
 refine simL_lend 1 rfl (fun hq23v hq24v hq25v hq26v => ?_)
 refine simL_eff (re_call (vs := [.pointer (some ⟨b0, 0, none⟩)]) (cap := []) (A := [obj b0 29 [.slice a0_0 x0_0.length c0_0, .int .i64 x0_1, .bool x0_2, str x1]]) (rst := [Row 36 3 a0_0 x0_0.length c0_0 rs3v.flatten, z0_0, F]) rfl rfl rfl rfl rfl rfl Try.call38 (.sel 0 rfl (.sel 0 rfl (.sel 0 rfl (.sel 0 rfl (.nil _))))) (synodref4_Disk_fails.calls _ _ b0 a0_0 c0_0 x0_0 x0_1 x0_2 x1 ((Rd.asV hl4v hq23v).up (Up.lend 0 rfl) (V36.up (Up.lend 1 rfl))) hq24v hq25v) hs28v) rfl rfl rfl ?_
 intro y29v
 refine simL_nil (nrm_then ?_)
 refine sim_condb rfl (fun h30v => ?_) (fun h31v => ?_)
 refine sim_seq ?_
 refine sim_ask (fun hi32v => ?_)
 refine sim_posV 1 rfl hl4v rfl (i := s9v.toNat) (by omega) dz36 (fun b33v b33vo r36v ha34v hV37v hlr38v hcell39v => ?_)
 obtain ⟨a40v, c41v, rfl, ⟨he42v, hc43v, hm44v⟩⟩ := hV37v
 refine sim_bind (fun s45v hs46v => ?_)
 refine sim_ask (fun hb49v => ?_)
 obtain ⟨a50v, c51v, hS52v, hr53v, hc54v, hm55v⟩ := slice_pre (lo := (0 : Int)) (hi := IntKind.i64.wrap (Int.tdiv (x2.length : Int) 2)) h2 hc2 hb49v
 refine sim_ask (fun hb57v => ?_)
 refine sim_ask (fun hi58v => ?_)
 refine sim_posV 1 rfl hl4v rfl (i := s9v.toNat) (by omega) dz36 (fun b59v b59vo r62v ha60v hV63v hlr64v hcell65v => ?_)
 obtain ⟨a66v, c67v, rfl, ⟨he68v, hc69v, hm70v⟩⟩ := hV63v
 refine sim_draw (Γ := (Option Addr × Nat) × (Option Addr × Nat)) ((none, 0), (none, 0)) [[], [0], [0, 1], [0, 1, 2], [], [], [5], [5, 6], [5, 6, 7], [], [5, 6, 7, 8, 9], [5, 6, 7, 8, 9, 10], [5, 6, 7, 8, 9, 10, 11], [5, 6, 7, 8, 9, 10, 11, 12], [], [], [15], [15, 16], [14, 15, 16, 17], [5, 6, 7, 8, 9, 10, 11, 12, 13, 14, 15, 16, 17, 18], rL 20, rL 21, rL 22] [13, 19, 22] [0, 1, 2, 3, 4, 5, 6, 7, 8, 9, 10, 11, 12, 14, 15, 16, 17, 18, 20, 21] (fun i => [[0, 1, 2], [0, 1, 2], [0, 1, 2], [0, 1, 2], [0, 1, 2], [0], [0], [0], [0], [0], [0], [0], [0], [], [0, 1], [0, 1], [0, 1], [0, 1], [0, 1], [], [2], [2], []].getD i []) (fun i => [[], [], [], [], [], [], [], [], [], [], [], [], [], [0, 1, 2, 3, 4, 5, 6, 7, 8, 9, 10, 11, 12, 14, 15, 16, 17, 18], [], [], [], [], [], rL 19, [], [], rL 22].getD i []) (fun γ i => [.pointer (some ⟨b0, 0, none⟩), .pointer (some ⟨b0, 0, none⟩), .pointer (some ⟨b0, 0, none⟩), .slice a0_0 x0_0.length c0_0, .int .i64 s9v, .pointer (some ⟨b0, 0, none⟩), .pointer (some ⟨b0, 0, none⟩), .pointer (some ⟨b0, 0, none⟩), .slice a0_0 x0_0.length c0_0, .int .i64 s9v, .pointer (some ⟨b33v, b33vo + s9v.toNat * 3, none⟩), .pointer (some ⟨b33v, b33vo + s9v.toNat * 3 + 1, none⟩), .slice a40v (((x0_0.getD s9v.toNat dz36).2.1).length) c41v, .slice γ.1.1 s45v.length γ.1.2, .slice a2 x2.length c2, .slice a2 x2.length c2, .int .i64 (x2.length : Int), .int .i64 (IntKind.i64.wrap (Int.tdiv (x2.length : Int) 2)), .slice a50v ((cut x2 (0 : Int) (IntKind.i64.wrap (Int.tdiv (x2.length : Int) 2))).length) c51v, .slice γ.2.1 ((s45v ++ (cut x2 (0 : Int) (IntKind.i64.wrap (Int.tdiv (x2.length : Int) 2)))).length) γ.2.2, .pointer (some ⟨b59v, b59vo + s9v.toNat * 3, none⟩), .pointer (some ⟨b59v, b59vo + s9v.toNat * 3 + 1, none⟩), undef].getD i undef) (fun j γ => [[obj b0 29 [.slice a0_0 x0_0.length c0_0, .int .i64 s27v.2.1, .bool s27v.2.2.1, str s27v.2.2.2], Row 36 3 a0_0 x0_0.length c0_0 rs3v.flatten, z0_0, F], [Row 5 1 γ.1.1 s45v.length γ.1.2 (encB s45v), obj b0 29 [.slice a0_0 x0_0.length c0_0, .int .i64 s27v.2.1, .bool s27v.2.2.1, str s27v.2.2.2], Row 36 3 a0_0 x0_0.length c0_0 rs3v.flatten, z0_0, F], [Row 5 1 γ.2.1 (s45v ++ (cut x2 (0 : Int) (IntKind.i64.wrap (Int.tdiv (x2.length : Int) 2)))).length γ.2.2 (encB (s45v ++ (cut x2 (0 : Int) (IntKind.i64.wrap (Int.tdiv (x2.length : Int) 2))))), obj b0 29 [.slice a0_0 x0_0.length c0_0, .int .i64 s27v.2.1, .bool s27v.2.2.1, str s27v.2.2.2], Row 36 3 a0_0 x0_0.length c0_0 rs3v.flatten, z0_0, F], [stars [Row 5 1 γ.2.1 (s45v ++ (cut x2 (0 : Int) (IntKind.i64.wrap (Int.tdiv (x2.length : Int) 2)))).length γ.2.2 (encB (s45v ++ (cut x2 (0 : Int) (IntKind.i64.wrap (Int.tdiv (x2.length : Int) 2))))), z0_0], obj b0 29 [.slice a0_0 ((x0_0.set s9v.toNat ((x0_0.getD s9v.toNat dz36).1, s45v ++ (cut x2 (0 : Int) (IntKind.i64.wrap (Int.tdiv (x2.length : Int) 2))), (x0_0.getD s9v.toNat dz36).2.2)).length) c0_0, .int .i64 s27v.2.1, .bool s27v.2.2.1, str s27v.2.2.2], RowV 36 3 (V36 (stars [Row 5 1 γ.2.1 (s45v ++ (cut x2 (0 : Int) (IntKind.i64.wrap (Int.tdiv (x2.length : Int) 2)))).length γ.2.2 (encB (s45v ++ (cut x2 (0 : Int) (IntKind.i64.wrap (Int.tdiv (x2.length : Int) 2))))), z0_0])) a0_0 (x0_0.set s9v.toNat ((x0_0.getD s9v.toNat dz36).1, s45v ++ (cut x2 (0 : Int) (IntKind.i64.wrap (Int.tdiv (x2.length : Int) 2))), (x0_0.getD s9v.toNat dz36).2.2)) c0_0, F]].getD j []) (fun γ => []) mixed (by decide) (by decide) (by decide) (by decide) (by decide) (by decide) (by decide) 69 rfl (by decide) (by decide) (by decide) (Ent.refl _) ?_ ?_ (fun _ => trivial) ?_
 exact (ac (fun γ => (ac (qm rfl (.o (s := 0) rfl (by decide) .nil) rfl) (ac (qm rfl (.o (s := 0) rfl (by decide) .nil) rfl) (ac (qm rfl (.o (s := 0) rfl (by decide) .nil) rfl) zA)))) (ac (fun γ => (ac (qp rfl rfl (.v 0 rfl rfl .nil) (q_nil rfl rfl) rfl) (ac (qp rfl rfl (.v 0 rfl rfl .nil) (q_nil rfl rfl) rfl) (ac (qp rfl rfl (.v 0 rfl rfl .nil) (q_nil rfl rfl) rfl) zA)))) (ac (fun γ => (ac (qp rfl rfl (.v 1 rfl rfl .nil) (q_fa rfl rfl Try.underlying29 rfl rfl Try.sizeOf27 rfl) rfl) (ac (qp rfl rfl (.v 1 rfl rfl .nil) (q_fa rfl rfl Try.underlying29 rfl rfl Try.sizeOf27 rfl) rfl) (ac (qp rfl rfl (.v 1 rfl rfl .nil) (q_fa rfl rfl Try.underlying29 rfl rfl Try.sizeOf27 rfl) rfl) zA)))) (ac (fun γ => (ac (qp rfl rfl (.v 2 rfl rfl .nil) (q_load rfl rfl Try.isAgg27 (.obj 0 rfl rfl)) rfl) (ac (qp rfl rfl (.v 2 rfl rfl .nil) (q_load rfl rfl Try.isAgg27 (.obj 1 rfl rfl)) rfl) (ac (qp rfl rfl (.v 2 rfl rfl .nil) (q_load rfl rfl Try.isAgg27 (.obj 1 rfl rfl)) rfl) zA)))) (ac (fun γ => (ac (qm rfl (.o (s := 7) rfl (by decide) .nil) rfl) (ac (qm rfl (.o (s := 7) rfl (by decide) .nil) rfl) (ac (qm rfl (.o (s := 7) rfl (by decide) .nil) rfl) zA)))) (aq rfl (fun γ => qm rfl (.o (s := 0) rfl (by decide) .nil) rfl) (aq rfl (fun γ => qp rfl rfl (.v 5 rfl rfl .nil) (q_nil rfl rfl) rfl) (aq rfl (fun γ => qp rfl rfl (.v 6 rfl rfl .nil) (q_fa rfl rfl Try.underlying29 rfl rfl Try.sizeOf27 rfl) rfl) (aq rfl (fun γ => qp rfl rfl (.v 7 rfl rfl .nil) (q_load rfl rfl Try.isAgg27 (.obj 0 rfl rfl)) rfl) (aq rfl (fun γ => qm rfl (.o (s := 7) rfl (by decide) .nil) rfl) (aq rfl (fun γ => qp rfl rfl (.v 8 rfl rfl (.v 9 rfl rfl .nil)) (q_idx rfl rfl rfl ha34v Try.underlying27 Try.sizeOf36 hi32v.1 hi32v.2) rfl) (aq rfl (fun γ => qp rfl rfl (.v 10 rfl rfl .nil) (q_fa rfl rfl Try.underlying36 rfl rfl Try.sizeOf34 rfl) rfl) (aq rfl (fun γ => qp rfl rfl (.v 11 rfl rfl .nil) (q_load rfl rfl Try.isAgg34 (hcell39v 1 rfl 1 _ rfl)) rfl) (ac (fun γ => (ac (qm rfl (.o (s := 2) rfl (by decide) .nil) rfl) (ac (qm rfl (.o (s := 2) rfl (by decide) .nil) rfl) zA))) (ac (fun γ => (ac (qm rfl (.o (s := 2) rfl (by decide) .nil) rfl) (ac (qm rfl (.o (s := 2) rfl (by decide) .nil) rfl) zA))) (ac (fun γ => (ac (qp rfl rfl (.v 15 rfl rfl .nil) (q_len rfl rfl rfl Try.underlying34) rfl) (ac (qp rfl rfl (.v 15 rfl rfl .nil) (q_len rfl rfl rfl Try.underlying34) rfl) zA))) (ac (fun γ => (ac (qp rfl rfl (.v 16 rfl rfl .nil) (q_quo rfl rfl rfl (by decide)) rfl) (ac (qp rfl rfl (.v 16 rfl rfl .nil) (q_quo rfl rfl rfl (by decide)) rfl) zA))) (ac (fun γ => (ac (qp rfl rfl (.v 14 rfl rfl (.v 17 rfl rfl .nil)) (q_sub_ro (l := x2) (lo' := (0 : Int)) (hi' := IntKind.i64.wrap (Int.tdiv (x2.length : Int) 2)) rfl rfl rfl rfl Try.underlying34 Try.sizeOf5 (.inr ⟨_, rfl⟩) (.inl ⟨rfl, rfl⟩) hb49v hc2 hS52v) rfl) (ac (qp rfl rfl (.v 14 rfl rfl (.v 17 rfl rfl .nil)) (q_sub_ro (l := x2) (lo' := (0 : Int)) (hi' := IntKind.i64.wrap (Int.tdiv (x2.length : Int) 2)) rfl rfl rfl rfl Try.underlying34 Try.sizeOf5 (.inr ⟨_, rfl⟩) (.inl ⟨rfl, rfl⟩) hb49v hc2 hS52v) rfl) zA))) (aq rfl (fun γ => qp rfl rfl (.v 3 rfl rfl (.v 4 rfl rfl .nil)) (q_idx rfl rfl rfl ha60v Try.underlying27 Try.sizeOf36 hi58v.1 hi58v.2) rfl) (aq rfl (fun γ => qp rfl rfl (.v 20 rfl rfl .nil) (q_fa rfl rfl Try.underlying36 rfl rfl Try.sizeOf34 rfl) rfl) zA))))))))))))))))))))
 exact (ac (fun γ => eo (Z := Option Addr × Nat) (fun z => (z, γ.2)) rfl rfl (.v 12 rfl rfl .nil) (re_call (vs := [.slice a40v (((x0_0.getD s9v.toNat dz36).2.1).length) c41v]) (cap := []) (A := []) (rst := [obj b0 29 [.slice a0_0 x0_0.length c0_0, .int .i64 s27v.2.1, .bool s27v.2.2.1, str s27v.2.2.2], Row 36 3 a0_0 x0_0.length c0_0 rs3v.flatten, z0_0, F]) rfl rfl rfl rfl rfl rfl Try.call40 (.sel 0 rfl (.sel 0 rfl (.sel 0 rfl (.sel 0 rfl (.nil _))))) (synodref_Bytes.calls _ _ a40v c41v ((x0_0.getD s9v.toNat dz36).2.1) (he42v.lend 2 rfl) hc43v hm44v) hs46v) (fun _ => ⟨rfl, rfl, rfl, rfl, rfl, rfl, rfl, rfl, rfl, rfl, rfl, rfl, rfl, rfl, rfl, rfl, rfl, rfl, trivial⟩) (fun _ => .inr rfl) (fun z => Ent.refl _)) (ac (fun γ => eo (Z := Option Addr × Nat) (fun z => (γ.1, z)) rfl rfl (.v 13 rfl rfl (.v 18 rfl rfl .nil)) (re_appendb 0 rfl rfl rfl Try.underlying34 elt5 rfl (hr53v.rds 3 rfl) hb57v) (fun _ => ⟨rfl, rfl, rfl, rfl, rfl, rfl, rfl, rfl, rfl, rfl, rfl, rfl, rfl, rfl, rfl, rfl, rfl, rfl, rfl, trivial⟩) (fun _ => .inr rfl) (fun z => Ent.refl _)) (ac (fun γ => eo (Z := Unit) (fun z => (γ.1, γ.2)) rfl rfl (.v 19 rfl rfl (.v 21 rfl rfl .nil)) (RE.lend 0 rfl (fun hq71v hq72v hq73v hq74v => RE.ent (H1 := [stars [Row 5 1 γ.2.1 (s45v ++ (cut x2 (0 : Int) (IntKind.i64.wrap (Int.tdiv (x2.length : Int) 2)))).length γ.2.2 (encB (s45v ++ (cut x2 (0 : Int) (IntKind.i64.wrap (Int.tdiv (x2.length : Int) 2))))), z0_0], obj b0 29 [.slice a0_0 x0_0.length c0_0, .int .i64 s27v.2.1, .bool s27v.2.2.1, str s27v.2.2.2], Row 36 3 a0_0 x0_0.length c0_0 rs3v.flatten, F]) (Ent.trans (m := [Row 5 1 γ.2.1 (s45v ++ (cut x2 (0 : Int) (IntKind.i64.wrap (Int.tdiv (x2.length : Int) 2)))).length γ.2.2 (encB (s45v ++ (cut x2 (0 : Int) (IntKind.i64.wrap (Int.tdiv (x2.length : Int) 2))))), z0_0, obj b0 29 [.slice a0_0 x0_0.length c0_0, .int .i64 s27v.2.1, .bool s27v.2.2.1, str s27v.2.2.2], Row 36 3 a0_0 x0_0.length c0_0 rs3v.flatten, F]) (.sel 0 rfl (.sel 2 rfl (.sel 0 rfl (.sel 0 rfl (.sel 0 rfl (.nil _)))))) (ent_pack [Row 5 1 γ.2.1 (s45v ++ (cut x2 (0 : Int) (IntKind.i64.wrap (Int.tdiv (x2.length : Int) 2)))).length γ.2.2 (encB (s45v ++ (cut x2 (0 : Int) (IntKind.i64.wrap (Int.tdiv (x2.length : Int) 2))))), z0_0] _)) (re_storeV (V := (V36 (stars [Row 5 1 γ.2.1 (s45v ++ (cut x2 (0 : Int) (IntKind.i64.wrap (Int.tdiv (x2.length : Int) 2)))).length γ.2.2 (encB (s45v ++ (cut x2 (0 : Int) (IntKind.i64.wrap (Int.tdiv (x2.length : Int) 2))))), z0_0]))) ((x0_0.getD s9v.toNat dz36).1, s45v ++ (cut x2 (0 : Int) (IntKind.i64.wrap (Int.tdiv (x2.length : Int) 2))), (x0_0.getD s9v.toNat dz36).2.2) 1 dz36 2 rfl rfl rfl Try.sizeOf34 rfl rfl (one_of (by rfl)) rfl (hl4v.mono (V36.up (Up.lend (l := [Row 5 1 γ.2.1 (s45v ++ (cut x2 (0 : Int) (IntKind.i64.wrap (Int.tdiv (x2.length : Int) 2)))).length γ.2.2 (encB (s45v ++ (cut x2 (0 : Int) (IntKind.i64.wrap (Int.tdiv (x2.length : Int) 2))))), z0_0]) 1 rfl))) ha60v (by omega) rfl (fun r hr _ _ => by obtain ⟨a1', c1', rfl, h1'⟩ := hr; exact ⟨γ.2.1, γ.2.2, rfl, ⟨(Rd.lend (l := [Row 5 1 γ.2.1 (s45v ++ (cut x2 (0 : Int) (IntKind.i64.wrap (Int.tdiv (x2.length : Int) 2)))).length γ.2.2 (encB (s45v ++ (cut x2 (0 : Int) (IntKind.i64.wrap (Int.tdiv (x2.length : Int) 2))))), z0_0]) hq71v 0 rfl), hq72v, hq73v⟩⟩)))) (fun _ => ⟨rfl, rfl, rfl, rfl, rfl, rfl, rfl, rfl, rfl, rfl, rfl, rfl, rfl, rfl, rfl, rfl, rfl, rfl, rfl, rfl, rfl, rfl, trivial⟩) (fun _ => .inl rfl) (fun z => ent_eq ((rfl : _ = [stars [Row 5 1 γ.2.1 (s45v ++ (cut x2 (0 : Int) (IntKind.i64.wrap (Int.tdiv (x2.length : Int) 2)))).length γ.2.2 (encB (s45v ++ (cut x2 (0 : Int) (IntKind.i64.wrap (Int.tdiv (x2.length : Int) 2))))), z0_0], obj b0 29 [.slice a0_0 x0_0.length c0_0, .int .i64 s27v.2.1, .bool s27v.2.2.1, str s27v.2.2.2], RowV 36 3 (V36 (stars [Row 5 1 γ.2.1 (s45v ++ (cut x2 (0 : Int) (IntKind.i64.wrap (Int.tdiv (x2.length : Int) 2)))).length γ.2.2 (encB (s45v ++ (cut x2 (0 : Int) (IntKind.i64.wrap (Int.tdiv (x2.length : Int) 2))))), z0_0])) a0_0 (x0_0.set s9v.toNat ((x0_0.getD s9v.toNat dz36).1, s45v ++ (cut x2 (0 : Int) (IntKind.i64.wrap (Int.tdiv (x2.length : Int) 2))), (x0_0.getD s9v.toNat dz36).2.2)) c0_0, F]).trans ((by simp only [List.length_set, copyB_length] : [stars [Row 5 1 γ.2.1 (s45v ++ (cut x2 (0 : Int) (IntKind.i64.wrap (Int.tdiv (x2.length : Int) 2)))).length γ.2.2 (encB (s45v ++ (cut x2 (0 : Int) (IntKind.i64.wrap (Int.tdiv (x2.length : Int) 2))))), z0_0], obj b0 29 [.slice a0_0 x0_0.length c0_0, .int .i64 s27v.2.1, .bool s27v.2.2.1, str s27v.2.2.2], RowV 36 3 (V36 (stars [Row 5 1 γ.2.1 (s45v ++ (cut x2 (0 : Int) (IntKind.i64.wrap (Int.tdiv (x2.length : Int) 2)))).length γ.2.2 (encB (s45v ++ (cut x2 (0 : Int) (IntKind.i64.wrap (Int.tdiv (x2.length : Int) 2))))), z0_0])) a0_0 (x0_0.set s9v.toNat ((x0_0.getD s9v.toNat dz36).1, s45v ++ (cut x2 (0 : Int) (IntKind.i64.wrap (Int.tdiv (x2.length : Int) 2))), (x0_0.getD s9v.toNat dz36).2.2)) c0_0, F] = [stars [Row 5 1 γ.2.1 (s45v ++ (cut x2 (0 : Int) (IntKind.i64.wrap (Int.tdiv (x2.length : Int) 2)))).length γ.2.2 (encB (s45v ++ (cut x2 (0 : Int) (IntKind.i64.wrap (Int.tdiv (x2.length : Int) 2))))), z0_0], obj b0 29 [.slice a0_0 ((x0_0.set s9v.toNat ((x0_0.getD s9v.toNat dz36).1, s45v ++ (cut x2 (0 : Int) (IntKind.i64.wrap (Int.tdiv (x2.length : Int) 2))), (x0_0.getD s9v.toNat dz36).2.2)).length) c0_0, .int .i64 s27v.2.1, .bool s27v.2.2.1, str s27v.2.2.2], RowV 36 3 (V36 (stars [Row 5 1 γ.2.1 (s45v ++ (cut x2 (0 : Int) (IntKind.i64.wrap (Int.tdiv (x2.length : Int) 2)))).length γ.2.2 (encB (s45v ++ (cut x2 (0 : Int) (IntKind.i64.wrap (Int.tdiv (x2.length : Int) 2))))), z0_0])) a0_0 (x0_0.set s9v.toNat ((x0_0.getD s9v.toNat dz36).1, s45v ++ (cut x2 (0 : Int) (IntKind.i64.wrap (Int.tdiv (x2.length : Int) 2))), (x0_0.getD s9v.toNat dz36).2.2)) c0_0, F]).trans rfl)))) zA)))
 intro g75v
 refine nrm_then (sr ?_)
 refine va rfl rfl (simL_nil (nrm_then (sim_rtn ?_)))
 refine rtn_then ?_
 exact rtn_fn (a0_0, c0_0, stars [Row 5 1 g75v.2.1 (s45v ++ (cut x2 (0 : Int) (IntKind.i64.wrap (Int.tdiv (x2.length : Int) 2)))).length g75v.2.2 (encB (s45v ++ (cut x2 (0 : Int) (IntKind.i64.wrap (Int.tdiv (x2.length : Int) 2))))), z0_0]) rfl rfl rfl (.sel 1 rfl (.sel 1 rfl (.sel 0 rfl (.sel 0 rfl (.nil _)))))
 refine sim_skip ?_
 refine nrm_then (sim_seq ?_)
 refine sim_ask (fun hi76v => ?_)
 refine sim_posV 1 rfl hl4v rfl (i := s9v.toNat) (by omega) dz36 (fun b77v b77vo r80v ha78v hV81v hlr82v hcell83v => ?_)
 obtain ⟨a84v, c85v, rfl, ⟨he86v, hc87v, hm88v⟩⟩ := hV81v
 refine sim_bind (fun s89v hs90v => ?_)
 refine sim_ask (fun hb93v => ?_)
 refine sim_ask (fun hi94v => ?_)
 refine sim_posV 1 rfl hl4v rfl (i := s9v.toNat) (by omega) dz36 (fun b95v b95vo r98v ha96v hV99v hlr100v hcell101v => ?_)
 obtain ⟨a102v, c103v, rfl, ⟨he104v, hc105v, hm106v⟩⟩ := hV99v
 refine sim_draw (Γ := (Option Addr × Nat) × (Option Addr × Nat)) ((none, 0), (none, 0)) [[], [0], [0, 1], [0, 1, 2], [], [], [5], [5, 6], [5, 6, 7], [], [5, 6, 7, 8, 9], [5, 6, 7, 8, 9, 10], [5, 6, 7, 8, 9, 10, 11], [5, 6, 7, 8, 9, 10, 11, 12], [], [5, 6, 7, 8, 9, 10, 11, 12, 13, 14], rL 16, rL 17, rL 18] [13, 15, 18] [0, 1, 2, 3, 4, 5, 6, 7, 8, 9, 10, 11, 12, 14, 16, 17] (fun i => [[0, 1, 2], [0, 1, 2], [0, 1, 2], [0, 1, 2], [0, 1, 2], [0], [0], [0], [0], [0], [0], [0], [0], [], [0, 1], [], [2], [2], []].getD i []) (fun i => [[], [], [], [], [], [], [], [], [], [], [], [], [], [0, 1, 2, 3, 4, 5, 6, 7, 8, 9, 10, 11, 12, 14], [], rL 15, [], [], rL 18].getD i []) (fun γ i => [.pointer (some ⟨b0, 0, none⟩), .pointer (some ⟨b0, 0, none⟩), .pointer (some ⟨b0, 0, none⟩), .slice a0_0 x0_0.length c0_0, .int .i64 s9v, .pointer (some ⟨b0, 0, none⟩), .pointer (some ⟨b0, 0, none⟩), .pointer (some ⟨b0, 0, none⟩), .slice a0_0 x0_0.length c0_0, .int .i64 s9v, .pointer (some ⟨b77v, b77vo + s9v.toNat * 3, none⟩), .pointer (some ⟨b77v, b77vo + s9v.toNat * 3 + 1, none⟩), .slice a84v (((x0_0.getD s9v.toNat dz36).2.1).length) c85v, .slice γ.1.1 s89v.length γ.1.2, .slice a2 x2.length c2, .slice γ.2.1 ((s89v ++ x2).length) γ.2.2, .pointer (some ⟨b95v, b95vo + s9v.toNat * 3, none⟩), .pointer (some ⟨b95v, b95vo + s9v.toNat * 3 + 1, none⟩), undef].getD i undef) (fun j γ => [[obj b0 29 [.slice a0_0 x0_0.length c0_0, .int .i64 s27v.2.1, .bool s27v.2.2.1, str s27v.2.2.2], Row 36 3 a0_0 x0_0.length c0_0 rs3v.flatten, z0_0, F], [Row 5 1 γ.1.1 s89v.length γ.1.2 (encB s89v), obj b0 29 [.slice a0_0 x0_0.length c0_0, .int .i64 s27v.2.1, .bool s27v.2.2.1, str s27v.2.2.2], Row 36 3 a0_0 x0_0.length c0_0 rs3v.flatten, z0_0, F], [Row 5 1 γ.2.1 (s89v ++ x2).length γ.2.2 (encB (s89v ++ x2)), obj b0 29 [.slice a0_0 x0_0.length c0_0, .int .i64 s27v.2.1, .bool s27v.2.2.1, str s27v.2.2.2], Row 36 3 a0_0 x0_0.length c0_0 rs3v.flatten, z0_0, F], [stars [Row 5 1 γ.2.1 (s89v ++ x2).length γ.2.2 (encB (s89v ++ x2)), z0_0], obj b0 29 [.slice a0_0 ((x0_0.set s9v.toNat ((x0_0.getD s9v.toNat dz36).1, s89v ++ x2, (x0_0.getD s9v.toNat dz36).2.2)).length) c0_0, .int .i64 s27v.2.1, .bool s27v.2.2.1, str s27v.2.2.2], RowV 36 3 (V36 (stars [Row 5 1 γ.2.1 (s89v ++ x2).length γ.2.2 (encB (s89v ++ x2)), z0_0])) a0_0 (x0_0.set s9v.toNat ((x0_0.getD s9v.toNat dz36).1, s89v ++ x2, (x0_0.getD s9v.toNat dz36).2.2)) c0_0, F]].getD j []) (fun γ => []) mixed (by decide) (by decide) (by decide) (by decide) (by decide) (by decide) (by decide) 69 rfl (by decide) (by decide) (by decide) (Ent.refl _) ?_ ?_ (fun _ => trivial) ?_
 exact (ac (fun γ => (ac (qm rfl (.o (s := 0) rfl (by decide) .nil) rfl) (ac (qm rfl (.o (s := 0) rfl (by decide) .nil) rfl) (ac (qm rfl (.o (s := 0) rfl (by decide) .nil) rfl) zA)))) (ac (fun γ => (ac (qp rfl rfl (.v 0 rfl rfl .nil) (q_nil rfl rfl) rfl) (ac (qp rfl rfl (.v 0 rfl rfl .nil) (q_nil rfl rfl) rfl) (ac (qp rfl rfl (.v 0 rfl rfl .nil) (q_nil rfl rfl) rfl) zA)))) (ac (fun γ => (ac (qp rfl rfl (.v 1 rfl rfl .nil) (q_fa rfl rfl Try.underlying29 rfl rfl Try.sizeOf27 rfl) rfl) (ac (qp rfl rfl (.v 1 rfl rfl .nil) (q_fa rfl rfl Try.underlying29 rfl rfl Try.sizeOf27 rfl) rfl) (ac (qp rfl rfl (.v 1 rfl rfl .nil) (q_fa rfl rfl Try.underlying29 rfl rfl Try.sizeOf27 rfl) rfl) zA)))) (ac (fun γ => (ac (qp rfl rfl (.v 2 rfl rfl .nil) (q_load rfl rfl Try.isAgg27 (.obj 0 rfl rfl)) rfl) (ac (qp rfl rfl (.v 2 rfl rfl .nil) (q_load rfl rfl Try.isAgg27 (.obj 1 rfl rfl)) rfl) (ac (qp rfl rfl (.v 2 rfl rfl .nil) (q_load rfl rfl Try.isAgg27 (.obj 1 rfl rfl)) rfl) zA)))) (ac (fun γ => (ac (qm rfl (.o (s := 7) rfl (by decide) .nil) rfl) (ac (qm rfl (.o (s := 7) rfl (by decide) .nil) rfl) (ac (qm rfl (.o (s := 7) rfl (by decide) .nil) rfl) zA)))) (aq rfl (fun γ => qm rfl (.o (s := 0) rfl (by decide) .nil) rfl) (aq rfl (fun γ => qp rfl rfl (.v 5 rfl rfl .nil) (q_nil rfl rfl) rfl) (aq rfl (fun γ => qp rfl rfl (.v 6 rfl rfl .nil) (q_fa rfl rfl Try.underlying29 rfl rfl Try.sizeOf27 rfl) rfl) (aq rfl (fun γ => qp rfl rfl (.v 7 rfl rfl .nil) (q_load rfl rfl Try.isAgg27 (.obj 0 rfl rfl)) rfl) (aq rfl (fun γ => qm rfl (.o (s := 7) rfl (by decide) .nil) rfl) (aq rfl (fun γ => qp rfl rfl (.v 8 rfl rfl (.v 9 rfl rfl .nil)) (q_idx rfl rfl rfl ha78v Try.underlying27 Try.sizeOf36 hi76v.1 hi76v.2) rfl) (aq rfl (fun γ => qp rfl rfl (.v 10 rfl rfl .nil) (q_fa rfl rfl Try.underlying36 rfl rfl Try.sizeOf34 rfl) rfl) (aq rfl (fun γ => qp rfl rfl (.v 11 rfl rfl .nil) (q_load rfl rfl Try.isAgg34 (hcell83v 1 rfl 1 _ rfl)) rfl) (ac (fun γ => (ac (qm rfl (.o (s := 2) rfl (by decide) .nil) rfl) (ac (qm rfl (.o (s := 2) rfl (by decide) .nil) rfl) zA))) (aq rfl (fun γ => qp rfl rfl (.v 3 rfl rfl (.v 4 rfl rfl .nil)) (q_idx rfl rfl rfl ha96v Try.underlying27 Try.sizeOf36 hi94v.1 hi94v.2) rfl) (aq rfl (fun γ => qp rfl rfl (.v 16 rfl rfl .nil) (q_fa rfl rfl Try.underlying36 rfl rfl Try.sizeOf34 rfl) rfl) zA))))))))))))))))
 exact (ac (fun γ => eo (Z := Option Addr × Nat) (fun z => (z, γ.2)) rfl rfl (.v 12 rfl rfl .nil) (re_call (vs := [.slice a84v (((x0_0.getD s9v.toNat dz36).2.1).length) c85v]) (cap := []) (A := []) (rst := [obj b0 29 [.slice a0_0 x0_0.length c0_0, .int .i64 s27v.2.1, .bool s27v.2.2.1, str s27v.2.2.2], Row 36 3 a0_0 x0_0.length c0_0 rs3v.flatten, z0_0, F]) rfl rfl rfl rfl rfl rfl Try.call40 (.sel 0 rfl (.sel 0 rfl (.sel 0 rfl (.sel 0 rfl (.nil _))))) (synodref_Bytes.calls _ _ a84v c85v ((x0_0.getD s9v.toNat dz36).2.1) (he86v.lend 2 rfl) hc87v hm88v) hs90v) (fun _ => ⟨rfl, rfl, rfl, rfl, rfl, rfl, rfl, rfl, rfl, rfl, rfl, rfl, rfl, rfl, trivial⟩) (fun _ => .inr rfl) (fun z => Ent.refl _)) (ac (fun γ => eo (Z := Option Addr × Nat) (fun z => (γ.1, z)) rfl rfl (.v 13 rfl rfl (.v 14 rfl rfl .nil)) (re_appendb 0 rfl rfl rfl Try.underlying34 elt5 rfl (h2.rds 3 rfl) hb93v) (fun _ => ⟨rfl, rfl, rfl, rfl, rfl, rfl, rfl, rfl, rfl, rfl, rfl, rfl, rfl, rfl, rfl, trivial⟩) (fun _ => .inr rfl) (fun z => Ent.refl _)) (ac (fun γ => eo (Z := Unit) (fun z => (γ.1, γ.2)) rfl rfl (.v 15 rfl rfl (.v 17 rfl rfl .nil)) (RE.lend 0 rfl (fun hq107v hq108v hq109v hq110v => RE.ent (H1 := [stars [Row 5 1 γ.2.1 (s89v ++ x2).length γ.2.2 (encB (s89v ++ x2)), z0_0], obj b0 29 [.slice a0_0 x0_0.length c0_0, .int .i64 s27v.2.1, .bool s27v.2.2.1, str s27v.2.2.2], Row 36 3 a0_0 x0_0.length c0_0 rs3v.flatten, F]) (Ent.trans (m := [Row 5 1 γ.2.1 (s89v ++ x2).length γ.2.2 (encB (s89v ++ x2)), z0_0, obj b0 29 [.slice a0_0 x0_0.length c0_0, .int .i64 s27v.2.1, .bool s27v.2.2.1, str s27v.2.2.2], Row 36 3 a0_0 x0_0.length c0_0 rs3v.flatten, F]) (.sel 0 rfl (.sel 2 rfl (.sel 0 rfl (.sel 0 rfl (.sel 0 rfl (.nil _)))))) (ent_pack [Row 5 1 γ.2.1 (s89v ++ x2).length γ.2.2 (encB (s89v ++ x2)), z0_0] _)) (re_storeV (V := (V36 (stars [Row 5 1 γ.2.1 (s89v ++ x2).length γ.2.2 (encB (s89v ++ x2)), z0_0]))) ((x0_0.getD s9v.toNat dz36).1, s89v ++ x2, (x0_0.getD s9v.toNat dz36).2.2) 1 dz36 2 rfl rfl rfl Try.sizeOf34 rfl rfl (one_of (by rfl)) rfl (hl4v.mono (V36.up (Up.lend (l := [Row 5 1 γ.2.1 (s89v ++ x2).length γ.2.2 (encB (s89v ++ x2)), z0_0]) 1 rfl))) ha96v (by omega) rfl (fun r hr _ _ => by obtain ⟨a1', c1', rfl, h1'⟩ := hr; exact ⟨γ.2.1, γ.2.2, rfl, ⟨(Rd.lend (l := [Row 5 1 γ.2.1 (s89v ++ x2).length γ.2.2 (encB (s89v ++ x2)), z0_0]) hq107v 0 rfl), hq108v, hq109v⟩⟩)))) (fun _ => ⟨rfl, rfl, rfl, rfl, rfl, rfl, rfl, rfl, rfl, rfl, rfl, rfl, rfl, rfl, rfl, rfl, rfl, rfl, trivial⟩) (fun _ => .inl rfl) (fun z => ent_eq ((rfl : _ = [stars [Row 5 1 γ.2.1 (s89v ++ x2).length γ.2.2 (encB (s89v ++ x2)), z0_0], obj b0 29 [.slice a0_0 x0_0.length c0_0, .int .i64 s27v.2.1, .bool s27v.2.2.1, str s27v.2.2.2], RowV 36 3 (V36 (stars [Row 5 1 γ.2.1 (s89v ++ x2).length γ.2.2 (encB (s89v ++ x2)), z0_0])) a0_0 (x0_0.set s9v.toNat ((x0_0.getD s9v.toNat dz36).1, s89v ++ x2, (x0_0.getD s9v.toNat dz36).2.2)) c0_0, F]).trans ((by simp only [List.length_set, copyB_length] : [stars [Row 5 1 γ.2.1 (s89v ++ x2).length γ.2.2 (encB (s89v ++ x2)), z0_0], obj b0 29 [.slice a0_0 x0_0.length c0_0, .int .i64 s27v.2.1, .bool s27v.2.2.1, str s27v.2.2.2], RowV 36 3 (V36 (stars [Row 5 1 γ.2.1 (s89v ++ x2).length γ.2.2 (encB (s89v ++ x2)), z0_0])) a0_0 (x0_0.set s9v.toNat ((x0_0.getD s9v.toNat dz36).1, s89v ++ x2, (x0_0.getD s9v.toNat dz36).2.2)) c0_0, F] = [stars [Row 5 1 γ.2.1 (s89v ++ x2).length γ.2.2 (encB (s89v ++ x2)), z0_0], obj b0 29 [.slice a0_0 ((x0_0.set s9v.toNat ((x0_0.getD s9v.toNat dz36).1, s89v ++ x2, (x0_0.getD s9v.toNat dz36).2.2)).length) c0_0, .int .i64 s27v.2.1, .bool s27v.2.2.1, str s27v.2.2.2], RowV 36 3 (V36 (stars [Row 5 1 γ.2.1 (s89v ++ x2).length γ.2.2 (encB (s89v ++ x2)), z0_0])) a0_0 (x0_0.set s9v.toNat ((x0_0.getD s9v.toNat dz36).1, s89v ++ x2, (x0_0.getD s9v.toNat dz36).2.2)) c0_0, F]).trans rfl)))) zA)))
 intro g111v
 refine nrm_then (sr ?_)
 refine va rfl rfl (simL_nil (nrm_then (sim_rtn ?_)))
 exact rtn_fn (a0_0, c0_0, stars [Row 5 1 g111v.2.1 (s89v ++ x2).length g111v.2.2 (encB (s89v ++ x2)), z0_0]) rfl rfl rfl (.sel 1 rfl (.sel 1 rfl (.sel 0 rfl (.sel 0 rfl (.nil _)))))

def synodlaw4_DiskFull.l0 (x0 : List (List UInt8)) : Nat → Int → List (Ty36) → Int → Bool → List UInt8 → List ((List UInt8) × (List UInt8 × Int)) → List UInt8 → Int → Bool → Option (((List (Ty36)) × Int × Bool × List UInt8 × (List ((List UInt8) × (List UInt8 × Int))) × List UInt8 × Int × Bool) ⊕ (Bool))
  | 0, _, _, _, _, _, _, _, _, _ => none
  | k + 1, z14v, z15v, z16v, z17v, z18v, z19v, z20v, z21v, z22v => if z14v < (x0.length : Int) then (if 0 ≤ z14v ∧ z14v < (x0.length : Int) then (if (40 : Int) < ((x0.getD z14v.toNat ([] : List UInt8)).length : Int) then (synodlaw4_DiskFull.l0 x0 k (IntKind.i64.wrap (z14v + 1)) z15v z16v z17v z18v z19v z20v z21v z22v) else (if 0 ≤ z14v ∧ z14v < (x0.length : Int) then ((disk_Disk_Create.f k z19v z20v z21v z22v (x0.getD z14v.toNat ([] : List UInt8))).bind fun s45v => (if 0 ≤ z14v ∧ z14v < (x0.length : Int) then ((synodref4_Disk_Create.f k z15v z16v z17v z18v (x0.getD z14v.toNat ([] : List UInt8))).bind fun s59v => (if (synodref_Num.v s45v.1) = s59v.1 then (synodlaw4_DiskFull.l0 x0 k (IntKind.i64.wrap (z14v + 1)) s59v.2.1 s59v.2.2.1 s59v.2.2.2.1 s59v.2.2.2.2 s45v.2.1 s45v.2.2.1 s45v.2.2.2.1 s45v.2.2.2.2) else (some (.inr false)))) else none)) else none)) else none) else (some (.inl (z15v, z16v, z17v, z18v, z19v, z20v, z21v, z22v)))
def synodlaw4_DiskFull.f (k : Nat) (x0 : List (List UInt8)) (x1 : Int) : Option (Bool) := (synodlaw4_first.f k).bind fun s1v => (if ((!s1v) || (decide ((300 : Int) < (x0.length : Int)))) = true then (some s1v) else ((disk_New.f).bind fun s6v => (orR (synodlaw4_DiskFull.l0 x0 k 0 ([] : List (Ty36)) 0 false ([] : List UInt8) s6v.1 s6v.2.1 s6v.2.2.1 s6v.2.2.2) fun s10v => (if (s10v.1.length : Int) = (0 : Int) then (some true) else (if 0 ≤ (0 : Int) ∧ (0 : Int) < (s10v.1.length : Int) then (if 0 ≤ IntKind.i64.wrap (16777216 + (IntKind.i64.wrap ((Int.tmod (IntKind.i64.wrap ((Int.tmod x1 5) + 5)) 5) - 2))) ∧ IntKind.i64.wrap (16777216 + (IntKind.i64.wrap ((Int.tmod (IntKind.i64.wrap ((Int.tmod x1 5) + 5)) 5) - 2))) ≤ IntKind.i64.wrap (16777216 + (IntKind.i64.wrap ((Int.tmod (IntKind.i64.wrap ((Int.tmod x1 5) + 5)) 5) - 2))) ∧ IntKind.i64.wrap (16777216 + (IntKind.i64.wrap ((Int.tmod (IntKind.i64.wrap ((Int.tmod x1 5) + 5)) 5) - 2))) * 1 ≤ 140737488355328 then ((disk_Disk_Append.f s10v.2.2.2.2.1 s10v.2.2.2.2.2.1 s10v.2.2.2.2.2.2.1 s10v.2.2.2.2.2.2.2 ((s10v.1.getD (0 : Int).toNat dz36).1) (List.replicate (IntKind.i64.wrap (16777216 + (IntKind.i64.wrap ((Int.tmod (IntKind.i64.wrap ((Int.tmod x1 5) + 5)) 5) - 2)))).toNat (0 : UInt8))).bind fun s93v => ((synodref4_Disk_Append.f k s10v.1 s10v.2.1 s10v.2.2.1 s10v.2.2.2.1 ((s10v.1.getD (0 : Int).toNat dz36).1) (List.replicate (IntKind.i64.wrap (16777216 + (IntKind.i64.wrap ((Int.tmod (IntKind.i64.wrap ((Int.tmod x1 5) + 5)) 5) - 2)))).toNat (0 : UInt8))).bind fun s100v => ((disk_Disk_Append.f s93v.2.1 s93v.2.2.1 s93v.2.2.2.1 s93v.2.2.2.2 ((s10v.1.getD (0 : Int).toNat dz36).1) ([1] : List UInt8)).bind fun s109v => ((synodref4_Disk_Append.f k s100v.2.1 s100v.2.2.1 s100v.2.2.2.1 s100v.2.2.2.2 ((s10v.1.getD (0 : Int).toNat dz36).1) ([1] : List UInt8)).bind fun s120v => (((if (((decide ((synodref_Num.v s93v.1) = s100v.1)) && (decide ((synodref_Num.v s109v.1) = s120v.1))) == true) = true then (disk_Disk_Size.f s109v.2.1 s109v.2.2.1 s109v.2.2.2.1 s109v.2.2.2.2) else some 0).bind fun s133v => ((if (((decide ((synodref_Num.v s93v.1) = s100v.1)) && (decide ((synodref_Num.v s109v.1) = s120v.1))) == true) = true then (synodref4_Disk_Size.f k s120v.2.1 s120v.2.2.1 s120v.2.2.2.1 s120v.2.2.2.2) else some 0).bind fun s140v => (if (((decide ((synodref_Num.v s93v.1) = s100v.1)) && (decide ((synodref_Num.v s109v.1) = s120v.1))) && (decide (s133v = s140v))) = true then ((disk_Disk_List.f s109v.2.1 s109v.2.2.1 s109v.2.2.2.1 s109v.2.2.2.2).bind fun s144v => (some (decide ((s144v.length : Int) = (s120v.2.1.length : Int))))) else (some false)))).bind fun s123v => (some s123v)))))) else none) else none)))))
theorem synodlaw4_DiskFull.calls (W : World) (F : HA) (k : Nat) (a0 : Option Addr) (c0 : Nat) (x0 : List (List UInt8)) (x1 : Int) (h0 : RdV F 1 (V9 tt) a0 x0) (hc0 : x0.length ≤ c0) (hm0 : c0 ≤ maxLen) :
    Fn Try.prog W 3 [.slice a0 x0.length c0, .int .i64 x1] [] F (synodlaw4_DiskFull.f k x0 x1) (fun (r : Bool) (y : Unit) => .bool r) (fun r y => []) := by
 unfold synodlaw4_DiskFull.f
 refine fn_intro 121 Try.func3 rfl Try.ntmps3 rfl ?_
 refine sr ?_
 refine va rfl rfl (nx ?_)
 refine simL_bind (fun s1v hs2v => ?_)
 refine simL_eff (re_call (vs := []) (cap := []) (A := []) (rst := [F]) rfl rfl rfl rfl rfl rfl Try.call9 (.sel 0 rfl (.nil _)) (synodlaw4_first.calls _ _ k  ) hs2v) rfl rfl rfl ?_
 intro y3v
 refine va rfl rfl (simL_nil (nrm_then (sim_seq (sr ?_))))
 refine vm rfl rfl ?_
 refine vq (q_not rfl rfl) rfl ?_
 refine vm rfl rfl ?_
 refine simL_valc (b := !s1v) (fun hb181v => RQ.sub (E' := [(0, .slice a0 x0.length c0)]) ⟨rfl, trivial⟩ (q_move rfl rfl)) rfl rfl rfl rfl rfl ?_
 refine simL_valc (b := !s1v) (fun hb180v => RQ.sub (E' := [(20, .slice a0 x0.length c0)]) ⟨lk_cv rfl hb180v, trivial⟩ (q_len rfl rfl rfl Try.underlying22)) rfl rfl rfl rfl rfl ?_
 refine simL_valc (b := !s1v) (fun hb179v => RQ.sub (E' := [(21, .int .i64 (x0.length : Int))]) ⟨lk_cv rfl hb179v, trivial⟩ (q_gtr rfl rfl rfl)) rfl rfl rfl rfl rfl ?_
 refine vq (q_or rfl rfl rfl) rfl (simL_nil (nrm_then ?_))
 refine sim_condb rfl (fun h4v => ?_) (fun h5v => ?_)
 refine sr ?_
 refine vm rfl rfl ?_
 refine va rfl rfl (simL_nil (nrm_then (sim_rtn ?_)))
 refine rtn_then ?_
 exact rtn_fn () rfl rfl rfl (.sel 0 rfl (.nil _))
 refine sim_skip ?_
 refine nrm_then (sr ?_)
 refine simL_bind (fun s6v hs7v => ?_)
 refine simL_eff (re_call (vs := []) (cap := []) (A := []) (rst := [F]) rfl rfl rfl rfl rfl rfl Try.call10 (.sel 0 rfl (.nil _)) (disk_New.calls _ _  ) hs7v) rfl rfl rfl ?_
 intro y8v
 refine va rfl rfl (nx ?_)
 refine vq (q_build (v := .agg #[.slice none 0 0, .int .i64 0, .bool false, str ([] : List UInt8)]) rfl rfl (fun _ => by kernel_rfl)) rfl ?_
 refine simL_eff (re_box rfl rfl rfl) rfl rfl rfl ?_
 intro b9v
 refine va rfl rfl (simL_nil (nrm_then ?_))
 refine sim_cutR (S := (List (Ty36)) × Int × Bool × List UInt8 × (List ((List UInt8) × (List UInt8 × Int))) × List UInt8 × Int × Bool) (HA × Option Addr × Nat × Nat × Kps) (fun s y => [(1, .int .i64 x1), (6, .pointer (some ⟨y8v.1, 0, none⟩)), (7, .pointer (some ⟨b9v, 0, none⟩))]) (fun s y => [obj b9v 29 [.slice y.2.1 s.1.length y.2.2.1, .int .i64 s.2.1, .bool s.2.2.1, str s.2.2.2.1], obj y8v.1 64 [.map (some y.2.2.2.1), str s.2.2.2.2.2.1, .int .i64 s.2.2.2.2.2.2.1, .bool s.2.2.2.2.2.2.2], RowV 36 3 (V36 (y.1)) y.2.1 s.1 y.2.2.1, mapF (mapO y.2.2.2.1 enc9 encP y.2.2.2.2) FA68 y.2.2.2.2 s.2.2.2.2.1, y.1, F]) ?_ ?_
 refine sr ?_
 refine va rfl rfl (simL_nil (nrm_then ?_))
 refine sim_block ?_
 refine sim_loop (S := Int × (List (Ty36)) × Int × Bool × List UInt8 × (List ((List UInt8) × (List UInt8 × Int))) × List UInt8 × Int × Bool) (HA × Option Addr × Nat × Nat × Kps) (fun k s => synodlaw4_DiskFull.l0 x0 k s.1 s.2.1 s.2.2.1 s.2.2.2.1 s.2.2.2.2.1 s.2.2.2.2.2.1 s.2.2.2.2.2.2.1 s.2.2.2.2.2.2.2.1 s.2.2.2.2.2.2.2.2) (fun s y => [(0, .slice a0 x0.length c0), (1, .int .i64 x1), (6, .pointer (some ⟨y8v.1, 0, none⟩)), (7, .pointer (some ⟨b9v, 0, none⟩)), (8, .int .i64 s.1)]) (fun s y => [obj b9v 29 [.slice y.2.1 s.2.1.length y.2.2.1, .int .i64 s.2.2.1, .bool s.2.2.2.1, str s.2.2.2.2.1], obj y8v.1 64 [.map (some y.2.2.2.1), str s.2.2.2.2.2.2.1, .int .i64 s.2.2.2.2.2.2.2.1, .bool s.2.2.2.2.2.2.2.2], RowV 36 3 (V36 (y.1)) y.2.1 s.2.1 y.2.2.1, mapF (mapO y.2.2.2.1 enc9 encP y.2.2.2.2) FA68 y.2.2.2.2 s.2.2.2.2.2.1, y.1, F]) (fun _ => by rw [synodlaw4_DiskFull.l0]) ?_ k (0, ([] : List (Ty36)), 0, false, ([] : List UInt8), s6v.1, s6v.2.1, s6v.2.2.1, s6v.2.2.2) (tt, none, 0, y8v.2.1, y8v.2.2) ⟨rfl, rfl, rfl, rfl, rfl, trivial⟩ (.sel 0 rfl (.sel 0 rfl (.rowV_nil (.sel 0 rfl (.tt_in (.sel 0 rfl (.nil _)))))))
 intro k s12v y13v
 refine sim_eq (by rw [synodlaw4_DiskFull.l0]) ?_
 refine sim_seq (sr ?_)
 refine vm rfl rfl ?_
 refine vm rfl rfl ?_
 refine vq (q_len rfl rfl rfl Try.underlying22) rfl ?_
 refine vq (q_lss rfl rfl rfl) rfl (simL_nil (nrm_then ?_))
 refine sim_cond rfl (fun h23v => ?_) (fun h24v => ?_)
 refine sim_skip ?_
 refine nrm_then (sim_seq ?_)
 refine sim_block ?_
 refine sim_seq (sr ?_)
 refine vm rfl rfl ?_
 refine vm rfl rfl ?_
 refine simL_ask (fun hi25v => ?_)
 obtain ⟨b26v, b26vo, r29v, ha27v, hV30v, hlr31v, hcell32v⟩ := RdV.pos h0 (Up.refl _) rfl (i := s12v.1.toNat) (by omega) ([] : List UInt8)
 obtain rfl := hV30v
 refine vq (q_idx rfl rfl rfl ha27v Try.underlying22 Try.sizeOf9 hi25v.1 hi25v.2) rfl ?_
 refine vq (q_load rfl rfl Try.isAgg9 (hcell32v 5 rfl 0 _ rfl)) rfl ?_
 refine vq (q_lens rfl rfl rfl Try.underlying9) rfl ?_
 refine vq (q_gtr rfl rfl rfl) rfl (simL_nil (nrm_then ?_))
 refine sim_cond rfl (fun h33v => ?_) (fun h34v => ?_)
 refine sim_exi ?_
 refine exi_then ?_
 refine exi_here ?_
 refine nrm_then (sim_region ?_)
 refine vm rfl rfl ?_
 refine vq (q_add rfl rfl rfl) rfl ?_
 refine va rfl rfl (simL_nil ?_)
 exact nrm_again (s := (IntKind.i64.wrap (s12v.1 + 1), s12v.2.1, s12v.2.2.1, s12v.2.2.2.1, s12v.2.2.2.2.1, s12v.2.2.2.2.2.1, s12v.2.2.2.2.2.2.1, s12v.2.2.2.2.2.2.2.1, s12v.2.2.2.2.2.2.2.2)) (y13v.1, y13v.2.1, y13v.2.2.1, y13v.2.2.2.1, y13v.2.2.2.2) ⟨rfl, rfl, rfl, rfl, rfl, trivial⟩ (.sel 0 rfl (.sel 0 rfl (.sel 0 rfl (.sel 0 rfl (.sel 0 rfl (.sel 0 rfl (.nil _)))))))
 refine sim_skip ?_
 refine nrm_then (sim_seq ?_)
 refine sim_openV 2 rfl (fun rs35v hl36v => ?_)
 refine sim_ask (fun hi37v => ?_)
 obtain ⟨b38v, b38vo, r41v, ha39v, hV42v, hlr43v, hcell44v⟩ := RdV.pos h0 (Up.refl _) rfl (i := s12v.1.toNat) (by omega) ([] : List UInt8)
 obtain rfl := hV42v
 refine sim_bind (fun s45v hs46v => ?_)
 refine sim_ask (fun hi51v => ?_)
 obtain ⟨b52v, b52vo, r55v, ha53v, hV56v, hlr57v, hcell58v⟩ := RdV.pos h0 (Up.refl _) rfl (i := s12v.1.toNat) (by omega) ([] : List UInt8)
 obtain rfl := hV56v
 refine sim_bind (fun s59v hs60v => ?_)
 refine sim_draw (Γ := (Nat × Kps) × (Option Addr × Nat × HA)) ((0, ([] : Kps)), (none, 0, tt)) [[], [], [], [1, 2], [1, 2, 3], rL 5, rL 6, [], [], [], [8, 9], [8, 9, 10], rL 12, rL 13, rL 14] [5, 12] [0, 1, 2, 3, 4, 6, 7, 8, 9, 10, 11, 13, 14] (fun i => [[0], [0], [0], [0], [0], [], [1], [0, 1], [0, 1], [0, 1], [0, 1], [0, 1], [], [2], [2]].getD i []) (fun i => [[], [], [], [], [], [0, 1, 2, 3, 4, 7, 8, 9, 10, 11], [], [], [], [], [], [], rL 12, [], []].getD i []) (fun γ i => [.pointer (some ⟨y8v.1, 0, none⟩), .slice a0 x0.length c0, .int .i64 s12v.1, .pointer (some ⟨b38v, b38vo + s12v.1.toNat * 1, none⟩), str (x0.getD s12v.1.toNat ([] : List UInt8)), .int .i64 s45v.1, .int .i64 (synodref_Num.v s45v.1), .pointer (some ⟨b9v, 0, none⟩), .slice a0 x0.length c0, .int .i64 s12v.1, .pointer (some ⟨b52v, b52vo + s12v.1.toNat * 1, none⟩), str (x0.getD s12v.1.toNat ([] : List UInt8)), .int .i64 s59v.1, .bool (decide ((synodref_Num.v s45v.1) = s59v.1)), .bool (decide ((synodref_Num.v s45v.1) = s59v.1))].getD i undef) (fun j γ => [[obj b9v 29 [.slice y13v.2.1 s12v.2.1.length y13v.2.2.1, .int .i64 s12v.2.2.1, .bool s12v.2.2.2.1, str s12v.2.2.2.2.1], obj y8v.1 64 [.map (some y13v.2.2.2.1), str s12v.2.2.2.2.2.2.1, .int .i64 s12v.2.2.2.2.2.2.2.1, .bool s12v.2.2.2.2.2.2.2.2], Row 36 3 y13v.2.1 s12v.2.1.length y13v.2.2.1 rs35v.flatten, mapF (mapO y13v.2.2.2.1 enc9 encP y13v.2.2.2.2) FA68 y13v.2.2.2.2 s12v.2.2.2.2.2.1, y13v.1, F], [obj y8v.1 64 [.map (some γ.1.1), str s45v.2.2.1, .int .i64 s45v.2.2.2.1, .bool s45v.2.2.2.2], mapF (mapO γ.1.1 enc9 encP γ.1.2) FA68 γ.1.2 s45v.2.1, obj b9v 29 [.slice y13v.2.1 s12v.2.1.length y13v.2.2.1, .int .i64 s12v.2.2.1, .bool s12v.2.2.2.1, str s12v.2.2.2.2.1], Row 36 3 y13v.2.1 s12v.2.1.length y13v.2.2.1 rs35v.flatten, y13v.1, F], [obj b9v 29 [.slice γ.2.1 s59v.2.1.length γ.2.2.1, .int .i64 s59v.2.2.1, .bool s59v.2.2.2.1, str s59v.2.2.2.2], RowV 36 3 (V36 (γ.2.2.2)) γ.2.1 s59v.2.1 γ.2.2.1, γ.2.2.2, obj y8v.1 64 [.map (some γ.1.1), str s45v.2.2.1, .int .i64 s45v.2.2.2.1, .bool s45v.2.2.2.2], mapF (mapO γ.1.1 enc9 encP γ.1.2) FA68 γ.1.2 s45v.2.1, F]].getD j []) (fun γ => [(0, .slice a0 x0.length c0), (1, .int .i64 x1), (6, .pointer (some ⟨y8v.1, 0, none⟩)), (7, .pointer (some ⟨b9v, 0, none⟩)), (8, .int .i64 s12v.1), (9, .bool (decide ((synodref_Num.v s45v.1) = s59v.1)))]) mixed (by decide) (by decide) (by decide) (by decide) (by decide) (by decide) (by decide) 121 rfl (by decide) (by decide) (by decide) (Ent.refl _) ?_ ?_ (fun _ => ⟨rfl, rfl, rfl, rfl, rfl, rfl, trivial⟩) ?_
 exact (aq rfl (fun γ => qm rfl (.o (s := 6) rfl (by decide) .nil) rfl) (aq rfl (fun γ => qm rfl (.o (s := 0) rfl (by decide) .nil) rfl) (aq rfl (fun γ => qm rfl (.o (s := 8) rfl (by decide) .nil) rfl) (aq rfl (fun γ => qp rfl rfl (.v 1 rfl rfl (.v 2 rfl rfl .nil)) (q_idx rfl rfl rfl ha39v Try.underlying22 Try.sizeOf9 hi37v.1 hi37v.2) rfl) (aq rfl (fun γ => qp rfl rfl (.v 3 rfl rfl .nil) (q_load rfl rfl Try.isAgg9 (hcell44v 5 rfl 0 _ rfl)) rfl) (aq rfl (fun γ => qp rfl rfl (.v 5 rfl rfl .nil) (RE.rq (re_call (vs := [.int .i64 s45v.1]) (cap := []) (A := []) (rst := [obj y8v.1 64 [.map (some γ.1.1), str s45v.2.2.1, .int .i64 s45v.2.2.2.1, .bool s45v.2.2.2.2], mapF (mapO γ.1.1 enc9 encP γ.1.2) FA68 γ.1.2 s45v.2.1, obj b9v 29 [.slice y13v.2.1 s12v.2.1.length y13v.2.2.1, .int .i64 s12v.2.2.1, .bool s12v.2.2.2.1, str s12v.2.2.2.2.1], Row 36 3 y13v.2.1 s12v.2.1.length y13v.2.2.1 rs35v.flatten, y13v.1, F]) rfl rfl rfl rfl rfl rfl Try.call11 (.sel 0 rfl (.sel 0 rfl (.sel 0 rfl (.sel 0 rfl (.sel 0 rfl (.sel 0 rfl (.nil _))))))) (synodref_Num.calls _ _ s45v.1 ) (synodref_Num.tot s45v.1)) (fun _ => rfl) (fun _ => (.sel 0 rfl (.sel 0 rfl (.sel 0 rfl (.sel 0 rfl (.sel 0 rfl (.sel 0 rfl (.nil _))))))))) rfl) (ac (fun γ => (ac (qm rfl (.o (s := 7) rfl (by decide) .nil) rfl) (ac (qm rfl (.o (s := 7) rfl (by decide) .nil) rfl) zA))) (ac (fun γ => (ac (qm rfl (.o (s := 0) rfl (by decide) .nil) rfl) (ac (qm rfl (.o (s := 0) rfl (by decide) .nil) rfl) zA))) (ac (fun γ => (ac (qm rfl (.o (s := 8) rfl (by decide) .nil) rfl) (ac (qm rfl (.o (s := 8) rfl (by decide) .nil) rfl) zA))) (ac (fun γ => (ac (qp rfl rfl (.v 8 rfl rfl (.v 9 rfl rfl .nil)) (q_idx rfl rfl rfl ha53v Try.underlying22 Try.sizeOf9 hi51v.1 hi51v.2) rfl) (ac (qp rfl rfl (.v 8 rfl rfl (.v 9 rfl rfl .nil)) (q_idx rfl rfl rfl ha53v Try.underlying22 Try.sizeOf9 hi51v.1 hi51v.2) rfl) zA))) (ac (fun γ => (ac (qp rfl rfl (.v 10 rfl rfl .nil) (q_load rfl rfl Try.isAgg9 (hcell58v 5 rfl 0 _ rfl)) rfl) (ac (qp rfl rfl (.v 10 rfl rfl .nil) (q_load rfl rfl Try.isAgg9 (hcell58v 5 rfl 0 _ rfl)) rfl) zA))) (aq rfl (fun γ => qp rfl rfl (.v 6 rfl rfl (.v 12 rfl rfl .nil)) (q_eql rfl rfl rfl) rfl) (aq rfl (fun γ => qp rfl rfl (.v 13 rfl rfl .nil) (q_asg rfl rfl) rfl) zA)))))))))))))
 exact (ac (fun γ => eo (Z := Nat × Kps) (fun z => (z, γ.2)) rfl rfl (.v 0 rfl rfl (.v 4 rfl rfl .nil)) (re_call (vs := [.pointer (some ⟨y8v.1, 0, none⟩), str (x0.getD s12v.1.toNat ([] : List UInt8))]) (cap := []) (A := [obj y8v.1 64 [.map (some y13v.2.2.2.1), str s12v.2.2.2.2.2.2.1, .int .i64 s12v.2.2.2.2.2.2.2.1, .bool s12v.2.2.2.2.2.2.2.2], mapF (mapO y13v.2.2.2.1 enc9 encP y13v.2.2.2.2) FA68 y13v.2.2.2.2 s12v.2.2.2.2.2.1]) (rst := [obj b9v 29 [.slice y13v.2.1 s12v.2.1.length y13v.2.2.1, .int .i64 s12v.2.2.1, .bool s12v.2.2.2.1, str s12v.2.2.2.2.1], Row 36 3 y13v.2.1 s12v.2.1.length y13v.2.2.1 rs35v.flatten, y13v.1, F]) rfl rfl rfl rfl rfl rfl Try.call12 (.sel 1 rfl (.sel 2 rfl (.sel 0 rfl (.sel 0 rfl (.sel 0 rfl (.sel 0 rfl (.nil _))))))) (disk_Disk_Create.calls _ _ k y8v.1 y13v.2.2.2.1 y13v.2.2.2.2 s12v.2.2.2.2.2.1 s12v.2.2.2.2.2.2.1 s12v.2.2.2.2.2.2.2.1 s12v.2.2.2.2.2.2.2.2 (x0.getD s12v.1.toNat ([] : List UInt8)) ) hs46v) (fun _ => ⟨rfl, rfl, rfl, rfl, rfl, rfl, rfl, rfl, rfl, rfl, trivial⟩) (fun _ => .inr rfl) (fun z => Ent.refl _)) (ac (fun γ => eo (Z := Option Addr × Nat × HA) (fun z => (γ.1, z)) rfl rfl (.v 7 rfl rfl (.v 11 rfl rfl .nil)) (re_call (vs := [.pointer (some ⟨b9v, 0, none⟩), str (x0.getD s12v.1.toNat ([] : List UInt8))]) (cap := []) (A := [obj b9v 29 [.slice y13v.2.1 s12v.2.1.length y13v.2.2.1, .int .i64 s12v.2.2.1, .bool s12v.2.2.2.1, str s12v.2.2.2.2.1], RowV 36 3 (V36 (y13v.1)) y13v.2.1 s12v.2.1 y13v.2.2.1, y13v.1]) (rst := [obj y8v.1 64 [.map (some γ.1.1), str s45v.2.2.1, .int .i64 s45v.2.2.2.1, .bool s45v.2.2.2.2], mapF (mapO γ.1.1 enc9 encP γ.1.2) FA68 γ.1.2 s45v.2.1, F]) rfl rfl rfl rfl rfl rfl Try.call13 (.sel 2 rfl (.sel' 2 rfl (RowV.mk hl36v) (.sel 2 rfl (.sel 0 rfl (.sel 0 rfl (.sel 0 rfl (.nil _))))))) (synodref4_Disk_Create.calls _ _ k b9v y13v.2.1 y13v.2.2.1 s12v.2.1 y13v.1 s12v.2.2.1 s12v.2.2.2.1 s12v.2.2.2.2.1 (x0.getD s12v.1.toNat ([] : List UInt8)) ) hs60v) (fun _ => ⟨rfl, rfl, rfl, rfl, rfl, rfl, rfl, rfl, rfl, rfl, rfl, rfl, trivial⟩) (fun _ => .inr rfl) (fun z => Ent.refl _)) zA))
 intro g65v
 refine nrm_then (sr ?_)
 refine vm rfl rfl ?_
 refine vq (q_not rfl rfl) rfl (simL_nil (nrm_then ?_))
 refine sim_condn rfl (fun h66v => ?_) (fun h67v => ?_)
 refine sim_skip ?_
 refine nrm_block (nrm_then (sim_region ?_))
 refine vm rfl rfl ?_
 refine vq (q_add rfl rfl rfl) rfl ?_
 refine va rfl rfl (simL_nil ?_)
 exact nrm_again (s := (IntKind.i64.wrap (s12v.1 + 1), s59v.2.1, s59v.2.2.1, s59v.2.2.2.1, s59v.2.2.2.2, s45v.2.1, s45v.2.2.1, s45v.2.2.2.1, s45v.2.2.2.2)) (g65v.2.2.2, g65v.2.1, g65v.2.2.1, g65v.1.1, g65v.1.2) ⟨rfl, rfl, rfl, rfl, rfl, trivial⟩ (.sel 0 rfl (.sel 2 rfl (.sel 0 rfl (.sel 1 rfl (.sel 0 rfl (.sel 0 rfl (.nil _)))))))
 refine sr ?_
 refine va rfl rfl (simL_nil (nrm_then (sim_rtn ?_)))
 refine rtn_block ?_
 refine rtn_then ?_
 refine rtn_loop ?_
 refine rtn_block ?_
 refine rtn_cutR ?_
 exact rtn_fn () rfl rfl rfl (.sel 5 rfl (.nil _))
 refine sim_exi ?_
 refine exi_then ?_
 refine exi_loop ?_
 refine exi_here ?_
 exact nrm_cutR (s := (s12v.2.1, s12v.2.2.1, s12v.2.2.2.1, s12v.2.2.2.2.1, s12v.2.2.2.2.2.1, s12v.2.2.2.2.2.2.1, s12v.2.2.2.2.2.2.2.1, s12v.2.2.2.2.2.2.2.2)) (y13v.1, y13v.2.1, y13v.2.2.1, y13v.2.2.2.1, y13v.2.2.2.2) ⟨rfl, rfl, rfl, trivial⟩ (.sel 0 rfl (.sel 0 rfl (.sel 0 rfl (.sel 0 rfl (.sel 0 rfl (.sel 0 rfl (.nil _)))))))
 intro s10v y11v
 refine sim_seq (sr ?_)
 refine vm rfl rfl ?_
 refine vn rfl rfl ?_
 refine vq (q_fa rfl rfl Try.underlying29 rfl rfl Try.sizeOf27 rfl) rfl ?_
 refine vq (q_load rfl rfl Try.isAgg27 (.obj 0 rfl rfl)) rfl ?_
 refine vq (q_len rfl rfl rfl Try.underlying27) rfl ?_
 refine vq (q_eql rfl rfl rfl) rfl (simL_nil (nrm_then ?_))
 refine sim_cond rfl (fun h68v => ?_) (fun h69v => ?_)
 refine sr ?_
 refine va rfl rfl (simL_nil (nrm_then (sim_rtn ?_)))
 refine rtn_then ?_
 exact rtn_fn () rfl rfl rfl (.sel 5 rfl (.nil _))
 refine sim_skip ?_
 refine nrm_then (sr ?_)
 refine vm rfl rfl ?_
 refine vq (q_rem rfl rfl rfl (by decide)) rfl ?_
 refine vq (q_add rfl rfl rfl) rfl ?_
 refine vq (q_rem rfl rfl rfl (by decide)) rfl ?_
 refine vq (q_sub rfl rfl rfl) rfl ?_
 refine va rfl rfl (nx ?_)
 refine vm rfl rfl ?_
 refine vn rfl rfl ?_
 refine vq (q_fa rfl rfl Try.underlying29 rfl rfl Try.sizeOf27 rfl) rfl ?_
 refine vq (q_load rfl rfl Try.isAgg27 (.obj 0 rfl rfl)) rfl ?_
 refine simL_openV 2 rfl (fun rs80v hl81v => ?_)
 refine simL_ask (fun hi72v => ?_)
 refine simL_posV 2 rfl hl81v rfl (i := (0 : Int).toNat) (by omega) dz36 (fun b73v b73vo r76v ha74v hV77v hlr78v hcell79v => ?_)
 obtain ⟨a82v, c83v, rfl, ⟨he84v, hc85v, hm86v⟩⟩ := hV77v
 refine vq (q_idx rfl rfl rfl ha74v Try.underlying27 Try.sizeOf36 hi72v.1 hi72v.2) rfl ?_
 refine vq (q_fa rfl rfl Try.underlying36 rfl rfl Try.sizeOf9 rfl) rfl ?_
 refine vq (q_load rfl rfl Try.isAgg9 (hcell79v 2 rfl 0 _ rfl)) rfl ?_
 refine va rfl rfl (nx ?_)
 refine vm rfl rfl ?_
 refine vq (q_add rfl rfl rfl) rfl ?_
 refine simL_ask (fun hb88v => ?_)
 refine simL_eff (re_makeb rfl rfl rfl Try.underlying34 elt5 hb88v.1 hb88v.2.1 hb88v.2.2) rfl rfl rfl ?_
 intro b87v
 refine va rfl rfl (nx ?_)
 refine vm rfl rfl ?_
 refine vm rfl rfl ?_
 refine vm rfl rfl ?_
 refine simL_bind (fun s93v hs94v => ?_)
 refine simL_lend 0 rfl (fun hq89v hq90v hq91v hq92v => ?_)
 refine simL_eff (re_call (vs := [.pointer (some ⟨y8v.1, 0, none⟩), str ((s10v.1.getD (0 : Int).toNat dz36).1), .slice (some ⟨b87v, 0, none⟩) ((List.replicate (IntKind.i64.wrap (16777216 + (IntKind.i64.wrap ((Int.tmod (IntKind.i64.wrap ((Int.tmod x1 5) + 5)) 5) - 2)))).toNat (0 : UInt8)).length) ((IntKind.i64.wrap (16777216 + (IntKind.i64.wrap ((Int.tmod (IntKind.i64.wrap ((Int.tmod x1 5) + 5)) 5) - 2)))).toNat)]) (cap := []) (A := [obj y8v.1 64 [.map (some y11v.2.2.2.1), str s10v.2.2.2.2.2.1, .int .i64 s10v.2.2.2.2.2.2.1, .bool s10v.2.2.2.2.2.2.2], mapF (mapO y11v.2.2.2.1 enc9 encP y11v.2.2.2.2) FA68 y11v.2.2.2.2 s10v.2.2.2.2.1]) (rst := [Row 5 1 (some ⟨b87v, 0, none⟩) (List.replicate (IntKind.i64.wrap (16777216 + (IntKind.i64.wrap ((Int.tmod (IntKind.i64.wrap ((Int.tmod x1 5) + 5)) 5) - 2)))).toNat (0 : UInt8)).length ((IntKind.i64.wrap (16777216 + (IntKind.i64.wrap ((Int.tmod (IntKind.i64.wrap ((Int.tmod x1 5) + 5)) 5) - 2)))).toNat) (encB (List.replicate (IntKind.i64.wrap (16777216 + (IntKind.i64.wrap ((Int.tmod (IntKind.i64.wrap ((Int.tmod x1 5) + 5)) 5) - 2)))).toNat (0 : UInt8))), obj b9v 29 [.slice y11v.2.1 s10v.1.length y11v.2.2.1, .int .i64 s10v.2.1, .bool s10v.2.2.1, str s10v.2.2.2.1], Row 36 3 y11v.2.1 s10v.1.length y11v.2.2.1 rs80v.flatten, y11v.1, F]) rfl rfl rfl rfl rfl rfl Try.call14 (.sel 2 rfl (.sel 3 rfl (.sel 0 rfl (.sel 0 rfl (.sel 0 rfl (.sel 0 rfl (.sel 0 rfl (.nil _)))))))) (disk_Disk_Append.calls _ _ y8v.1 y11v.2.2.2.1 y11v.2.2.2.2 s10v.2.2.2.2.1 s10v.2.2.2.2.2.1 s10v.2.2.2.2.2.2.1 s10v.2.2.2.2.2.2.2 ((s10v.1.getD (0 : Int).toNat dz36).1) (some ⟨b87v, 0, none⟩) ((IntKind.i64.wrap (16777216 + (IntKind.i64.wrap ((Int.tmod (IntKind.i64.wrap ((Int.tmod x1 5) + 5)) 5) - 2)))).toNat) (List.replicate (IntKind.i64.wrap (16777216 + (IntKind.i64.wrap ((Int.tmod (IntKind.i64.wrap ((Int.tmod x1 5) + 5)) 5) - 2)))).toNat (0 : UInt8)) (hq89v.lend 0 rfl) hq90v hq91v) hs94v) rfl rfl rfl ?_
 intro y95v
 refine va rfl rfl (nx ?_)
 refine vm rfl rfl ?_
 refine vm rfl rfl ?_
 refine vm rfl rfl ?_
 refine simL_bind (fun s100v hs101v => ?_)
 refine simL_lend 2 rfl (fun hq96v hq97v hq98v hq99v => ?_)
 refine simL_eff (re_call (vs := [.pointer (some ⟨b9v, 0, none⟩), str ((s10v.1.getD (0 : Int).toNat dz36).1), .slice (some ⟨b87v, 0, none⟩) ((List.replicate (IntKind.i64.wrap (16777216 + (IntKind.i64.wrap ((Int.tmod (IntKind.i64.wrap ((Int.tmod x1 5) + 5)) 5) - 2)))).toNat (0 : UInt8)).length) ((IntKind.i64.wrap (16777216 + (IntKind.i64.wrap ((Int.tmod (IntKind.i64.wrap ((Int.tmod x1 5) + 5)) 5) - 2)))).toNat)]) (cap := []) (A := [obj b9v 29 [.slice y11v.2.1 s10v.1.length y11v.2.2.1, .int .i64 s10v.2.1, .bool s10v.2.2.1, str s10v.2.2.2.1], RowV 36 3 (V36 (y11v.1)) y11v.2.1 s10v.1 y11v.2.2.1, y11v.1]) (rst := [obj y8v.1 64 [.map (some y95v.1), str s93v.2.2.1, .int .i64 s93v.2.2.2.1, .bool s93v.2.2.2.2], mapF (mapO y95v.1 enc9 encP y95v.2) FA68 y95v.2 s93v.2.1, Row 5 1 (some ⟨b87v, 0, none⟩) (List.replicate (IntKind.i64.wrap (16777216 + (IntKind.i64.wrap ((Int.tmod (IntKind.i64.wrap ((Int.tmod x1 5) + 5)) 5) - 2)))).toNat (0 : UInt8)).length ((IntKind.i64.wrap (16777216 + (IntKind.i64.wrap ((Int.tmod (IntKind.i64.wrap ((Int.tmod x1 5) + 5)) 5) - 2)))).toNat) (encB (List.replicate (IntKind.i64.wrap (16777216 + (IntKind.i64.wrap ((Int.tmod (IntKind.i64.wrap ((Int.tmod x1 5) + 5)) 5) - 2)))).toNat (0 : UInt8))), F]) rfl rfl rfl rfl rfl rfl Try.call15 (.sel 3 rfl (.sel' 3 rfl (RowV.mk hl81v) (.sel 3 rfl (.sel 0 rfl (.sel 0 rfl (.sel 0 rfl (.sel 0 rfl (.nil _)))))))) (synodref4_Disk_Append.calls _ _ k b9v y11v.2.1 y11v.2.2.1 s10v.1 y11v.1 s10v.2.1 s10v.2.2.1 s10v.2.2.2.1 ((s10v.1.getD (0 : Int).toNat dz36).1) (some ⟨b87v, 0, none⟩) ((IntKind.i64.wrap (16777216 + (IntKind.i64.wrap ((Int.tmod (IntKind.i64.wrap ((Int.tmod x1 5) + 5)) 5) - 2)))).toNat) (List.replicate (IntKind.i64.wrap (16777216 + (IntKind.i64.wrap ((Int.tmod (IntKind.i64.wrap ((Int.tmod x1 5) + 5)) 5) - 2)))).toNat (0 : UInt8)) (hq96v.lend 2 rfl) hq97v hq98v) hs101v) rfl rfl rfl ?_
 intro y102v
 refine va rfl rfl (nx ?_)
 refine vm rfl rfl ?_
 refine vm rfl rfl ?_
 refine simL_eff (re_litb (cs := [.int .u8 1]) ([1] : List UInt8) rfl rfl Try.underlying34 elt5 rfl (by kernel_rfl) rfl rfl rfl) rfl rfl rfl ?_
 intro b103v
 refine simL_bind (fun s109v hs110v => ?_)
 refine simL_lend 0 rfl (fun hq105v hq106v hq107v hq108v => ?_)
 refine simL_eff (re_call (vs := [.pointer (some ⟨y8v.1, 0, none⟩), str ((s10v.1.getD (0 : Int).toNat dz36).1), .slice (some ⟨b103v, 0, none⟩) (([1] : List UInt8).length) 1]) (cap := []) (A := [obj y8v.1 64 [.map (some y95v.1), str s93v.2.2.1, .int .i64 s93v.2.2.2.1, .bool s93v.2.2.2.2], mapF (mapO y95v.1 enc9 encP y95v.2) FA68 y95v.2 s93v.2.1]) (rst := [Row 5 1 (some ⟨b103v, 0, none⟩) ([1] : List UInt8).length 1 (encB ([1] : List UInt8)), obj b9v 29 [.slice y102v.1 s100v.2.1.length y102v.2.1, .int .i64 s100v.2.2.1, .bool s100v.2.2.2.1, str s100v.2.2.2.2], RowV 36 3 (V36 (y102v.2.2)) y102v.1 s100v.2.1 y102v.2.1, y102v.2.2, Row 5 1 (some ⟨b87v, 0, none⟩) (List.replicate (IntKind.i64.wrap (16777216 + (IntKind.i64.wrap ((Int.tmod (IntKind.i64.wrap ((Int.tmod x1 5) + 5)) 5) - 2)))).toNat (0 : UInt8)).length ((IntKind.i64.wrap (16777216 + (IntKind.i64.wrap ((Int.tmod (IntKind.i64.wrap ((Int.tmod x1 5) + 5)) 5) - 2)))).toNat) (encB (List.replicate (IntKind.i64.wrap (16777216 + (IntKind.i64.wrap ((Int.tmod (IntKind.i64.wrap ((Int.tmod x1 5) + 5)) 5) - 2)))).toNat (0 : UInt8))), F]) rfl rfl rfl rfl rfl rfl Try.call14 (.sel 4 rfl (.sel 4 rfl (.sel 0 rfl (.sel 0 rfl (.sel 0 rfl (.sel 0 rfl (.sel 0 rfl (.sel 0 rfl (.nil _))))))))) (disk_Disk_Append.calls _ _ y8v.1 y95v.1 y95v.2 s93v.2.1 s93v.2.2.1 s93v.2.2.2.1 s93v.2.2.2.2 ((s10v.1.getD (0 : Int).toNat dz36).1) (some ⟨b103v, 0, none⟩) 1 ([1] : List UInt8) (hq105v.lend 0 rfl) hq106v hq107v) hs110v) rfl rfl rfl ?_
 intro y111v
 refine va rfl rfl (nx ?_)
 refine vm rfl rfl ?_
 refine vm rfl rfl ?_
 refine simL_eff (re_litb (cs := [.int .u8 1]) ([1] : List UInt8) rfl rfl Try.underlying34 elt5 rfl (by kernel_rfl) rfl rfl rfl) rfl rfl rfl ?_
 intro b112v
 refine simL_openV 5 rfl (fun rs114v hl115v => ?_)
 refine simL_bind (fun s120v hs121v => ?_)
 refine simL_lend 0 rfl (fun hq116v hq117v hq118v hq119v => ?_)
 refine simL_eff (re_call (vs := [.pointer (some ⟨b9v, 0, none⟩), str ((s10v.1.getD (0 : Int).toNat dz36).1), .slice (some ⟨b112v, 0, none⟩) (([1] : List UInt8).length) 1]) (cap := []) (A := [obj b9v 29 [.slice y102v.1 s100v.2.1.length y102v.2.1, .int .i64 s100v.2.2.1, .bool s100v.2.2.2.1, str s100v.2.2.2.2], RowV 36 3 (V36 (y102v.2.2)) y102v.1 s100v.2.1 y102v.2.1, y102v.2.2]) (rst := [Row 5 1 (some ⟨b112v, 0, none⟩) ([1] : List UInt8).length 1 (encB ([1] : List UInt8)), obj y8v.1 64 [.map (some y111v.1), str s109v.2.2.1, .int .i64 s109v.2.2.2.1, .bool s109v.2.2.2.2], mapF (mapO y111v.1 enc9 encP y111v.2) FA68 y111v.2 s109v.2.1, Row 5 1 (some ⟨b103v, 0, none⟩) ([1] : List UInt8).length 1 (encB ([1] : List UInt8)), Row 5 1 (some ⟨b87v, 0, none⟩) (List.replicate (IntKind.i64.wrap (16777216 + (IntKind.i64.wrap ((Int.tmod (IntKind.i64.wrap ((Int.tmod x1 5) + 5)) 5) - 2)))).toNat (0 : UInt8)).length ((IntKind.i64.wrap (16777216 + (IntKind.i64.wrap ((Int.tmod (IntKind.i64.wrap ((Int.tmod x1 5) + 5)) 5) - 2)))).toNat) (encB (List.replicate (IntKind.i64.wrap (16777216 + (IntKind.i64.wrap ((Int.tmod (IntKind.i64.wrap ((Int.tmod x1 5) + 5)) 5) - 2)))).toNat (0 : UInt8))), F]) rfl rfl rfl rfl rfl rfl Try.call15 (.sel 4 rfl (.sel' 4 rfl (RowV.mk hl115v) (.sel 4 rfl (.sel 0 rfl (.sel 0 rfl (.sel 0 rfl (.sel 0 rfl (.sel 0 rfl (.sel 0 rfl (.nil _)))))))))) (synodref4_Disk_Append.calls _ _ k b9v y102v.1 y102v.2.1 s100v.2.1 y102v.2.2 s100v.2.2.1 s100v.2.2.2.1 s100v.2.2.2.2 ((s10v.1.getD (0 : Int).toNat dz36).1) (some ⟨b112v, 0, none⟩) 1 ([1] : List UInt8) (hq116v.lend 0 rfl) hq117v hq118v) hs121v) rfl rfl rfl ?_
 intro y122v
 refine va rfl rfl (simL_nil (nrm_then ?_))
 refine sim_cut (S := Bool) (Unit) (fun s y => [(4, .bool s)]) (fun s y => [F]) ?_ ?_
 refine sim_openV 1 rfl (fun rs125v hl126v => ?_)
 refine sim_bind (fun s133v hs134v => ?_)
 refine sim_lend 1 rfl (fun hq136v hq137v hq138v hq139v => ?_)
 refine sim_bind (fun s140v hs141v => ?_)
 refine sim_if (fun hk143v => ?_) (fun hk143v => ?_)
 refine sim_bind (fun s144v hs145v => ?_)
 refine sim_draw (Γ := (Option Addr × Nat)) (none, 0) [[], [0], [], [0, 1, 2], rL 4, rL 5, rL 6, rL 5, rL 8, rL 9, rL 10, rL 11, rL 12, rL 11, rL 14, rL 15, rL 16, rL 17, rL 18, rL 19, rL 20, rL 18, [0, 1, 2, 3, 4, 5, 6, 7, 8, 9, 10, 11, 12, 13, 14, 15, 16, 17, 21], [0, 1, 2, 3, 4, 5, 6, 7, 8, 9, 10, 11, 12, 13, 14, 15, 16, 17, 21, 22], [0, 1, 2, 3, 4, 5, 6, 7, 8, 9, 10, 11, 12, 13, 14, 15, 16, 17, 21, 22, 23], [0, 1, 2, 3, 4, 5, 6, 7, 8, 9, 10, 11, 12, 13, 14, 15, 16, 17, 21, 22, 23, 24], rL 26, rL 27, rL 28] [19] [0, 1, 2, 3, 4, 5, 6, 7, 8, 9, 10, 11, 12, 13, 14, 15, 16, 17, 18, 20, 21, 22, 23, 24, 25, 26, 27, 28] (fun i => [[0], [0], [0], [0], [0], [0], [0], [0], [0], [0], [0], [0], [0], [0], [0], [0], [0], [0], [0], [], [1], [0, 1], [0, 1], [0, 1], [0, 1], [0, 1], [1], [1], [1]].getD i []) (fun i => [[], [], [], [], [], [], [], [], [], [], [], [], [], [], [], [], [], [], [], [0, 1, 2, 3, 4, 5, 6, 7, 8, 9, 10, 11, 12, 13, 14, 15, 16, 17, 18, 21, 22, 23, 24, 25], [], [], [], [], [], [], [], [], []].getD i []) (fun γ i => [.int .i64 s93v.1, .int .i64 (synodref_Num.v s93v.1), .int .i64 s100v.1, .bool (decide ((synodref_Num.v s93v.1) = s100v.1)), .bool (decide ((synodref_Num.v s93v.1) = s100v.1)), cv ((decide ((synodref_Num.v s93v.1) = s100v.1)) == true) (.int .i64 s109v.1), cv ((decide ((synodref_Num.v s93v.1) = s100v.1)) == true) (.int .i64 (synodref_Num.v s109v.1)), cv ((decide ((synodref_Num.v s93v.1) = s100v.1)) == true) (.int .i64 s120v.1), cv ((decide ((synodref_Num.v s93v.1) = s100v.1)) == true) (.bool (decide ((synodref_Num.v s109v.1) = s120v.1))), .bool ((decide ((synodref_Num.v s93v.1) = s100v.1)) && (decide ((synodref_Num.v s109v.1) = s120v.1))), .bool ((decide ((synodref_Num.v s93v.1) = s100v.1)) && (decide ((synodref_Num.v s109v.1) = s120v.1))), cv (((decide ((synodref_Num.v s93v.1) = s100v.1)) && (decide ((synodref_Num.v s109v.1) = s120v.1))) == true) (.pointer (some ⟨y8v.1, 0, none⟩)), cv (((decide ((synodref_Num.v s93v.1) = s100v.1)) && (decide ((synodref_Num.v s109v.1) = s120v.1))) == true) (.int .i64 s133v), cv (((decide ((synodref_Num.v s93v.1) = s100v.1)) && (decide ((synodref_Num.v s109v.1) = s120v.1))) == true) (.pointer (some ⟨b9v, 0, none⟩)), cv (((decide ((synodref_Num.v s93v.1) = s100v.1)) && (decide ((synodref_Num.v s109v.1) = s120v.1))) == true) (.int .i64 s140v), cv (((decide ((synodref_Num.v s93v.1) = s100v.1)) && (decide ((synodref_Num.v s109v.1) = s120v.1))) == true) (.bool (decide (s133v = s140v))), .bool (((decide ((synodref_Num.v s93v.1) = s100v.1)) && (decide ((synodref_Num.v s109v.1) = s120v.1))) && (decide (s133v = s140v))), .bool (((decide ((synodref_Num.v s93v.1) = s100v.1)) && (decide ((synodref_Num.v s109v.1) = s120v.1))) && (decide (s133v = s140v))), .pointer (some ⟨y8v.1, 0, none⟩), .slice γ.1 s144v.length γ.2, .int .i64 (s144v.length : Int), .pointer (some ⟨b9v, 0, none⟩), .pointer (some ⟨b9v, 0, none⟩), .pointer (some ⟨b9v, 0, none⟩), .slice y122v.1 s120v.2.1.length y122v.2.1, .int .i64 (s120v.2.1.length : Int), .bool (decide ((s144v.length : Int) = (s120v.2.1.length : Int))), .bool (decide ((s144v.length : Int) = (s120v.2.1.length : Int))), .bool (decide ((s144v.length : Int) = (s120v.2.1.length : Int)))].getD i undef) (fun j γ => [[obj b9v 29 [.slice y122v.1 s120v.2.1.length y122v.2.1, .int .i64 s120v.2.2.1, .bool s120v.2.2.2.1, str s120v.2.2.2.2], Row 36 3 y122v.1 s120v.2.1.length y122v.2.1 rs125v.flatten, y122v.2.2, Row 5 1 (some ⟨b112v, 0, none⟩) ([1] : List UInt8).length 1 (encB ([1] : List UInt8)), obj y8v.1 64 [.map (some y111v.1), str s109v.2.2.1, .int .i64 s109v.2.2.2.1, .bool s109v.2.2.2.2], mapF (mapO y111v.1 enc9 encP y111v.2) FA68 y111v.2 s109v.2.1, Row 5 1 (some ⟨b103v, 0, none⟩) ([1] : List UInt8).length 1 (encB ([1] : List UInt8)), Row 5 1 (some ⟨b87v, 0, none⟩) (List.replicate (IntKind.i64.wrap (16777216 + (IntKind.i64.wrap ((Int.tmod (IntKind.i64.wrap ((Int.tmod x1 5) + 5)) 5) - 2)))).toNat (0 : UInt8)).length ((IntKind.i64.wrap (16777216 + (IntKind.i64.wrap ((Int.tmod (IntKind.i64.wrap ((Int.tmod x1 5) + 5)) 5) - 2)))).toNat) (encB (List.replicate (IntKind.i64.wrap (16777216 + (IntKind.i64.wrap ((Int.tmod (IntKind.i64.wrap ((Int.tmod x1 5) + 5)) 5) - 2)))).toNat (0 : UInt8))), F], [RowV 9 1 (V9 tt) γ.1 s144v γ.2, obj y8v.1 64 [.map (some y111v.1), str s109v.2.2.1, .int .i64 s109v.2.2.2.1, .bool s109v.2.2.2.2], mapF (mapO y111v.1 enc9 encP y111v.2) FA68 y111v.2 s109v.2.1, obj b9v 29 [.slice y122v.1 s120v.2.1.length y122v.2.1, .int .i64 s120v.2.2.1, .bool s120v.2.2.2.1, str s120v.2.2.2.2], Row 36 3 y122v.1 s120v.2.1.length y122v.2.1 rs125v.flatten, y122v.2.2, Row 5 1 (some ⟨b112v, 0, none⟩) ([1] : List UInt8).length 1 (encB ([1] : List UInt8)), Row 5 1 (some ⟨b103v, 0, none⟩) ([1] : List UInt8).length 1 (encB ([1] : List UInt8)), Row 5 1 (some ⟨b87v, 0, none⟩) (List.replicate (IntKind.i64.wrap (16777216 + (IntKind.i64.wrap ((Int.tmod (IntKind.i64.wrap ((Int.tmod x1 5) + 5)) 5) - 2)))).toNat (0 : UInt8)).length ((IntKind.i64.wrap (16777216 + (IntKind.i64.wrap ((Int.tmod (IntKind.i64.wrap ((Int.tmod x1 5) + 5)) 5) - 2)))).toNat) (encB (List.replicate (IntKind.i64.wrap (16777216 + (IntKind.i64.wrap ((Int.tmod (IntKind.i64.wrap ((Int.tmod x1 5) + 5)) 5) - 2)))).toNat (0 : UInt8))), F]].getD j []) (fun γ => [(4, .bool (decide ((s144v.length : Int) = (s120v.2.1.length : Int))))]) mixed (by decide) (by decide) (by decide) (by decide) (by decide) (by decide) (by decide) 121 rfl (by decide) (by decide) (by decide) (Ent.refl _) ?_ ?_ (fun _ => ⟨rfl, trivial⟩) ?_
 exact (aq rfl (fun γ => qm rfl (.o (s := 12) rfl (by decide) .nil) rfl) (aq rfl (fun γ => qp rfl rfl (.v 0 rfl rfl .nil) (RE.rq (re_call (vs := [.int .i64 s93v.1]) (cap := []) (A := []) (rst := [obj b9v 29 [.slice y122v.1 s120v.2.1.length y122v.2.1, .int .i64 s120v.2.2.1, .bool s120v.2.2.2.1, str s120v.2.2.2.2], Row 36 3 y122v.1 s120v.2.1.length y122v.2.1 rs125v.flatten, y122v.2.2, Row 5 1 (some ⟨b112v, 0, none⟩) ([1] : List UInt8).length 1 (encB ([1] : List UInt8)), obj y8v.1 64 [.map (some y111v.1), str s109v.2.2.1, .int .i64 s109v.2.2.2.1, .bool s109v.2.2.2.2], mapF (mapO y111v.1 enc9 encP y111v.2) FA68 y111v.2 s109v.2.1, Row 5 1 (some ⟨b103v, 0, none⟩) ([1] : List UInt8).length 1 (encB ([1] : List UInt8)), Row 5 1 (some ⟨b87v, 0, none⟩) (List.replicate (IntKind.i64.wrap (16777216 + (IntKind.i64.wrap ((Int.tmod (IntKind.i64.wrap ((Int.tmod x1 5) + 5)) 5) - 2)))).toNat (0 : UInt8)).length ((IntKind.i64.wrap (16777216 + (IntKind.i64.wrap ((Int.tmod (IntKind.i64.wrap ((Int.tmod x1 5) + 5)) 5) - 2)))).toNat) (encB (List.replicate (IntKind.i64.wrap (16777216 + (IntKind.i64.wrap ((Int.tmod (IntKind.i64.wrap ((Int.tmod x1 5) + 5)) 5) - 2)))).toNat (0 : UInt8))), F]) rfl rfl rfl rfl rfl rfl Try.call11 (.sel 0 rfl (.sel 0 rfl (.sel 0 rfl (.sel 0 rfl (.sel 0 rfl (.sel 0 rfl (.sel 0 rfl (.sel 0 rfl (.sel 0 rfl (.nil _)))))))))) (synodref_Num.calls _ _ s93v.1 ) (synodref_Num.tot s93v.1)) (fun _ => rfl) (fun _ => (.sel 0 rfl (.sel 0 rfl (.sel 0 rfl (.sel 0 rfl (.sel 0 rfl (.sel 0 rfl (.sel 0 rfl (.sel 0 rfl (.sel 0 rfl (.nil _)))))))))))) rfl) (aq rfl (fun γ => qm rfl (.o (s := 13) rfl (by decide) .nil) rfl) (aq rfl (fun γ => qp rfl rfl (.v 1 rfl rfl (.v 2 rfl rfl .nil)) (q_eql rfl rfl rfl) rfl) (aq rfl (fun γ => qm rfl (.v 3 rfl rfl .nil) rfl) (aq rfl (fun γ => QOb.grd (b := decide ((synodref_Num.v s93v.1) = s100v.1)) [(14, .int .i64 s109v.1), (97, .bool (decide ((synodref_Num.v s93v.1) = s100v.1)))] rfl rfl rfl rfl (.o (s := 14) rfl (by decide) (.v 4 rfl rfl .nil)) (fun hb150v => RQ.sub (E' := [(14, .int .i64 s109v.1)]) ⟨rfl, trivial⟩ (q_move rfl rfl)) rfl) (aq rfl (fun γ => QOb.grd (b := decide ((synodref_Num.v s93v.1) = s100v.1)) [(97, .bool (decide ((synodref_Num.v s93v.1) = s100v.1))), (98, cv ((decide ((synodref_Num.v s93v.1) = s100v.1)) == true) (.int .i64 s109v.1))] rfl rfl rfl rfl (.v 4 rfl rfl (.v 5 rfl rfl .nil)) (fun hb154v => RQ.sub (E' := [(98, .int .i64 s109v.1)]) ⟨lk_cv rfl hb154v, trivial⟩ (RE.rq (re_call (vs := [.int .i64 s109v.1]) (cap := []) (A := []) (rst := [obj b9v 29 [.slice y122v.1 s120v.2.1.length y122v.2.1, .int .i64 s120v.2.2.1, .bool s120v.2.2.2.1, str s120v.2.2.2.2], Row 36 3 y122v.1 s120v.2.1.length y122v.2.1 rs125v.flatten, y122v.2.2, Row 5 1 (some ⟨b112v, 0, none⟩) ([1] : List UInt8).length 1 (encB ([1] : List UInt8)), obj y8v.1 64 [.map (some y111v.1), str s109v.2.2.1, .int .i64 s109v.2.2.2.1, .bool s109v.2.2.2.2], mapF (mapO y111v.1 enc9 encP y111v.2) FA68 y111v.2 s109v.2.1, Row 5 1 (some ⟨b103v, 0, none⟩) ([1] : List UInt8).length 1 (encB ([1] : List UInt8)), Row 5 1 (some ⟨b87v, 0, none⟩) (List.replicate (IntKind.i64.wrap (16777216 + (IntKind.i64.wrap ((Int.tmod (IntKind.i64.wrap ((Int.tmod x1 5) + 5)) 5) - 2)))).toNat (0 : UInt8)).length ((IntKind.i64.wrap (16777216 + (IntKind.i64.wrap ((Int.tmod (IntKind.i64.wrap ((Int.tmod x1 5) + 5)) 5) - 2)))).toNat) (encB (List.replicate (IntKind.i64.wrap (16777216 + (IntKind.i64.wrap ((Int.tmod (IntKind.i64.wrap ((Int.tmod x1 5) + 5)) 5) - 2)))).toNat (0 : UInt8))), F]) rfl rfl rfl rfl rfl rfl Try.call11 (.sel 0 rfl (.sel 0 rfl (.sel 0 rfl (.sel 0 rfl (.sel 0 rfl (.sel 0 rfl (.sel 0 rfl (.sel 0 rfl (.sel 0 rfl (.nil _)))))))))) (synodref_Num.calls _ _ s109v.1 ) (synodref_Num.tot s109v.1)) (fun _ => rfl) (fun _ => (.sel 0 rfl (.sel 0 rfl (.sel 0 rfl (.sel 0 rfl (.sel 0 rfl (.sel 0 rfl (.sel 0 rfl (.sel 0 rfl (.sel 0 rfl (.nil _))))))))))))) rfl) (aq rfl (fun γ => QOb.grd (b := decide ((synodref_Num.v s93v.1) = s100v.1)) [(15, .int .i64 s120v.1), (97, .bool (decide ((synodref_Num.v s93v.1) = s100v.1)))] rfl rfl rfl rfl (.o (s := 15) rfl (by decide) (.v 4 rfl rfl .nil)) (fun hb155v => RQ.sub (E' := [(15, .int .i64 s120v.1)]) ⟨rfl, trivial⟩ (q_move rfl rfl)) rfl) (aq rfl (fun γ => QOb.grd (b := decide ((synodref_Num.v s93v.1) = s100v.1)) [(97, .bool (decide ((synodref_Num.v s93v.1) = s100v.1))), (99, cv ((decide ((synodref_Num.v s93v.1) = s100v.1)) == true) (.int .i64 (synodref_Num.v s109v.1))), (100, cv ((decide ((synodref_Num.v s93v.1) = s100v.1)) == true) (.int .i64 s120v.1))] rfl rfl rfl rfl (.v 4 rfl rfl (.v 6 rfl rfl (.v 7 rfl rfl .nil))) (fun hb156v => RQ.sub (E' := [(99, .int .i64 (synodref_Num.v s109v.1)), (100, .int .i64 s120v.1)]) ⟨lk_cv rfl hb156v, lk_cv rfl hb156v, trivial⟩ (q_eql rfl rfl rfl)) rfl) (aq rfl (fun γ => qp rfl rfl (.v 4 rfl rfl (.v 8 rfl rfl .nil)) (q_and rfl rfl rfl) rfl) (aq rfl (fun γ => qm rfl (.v 9 rfl rfl .nil) rfl) (aq rfl (fun γ => QOb.grd (b := (decide ((synodref_Num.v s93v.1) = s100v.1)) && (decide ((synodref_Num.v s109v.1) = s120v.1))) [(6, .pointer (some ⟨y8v.1, 0, none⟩)), (103, .bool ((decide ((synodref_Num.v s93v.1) = s100v.1)) && (decide ((synodref_Num.v s109v.1) = s120v.1))))] rfl rfl rfl rfl (.o (s := 6) rfl (by decide) (.v 10 rfl rfl .nil)) (fun hb157v => RQ.sub (E' := [(6, .pointer (some ⟨y8v.1, 0, none⟩))]) ⟨rfl, trivial⟩ (q_move rfl rfl)) rfl) (aq rfl (fun γ => QOb.grd (b := (decide ((synodref_Num.v s93v.1) = s100v.1)) && (decide ((synodref_Num.v s109v.1) = s120v.1))) [(103, .bool ((decide ((synodref_Num.v s93v.1) = s100v.1)) && (decide ((synodref_Num.v s109v.1) = s120v.1)))), (104, cv (((decide ((synodref_Num.v s93v.1) = s100v.1)) && (decide ((synodref_Num.v s109v.1) = s120v.1))) == true) (.pointer (some ⟨y8v.1, 0, none⟩)))] rfl rfl rfl rfl (.v 10 rfl rfl (.v 11 rfl rfl .nil)) (fun hb158v => RQ.sub (E' := [(104, .pointer (some ⟨y8v.1, 0, none⟩))]) ⟨lk_cv rfl hb158v, trivial⟩ (RE.rq (re_call (vs := [.pointer (some ⟨y8v.1, 0, none⟩)]) (cap := []) (A := [obj y8v.1 64 [.map (some y111v.1), str s109v.2.2.1, .int .i64 s109v.2.2.2.1, .bool s109v.2.2.2.2], mapF (mapO y111v.1 enc9 encP y111v.2) FA68 y111v.2 s109v.2.1]) (rst := [obj b9v 29 [.slice y122v.1 s120v.2.1.length y122v.2.1, .int .i64 s120v.2.2.1, .bool s120v.2.2.2.1, str s120v.2.2.2.2], Row 36 3 y122v.1 s120v.2.1.length y122v.2.1 rs125v.flatten, y122v.2.2, Row 5 1 (some ⟨b112v, 0, none⟩) ([1] : List UInt8).length 1 (encB ([1] : List UInt8)), Row 5 1 (some ⟨b103v, 0, none⟩) ([1] : List UInt8).length 1 (encB ([1] : List UInt8)), Row 5 1 (some ⟨b87v, 0, none⟩) (List.replicate (IntKind.i64.wrap (16777216 + (IntKind.i64.wrap ((Int.tmod (IntKind.i64.wrap ((Int.tmod x1 5) + 5)) 5) - 2)))).toNat (0 : UInt8)).length ((IntKind.i64.wrap (16777216 + (IntKind.i64.wrap ((Int.tmod (IntKind.i64.wrap ((Int.tmod x1 5) + 5)) 5) - 2)))).toNat) (encB (List.replicate (IntKind.i64.wrap (16777216 + (IntKind.i64.wrap ((Int.tmod (IntKind.i64.wrap ((Int.tmod x1 5) + 5)) 5) - 2)))).toNat (0 : UInt8))), F]) rfl rfl rfl rfl rfl rfl Try.call16 (.sel 4 rfl (.sel 4 rfl (.sel 0 rfl (.sel 0 rfl (.sel 0 rfl (.sel 0 rfl (.sel 0 rfl (.sel 0 rfl (.sel 0 rfl (.nil _)))))))))) (disk_Disk_Size.calls _ _ y8v.1 y111v.1 y111v.2 s109v.2.1 s109v.2.2.1 s109v.2.2.2.1 s109v.2.2.2.2 ) (by rw [if_pos hb158v] at hs134v; exact hs134v)) (fun _ => rfl) (fun _ => (.sel 2 rfl (.sel 2 rfl (.sel 2 rfl (.sel 2 rfl (.sel 0 rfl (.sel 0 rfl (.sel 0 rfl (.sel 0 rfl (.sel 0 rfl (.nil _))))))))))))) rfl) (aq rfl (fun γ => QOb.grd (b := (decide ((synodref_Num.v s93v.1) = s100v.1)) && (decide ((synodref_Num.v s109v.1) = s120v.1))) [(7, .pointer (some ⟨b9v, 0, none⟩)), (103, .bool ((decide ((synodref_Num.v s93v.1) = s100v.1)) && (decide ((synodref_Num.v s109v.1) = s120v.1))))] rfl rfl rfl rfl (.o (s := 7) rfl (by decide) (.v 10 rfl rfl .nil)) (fun hb159v => RQ.sub (E' := [(7, .pointer (some ⟨b9v, 0, none⟩))]) ⟨rfl, trivial⟩ (q_move rfl rfl)) rfl) (aq rfl (fun γ => QOb.grd (b := (decide ((synodref_Num.v s93v.1) = s100v.1)) && (decide ((synodref_Num.v s109v.1) = s120v.1))) [(103, .bool ((decide ((synodref_Num.v s93v.1) = s100v.1)) && (decide ((synodref_Num.v s109v.1) = s120v.1)))), (106, cv (((decide ((synodref_Num.v s93v.1) = s100v.1)) && (decide ((synodref_Num.v s109v.1) = s120v.1))) == true) (.pointer (some ⟨b9v, 0, none⟩)))] rfl rfl rfl rfl (.v 10 rfl rfl (.v 13 rfl rfl .nil)) (fun hb160v => RQ.sub (E' := [(106, .pointer (some ⟨b9v, 0, none⟩))]) ⟨lk_cv rfl hb160v, trivial⟩ (RE.rq (re_call (vs := [.pointer (some ⟨b9v, 0, none⟩)]) (cap := []) (A := [obj b9v 29 [.slice y122v.1 s120v.2.1.length y122v.2.1, .int .i64 s120v.2.2.1, .bool s120v.2.2.2.1, str s120v.2.2.2.2]]) (rst := [Row 36 3 y122v.1 s120v.2.1.length y122v.2.1 rs125v.flatten, y122v.2.2, Row 5 1 (some ⟨b112v, 0, none⟩) ([1] : List UInt8).length 1 (encB ([1] : List UInt8)), obj y8v.1 64 [.map (some y111v.1), str s109v.2.2.1, .int .i64 s109v.2.2.2.1, .bool s109v.2.2.2.2], mapF (mapO y111v.1 enc9 encP y111v.2) FA68 y111v.2 s109v.2.1, Row 5 1 (some ⟨b103v, 0, none⟩) ([1] : List UInt8).length 1 (encB ([1] : List UInt8)), Row 5 1 (some ⟨b87v, 0, none⟩) (List.replicate (IntKind.i64.wrap (16777216 + (IntKind.i64.wrap ((Int.tmod (IntKind.i64.wrap ((Int.tmod x1 5) + 5)) 5) - 2)))).toNat (0 : UInt8)).length ((IntKind.i64.wrap (16777216 + (IntKind.i64.wrap ((Int.tmod (IntKind.i64.wrap ((Int.tmod x1 5) + 5)) 5) - 2)))).toNat) (encB (List.replicate (IntKind.i64.wrap (16777216 + (IntKind.i64.wrap ((Int.tmod (IntKind.i64.wrap ((Int.tmod x1 5) + 5)) 5) - 2)))).toNat (0 : UInt8))), F]) rfl rfl rfl rfl rfl rfl Try.call17 (.sel 0 rfl (.sel 0 rfl (.sel 0 rfl (.sel 0 rfl (.sel 0 rfl (.sel 0 rfl (.sel 0 rfl (.sel 0 rfl (.sel 0 rfl (.nil _)))))))))) (synodref4_Disk_Size.calls _ _ k b9v y122v.1 y122v.2.1 s120v.2.1 s120v.2.2.1 s120v.2.2.2.1 s120v.2.2.2.2 ((Rd.asV hl126v hq136v).up (Up.lend 0 rfl) (V36.up (Up.lend 1 rfl))) hq137v hq138v) (by rw [if_pos hb160v] at hs141v; exact hs141v)) (fun _ => rfl) (fun _ => (.sel 0 rfl (.sel 0 rfl (.sel 0 rfl (.sel 0 rfl (.sel 0 rfl (.sel 0 rfl (.sel 0 rfl (.sel 0 rfl (.sel 0 rfl (.nil _))))))))))))) rfl) (aq rfl (fun γ => QOb.grd (b := (decide ((synodref_Num.v s93v.1) = s100v.1)) && (decide ((synodref_Num.v s109v.1) = s120v.1))) [(103, .bool ((decide ((synodref_Num.v s93v.1) = s100v.1)) && (decide ((synodref_Num.v s109v.1) = s120v.1)))), (105, cv (((decide ((synodref_Num.v s93v.1) = s100v.1)) && (decide ((synodref_Num.v s109v.1) = s120v.1))) == true) (.int .i64 s133v)), (107, cv (((decide ((synodref_Num.v s93v.1) = s100v.1)) && (decide ((synodref_Num.v s109v.1) = s120v.1))) == true) (.int .i64 s140v))] rfl rfl rfl rfl (.v 10 rfl rfl (.v 12 rfl rfl (.v 14 rfl rfl .nil))) (fun hb161v => RQ.sub (E' := [(105, .int .i64 s133v), (107, .int .i64 s140v)]) ⟨lk_cv rfl hb161v, lk_cv rfl hb161v, trivial⟩ (q_eql rfl rfl rfl)) rfl) (aq rfl (fun γ => qp rfl rfl (.v 10 rfl rfl (.v 15 rfl rfl .nil)) (q_and rfl rfl rfl) rfl) (aq rfl (fun γ => qm rfl (.v 16 rfl rfl .nil) rfl) (aq rfl (fun γ => qy rfl rfl (.o (s := 6) rfl (by decide) (.v 17 rfl rfl .nil)) rfl rfl (beq_yes hk143v) (q_move rfl rfl) rfl) (aq rfl (fun γ => qy rfl rfl (.v 17 rfl rfl (.v 19 rfl rfl .nil)) rfl rfl (beq_yes hk143v) (q_len rfl rfl rfl Try.underlying22) rfl) (ac (fun γ => (ac (qy rfl rfl (.o (s := 7) rfl (by decide) (.v 17 rfl rfl .nil)) rfl rfl (beq_yes hk143v) (q_move rfl rfl) rfl) (ac (qy rfl rfl (.o (s := 7) rfl (by decide) (.v 17 rfl rfl .nil)) rfl rfl (beq_yes hk143v) (q_move rfl rfl) rfl) zA))) (ac (fun γ => (ac (qy rfl rfl (.v 17 rfl rfl (.v 21 rfl rfl .nil)) rfl rfl (beq_yes hk143v) (q_nil rfl rfl) rfl) (ac (qy rfl rfl (.v 17 rfl rfl (.v 21 rfl rfl .nil)) rfl rfl (beq_yes hk143v) (q_nil rfl rfl) rfl) zA))) (ac (fun γ => (ac (qy rfl rfl (.v 17 rfl rfl (.v 22 rfl rfl .nil)) rfl rfl (beq_yes hk143v) (q_fa rfl rfl Try.underlying29 rfl rfl Try.sizeOf27 rfl) rfl) (ac (qy rfl rfl (.v 17 rfl rfl (.v 22 rfl rfl .nil)) rfl rfl (beq_yes hk143v) (q_fa rfl rfl Try.underlying29 rfl rfl Try.sizeOf27 rfl) rfl) zA))) (ac (fun γ => (ac (qy rfl rfl (.v 17 rfl rfl (.v 23 rfl rfl .nil)) rfl rfl (beq_yes hk143v) (q_load rfl rfl Try.isAgg27 (.obj 0 rfl rfl)) rfl) (ac (qy rfl rfl (.v 17 rfl rfl (.v 23 rfl rfl .nil)) rfl rfl (beq_yes hk143v) (q_load rfl rfl Try.isAgg27 (.obj 3 rfl rfl)) rfl) zA))) (ac (fun γ => (ac (qy rfl rfl (.v 17 rfl rfl (.v 24 rfl rfl .nil)) rfl rfl (beq_yes hk143v) (q_len rfl rfl rfl Try.underlying27) rfl) (ac (qy rfl rfl (.v 17 rfl rfl (.v 24 rfl rfl .nil)) rfl rfl (beq_yes hk143v) (q_len rfl rfl rfl Try.underlying27) rfl) zA))) (aq rfl (fun γ => qy rfl rfl (.v 17 rfl rfl (.v 20 rfl rfl (.v 25 rfl rfl .nil))) rfl rfl (beq_yes hk143v) (q_eql rfl rfl rfl) rfl) (aq rfl (fun γ => qp rfl rfl (.v 17 rfl rfl (.v 26 rfl rfl .nil)) (q_pick rfl rfl rfl rfl (bif_yes hk143v _ _)) rfl) (aq rfl (fun γ => qp rfl rfl (.v 27 rfl rfl .nil) (q_asg rfl rfl) rfl) zA))))))))))))))))))))))))))))
 exact (ac (fun γ => ey (Z := Option Addr × Nat) (fun z => z) rfl rfl (.v 17 rfl rfl (.v 18 rfl rfl .nil)) rfl rfl (beq_yes hk143v) (re_call (vs := [.pointer (some ⟨y8v.1, 0, none⟩)]) (cap := []) (A := [obj y8v.1 64 [.map (some y111v.1), str s109v.2.2.1, .int .i64 s109v.2.2.2.1, .bool s109v.2.2.2.2], mapF (mapO y111v.1 enc9 encP y111v.2) FA68 y111v.2 s109v.2.1]) (rst := [obj b9v 29 [.slice y122v.1 s120v.2.1.length y122v.2.1, .int .i64 s120v.2.2.1, .bool s120v.2.2.2.1, str s120v.2.2.2.2], Row 36 3 y122v.1 s120v.2.1.length y122v.2.1 rs125v.flatten, y122v.2.2, Row 5 1 (some ⟨b112v, 0, none⟩) ([1] : List UInt8).length 1 (encB ([1] : List UInt8)), Row 5 1 (some ⟨b103v, 0, none⟩) ([1] : List UInt8).length 1 (encB ([1] : List UInt8)), Row 5 1 (some ⟨b87v, 0, none⟩) (List.replicate (IntKind.i64.wrap (16777216 + (IntKind.i64.wrap ((Int.tmod (IntKind.i64.wrap ((Int.tmod x1 5) + 5)) 5) - 2)))).toNat (0 : UInt8)).length ((IntKind.i64.wrap (16777216 + (IntKind.i64.wrap ((Int.tmod (IntKind.i64.wrap ((Int.tmod x1 5) + 5)) 5) - 2)))).toNat) (encB (List.replicate (IntKind.i64.wrap (16777216 + (IntKind.i64.wrap ((Int.tmod (IntKind.i64.wrap ((Int.tmod x1 5) + 5)) 5) - 2)))).toNat (0 : UInt8))), F]) rfl rfl rfl rfl rfl rfl Try.call18 (.sel 4 rfl (.sel 4 rfl (.sel 0 rfl (.sel 0 rfl (.sel 0 rfl (.sel 0 rfl (.sel 0 rfl (.sel 0 rfl (.sel 0 rfl (.nil _)))))))))) (disk_Disk_List.calls _ _ y8v.1 y111v.1 y111v.2 s109v.2.1 s109v.2.2.1 s109v.2.2.2.1 s109v.2.2.2.2 ) hs145v) (fun _ => ⟨rfl, rfl, rfl, rfl, rfl, rfl, rfl, rfl, rfl, rfl, rfl, rfl, rfl, rfl, rfl, rfl, rfl, rfl, rfl, rfl, rfl, rfl, rfl, rfl, trivial⟩) (fun _ => .inr rfl) (fun z => Ent.refl _)) zA)
 intro g162v
 exact nrm_cut (s := decide ((s144v.length : Int) = (s120v.2.1.length : Int))) () ⟨rfl, trivial⟩ (.sel 9 rfl (.nil _))
 refine sim_draw (Γ := Unit) () [[], [0], [], [0, 1, 2], rL 4, rL 5, rL 6, rL 5, rL 8, rL 9, rL 10, rL 11, rL 12, rL 11, rL 14, rL 15, rL 16, rL 17, rL 18, rL 19, rL 20, rL 18, [0, 1, 2, 3, 4, 5, 6, 7, 8, 9, 10, 11, 12, 13, 14, 15, 16, 17, 21], [0, 1, 2, 3, 4, 5, 6, 7, 8, 9, 10, 11, 12, 13, 14, 15, 16, 17, 21, 22], [0, 1, 2, 3, 4, 5, 6, 7, 8, 9, 10, 11, 12, 13, 14, 15, 16, 17, 21, 22, 23], [0, 1, 2, 3, 4, 5, 6, 7, 8, 9, 10, 11, 12, 13, 14, 15, 16, 17, 21, 22, 23, 24], rL 26, rL 27, rL 28] [] [0, 1, 2, 3, 4, 5, 6, 7, 8, 9, 10, 11, 12, 13, 14, 15, 16, 17, 18, 19, 20, 21, 22, 23, 24, 25, 26, 27, 28] (fun i => [[0], [0], [0], [0], [0], [0], [0], [0], [0], [0], [0], [0], [0], [0], [0], [0], [0], [0], [0], [0], [0], [0], [0], [0], [0], [0], [0], [0], [0]].getD i []) (fun i => [[], [], [], [], [], [], [], [], [], [], [], [], [], [], [], [], [], [], [], [], [], [], [], [], [], [], [], [], []].getD i []) (fun γ i => [.int .i64 s93v.1, .int .i64 (synodref_Num.v s93v.1), .int .i64 s100v.1, .bool (decide ((synodref_Num.v s93v.1) = s100v.1)), .bool (decide ((synodref_Num.v s93v.1) = s100v.1)), cv ((decide ((synodref_Num.v s93v.1) = s100v.1)) == true) (.int .i64 s109v.1), cv ((decide ((synodref_Num.v s93v.1) = s100v.1)) == true) (.int .i64 (synodref_Num.v s109v.1)), cv ((decide ((synodref_Num.v s93v.1) = s100v.1)) == true) (.int .i64 s120v.1), cv ((decide ((synodref_Num.v s93v.1) = s100v.1)) == true) (.bool (decide ((synodref_Num.v s109v.1) = s120v.1))), .bool ((decide ((synodref_Num.v s93v.1) = s100v.1)) && (decide ((synodref_Num.v s109v.1) = s120v.1))), .bool ((decide ((synodref_Num.v s93v.1) = s100v.1)) && (decide ((synodref_Num.v s109v.1) = s120v.1))), cv (((decide ((synodref_Num.v s93v.1) = s100v.1)) && (decide ((synodref_Num.v s109v.1) = s120v.1))) == true) (.pointer (some ⟨y8v.1, 0, none⟩)), cv (((decide ((synodref_Num.v s93v.1) = s100v.1)) && (decide ((synodref_Num.v s109v.1) = s120v.1))) == true) (.int .i64 s133v), cv (((decide ((synodref_Num.v s93v.1) = s100v.1)) && (decide ((synodref_Num.v s109v.1) = s120v.1))) == true) (.pointer (some ⟨b9v, 0, none⟩)), cv (((decide ((synodref_Num.v s93v.1) = s100v.1)) && (decide ((synodref_Num.v s109v.1) = s120v.1))) == true) (.int .i64 s140v), cv (((decide ((synodref_Num.v s93v.1) = s100v.1)) && (decide ((synodref_Num.v s109v.1) = s120v.1))) == true) (.bool (decide (s133v = s140v))), .bool (((decide ((synodref_Num.v s93v.1) = s100v.1)) && (decide ((synodref_Num.v s109v.1) = s120v.1))) && (decide (s133v = s140v))), .bool (((decide ((synodref_Num.v s93v.1) = s100v.1)) && (decide ((synodref_Num.v s109v.1) = s120v.1))) && (decide (s133v = s140v))), undef, undef, undef, undef, undef, undef, undef, undef, undef, .bool false, .bool false].getD i undef) (fun j γ => [[obj b9v 29 [.slice y122v.1 s120v.2.1.length y122v.2.1, .int .i64 s120v.2.2.1, .bool s120v.2.2.2.1, str s120v.2.2.2.2], Row 36 3 y122v.1 s120v.2.1.length y122v.2.1 rs125v.flatten, y122v.2.2, Row 5 1 (some ⟨b112v, 0, none⟩) ([1] : List UInt8).length 1 (encB ([1] : List UInt8)), obj y8v.1 64 [.map (some y111v.1), str s109v.2.2.1, .int .i64 s109v.2.2.2.1, .bool s109v.2.2.2.2], mapF (mapO y111v.1 enc9 encP y111v.2) FA68 y111v.2 s109v.2.1, Row 5 1 (some ⟨b103v, 0, none⟩) ([1] : List UInt8).length 1 (encB ([1] : List UInt8)), Row 5 1 (some ⟨b87v, 0, none⟩) (List.replicate (IntKind.i64.wrap (16777216 + (IntKind.i64.wrap ((Int.tmod (IntKind.i64.wrap ((Int.tmod x1 5) + 5)) 5) - 2)))).toNat (0 : UInt8)).length ((IntKind.i64.wrap (16777216 + (IntKind.i64.wrap ((Int.tmod (IntKind.i64.wrap ((Int.tmod x1 5) + 5)) 5) - 2)))).toNat) (encB (List.replicate (IntKind.i64.wrap (16777216 + (IntKind.i64.wrap ((Int.tmod (IntKind.i64.wrap ((Int.tmod x1 5) + 5)) 5) - 2)))).toNat (0 : UInt8))), F]].getD j []) (fun γ => [(4, .bool false)]) mixed (by decide) (by decide) (by decide) (by decide) (by decide) (by decide) (by decide) 121 rfl (by decide) (by decide) (by decide) (Ent.refl _) ?_ ?_ (fun _ => ⟨rfl, trivial⟩) ?_
 exact (aq rfl (fun γ => qm rfl (.o (s := 12) rfl (by decide) .nil) rfl) (aq rfl (fun γ => qp rfl rfl (.v 0 rfl rfl .nil) (RE.rq (re_call (vs := [.int .i64 s93v.1]) (cap := []) (A := []) (rst := [obj b9v 29 [.slice y122v.1 s120v.2.1.length y122v.2.1, .int .i64 s120v.2.2.1, .bool s120v.2.2.2.1, str s120v.2.2.2.2], Row 36 3 y122v.1 s120v.2.1.length y122v.2.1 rs125v.flatten, y122v.2.2, Row 5 1 (some ⟨b112v, 0, none⟩) ([1] : List UInt8).length 1 (encB ([1] : List UInt8)), obj y8v.1 64 [.map (some y111v.1), str s109v.2.2.1, .int .i64 s109v.2.2.2.1, .bool s109v.2.2.2.2], mapF (mapO y111v.1 enc9 encP y111v.2) FA68 y111v.2 s109v.2.1, Row 5 1 (some ⟨b103v, 0, none⟩) ([1] : List UInt8).length 1 (encB ([1] : List UInt8)), Row 5 1 (some ⟨b87v, 0, none⟩) (List.replicate (IntKind.i64.wrap (16777216 + (IntKind.i64.wrap ((Int.tmod (IntKind.i64.wrap ((Int.tmod x1 5) + 5)) 5) - 2)))).toNat (0 : UInt8)).length ((IntKind.i64.wrap (16777216 + (IntKind.i64.wrap ((Int.tmod (IntKind.i64.wrap ((Int.tmod x1 5) + 5)) 5) - 2)))).toNat) (encB (List.replicate (IntKind.i64.wrap (16777216 + (IntKind.i64.wrap ((Int.tmod (IntKind.i64.wrap ((Int.tmod x1 5) + 5)) 5) - 2)))).toNat (0 : UInt8))), F]) rfl rfl rfl rfl rfl rfl Try.call11 (.sel 0 rfl (.sel 0 rfl (.sel 0 rfl (.sel 0 rfl (.sel 0 rfl (.sel 0 rfl (.sel 0 rfl (.sel 0 rfl (.sel 0 rfl (.nil _)))))))))) (synodref_Num.calls _ _ s93v.1 ) (synodref_Num.tot s93v.1)) (fun _ => rfl) (fun _ => (.sel 0 rfl (.sel 0 rfl (.sel 0 rfl (.sel 0 rfl (.sel 0 rfl (.sel 0 rfl (.sel 0 rfl (.sel 0 rfl (.sel 0 rfl (.nil _)))))))))))) rfl) (aq rfl (fun γ => qm rfl (.o (s := 13) rfl (by decide) .nil) rfl) (aq rfl (fun γ => qp rfl rfl (.v 1 rfl rfl (.v 2 rfl rfl .nil)) (q_eql rfl rfl rfl) rfl) (aq rfl (fun γ => qm rfl (.v 3 rfl rfl .nil) rfl) (aq rfl (fun γ => QOb.grd (b := decide ((synodref_Num.v s93v.1) = s100v.1)) [(14, .int .i64 s109v.1), (97, .bool (decide ((synodref_Num.v s93v.1) = s100v.1)))] rfl rfl rfl rfl (.o (s := 14) rfl (by decide) (.v 4 rfl rfl .nil)) (fun hb166v => RQ.sub (E' := [(14, .int .i64 s109v.1)]) ⟨rfl, trivial⟩ (q_move rfl rfl)) rfl) (aq rfl (fun γ => QOb.grd (b := decide ((synodref_Num.v s93v.1) = s100v.1)) [(97, .bool (decide ((synodref_Num.v s93v.1) = s100v.1))), (98, cv ((decide ((synodref_Num.v s93v.1) = s100v.1)) == true) (.int .i64 s109v.1))] rfl rfl rfl rfl (.v 4 rfl rfl (.v 5 rfl rfl .nil)) (fun hb170v => RQ.sub (E' := [(98, .int .i64 s109v.1)]) ⟨lk_cv rfl hb170v, trivial⟩ (RE.rq (re_call (vs := [.int .i64 s109v.1]) (cap := []) (A := []) (rst := [obj b9v 29 [.slice y122v.1 s120v.2.1.length y122v.2.1, .int .i64 s120v.2.2.1, .bool s120v.2.2.2.1, str s120v.2.2.2.2], Row 36 3 y122v.1 s120v.2.1.length y122v.2.1 rs125v.flatten, y122v.2.2, Row 5 1 (some ⟨b112v, 0, none⟩) ([1] : List UInt8).length 1 (encB ([1] : List UInt8)), obj y8v.1 64 [.map (some y111v.1), str s109v.2.2.1, .int .i64 s109v.2.2.2.1, .bool s109v.2.2.2.2], mapF (mapO y111v.1 enc9 encP y111v.2) FA68 y111v.2 s109v.2.1, Row 5 1 (some ⟨b103v, 0, none⟩) ([1] : List UInt8).length 1 (encB ([1] : List UInt8)), Row 5 1 (some ⟨b87v, 0, none⟩) (List.replicate (IntKind.i64.wrap (16777216 + (IntKind.i64.wrap ((Int.tmod (IntKind.i64.wrap ((Int.tmod x1 5) + 5)) 5) - 2)))).toNat (0 : UInt8)).length ((IntKind.i64.wrap (16777216 + (IntKind.i64.wrap ((Int.tmod (IntKind.i64.wrap ((Int.tmod x1 5) + 5)) 5) - 2)))).toNat) (encB (List.replicate (IntKind.i64.wrap (16777216 + (IntKind.i64.wrap ((Int.tmod (IntKind.i64.wrap ((Int.tmod x1 5) + 5)) 5) - 2)))).toNat (0 : UInt8))), F]) rfl rfl rfl rfl rfl rfl Try.call11 (.sel 0 rfl (.sel 0 rfl (.sel 0 rfl (.sel 0 rfl (.sel 0 rfl (.sel 0 rfl (.sel 0 rfl (.sel 0 rfl (.sel 0 rfl (.nil _)))))))))) (synodref_Num.calls _ _ s109v.1 ) (synodref_Num.tot s109v.1)) (fun _ => rfl) (fun _ => (.sel 0 rfl (.sel 0 rfl (.sel 0 rfl (.sel 0 rfl (.sel 0 rfl (.sel 0 rfl (.sel 0 rfl (.sel 0 rfl (.sel 0 rfl (.nil _))))))))))))) rfl) (aq rfl (fun γ => QOb.grd (b := decide ((synodref_Num.v s93v.1) = s100v.1)) [(15, .int .i64 s120v.1), (97, .bool (decide ((synodref_Num.v s93v.1) = s100v.1)))] rfl rfl rfl rfl (.o (s := 15) rfl (by decide) (.v 4 rfl rfl .nil)) (fun hb171v => RQ.sub (E' := [(15, .int .i64 s120v.1)]) ⟨rfl, trivial⟩ (q_move rfl rfl)) rfl) (aq rfl (fun γ => QOb.grd (b := decide ((synodref_Num.v s93v.1) = s100v.1)) [(97, .bool (decide ((synodref_Num.v s93v.1) = s100v.1))), (99, cv ((decide ((synodref_Num.v s93v.1) = s100v.1)) == true) (.int .i64 (synodref_Num.v s109v.1))), (100, cv ((decide ((synodref_Num.v s93v.1) = s100v.1)) == true) (.int .i64 s120v.1))] rfl rfl rfl rfl (.v 4 rfl rfl (.v 6 rfl rfl (.v 7 rfl rfl .nil))) (fun hb172v => RQ.sub (E' := [(99, .int .i64 (synodref_Num.v s109v.1)), (100, .int .i64 s120v.1)]) ⟨lk_cv rfl hb172v, lk_cv rfl hb172v, trivial⟩ (q_eql rfl rfl rfl)) rfl) (aq rfl (fun γ => qp rfl rfl (.v 4 rfl rfl (.v 8 rfl rfl .nil)) (q_and rfl rfl rfl) rfl) (aq rfl (fun γ => qm rfl (.v 9 rfl rfl .nil) rfl) (aq rfl (fun γ => QOb.grd (b := (decide ((synodref_Num.v s93v.1) = s100v.1)) && (decide ((synodref_Num.v s109v.1) = s120v.1))) [(6, .pointer (some ⟨y8v.1, 0, none⟩)), (103, .bool ((decide ((synodref_Num.v s93v.1) = s100v.1)) && (decide ((synodref_Num.v s109v.1) = s120v.1))))] rfl rfl rfl rfl (.o (s := 6) rfl (by decide) (.v 10 rfl rfl .nil)) (fun hb173v => RQ.sub (E' := [(6, .pointer (some ⟨y8v.1, 0, none⟩))]) ⟨rfl, trivial⟩ (q_move rfl rfl)) rfl) (aq rfl (fun γ => QOb.grd (b := (decide ((synodref_Num.v s93v.1) = s100v.1)) && (decide ((synodref_Num.v s109v.1) = s120v.1))) [(103, .bool ((decide ((synodref_Num.v s93v.1) = s100v.1)) && (decide ((synodref_Num.v s109v.1) = s120v.1)))), (104, cv (((decide ((synodref_Num.v s93v.1) = s100v.1)) && (decide ((synodref_Num.v s109v.1) = s120v.1))) == true) (.pointer (some ⟨y8v.1, 0, none⟩)))] rfl rfl rfl rfl (.v 10 rfl rfl (.v 11 rfl rfl .nil)) (fun hb174v => RQ.sub (E' := [(104, .pointer (some ⟨y8v.1, 0, none⟩))]) ⟨lk_cv rfl hb174v, trivial⟩ (RE.rq (re_call (vs := [.pointer (some ⟨y8v.1, 0, none⟩)]) (cap := []) (A := [obj y8v.1 64 [.map (some y111v.1), str s109v.2.2.1, .int .i64 s109v.2.2.2.1, .bool s109v.2.2.2.2], mapF (mapO y111v.1 enc9 encP y111v.2) FA68 y111v.2 s109v.2.1]) (rst := [obj b9v 29 [.slice y122v.1 s120v.2.1.length y122v.2.1, .int .i64 s120v.2.2.1, .bool s120v.2.2.2.1, str s120v.2.2.2.2], Row 36 3 y122v.1 s120v.2.1.length y122v.2.1 rs125v.flatten, y122v.2.2, Row 5 1 (some ⟨b112v, 0, none⟩) ([1] : List UInt8).length 1 (encB ([1] : List UInt8)), Row 5 1 (some ⟨b103v, 0, none⟩) ([1] : List UInt8).length 1 (encB ([1] : List UInt8)), Row 5 1 (some ⟨b87v, 0, none⟩) (List.replicate (IntKind.i64.wrap (16777216 + (IntKind.i64.wrap ((Int.tmod (IntKind.i64.wrap ((Int.tmod x1 5) + 5)) 5) - 2)))).toNat (0 : UInt8)).length ((IntKind.i64.wrap (16777216 + (IntKind.i64.wrap ((Int.tmod (IntKind.i64.wrap ((Int.tmod x1 5) + 5)) 5) - 2)))).toNat) (encB (List.replicate (IntKind.i64.wrap (16777216 + (IntKind.i64.wrap ((Int.tmod (IntKind.i64.wrap ((Int.tmod x1 5) + 5)) 5) - 2)))).toNat (0 : UInt8))), F]) rfl rfl rfl rfl rfl rfl Try.call16 (.sel 4 rfl (.sel 4 rfl (.sel 0 rfl (.sel 0 rfl (.sel 0 rfl (.sel 0 rfl (.sel 0 rfl (.sel 0 rfl (.sel 0 rfl (.nil _)))))))))) (disk_Disk_Size.calls _ _ y8v.1 y111v.1 y111v.2 s109v.2.1 s109v.2.2.1 s109v.2.2.2.1 s109v.2.2.2.2 ) (by rw [if_pos hb174v] at hs134v; exact hs134v)) (fun _ => rfl) (fun _ => (.sel 2 rfl (.sel 2 rfl (.sel 2 rfl (.sel 2 rfl (.sel 0 rfl (.sel 0 rfl (.sel 0 rfl (.sel 0 rfl (.sel 0 rfl (.nil _))))))))))))) rfl) (aq rfl (fun γ => QOb.grd (b := (decide ((synodref_Num.v s93v.1) = s100v.1)) && (decide ((synodref_Num.v s109v.1) = s120v.1))) [(7, .pointer (some ⟨b9v, 0, none⟩)), (103, .bool ((decide ((synodref_Num.v s93v.1) = s100v.1)) && (decide ((synodref_Num.v s109v.1) = s120v.1))))] rfl rfl rfl rfl (.o (s := 7) rfl (by decide) (.v 10 rfl rfl .nil)) (fun hb175v => RQ.sub (E' := [(7, .pointer (some ⟨b9v, 0, none⟩))]) ⟨rfl, trivial⟩ (q_move rfl rfl)) rfl) (aq rfl (fun γ => QOb.grd (b := (decide ((synodref_Num.v s93v.1) = s100v.1)) && (decide ((synodref_Num.v s109v.1) = s120v.1))) [(103, .bool ((decide ((synodref_Num.v s93v.1) = s100v.1)) && (decide ((synodref_Num.v s109v.1) = s120v.1)))), (106, cv (((decide ((synodref_Num.v s93v.1) = s100v.1)) && (decide ((synodref_Num.v s109v.1) = s120v.1))) == true) (.pointer (some ⟨b9v, 0, none⟩)))] rfl rfl rfl rfl (.v 10 rfl rfl (.v 13 rfl rfl .nil)) (fun hb176v => RQ.sub (E' := [(106, .pointer (some ⟨b9v, 0, none⟩))]) ⟨lk_cv rfl hb176v, trivial⟩ (RE.rq (re_call (vs := [.pointer (some ⟨b9v, 0, none⟩)]) (cap := []) (A := [obj b9v 29 [.slice y122v.1 s120v.2.1.length y122v.2.1, .int .i64 s120v.2.2.1, .bool s120v.2.2.2.1, str s120v.2.2.2.2]]) (rst := [Row 36 3 y122v.1 s120v.2.1.length y122v.2.1 rs125v.flatten, y122v.2.2, Row 5 1 (some ⟨b112v, 0, none⟩) ([1] : List UInt8).length 1 (encB ([1] : List UInt8)), obj y8v.1 64 [.map (some y111v.1), str s109v.2.2.1, .int .i64 s109v.2.2.2.1, .bool s109v.2.2.2.2], mapF (mapO y111v.1 enc9 encP y111v.2) FA68 y111v.2 s109v.2.1, Row 5 1 (some ⟨b103v, 0, none⟩) ([1] : List UInt8).length 1 (encB ([1] : List UInt8)), Row 5 1 (some ⟨b87v, 0, none⟩) (List.replicate (IntKind.i64.wrap (16777216 + (IntKind.i64.wrap ((Int.tmod (IntKind.i64.wrap ((Int.tmod x1 5) + 5)) 5) - 2)))).toNat (0 : UInt8)).length ((IntKind.i64.wrap (16777216 + (IntKind.i64.wrap ((Int.tmod (IntKind.i64.wrap ((Int.tmod x1 5) + 5)) 5) - 2)))).toNat) (encB (List.replicate (IntKind.i64.wrap (16777216 + (IntKind.i64.wrap ((Int.tmod (IntKind.i64.wrap ((Int.tmod x1 5) + 5)) 5) - 2)))).toNat (0 : UInt8))), F]) rfl rfl rfl rfl rfl rfl Try.call17 (.sel 0 rfl (.sel 0 rfl (.sel 0 rfl (.sel 0 rfl (.sel 0 rfl (.sel 0 rfl (.sel 0 rfl (.sel 0 rfl (.sel 0 rfl (.nil _)))))))))) (synodref4_Disk_Size.calls _ _ k b9v y122v.1 y122v.2.1 s120v.2.1 s120v.2.2.1 s120v.2.2.2.1 s120v.2.2.2.2 ((Rd.asV hl126v hq136v).up (Up.lend 0 rfl) (V36.up (Up.lend 1 rfl))) hq137v hq138v) (by rw [if_pos hb176v] at hs141v; exact hs141v)) (fun _ => rfl) (fun _ => (.sel 0 rfl (.sel 0 rfl (.sel 0 rfl (.sel 0 rfl (.sel 0 rfl (.sel 0 rfl (.sel 0 rfl (.sel 0 rfl (.sel 0 rfl (.nil _))))))))))))) rfl) (aq rfl (fun γ => QOb.grd (b := (decide ((synodref_Num.v s93v.1) = s100v.1)) && (decide ((synodref_Num.v s109v.1) = s120v.1))) [(103, .bool ((decide ((synodref_Num.v s93v.1) = s100v.1)) && (decide ((synodref_Num.v s109v.1) = s120v.1)))), (105, cv (((decide ((synodref_Num.v s93v.1) = s100v.1)) && (decide ((synodref_Num.v s109v.1) = s120v.1))) == true) (.int .i64 s133v)), (107, cv (((decide ((synodref_Num.v s93v.1) = s100v.1)) && (decide ((synodref_Num.v s109v.1) = s120v.1))) == true) (.int .i64 s140v))] rfl rfl rfl rfl (.v 10 rfl rfl (.v 12 rfl rfl (.v 14 rfl rfl .nil))) (fun hb177v => RQ.sub (E' := [(105, .int .i64 s133v), (107, .int .i64 s140v)]) ⟨lk_cv rfl hb177v, lk_cv rfl hb177v, trivial⟩ (q_eql rfl rfl rfl)) rfl) (aq rfl (fun γ => qp rfl rfl (.v 10 rfl rfl (.v 15 rfl rfl .nil)) (q_and rfl rfl rfl) rfl) (aq rfl (fun γ => qm rfl (.v 16 rfl rfl .nil) rfl) (aq rfl (fun γ => qn rfl rfl (.o (s := 6) rfl (by decide) (.v 17 rfl rfl .nil)) rfl rfl (beq_no' (eq_false_of_ne_true hk143v)) rfl) (aq rfl (fun γ => qn rfl rfl (.v 17 rfl rfl (.v 18 rfl rfl .nil)) rfl rfl (beq_no' (eq_false_of_ne_true hk143v)) rfl) (aq rfl (fun γ => qn rfl rfl (.v 17 rfl rfl (.v 19 rfl rfl .nil)) rfl rfl (beq_no' (eq_false_of_ne_true hk143v)) rfl) (aq rfl (fun γ => qn rfl rfl (.o (s := 7) rfl (by decide) (.v 17 rfl rfl .nil)) rfl rfl (beq_no' (eq_false_of_ne_true hk143v)) rfl) (aq rfl (fun γ => qn rfl rfl (.v 17 rfl rfl (.v 21 rfl rfl .nil)) rfl rfl (beq_no' (eq_false_of_ne_true hk143v)) rfl) (aq rfl (fun γ => qn rfl rfl (.v 17 rfl rfl (.v 22 rfl rfl .nil)) rfl rfl (beq_no' (eq_false_of_ne_true hk143v)) rfl) (aq rfl (fun γ => qn rfl rfl (.v 17 rfl rfl (.v 23 rfl rfl .nil)) rfl rfl (beq_no' (eq_false_of_ne_true hk143v)) rfl) (aq rfl (fun γ => qn rfl rfl (.v 17 rfl rfl (.v 24 rfl rfl .nil)) rfl rfl (beq_no' (eq_false_of_ne_true hk143v)) rfl) (aq rfl (fun γ => qn rfl rfl (.v 17 rfl rfl (.v 20 rfl rfl (.v 25 rfl rfl .nil))) rfl rfl (beq_no' (eq_false_of_ne_true hk143v)) rfl) (aq rfl (fun γ => qp rfl rfl (.v 17 rfl rfl (.v 26 rfl rfl .nil)) (q_pick rfl rfl rfl rfl (bif_no (eq_false_of_ne_true hk143v) _ _)) rfl) (aq rfl (fun γ => qp rfl rfl (.v 27 rfl rfl .nil) (q_asg rfl rfl) rfl) zA)))))))))))))))))))))))))))))
 exact zA
 intro g178v
 exact nrm_cut (s := false) () ⟨rfl, trivial⟩ (.sel 8 rfl (.nil _))
 intro s123v y124v
 refine sim_rtn ?_
 exact rtn_fn () rfl rfl rfl (.sel 0 rfl (.nil _))

def disk_Disk_Cut.f (x0_0 : List ((List UInt8) × (List UInt8 × Int))) (x0_1 : List UInt8) (x0_2 : Int) (x0_3 : Bool) (x1 : List UInt8) (x2 : Int) : Option (Int × (List ((List UInt8) × (List UInt8 × Int))) × List UInt8 × Int × Bool) := if (mget x0_0 x1).isSome = true then (if x0_3 = true then (some (11, x0_0, x0_1, x0_2, x0_3)) else (if ((decide (x2 < (0 : Int))) || (decide (((((mget x0_0 x1).getD (([] : List UInt8), (0 : Int))).1).length : Int) < x2))) = true then (some (1, x0_0, x0_1, x0_2, x0_3)) else ((disk_Disk_fails.f x0_0 x0_1 x0_2 x0_3).bind fun s7v => (if s7v.1 = true then (some (11, x0_0, s7v.2.1, s7v.2.2.1, s7v.2.2.2)) else (if 0 ≤ (0 : Int) ∧ (0 : Int) ≤ x2 ∧ x2 ≤ ((((mget x0_0 x1).getD (([] : List UInt8), (0 : Int))).1).length : Int) then (some (0, mput x0_0 x1 (cut (((mget x0_0 x1).getD (([] : List UInt8), (0 : Int))).1) (0 : Int) x2, min (((mget x0_0 x1).getD (([] : List UInt8), (0 : Int))).2) x2), s7v.2.1, s7v.2.2.1, s7v.2.2.2)) else none))))) else (if x0_3 = true then (some (11, x0_0, x0_1, x0_2, x0_3)) else (some (8, x0_0, x0_1, x0_2, x0_3)))
theorem disk_Disk_Cut.calls (W : World) (F : HA) (b0 : Nat) (m0_0 : Nat) (q0_0 : Kps) (x0_0 : List ((List UInt8) × (List UInt8 × Int))) (x0_1 : List UInt8) (x0_2 : Int) (x0_3 : Bool) (x1 : List UInt8) (x2 : Int)  :
    Fn Try.prog W 44 [.pointer (some ⟨b0, 0, none⟩), str x1, .int .i64 x2] [obj b0 64 [.map (some m0_0), str x0_1, .int .i64 x0_2, .bool x0_3], mapF (mapO m0_0 enc9 encP q0_0) FA68 q0_0 x0_0] F (disk_Disk_Cut.f x0_0 x0_1 x0_2 x0_3 x1 x2) (fun (r : Int × (List ((List UInt8) × (List UInt8 × Int))) × List UInt8 × Int × Bool) (y : Nat × Kps) => .int .i64 r.1) (fun r y => [obj b0 64 [.map (some y.1), str r.2.2.1, .int .i64 r.2.2.2.1, .bool r.2.2.2.2], mapF (mapO y.1 enc9 encP y.2) FA68 y.2 r.2.1]) := by
 unfold disk_Disk_Cut.f
 refine fn_intro 55 Try.func44 rfl Try.ntmps44 rfl ?_
 refine sr ?_
 refine va rfl rfl (simL_nil (nrm_then (sim_seq ?_)))
 refine sim_if (fun hk1v => ?_) (fun hk1v => ?_)
 refine sim_region ?_
 refine vm rfl rfl ?_
 refine vn rfl rfl ?_
 refine vq (q_fa rfl rfl Try.underlying64 rfl rfl Try.sizeOf62 rfl) rfl ?_
 refine vq (q_load rfl rfl Try.isAgg62 (.obj 0 rfl rfl)) rfl ?_
 refine vm rfl rfl ?_
 refine vq ((q_mlookY (ek := enc9) x1 (tellsF 1 rfl) hk1v rfl rfl rfl Try.underlying62 key9 : RQ _ _ _ _ (.pointer (some ⟨(fptr q0_0 x1), 0, none⟩)))) rfl ?_
 refine va rfl rfl (simL_nil (nrm_then (sim_seq ?_)))
 refine sim_block ?_
 refine sr ?_
 refine vm rfl rfl ?_
 refine vn rfl rfl ?_
 refine vq (q_fa rfl rfl Try.underlying64 rfl rfl Try.sizeOf4 rfl) rfl ?_
 refine vq (q_load rfl rfl Try.isAgg4 (.obj 0 rfl rfl)) rfl ?_
 refine va rfl rfl (simL_nil (nrm_then ?_))
 refine sim_condb rfl (fun h2v => ?_) (fun h3v => ?_)
 refine sr ?_
 refine va rfl rfl (simL_nil (nrm_then (sim_rtn ?_)))
 refine rtn_block ?_
 refine rtn_then ?_
 exact rtn_fn (m0_0, q0_0) rfl rfl rfl (.sel 0 rfl (.sel 0 rfl (.sel 0 rfl (.nil _))))
 refine sr ?_
 refine vm rfl rfl ?_
 refine vq (q_eqp rfl rfl rfl Try.underlying66) rfl ?_
 refine va rfl rfl (simL_nil (nrm_then ?_))
 refine sim_false rfl ?_
 refine sim_seq ?_
 refine sim_openF (v := ((mget x0_0 x1).getD (([] : List UInt8), (0 : Int)))) 1 rfl (getD_some hk1v) (fun y4v => ?_)
 refine sim_ent (H' := [obj (fptr q0_0 x1) 68 [.slice y4v.1 ((((mget x0_0 x1).getD (([] : List UInt8), (0 : Int))).1).length) y4v.2, .int .i64 (((mget x0_0 x1).getD (([] : List UInt8), (0 : Int))).2)], Row 5 1 y4v.1 (((mget x0_0 x1).getD (([] : List UInt8), (0 : Int))).1).length y4v.2 (encB (((mget x0_0 x1).getD (([] : List UInt8), (0 : Int))).1)), mapH (mapO m0_0 enc9 encP q0_0) FA68 q0_0 x0_0 x1, obj b0 64 [.map (some m0_0), str x0_1, .int .i64 x0_2, .bool x0_3], F]) (Ent.refl _) ?_
 refine sim_region ?_
 refine vm rfl rfl ?_
 refine vq (q_lss rfl rfl rfl) rfl ?_
 refine vm rfl rfl ?_
 refine simL_valc (b := decide (x2 < (0 : Int))) (fun hb30v => RQ.sub (E' := [(2, .int .i64 x2)]) ⟨rfl, trivial⟩ (q_move rfl rfl)) rfl rfl rfl rfl rfl ?_
 refine simL_valc (b := decide (x2 < (0 : Int))) (fun hb29v => RQ.sub (E' := [(7, .pointer (some ⟨(fptr q0_0 x1), 0, none⟩))]) ⟨rfl, trivial⟩ (q_move rfl rfl)) rfl rfl rfl rfl rfl ?_
 refine simL_valc (b := decide (x2 < (0 : Int))) (fun hb28v => RQ.sub (E' := [(27, .pointer (some ⟨(fptr q0_0 x1), 0, none⟩))]) ⟨lk_cv rfl hb28v, trivial⟩ (q_nil rfl rfl)) rfl rfl rfl rfl rfl ?_
 refine simL_valc (b := decide (x2 < (0 : Int))) (fun hb27v => RQ.sub (E' := [(28, .pointer (some ⟨(fptr q0_0 x1), 0, none⟩))]) ⟨lk_cv rfl hb27v, trivial⟩ (q_fa rfl rfl Try.underlying68 rfl rfl Try.sizeOf34 rfl)) rfl rfl rfl rfl rfl ?_
 refine simL_valc (b := decide (x2 < (0 : Int))) (fun hb26v => RQ.sub (E' := [(29, .pointer (some ⟨(fptr q0_0 x1), 0, none⟩))]) ⟨lk_cv rfl hb26v, trivial⟩ (q_load rfl rfl Try.isAgg34 (.obj 0 rfl rfl))) rfl rfl rfl rfl rfl ?_
 refine simL_valc (b := decide (x2 < (0 : Int))) (fun hb25v => RQ.sub (E' := [(30, .slice y4v.1 ((((mget x0_0 x1).getD (([] : List UInt8), (0 : Int))).1).length) y4v.2)]) ⟨lk_cv rfl hb25v, trivial⟩ (q_len rfl rfl rfl Try.underlying34)) rfl rfl rfl rfl rfl ?_
 refine simL_valc (b := decide (x2 < (0 : Int))) (fun hb24v => RQ.sub (E' := [(26, .int .i64 x2), (31, .int .i64 ((((mget x0_0 x1).getD (([] : List UInt8), (0 : Int))).1).length : Int))]) ⟨lk_cv rfl hb24v, lk_cv rfl hb24v, trivial⟩ (q_gtr rfl rfl rfl)) rfl rfl rfl rfl rfl ?_
 refine vq (q_or rfl rfl rfl) rfl ?_
 refine va rfl rfl (simL_nil (nrm_then ?_))
 refine sim_condb rfl (fun h5v => ?_) (fun h6v => ?_)
 refine sr ?_
 refine va rfl rfl (simL_nil (nrm_then (sim_rtn ?_)))
 refine rtn_block ?_
 refine rtn_then ?_
 exact rtn_fn (m0_0, q0_0) rfl rfl rfl (.sel 3 rfl (.foldF0 (x := x1) (p := (fptr q0_0 x1)) (v := ((mget x0_0 x1).getD (([] : List UInt8), (0 : Int)))) (y4v.1, y4v.2) rfl (getD_some hk1v) (.sel 2 rfl (.sel 0 rfl (.sel 0 rfl (.sel 0 rfl (.nil _)))))))
 refine sr ?_
 refine vm rfl rfl ?_
 refine simL_ent (H' := [mapF (mapO m0_0 enc9 encP q0_0) FA68 q0_0 x0_0, obj b0 64 [.map (some m0_0), str x0_1, .int .i64 x0_2, .bool x0_3], F]) ((.foldF0 (x := x1) (p := (fptr q0_0 x1)) (v := ((mget x0_0 x1).getD (([] : List UInt8), (0 : Int)))) (y4v.1, y4v.2) rfl (getD_some hk1v) (.sel 2 rfl (.sel 0 rfl (.sel 0 rfl (.sel 0 rfl (.sel 0 rfl (.nil _)))))))) ?_
 refine simL_bind (fun s7v hs8v => ?_)
 refine simL_eff (re_call (vs := [.pointer (some ⟨b0, 0, none⟩)]) (cap := []) (A := [obj b0 64 [.map (some m0_0), str x0_1, .int .i64 x0_2, .bool x0_3], mapF (mapO m0_0 enc9 encP q0_0) FA68 q0_0 x0_0]) (rst := [F]) rfl rfl rfl rfl rfl rfl Try.call35 (.sel 1 rfl (.sel 0 rfl (.sel 0 rfl (.nil _)))) (disk_Disk_fails.calls _ _ b0 m0_0 q0_0 x0_0 x0_1 x0_2 x0_3 ) hs8v) rfl rfl rfl ?_
 intro y9v
 refine va rfl rfl (simL_nil (nrm_then ?_))
 refine sim_condb rfl (fun h10v => ?_) (fun h11v => ?_)
 refine sr ?_
 refine va rfl rfl (simL_nil (nrm_then (sim_rtn ?_)))
 refine rtn_block ?_
 refine rtn_then ?_
 exact rtn_fn (m0_0, q0_0) rfl rfl rfl (.sel 0 rfl (.sel 0 rfl (.sel 0 rfl (.nil _))))
 refine sim_skip ?_
 refine nrm_block (nrm_then (sim_seq ?_))
 refine sim_openF (v := ((mget x0_0 x1).getD (([] : List UInt8), (0 : Int)))) 1 rfl (getD_some hk1v) (fun y12v => ?_)
 refine sim_ent (H' := [obj (fptr q0_0 x1) 68 [.slice y12v.1 ((((mget x0_0 x1).getD (([] : List UInt8), (0 : Int))).1).length) y12v.2, .int .i64 (((mget x0_0 x1).getD (([] : List UInt8), (0 : Int))).2)], Row 5 1 y12v.1 (((mget x0_0 x1).getD (([] : List UInt8), (0 : Int))).1).length y12v.2 (encB (((mget x0_0 x1).getD (([] : List UInt8), (0 : Int))).1)), mapH (mapO m0_0 enc9 encP q0_0) FA68 q0_0 x0_0 x1, obj b0 64 [.map (some m0_0), str s7v.2.1, .int .i64 s7v.2.2.1, .bool s7v.2.2.2], F]) (Ent.refl _) ?_
 refine sim_region ?_
 refine vm rfl rfl ?_
 refine vm rfl rfl ?_
 refine vn rfl rfl ?_
 refine vq (q_fa rfl rfl Try.underlying68 rfl rfl Try.sizeOf34 rfl) rfl ?_
 refine vq (q_load rfl rfl Try.isAgg34 (.obj 0 rfl rfl)) rfl ?_
 refine vm rfl rfl ?_
 refine simL_ask (fun hb13v => ?_)
 refine simL_lend 1 rfl (fun hq20v hq21v hq22v hq23v => ?_)
 obtain ⟨a14v, c15v, hS16v, hr17v, hc18v, hm19v⟩ := slice_pre (lo := (0 : Int)) (hi := x2) hq20v hq21v hb13v
 refine vq (q_sub_ro (l := (((mget x0_0 x1).getD (([] : List UInt8), (0 : Int))).1)) (lo' := (0 : Int)) (hi' := x2) rfl rfl rfl rfl Try.underlying34 Try.sizeOf5 (.inr ⟨_, rfl⟩) (.inl ⟨rfl, rfl⟩) hb13v hq21v hS16v) rfl ?_
 refine vn rfl rfl ?_
 refine vq (q_fa rfl rfl Try.underlying68 rfl rfl Try.sizeOf34 rfl) rfl ?_
 refine simL_do (RE.ent (Ent.cutB 1 rfl hS16v hb13v hq21v) (re_store 0 rfl rfl rfl Try.sizeOf34 rfl rfl (one_of (by rfl)) rfl rfl)) rfl rfl ?_
 intro _
 refine nx ?_
 refine vm rfl rfl ?_
 refine vm rfl rfl ?_
 refine vn rfl rfl ?_
 refine vq (q_fa rfl rfl Try.underlying68 rfl rfl Try.sizeOf3 rfl) rfl ?_
 refine vq (q_load rfl rfl Try.isAgg3 (.obj 0 rfl rfl)) rfl ?_
 refine vm rfl rfl ?_
 refine vq (q_min rfl rfl rfl) rfl ?_
 refine vn rfl rfl ?_
 refine vq (q_fa rfl rfl Try.underlying68 rfl rfl Try.sizeOf3 rfl) rfl ?_
 refine simL_do (re_store 0 rfl rfl rfl Try.sizeOf3 rfl rfl (one_of (by rfl)) rfl rfl) rfl rfl ?_
 intro _
 refine nx ?_
 refine va rfl rfl (simL_nil (nrm_then (sim_rtn ?_)))
 exact rtn_fn (m0_0, q0_0) rfl rfl rfl (.sel 3 rfl (.foldF (x := x1) (p := (fptr q0_0 x1)) (v := (cut (((mget x0_0 x1).getD (([] : List UInt8), (0 : Int))).1) (0 : Int) x2, min (((mget x0_0 x1).getD (([] : List UInt8), (0 : Int))).2) x2)) (a14v, c15v) rfl (.sel 2 rfl (.sel 0 rfl (.sel 0 rfl (.sel 0 rfl (.nil _)))))))
 refine sim_region ?_
 refine vm rfl rfl ?_
 refine vn rfl rfl ?_
 refine vq (q_fa rfl rfl Try.underlying64 rfl rfl Try.sizeOf62 rfl) rfl ?_
 refine vq (q_load rfl rfl Try.isAgg62 (.obj 0 rfl rfl)) rfl ?_
 refine vm rfl rfl ?_
 refine vq (q_mlookN (ek := enc9) x1 (tellsF 1 rfl) (isNone_of hk1v) rfl rfl rfl Try.underlying62 key9 Try.zeroValue66) rfl ?_
 refine va rfl rfl (simL_nil (nrm_then (sim_seq ?_)))
 refine sim_block ?_
 refine sr ?_
 refine vm rfl rfl ?_
 refine vn rfl rfl ?_
 refine vq (q_fa rfl rfl Try.underlying64 rfl rfl Try.sizeOf4 rfl) rfl ?_
 refine vq (q_load rfl rfl Try.isAgg4 (.obj 0 rfl rfl)) rfl ?_
 refine va rfl rfl (simL_nil (nrm_then ?_))
 refine sim_condb rfl (fun h31v => ?_) (fun h32v => ?_)
 refine sr ?_
 refine va rfl rfl (simL_nil (nrm_then (sim_rtn ?_)))
 refine rtn_block ?_
 refine rtn_then ?_
 exact rtn_fn (m0_0, q0_0) rfl rfl rfl (.sel 0 rfl (.sel 0 rfl (.sel 0 rfl (.nil _))))
 refine sr ?_
 refine vm rfl rfl ?_
 refine vq (q_eqnn rfl rfl rfl Try.underlying66) rfl ?_
 refine va rfl rfl (simL_nil (nrm_then ?_))
 refine sim_true rfl ?_
 refine sr ?_
 refine va rfl rfl (simL_nil (nrm_then (sim_rtn ?_)))
 refine rtn_block ?_
 refine rtn_then ?_
 exact rtn_fn (m0_0, q0_0) rfl rfl rfl (.sel 0 rfl (.sel 0 rfl (.sel 0 rfl (.nil _))))

def disk_Disk_Rename.f (k : Nat) (x0_0 : List ((List UInt8) × (List UInt8 × Int))) (x0_1 : List UInt8) (x0_2 : Int) (x0_3 : Bool) (x1 : List UInt8) (x2 : List UInt8) : Option (Int × (List ((List UInt8) × (List UInt8 × Int))) × List UInt8 × Int × Bool) := if (mget x0_0 x1).isSome = true then (if x0_3 = true then (some (11, x0_0, x0_1, x0_2, x0_3)) else ((disk_named.f k x2).bind fun s4v => (if (!s4v) = true then (some (7, x0_0, x0_1, x0_2, x0_3)) else ((disk_Disk_fails.f x0_0 x0_1 x0_2 x0_3).bind fun s9v => (if s9v.1 = true then (some (11, x0_0, s9v.2.1, s9v.2.2.1, s9v.2.2.2)) else (if x1 = x2 then (some (0, x0_0, s9v.2.1, s9v.2.2.1, s9v.2.2.2)) else ((if s9v.2.1 = x1 then (some x2) else (if s9v.2.1 = x2 then (some ([] : List UInt8)) else (some s9v.2.1))).bind fun s16v => (some (0, mput (mdel x0_0 x1) x2 (((mget x0_0 x1).getD (([] : List UInt8), (0 : Int))).1, ((mget x0_0 x1).getD (([] : List UInt8), (0 : Int))).2), s16v, s9v.2.2.1, s9v.2.2.2))))))))) else (if x0_3 = true then (some (11, x0_0, x0_1, x0_2, x0_3)) else (some (8, x0_0, x0_1, x0_2, x0_3)))
theorem disk_Disk_Rename.calls (W : World) (F : HA) (k : Nat) (b0 : Nat) (m0_0 : Nat) (q0_0 : Kps) (x0_0 : List ((List UInt8) × (List UInt8 × Int))) (x0_1 : List UInt8) (x0_2 : Int) (x0_3 : Bool) (x1 : List UInt8) (x2 : List UInt8)  :
    Fn Try.prog W 45 [.pointer (some ⟨b0, 0, none⟩), str x1, str x2] [obj b0 64 [.map (some m0_0), str x0_1, .int .i64 x0_2, .bool x0_3], mapF (mapO m0_0 enc9 encP q0_0) FA68 q0_0 x0_0] F (disk_Disk_Rename.f k x0_0 x0_1 x0_2 x0_3 x1 x2) (fun (r : Int × (List ((List UInt8) × (List UInt8 × Int))) × List UInt8 × Int × Bool) (y : Nat × Kps) => .int .i64 r.1) (fun r y => [obj b0 64 [.map (some y.1), str r.2.2.1, .int .i64 r.2.2.2.1, .bool r.2.2.2.2], mapF (mapO y.1 enc9 encP y.2) FA68 y.2 r.2.1]) := by
 unfold disk_Disk_Rename.f
 refine fn_intro 61 Try.func45 rfl Try.ntmps45 rfl ?_
 refine sr ?_
 refine va rfl rfl (simL_nil (nrm_then (sim_seq ?_)))
 refine sim_if (fun hk1v => ?_) (fun hk1v => ?_)
 refine sim_region ?_
 refine vm rfl rfl ?_
 refine vn rfl rfl ?_
 refine vq (q_fa rfl rfl Try.underlying64 rfl rfl Try.sizeOf62 rfl) rfl ?_
 refine vq (q_load rfl rfl Try.isAgg62 (.obj 0 rfl rfl)) rfl ?_
 refine vm rfl rfl ?_
 refine vq ((q_mlookY (ek := enc9) x1 (tellsF 1 rfl) hk1v rfl rfl rfl Try.underlying62 key9 : RQ _ _ _ _ (.pointer (some ⟨(fptr q0_0 x1), 0, none⟩)))) rfl ?_
 refine va rfl rfl (simL_nil (nrm_then (sim_seq ?_)))
 refine sim_block ?_
 refine sr ?_
 refine vm rfl rfl ?_
 refine vn rfl rfl ?_
 refine vq (q_fa rfl rfl Try.underlying64 rfl rfl Try.sizeOf4 rfl) rfl ?_
 refine vq (q_load rfl rfl Try.isAgg4 (.obj 0 rfl rfl)) rfl ?_
 refine va rfl rfl (simL_nil (nrm_then ?_))
 refine sim_condb rfl (fun h2v => ?_) (fun h3v => ?_)
 refine sr ?_
 refine va rfl rfl (simL_nil (nrm_then (sim_rtn ?_)))
 refine rtn_block ?_
 refine rtn_then ?_
 exact rtn_fn (m0_0, q0_0) rfl rfl rfl (.sel 0 rfl (.sel 0 rfl (.sel 0 rfl (.nil _))))
 refine sr ?_
 refine vm rfl rfl ?_
 refine vq (q_eqp rfl rfl rfl Try.underlying66) rfl ?_
 refine va rfl rfl (simL_nil (nrm_then ?_))
 refine sim_false rfl ?_
 refine sr ?_
 refine vm rfl rfl ?_
 refine simL_bind (fun s4v hs5v => ?_)
 refine simL_eff (re_call (vs := [str x2]) (cap := []) (A := []) (rst := [obj b0 64 [.map (some m0_0), str x0_1, .int .i64 x0_2, .bool x0_3], mapF (mapO m0_0 enc9 encP q0_0) FA68 q0_0 x0_0, F]) rfl rfl rfl rfl rfl rfl Try.call33 (.sel 0 rfl (.sel 0 rfl (.sel 0 rfl (.nil _)))) (disk_named.calls _ _ k x2 ) hs5v) rfl rfl rfl ?_
 intro y6v
 refine vq (q_not rfl rfl) rfl ?_
 refine va rfl rfl (simL_nil (nrm_then ?_))
 refine sim_condb rfl (fun h7v => ?_) (fun h8v => ?_)
 refine sr ?_
 refine va rfl rfl (simL_nil (nrm_then (sim_rtn ?_)))
 refine rtn_block ?_
 refine rtn_then ?_
 exact rtn_fn (m0_0, q0_0) rfl rfl rfl (.sel 0 rfl (.sel 0 rfl (.sel 0 rfl (.nil _))))
 refine sr ?_
 refine vm rfl rfl ?_
 refine simL_bind (fun s9v hs10v => ?_)
 refine simL_eff (re_call (vs := [.pointer (some ⟨b0, 0, none⟩)]) (cap := []) (A := [obj b0 64 [.map (some m0_0), str x0_1, .int .i64 x0_2, .bool x0_3], mapF (mapO m0_0 enc9 encP q0_0) FA68 q0_0 x0_0]) (rst := [F]) rfl rfl rfl rfl rfl rfl Try.call35 (.sel 0 rfl (.sel 0 rfl (.sel 0 rfl (.nil _)))) (disk_Disk_fails.calls _ _ b0 m0_0 q0_0 x0_0 x0_1 x0_2 x0_3 ) hs10v) rfl rfl rfl ?_
 intro y11v
 refine va rfl rfl (simL_nil (nrm_then ?_))
 refine sim_condb rfl (fun h12v => ?_) (fun h13v => ?_)
 refine sr ?_
 refine va rfl rfl (simL_nil (nrm_then (sim_rtn ?_)))
 refine rtn_block ?_
 refine rtn_then ?_
 exact rtn_fn (m0_0, q0_0) rfl rfl rfl (.sel 0 rfl (.sel 0 rfl (.sel 0 rfl (.nil _))))
 refine sr ?_
 refine vm rfl rfl ?_
 refine vm rfl rfl ?_
 refine vq (q_eqs rfl rfl rfl) rfl ?_
 refine va rfl rfl (simL_nil (nrm_then ?_))
 refine sim_cond rfl (fun h14v => ?_) (fun h15v => ?_)
 refine sr ?_
 refine va rfl rfl (simL_nil (nrm_then (sim_rtn ?_)))
 refine rtn_block ?_
 refine rtn_then ?_
 exact rtn_fn (m0_0, q0_0) rfl rfl rfl (.sel 0 rfl (.sel 0 rfl (.sel 0 rfl (.nil _))))
 refine sim_skip ?_
 refine nrm_block (nrm_then ?_)
 refine sim_cut (S := List UInt8) (Unit) (fun s y => [(0, .pointer (some ⟨b0, 0, none⟩)), (1, str x1), (2, str x2), (7, .pointer (some ⟨(fptr q0_0 x1), 0, none⟩))]) (fun s y => [obj b0 64 [.map (some m0_0), str s, .int .i64 s9v.2.2.1, .bool s9v.2.2.2], mapF (mapO m0_0 enc9 encP q0_0) FA68 q0_0 x0_0, F]) ?_ ?_
 refine sr ?_
 refine vm rfl rfl ?_
 refine vn rfl rfl ?_
 refine vq (q_fa rfl rfl Try.underlying64 rfl rfl Try.sizeOf9 rfl) rfl ?_
 refine vq (q_load rfl rfl Try.isAgg9 (.obj 0 rfl rfl)) rfl (simL_nil (nrm_then ?_))
 refine sim_block ?_
 refine sr ?_
 refine vm rfl rfl ?_
 refine vq (q_eqs rfl rfl rfl) rfl ?_
 refine va rfl rfl (simL_nil (nrm_then ?_))
 refine sim_cond rfl (fun h18v => ?_) (fun h19v => ?_)
 refine sim_region ?_
 refine vm rfl rfl ?_
 refine vm rfl rfl ?_
 refine vn rfl rfl ?_
 refine vq (q_fa rfl rfl Try.underlying64 rfl rfl Try.sizeOf9 rfl) rfl ?_
 refine simL_do (re_store 0 rfl rfl rfl Try.sizeOf9 rfl rfl (one_of (by rfl)) rfl rfl) rfl rfl ?_
 intro _
 refine simL_nil (nrm_block ?_)
 exact nrm_cut (s := x2) () ⟨rfl, rfl, rfl, rfl, trivial⟩ (.sel 0 rfl (.sel 0 rfl (.sel 0 rfl (.nil _))))
 refine sr ?_
 refine vm rfl rfl ?_
 refine vq (q_eqs rfl rfl rfl) rfl ?_
 refine va rfl rfl (simL_nil (nrm_then ?_))
 refine sim_cond rfl (fun h20v => ?_) (fun h21v => ?_)
 refine sim_region ?_
 refine vm rfl rfl ?_
 refine vn rfl rfl ?_
 refine vq (q_fa rfl rfl Try.underlying64 rfl rfl Try.sizeOf9 rfl) rfl ?_
 refine simL_do (re_store 0 rfl rfl rfl Try.sizeOf9 rfl rfl (one_of (by rfl)) rfl rfl) rfl rfl ?_
 intro _
 refine simL_nil (nrm_block ?_)
 exact nrm_cut (s := ([] : List UInt8)) () ⟨rfl, rfl, rfl, rfl, trivial⟩ (.sel 0 rfl (.sel 0 rfl (.sel 0 rfl (.nil _))))
 refine sim_skip ?_
 refine nrm_block ?_
 exact nrm_cut (s := s9v.2.1) () ⟨rfl, rfl, rfl, rfl, trivial⟩ (.sel 0 rfl (.sel 0 rfl (.sel 0 rfl (.nil _))))
 intro s16v y17v
 refine sr ?_
 refine vm rfl rfl ?_
 refine vn rfl rfl ?_
 refine vq (q_fa rfl rfl Try.underlying64 rfl rfl Try.sizeOf62 rfl) rfl ?_
 refine vq (q_load rfl rfl Try.isAgg62 (.obj 0 rfl rfl)) rfl ?_
 refine vm rfl rfl ?_
 refine simL_openF (v := ((mget x0_0 x1).getD (([] : List UInt8), (0 : Int)))) 1 rfl (getD_some hk1v) (fun y22v => ?_)
 refine simL_ent (H' := [obj (fptr q0_0 x1) 68 [.slice y22v.1 ((((mget x0_0 x1).getD (([] : List UInt8), (0 : Int))).1).length) y22v.2, .int .i64 (((mget x0_0 x1).getD (([] : List UInt8), (0 : Int))).2)], Row 5 1 y22v.1 (((mget x0_0 x1).getD (([] : List UInt8), (0 : Int))).1).length y22v.2 (encB (((mget x0_0 x1).getD (([] : List UInt8), (0 : Int))).1)), mapH (mapO m0_0 enc9 encP q0_0) FA68 q0_0 x0_0 x1, obj b0 64 [.map (some m0_0), str s16v, .int .i64 s9v.2.2.1, .bool s9v.2.2.2], F]) (Ent.refl _) ?_
 refine simL_do (re_mdelH (ek := enc9) 2 x1 rfl rfl rfl rfl Try.underlying62 key9 rfl) rfl rfl ?_
 intro _
 refine nx ?_
 refine vm rfl rfl ?_
 refine vn rfl rfl ?_
 refine vq (q_fa rfl rfl Try.underlying64 rfl rfl Try.sizeOf62 rfl) rfl ?_
 refine vq (q_load rfl rfl Try.isAgg62 (.obj 3 rfl rfl)) rfl ?_
 refine vm rfl rfl ?_
 refine vm rfl rfl ?_
 refine simL_do (re_mputF (ek := enc9) 2 x2 (fptr q0_0 x1) rfl rfl rfl rfl Try.underlying62 key9 rfl) rfl rfl ?_
 intro _
 refine simL_ent (H' := [mapF (mapO m0_0 enc9 encP (mput (mdel q0_0 x1) x2 (fptr q0_0 x1))) FA68 (mput (mdel q0_0 x1) x2 (fptr q0_0 x1)) (mput (mdel x0_0 x1) x2 (((mget x0_0 x1).getD (([] : List UInt8), (0 : Int))).1, ((mget x0_0 x1).getD (([] : List UInt8), (0 : Int))).2)), obj b0 64 [.map (some m0_0), str s16v, .int .i64 s9v.2.2.1, .bool s9v.2.2.2], F]) ((.foldU (x := x2) (p := (fptr q0_0 x1)) (v := (((mget x0_0 x1).getD (([] : List UInt8), (0 : Int))).1, ((mget x0_0 x1).getD (([] : List UInt8), (0 : Int))).2)) (y22v.1, y22v.2) (.sel 2 rfl (.sel 0 rfl (.sel 0 rfl (.sel 0 rfl (.sel 0 rfl (.nil _)))))))) ?_
 refine nx ?_
 refine va rfl rfl (simL_nil (nrm_then (sim_rtn ?_)))
 exact rtn_fn (m0_0, mput (mdel q0_0 x1) x2 (fptr q0_0 x1)) rfl rfl rfl (.sel 1 rfl (.sel 0 rfl (.sel 0 rfl (.nil _))))
 refine sim_region ?_
 refine vm rfl rfl ?_
 refine vn rfl rfl ?_
 refine vq (q_fa rfl rfl Try.underlying64 rfl rfl Try.sizeOf62 rfl) rfl ?_
 refine vq (q_load rfl rfl Try.isAgg62 (.obj 0 rfl rfl)) rfl ?_
 refine vm rfl rfl ?_
 refine vq (q_mlookN (ek := enc9) x1 (tellsF 1 rfl) (isNone_of hk1v) rfl rfl rfl Try.underlying62 key9 Try.zeroValue66) rfl ?_
 refine va rfl rfl (simL_nil (nrm_then (sim_seq ?_)))
 refine sim_block ?_
 refine sr ?_
 refine vm rfl rfl ?_
 refine vn rfl rfl ?_
 refine vq (q_fa rfl rfl Try.underlying64 rfl rfl Try.sizeOf4 rfl) rfl ?_
 refine vq (q_load rfl rfl Try.isAgg4 (.obj 0 rfl rfl)) rfl ?_
 refine va rfl rfl (simL_nil (nrm_then ?_))
 refine sim_condb rfl (fun h23v => ?_) (fun h24v => ?_)
 refine sr ?_
 refine va rfl rfl (simL_nil (nrm_then (sim_rtn ?_)))
 refine rtn_block ?_
 refine rtn_then ?_
 exact rtn_fn (m0_0, q0_0) rfl rfl rfl (.sel 0 rfl (.sel 0 rfl (.sel 0 rfl (.nil _))))
 refine sr ?_
 refine vm rfl rfl ?_
 refine vq (q_eqnn rfl rfl rfl Try.underlying66) rfl ?_
 refine va rfl rfl (simL_nil (nrm_then ?_))
 refine sim_true rfl ?_
 refine sr ?_
 refine va rfl rfl (simL_nil (nrm_then (sim_rtn ?_)))
 refine rtn_block ?_
 refine rtn_then ?_
 exact rtn_fn (m0_0, q0_0) rfl rfl rfl (.sel 0 rfl (.sel 0 rfl (.sel 0 rfl (.nil _))))

def disk_Disk_Remove.f (x0_0 : List ((List UInt8) × (List UInt8 × Int))) (x0_1 : List UInt8) (x0_2 : Int) (x0_3 : Bool) (x1 : List UInt8) : Option (Int × (List ((List UInt8) × (List UInt8 × Int))) × List UInt8 × Int × Bool) := if x0_3 = true then (some (11, x0_0, x0_1, x0_2, x0_3)) else ((disk_Disk_Has.f x0_0 x0_1 x0_2 x0_3 x1).bind fun s3v => (if (!s3v) = true then (some (8, x0_0, x0_1, x0_2, x0_3)) else ((disk_Disk_fails.f x0_0 x0_1 x0_2 x0_3).bind fun s8v => (if s8v.1 = true then (some (11, x0_0, s8v.2.1, s8v.2.2.1, s8v.2.2.2)) else ((if s8v.2.1 = x1 then (some ([] : List UInt8)) else (some s8v.2.1)).bind fun s13v => (some (0, mdel x0_0 x1, s13v, s8v.2.2.1, s8v.2.2.2)))))))
theorem disk_Disk_Remove.calls (W : World) (F : HA) (b0 : Nat) (m0_0 : Nat) (q0_0 : Kps) (x0_0 : List ((List UInt8) × (List UInt8 × Int))) (x0_1 : List UInt8) (x0_2 : Int) (x0_3 : Bool) (x1 : List UInt8)  :
    Fn Try.prog W 46 [.pointer (some ⟨b0, 0, none⟩), str x1] [obj b0 64 [.map (some m0_0), str x0_1, .int .i64 x0_2, .bool x0_3], mapF (mapO m0_0 enc9 encP q0_0) FA68 q0_0 x0_0] F (disk_Disk_Remove.f x0_0 x0_1 x0_2 x0_3 x1) (fun (r : Int × (List ((List UInt8) × (List UInt8 × Int))) × List UInt8 × Int × Bool) (y : Nat × Kps) => .int .i64 r.1) (fun r y => [obj b0 64 [.map (some y.1), str r.2.2.1, .int .i64 r.2.2.2.1, .bool r.2.2.2.2], mapF (mapO y.1 enc9 encP y.2) FA68 y.2 r.2.1]) := by
 unfold disk_Disk_Remove.f
 refine fn_intro 32 Try.func46 rfl Try.ntmps46 rfl ?_
 refine sr ?_
 refine va rfl rfl (simL_nil (nrm_then (sim_seq ?_)))
 refine sim_block ?_
 refine sr ?_
 refine vm rfl rfl ?_
 refine vn rfl rfl ?_
 refine vq (q_fa rfl rfl Try.underlying64 rfl rfl Try.sizeOf4 rfl) rfl ?_
 refine vq (q_load rfl rfl Try.isAgg4 (.obj 0 rfl rfl)) rfl ?_
 refine va rfl rfl (simL_nil (nrm_then ?_))
 refine sim_condb rfl (fun h1v => ?_) (fun h2v => ?_)
 refine sr ?_
 refine va rfl rfl (simL_nil (nrm_then (sim_rtn ?_)))
 refine rtn_block ?_
 refine rtn_then ?_
 exact rtn_fn (m0_0, q0_0) rfl rfl rfl (.sel 0 rfl (.sel 0 rfl (.sel 0 rfl (.nil _))))
 refine sr ?_
 refine vm rfl rfl ?_
 refine vm rfl rfl ?_
 refine simL_bind (fun s3v hs4v => ?_)
 refine simL_eff (re_call (vs := [.pointer (some ⟨b0, 0, none⟩), str x1]) (cap := []) (A := [obj b0 64 [.map (some m0_0), str x0_1, .int .i64 x0_2, .bool x0_3], mapF (mapO m0_0 enc9 encP q0_0) FA68 q0_0 x0_0]) (rst := [F]) rfl rfl rfl rfl rfl rfl Try.call34 (.sel 0 rfl (.sel 0 rfl (.sel 0 rfl (.nil _)))) (disk_Disk_Has.calls _ _ b0 m0_0 q0_0 x0_0 x0_1 x0_2 x0_3 x1 ) hs4v) rfl rfl rfl ?_
 intro y5v
 refine vq (q_not rfl rfl) rfl ?_
 refine va rfl rfl (simL_nil (nrm_then ?_))
 refine sim_condb rfl (fun h6v => ?_) (fun h7v => ?_)
 refine sr ?_
 refine va rfl rfl (simL_nil (nrm_then (sim_rtn ?_)))
 refine rtn_block ?_
 refine rtn_then ?_
 exact rtn_fn (m0_0, q0_0) rfl rfl rfl (.sel 0 rfl (.sel 0 rfl (.sel 0 rfl (.nil _))))
 refine sr ?_
 refine vm rfl rfl ?_
 refine simL_bind (fun s8v hs9v => ?_)
 refine simL_eff (re_call (vs := [.pointer (some ⟨b0, 0, none⟩)]) (cap := []) (A := [obj b0 64 [.map (some m0_0), str x0_1, .int .i64 x0_2, .bool x0_3], mapF (mapO m0_0 enc9 encP q0_0) FA68 q0_0 x0_0]) (rst := [F]) rfl rfl rfl rfl rfl rfl Try.call35 (.sel 0 rfl (.sel 0 rfl (.sel 0 rfl (.nil _)))) (disk_Disk_fails.calls _ _ b0 m0_0 q0_0 x0_0 x0_1 x0_2 x0_3 ) hs9v) rfl rfl rfl ?_
 intro y10v
 refine va rfl rfl (simL_nil (nrm_then ?_))
 refine sim_condb rfl (fun h11v => ?_) (fun h12v => ?_)
 refine sr ?_
 refine va rfl rfl (simL_nil (nrm_then (sim_rtn ?_)))
 refine rtn_block ?_
 refine rtn_then ?_
 exact rtn_fn (m0_0, q0_0) rfl rfl rfl (.sel 0 rfl (.sel 0 rfl (.sel 0 rfl (.nil _))))
 refine sim_skip ?_
 refine nrm_block (nrm_then (sr ?_))
 refine vm rfl rfl ?_
 refine vn rfl rfl ?_
 refine vq (q_fa rfl rfl Try.underlying64 rfl rfl Try.sizeOf62 rfl) rfl ?_
 refine vq (q_load rfl rfl Try.isAgg62 (.obj 0 rfl rfl)) rfl ?_
 refine vm rfl rfl ?_
 refine simL_do (re_mdelF (ek := enc9) 1 x1 rfl rfl rfl rfl Try.underlying62 key9 rfl) rfl rfl ?_
 intro _
 refine simL_nil (nrm_then ?_)
 refine sim_cut (S := List UInt8) (Unit) (fun s y => []) (fun s y => [obj b0 64 [.map (some m0_0), str s, .int .i64 s8v.2.2.1, .bool s8v.2.2.2], mapF (mapO m0_0 enc9 encP (mdel q0_0 x1)) FA68 (mdel q0_0 x1) (mdel x0_0 x1), F]) ?_ ?_
 refine sr ?_
 refine vm rfl rfl ?_
 refine vn rfl rfl ?_
 refine vq (q_fa rfl rfl Try.underlying64 rfl rfl Try.sizeOf9 rfl) rfl ?_
 refine vq (q_load rfl rfl Try.isAgg9 (.obj 0 rfl rfl)) rfl ?_
 refine vm rfl rfl ?_
 refine vq (q_eqs rfl rfl rfl) rfl (simL_nil (nrm_then ?_))
 refine sim_cond rfl (fun h15v => ?_) (fun h16v => ?_)
 refine sim_region ?_
 refine vm rfl rfl ?_
 refine vn rfl rfl ?_
 refine vq (q_fa rfl rfl Try.underlying64 rfl rfl Try.sizeOf9 rfl) rfl ?_
 refine simL_do (re_store 0 rfl rfl rfl Try.sizeOf9 rfl rfl (one_of (by rfl)) rfl rfl) rfl rfl ?_
 intro _
 refine simL_nil ?_
 exact nrm_cut (s := ([] : List UInt8)) () trivial (.sel 0 rfl (.sel 0 rfl (.sel 0 rfl (.nil _))))
 refine sim_skip ?_
 exact nrm_cut (s := s8v.2.1) () trivial (.sel 0 rfl (.sel 0 rfl (.sel 0 rfl (.nil _))))
 intro s13v y14v
 refine sr ?_
 refine va rfl rfl (simL_nil (nrm_then (sim_rtn ?_)))
 exact rtn_fn (m0_0, mdel q0_0 x1) rfl rfl rfl (.sel 0 rfl (.sel 0 rfl (.sel 0 rfl (.nil _))))
def disk_Disk_Remove.v (x0_0 : List ((List UInt8) × (List UInt8 × Int))) (x0_1 : List UInt8) (x0_2 : Int) (x0_3 : Bool) (x1 : List UInt8) : Int × (List ((List UInt8) × (List UInt8 × Int))) × List UInt8 × Int × Bool := (disk_Disk_Remove.f x0_0 x0_1 x0_2 x0_3 x1).getD (0, [], [], 0, false)
theorem disk_Disk_Remove.tot (x0_0 : List ((List UInt8) × (List UInt8 × Int))) (x0_1 : List UInt8) (x0_2 : Int) (x0_3 : Bool) (x1 : List UInt8) : disk_Disk_Remove.f x0_0 x0_1 x0_2 x0_3 x1 = some (disk_Disk_Remove.v x0_0 x0_1 x0_2 x0_3 x1) := by
  have h : ∃ r, disk_Disk_Remove.f x0_0 x0_1 x0_2 x0_3 x1 = some r := by
    unfold disk_Disk_Remove.f
    repeat' (first | exact ⟨_, rfl⟩ | split | simp only [Option.bind_some, disk_Disk_Has.tot, disk_Disk_fails.tot])
  obtain ⟨r, h⟩ := h
  unfold disk_Disk_Remove.v
  rw [h]; rfl

def disk_Disk_Arm.f (x0_0 : List ((List UInt8) × (List UInt8 × Int))) (x0_1 : List UInt8) (x0_2 : Int) (x0_3 : Bool) (x1 : Int) : Option (List UInt8 × Int × Bool) := some (x0_1, max x1 (0 : Int), x0_3)
theorem disk_Disk_Arm.calls (W : World) (F : HA) (b0 : Nat) (m0_0 : Nat) (q0_0 : Kps) (x0_0 : List ((List UInt8) × (List UInt8 × Int))) (x0_1 : List UInt8) (x0_2 : Int) (x0_3 : Bool) (x1 : Int)  :
    Fn Try.prog W 47 [.pointer (some ⟨b0, 0, none⟩), .int .i64 x1] [obj b0 64 [.map (some m0_0), str x0_1, .int .i64 x0_2, .bool x0_3], mapF (mapO m0_0 enc9 encP q0_0) FA68 q0_0 x0_0] F (disk_Disk_Arm.f x0_0 x0_1 x0_2 x0_3 x1) (fun (r : List UInt8 × Int × Bool) (y : Unit) => .tuple #[]) (fun r y => [obj b0 64 [.map (some m0_0), str r.1, .int .i64 r.2.1, .bool r.2.2], mapF (mapO m0_0 enc9 encP q0_0) FA68 q0_0 x0_0]) := by
 unfold disk_Disk_Arm.f
 refine fn_intro 9 Try.func47 rfl Try.ntmps47 rfl ?_
 refine sim_region ?_
 refine vm rfl rfl ?_
 refine vm rfl rfl ?_
 refine vq (q_max rfl rfl rfl) rfl ?_
 refine vn rfl rfl ?_
 refine vq (q_fa rfl rfl Try.underlying64 rfl rfl Try.sizeOf3 rfl) rfl ?_
 refine simL_do (re_store 0 rfl rfl rfl Try.sizeOf3 rfl rfl (one_of (by rfl)) rfl rfl) rfl rfl ?_
 intro _
 refine simL_nil ?_
 exact nrm_fn () rfl rfl rfl (.sel 0 rfl (.sel 0 rfl (.sel 0 rfl (.nil _))))
def disk_Disk_Arm.v (x0_0 : List ((List UInt8) × (List UInt8 × Int))) (x0_1 : List UInt8) (x0_2 : Int) (x0_3 : Bool) (x1 : Int) : List UInt8 × Int × Bool := (disk_Disk_Arm.f x0_0 x0_1 x0_2 x0_3 x1).getD ([], 0, false)
theorem disk_Disk_Arm.tot (x0_0 : List ((List UInt8) × (List UInt8 × Int))) (x0_1 : List UInt8) (x0_2 : Int) (x0_3 : Bool) (x1 : Int) : disk_Disk_Arm.f x0_0 x0_1 x0_2 x0_3 x1 = some (disk_Disk_Arm.v x0_0 x0_1 x0_2 x0_3 x1) := by
  have h : ∃ r, disk_Disk_Arm.f x0_0 x0_1 x0_2 x0_3 x1 = some r := by
    unfold disk_Disk_Arm.f
    repeat' (first | exact ⟨_, rfl⟩ | split | simp only [Option.bind_some])
  obtain ⟨r, h⟩ := h
  unfold disk_Disk_Arm.v
  rw [h]; rfl

def synodlaw4_told.f (k : Nat) (x0_0 : List ((List UInt8) × (List UInt8 × Int))) (x0_1 : List UInt8) (x0_2 : Int) (x0_3 : Bool) (x1_0 : Int) (x1_1 : Int) (x1_2 : List UInt8) (x1_3 : List UInt8) (x1_4 : List UInt8) : Option (Int × (List ((List UInt8) × (List UInt8 × Int))) × List UInt8 × Int × Bool) := orR (if x1_0 = (0 : Int) then ((disk_Disk_Create.f k x0_0 x0_1 x0_2 x0_3 x1_2).bind fun s6v => ((synodref_Num.f s6v.1).bind fun s9v => (some (.inr (s9v, s6v.2.1, s6v.2.2.1, s6v.2.2.2.1, s6v.2.2.2.2))))) else (if x1_0 = (1 : Int) then ((disk_Disk_Append.f x0_0 x0_1 x0_2 x0_3 x1_2 x1_4).bind fun s14v => ((synodref_Num.f s14v.1).bind fun s17v => (some (.inr (s17v, s14v.2.1, s14v.2.2.1, s14v.2.2.2.1, s14v.2.2.2.2))))) else (if x1_0 = (2 : Int) then ((disk_Disk_Sync.f x0_0 x0_1 x0_2 x0_3 x1_2).bind fun s22v => ((synodref_Num.f s22v.1).bind fun s25v => (some (.inr (s25v, s22v.2.1, s22v.2.2.1, s22v.2.2.2.1, s22v.2.2.2.2))))) else (if x1_0 = (3 : Int) then ((disk_Disk_Cut.f x0_0 x0_1 x0_2 x0_3 x1_2 x1_1).bind fun s30v => ((synodref_Num.f s30v.1).bind fun s33v => (some (.inr (s33v, s30v.2.1, s30v.2.2.1, s30v.2.2.2.1, s30v.2.2.2.2))))) else (if x1_0 = (4 : Int) then ((disk_Disk_Rename.f k x0_0 x0_1 x0_2 x0_3 x1_2 x1_3).bind fun s38v => ((synodref_Num.f s38v.1).bind fun s41v => (some (.inr (s41v, s38v.2.1, s38v.2.2.1, s38v.2.2.2.1, s38v.2.2.2.2))))) else (if x1_0 = (5 : Int) then ((disk_Disk_Remove.f x0_0 x0_1 x0_2 x0_3 x1_2).bind fun s46v => ((synodref_Num.f s46v.1).bind fun s49v => (some (.inr (s49v, s46v.2.1, s46v.2.2.1, s46v.2.2.2.1, s46v.2.2.2.2))))) else (if x1_0 = (6 : Int) then ((disk_Disk_Arm.f x0_0 x0_1 x0_2 x0_3 x1_1).bind fun s54v => (some (.inl (x0_0, s54v.1, s54v.2.1, s54v.2.2)))) else (if x1_0 = (7 : Int) then ((disk_Disk_Crash.f x0_0 x0_1 x0_2 x0_3 x1_1).bind fun s59v => (some (.inl (s59v.1, s59v.2.1, s59v.2.2.1, s59v.2.2.2)))) else (some (.inl (x0_0, x0_1, x0_2, x0_3))))))))))) fun s2v => (some (0, s2v.1, s2v.2.1, s2v.2.2.1, s2v.2.2.2))
theorem synodlaw4_told.calls (W : World) (F : HA) (k : Nat) (b0 : Nat) (m0_0 : Nat) (q0_0 : Kps) (x0_0 : List ((List UInt8) × (List UInt8 × Int))) (x0_1 : List UInt8) (x0_2 : Int) (x0_3 : Bool) (x1_0 : Int) (x1_1 : Int) (x1_2 : List UInt8) (x1_3 : List UInt8) (a1_4 : Option Addr) (c1_4 : Nat) (x1_4 : List UInt8) (h1_4 : Rd F a1_4 (encB x1_4)) (hc1_4 : x1_4.length ≤ c1_4) (hm1_4 : c1_4 ≤ maxLen) :
    Fn Try.prog W 26 [.pointer (some ⟨b0, 0, none⟩), .agg #[.int .i64 x1_0, .int .i64 x1_1, str x1_2, str x1_3, .slice a1_4 x1_4.length c1_4]] [obj b0 64 [.map (some m0_0), str x0_1, .int .i64 x0_2, .bool x0_3], mapF (mapO m0_0 enc9 encP q0_0) FA68 q0_0 x0_0] F (synodlaw4_told.f k x0_0 x0_1 x0_2 x0_3 x1_0 x1_1 x1_2 x1_3 x1_4) (fun (r : Int × (List ((List UInt8) × (List UInt8 × Int))) × List UInt8 × Int × Bool) (y : Nat × Kps) => .int .i64 r.1) (fun r y => [obj b0 64 [.map (some y.1), str r.2.2.1, .int .i64 r.2.2.2.1, .bool r.2.2.2.2], mapF (mapO y.1 enc9 encP y.2) FA68 y.2 r.2.1]) := by
 unfold synodlaw4_told.f
 refine fn_intro 67 Try.func26 rfl Try.ntmps26 rfl ?_
 refine sr ?_
 refine simL_eff (re_box rfl rfl rfl) rfl rfl rfl ?_
 intro b1v
 refine va rfl rfl (simL_nil (nrm_then ?_))
 refine sim_cutR (S := (List ((List UInt8) × (List UInt8 × Int))) × List UInt8 × Int × Bool) (Nat × Kps) (fun s y => []) (fun s y => [obj b0 64 [.map (some y.1), str s.2.1, .int .i64 s.2.2.1, .bool s.2.2.2], mapF (mapO y.1 enc9 encP y.2) FA68 y.2 s.1, F]) ?_ ?_
 refine sr ?_
 refine vq (q_fa rfl rfl Try.underlying52 rfl rfl Try.sizeOf3 rfl) rfl ?_
 refine vq (q_load rfl rfl Try.isAgg3 (.obj 0 rfl rfl)) rfl (simL_nil (nrm_then ?_))
 refine sim_block ?_
 refine sr ?_
 refine vq (q_eql rfl rfl rfl) rfl ?_
 refine va rfl rfl (simL_nil (nrm_then ?_))
 refine sim_cond rfl (fun h4v => ?_) (fun h5v => ?_)
 refine sr ?_
 refine vm rfl rfl ?_
 refine vq (q_fa rfl rfl Try.underlying52 rfl rfl Try.sizeOf9 rfl) rfl ?_
 refine vq (q_load rfl rfl Try.isAgg9 (.obj 0 rfl rfl)) rfl ?_
 refine simL_bind (fun s6v hs7v => ?_)
 refine simL_eff (re_call (vs := [.pointer (some ⟨b0, 0, none⟩), str x1_2]) (cap := []) (A := [obj b0 64 [.map (some m0_0), str x0_1, .int .i64 x0_2, .bool x0_3], mapF (mapO m0_0 enc9 encP q0_0) FA68 q0_0 x0_0]) (rst := [obj b1v 52 [.int .i64 x1_0, .int .i64 x1_1, str x1_2, str x1_3, .slice a1_4 x1_4.length c1_4], F]) rfl rfl rfl rfl rfl rfl Try.call12 (.sel 1 rfl (.sel 1 rfl (.sel 0 rfl (.sel 0 rfl (.nil _))))) (disk_Disk_Create.calls _ _ k b0 m0_0 q0_0 x0_0 x0_1 x0_2 x0_3 x1_2 ) hs7v) rfl rfl rfl ?_
 intro y8v
 refine simL_bind (fun s9v hs10v => ?_)
 refine simL_eff (re_call (vs := [.int .i64 s6v.1]) (cap := []) (A := []) (rst := [obj b0 64 [.map (some y8v.1), str s6v.2.2.1, .int .i64 s6v.2.2.2.1, .bool s6v.2.2.2.2], mapF (mapO y8v.1 enc9 encP y8v.2) FA68 y8v.2 s6v.2.1, obj b1v 52 [.int .i64 x1_0, .int .i64 x1_1, str x1_2, str x1_3, .slice a1_4 x1_4.length c1_4], F]) rfl rfl rfl rfl rfl rfl Try.call11 (.sel 0 rfl (.sel 0 rfl (.sel 0 rfl (.sel 0 rfl (.nil _))))) (synodref_Num.calls _ _ s6v.1 ) hs10v) rfl rfl rfl ?_
 intro y11v
 refine va rfl rfl (simL_nil (nrm_then (sim_rtn ?_)))
 refine rtn_block ?_
 refine rtn_cutR ?_
 exact rtn_fn (y8v.1, y8v.2) rfl rfl rfl (.sel 0 rfl (.sel 0 rfl (.sel 1 rfl (.nil _))))
 refine sr ?_
 refine vq (q_eql rfl rfl rfl) rfl ?_
 refine va rfl rfl (simL_nil (nrm_then ?_))
 refine sim_cond rfl (fun h12v => ?_) (fun h13v => ?_)
 refine sr ?_
 refine vm rfl rfl ?_
 refine vq (q_fa rfl rfl Try.underlying52 rfl rfl Try.sizeOf9 rfl) rfl ?_
 refine vq (q_load rfl rfl Try.isAgg9 (.obj 0 rfl rfl)) rfl ?_
 refine vq (q_fa rfl rfl Try.underlying52 rfl rfl Try.sizeOf34 rfl) rfl ?_
 refine vq (q_load rfl rfl Try.isAgg34 (.obj 0 rfl rfl)) rfl ?_
 refine simL_bind (fun s14v hs15v => ?_)
 refine simL_eff (re_call (vs := [.pointer (some ⟨b0, 0, none⟩), str x1_2, .slice a1_4 x1_4.length c1_4]) (cap := []) (A := [obj b0 64 [.map (some m0_0), str x0_1, .int .i64 x0_2, .bool x0_3], mapF (mapO m0_0 enc9 encP q0_0) FA68 q0_0 x0_0]) (rst := [obj b1v 52 [.int .i64 x1_0, .int .i64 x1_1, str x1_2, str x1_3, .slice a1_4 x1_4.length c1_4], F]) rfl rfl rfl rfl rfl rfl Try.call14 (.sel 1 rfl (.sel 1 rfl (.sel 0 rfl (.sel 0 rfl (.nil _))))) (disk_Disk_Append.calls _ _ b0 m0_0 q0_0 x0_0 x0_1 x0_2 x0_3 x1_2 a1_4 c1_4 x1_4 (h1_4.lend 1 rfl) hc1_4 hm1_4) hs15v) rfl rfl rfl ?_
 intro y16v
 refine simL_bind (fun s17v hs18v => ?_)
 refine simL_eff (re_call (vs := [.int .i64 s14v.1]) (cap := []) (A := []) (rst := [obj b0 64 [.map (some y16v.1), str s14v.2.2.1, .int .i64 s14v.2.2.2.1, .bool s14v.2.2.2.2], mapF (mapO y16v.1 enc9 encP y16v.2) FA68 y16v.2 s14v.2.1, obj b1v 52 [.int .i64 x1_0, .int .i64 x1_1, str x1_2, str x1_3, .slice a1_4 x1_4.length c1_4], F]) rfl rfl rfl rfl rfl rfl Try.call11 (.sel 0 rfl (.sel 0 rfl (.sel 0 rfl (.sel 0 rfl (.nil _))))) (synodref_Num.calls _ _ s14v.1 ) hs18v) rfl rfl rfl ?_
 intro y19v
 refine va rfl rfl (simL_nil (nrm_then (sim_rtn ?_)))
 refine rtn_block ?_
 refine rtn_cutR ?_
 exact rtn_fn (y16v.1, y16v.2) rfl rfl rfl (.sel 0 rfl (.sel 0 rfl (.sel 1 rfl (.nil _))))
 refine sr ?_
 refine vq (q_eql rfl rfl rfl) rfl ?_
 refine va rfl rfl (simL_nil (nrm_then ?_))
 refine sim_cond rfl (fun h20v => ?_) (fun h21v => ?_)
 refine sr ?_
 refine vm rfl rfl ?_
 refine vq (q_fa rfl rfl Try.underlying52 rfl rfl Try.sizeOf9 rfl) rfl ?_
 refine vq (q_load rfl rfl Try.isAgg9 (.obj 0 rfl rfl)) rfl ?_
 refine simL_bind (fun s22v hs23v => ?_)
 refine simL_eff (re_call (vs := [.pointer (some ⟨b0, 0, none⟩), str x1_2]) (cap := []) (A := [obj b0 64 [.map (some m0_0), str x0_1, .int .i64 x0_2, .bool x0_3], mapF (mapO m0_0 enc9 encP q0_0) FA68 q0_0 x0_0]) (rst := [obj b1v 52 [.int .i64 x1_0, .int .i64 x1_1, str x1_2, str x1_3, .slice a1_4 x1_4.length c1_4], F]) rfl rfl rfl rfl rfl rfl Try.call32 (.sel 1 rfl (.sel 1 rfl (.sel 0 rfl (.sel 0 rfl (.nil _))))) (disk_Disk_Sync.calls _ _ b0 m0_0 q0_0 x0_0 x0_1 x0_2 x0_3 x1_2 ) hs23v) rfl rfl rfl ?_
 intro y24v
 refine simL_bind (fun s25v hs26v => ?_)
 refine simL_eff (re_call (vs := [.int .i64 s22v.1]) (cap := []) (A := []) (rst := [obj b0 64 [.map (some y24v.1), str s22v.2.2.1, .int .i64 s22v.2.2.2.1, .bool s22v.2.2.2.2], mapF (mapO y24v.1 enc9 encP y24v.2) FA68 y24v.2 s22v.2.1, obj b1v 52 [.int .i64 x1_0, .int .i64 x1_1, str x1_2, str x1_3, .slice a1_4 x1_4.length c1_4], F]) rfl rfl rfl rfl rfl rfl Try.call11 (.sel 0 rfl (.sel 0 rfl (.sel 0 rfl (.sel 0 rfl (.nil _))))) (synodref_Num.calls _ _ s22v.1 ) hs26v) rfl rfl rfl ?_
 intro y27v
 refine va rfl rfl (simL_nil (nrm_then (sim_rtn ?_)))
 refine rtn_block ?_
 refine rtn_cutR ?_
 exact rtn_fn (y24v.1, y24v.2) rfl rfl rfl (.sel 0 rfl (.sel 0 rfl (.sel 1 rfl (.nil _))))
 refine sr ?_
 refine vq (q_eql rfl rfl rfl) rfl ?_
 refine va rfl rfl (simL_nil (nrm_then ?_))
 refine sim_cond rfl (fun h28v => ?_) (fun h29v => ?_)
 refine sr ?_
 refine vm rfl rfl ?_
 refine vq (q_fa rfl rfl Try.underlying52 rfl rfl Try.sizeOf9 rfl) rfl ?_
 refine vq (q_load rfl rfl Try.isAgg9 (.obj 0 rfl rfl)) rfl ?_
 refine vq (q_fa rfl rfl Try.underlying52 rfl rfl Try.sizeOf3 rfl) rfl ?_
 refine vq (q_load rfl rfl Try.isAgg3 (.obj 0 rfl rfl)) rfl ?_
 refine simL_bind (fun s30v hs31v => ?_)
 refine simL_eff (re_call (vs := [.pointer (some ⟨b0, 0, none⟩), str x1_2, .int .i64 x1_1]) (cap := []) (A := [obj b0 64 [.map (some m0_0), str x0_1, .int .i64 x0_2, .bool x0_3], mapF (mapO m0_0 enc9 encP q0_0) FA68 q0_0 x0_0]) (rst := [obj b1v 52 [.int .i64 x1_0, .int .i64 x1_1, str x1_2, str x1_3, .slice a1_4 x1_4.length c1_4], F]) rfl rfl rfl rfl rfl rfl Try.call44 (.sel 1 rfl (.sel 1 rfl (.sel 0 rfl (.sel 0 rfl (.nil _))))) (disk_Disk_Cut.calls _ _ b0 m0_0 q0_0 x0_0 x0_1 x0_2 x0_3 x1_2 x1_1 ) hs31v) rfl rfl rfl ?_
 intro y32v
 refine simL_bind (fun s33v hs34v => ?_)
 refine simL_eff (re_call (vs := [.int .i64 s30v.1]) (cap := []) (A := []) (rst := [obj b0 64 [.map (some y32v.1), str s30v.2.2.1, .int .i64 s30v.2.2.2.1, .bool s30v.2.2.2.2], mapF (mapO y32v.1 enc9 encP y32v.2) FA68 y32v.2 s30v.2.1, obj b1v 52 [.int .i64 x1_0, .int .i64 x1_1, str x1_2, str x1_3, .slice a1_4 x1_4.length c1_4], F]) rfl rfl rfl rfl rfl rfl Try.call11 (.sel 0 rfl (.sel 0 rfl (.sel 0 rfl (.sel 0 rfl (.nil _))))) (synodref_Num.calls _ _ s30v.1 ) hs34v) rfl rfl rfl ?_
 intro y35v
 refine va rfl rfl (simL_nil (nrm_then (sim_rtn ?_)))
 refine rtn_block ?_
 refine rtn_cutR ?_
 exact rtn_fn (y32v.1, y32v.2) rfl rfl rfl (.sel 0 rfl (.sel 0 rfl (.sel 1 rfl (.nil _))))
 refine sr ?_
 refine vq (q_eql rfl rfl rfl) rfl ?_
 refine va rfl rfl (simL_nil (nrm_then ?_))
 refine sim_cond rfl (fun h36v => ?_) (fun h37v => ?_)
 refine sr ?_
 refine vm rfl rfl ?_
 refine vq (q_fa rfl rfl Try.underlying52 rfl rfl Try.sizeOf9 rfl) rfl ?_
 refine vq (q_load rfl rfl Try.isAgg9 (.obj 0 rfl rfl)) rfl ?_
 refine vq (q_fa rfl rfl Try.underlying52 rfl rfl Try.sizeOf9 rfl) rfl ?_
 refine vq (q_load rfl rfl Try.isAgg9 (.obj 0 rfl rfl)) rfl ?_
 refine simL_bind (fun s38v hs39v => ?_)
 refine simL_eff (re_call (vs := [.pointer (some ⟨b0, 0, none⟩), str x1_2, str x1_3]) (cap := []) (A := [obj b0 64 [.map (some m0_0), str x0_1, .int .i64 x0_2, .bool x0_3], mapF (mapO m0_0 enc9 encP q0_0) FA68 q0_0 x0_0]) (rst := [obj b1v 52 [.int .i64 x1_0, .int .i64 x1_1, str x1_2, str x1_3, .slice a1_4 x1_4.length c1_4], F]) rfl rfl rfl rfl rfl rfl Try.call45 (.sel 1 rfl (.sel 1 rfl (.sel 0 rfl (.sel 0 rfl (.nil _))))) (disk_Disk_Rename.calls _ _ k b0 m0_0 q0_0 x0_0 x0_1 x0_2 x0_3 x1_2 x1_3 ) hs39v) rfl rfl rfl ?_
 intro y40v
 refine simL_bind (fun s41v hs42v => ?_)
 refine simL_eff (re_call (vs := [.int .i64 s38v.1]) (cap := []) (A := []) (rst := [obj b0 64 [.map (some y40v.1), str s38v.2.2.1, .int .i64 s38v.2.2.2.1, .bool s38v.2.2.2.2], mapF (mapO y40v.1 enc9 encP y40v.2) FA68 y40v.2 s38v.2.1, obj b1v 52 [.int .i64 x1_0, .int .i64 x1_1, str x1_2, str x1_3, .slice a1_4 x1_4.length c1_4], F]) rfl rfl rfl rfl rfl rfl Try.call11 (.sel 0 rfl (.sel 0 rfl (.sel 0 rfl (.sel 0 rfl (.nil _))))) (synodref_Num.calls _ _ s38v.1 ) hs42v) rfl rfl rfl ?_
 intro y43v
 refine va rfl rfl (simL_nil (nrm_then (sim_rtn ?_)))
 refine rtn_block ?_
 refine rtn_cutR ?_
 exact rtn_fn (y40v.1, y40v.2) rfl rfl rfl (.sel 0 rfl (.sel 0 rfl (.sel 1 rfl (.nil _))))
 refine sr ?_
 refine vq (q_eql rfl rfl rfl) rfl ?_
 refine va rfl rfl (simL_nil (nrm_then ?_))
 refine sim_cond rfl (fun h44v => ?_) (fun h45v => ?_)
 refine sr ?_
 refine vm rfl rfl ?_
 refine vq (q_fa rfl rfl Try.underlying52 rfl rfl Try.sizeOf9 rfl) rfl ?_
 refine vq (q_load rfl rfl Try.isAgg9 (.obj 0 rfl rfl)) rfl ?_
 refine simL_bind (fun s46v hs47v => ?_)
 refine simL_eff (re_call (vs := [.pointer (some ⟨b0, 0, none⟩), str x1_2]) (cap := []) (A := [obj b0 64 [.map (some m0_0), str x0_1, .int .i64 x0_2, .bool x0_3], mapF (mapO m0_0 enc9 encP q0_0) FA68 q0_0 x0_0]) (rst := [obj b1v 52 [.int .i64 x1_0, .int .i64 x1_1, str x1_2, str x1_3, .slice a1_4 x1_4.length c1_4], F]) rfl rfl rfl rfl rfl rfl Try.call46 (.sel 1 rfl (.sel 1 rfl (.sel 0 rfl (.sel 0 rfl (.nil _))))) (disk_Disk_Remove.calls _ _ b0 m0_0 q0_0 x0_0 x0_1 x0_2 x0_3 x1_2 ) hs47v) rfl rfl rfl ?_
 intro y48v
 refine simL_bind (fun s49v hs50v => ?_)
 refine simL_eff (re_call (vs := [.int .i64 s46v.1]) (cap := []) (A := []) (rst := [obj b0 64 [.map (some y48v.1), str s46v.2.2.1, .int .i64 s46v.2.2.2.1, .bool s46v.2.2.2.2], mapF (mapO y48v.1 enc9 encP y48v.2) FA68 y48v.2 s46v.2.1, obj b1v 52 [.int .i64 x1_0, .int .i64 x1_1, str x1_2, str x1_3, .slice a1_4 x1_4.length c1_4], F]) rfl rfl rfl rfl rfl rfl Try.call11 (.sel 0 rfl (.sel 0 rfl (.sel 0 rfl (.sel 0 rfl (.nil _))))) (synodref_Num.calls _ _ s46v.1 ) hs50v) rfl rfl rfl ?_
 intro y51v
 refine va rfl rfl (simL_nil (nrm_then (sim_rtn ?_)))
 refine rtn_block ?_
 refine rtn_cutR ?_
 exact rtn_fn (y48v.1, y48v.2) rfl rfl rfl (.sel 0 rfl (.sel 0 rfl (.sel 1 rfl (.nil _))))
 refine sr ?_
 refine vq (q_eql rfl rfl rfl) rfl ?_
 refine va rfl rfl (simL_nil (nrm_then ?_))
 refine sim_cond rfl (fun h52v => ?_) (fun h53v => ?_)
 refine sim_region ?_
 refine vm rfl rfl ?_
 refine vq (q_fa rfl rfl Try.underlying52 rfl rfl Try.sizeOf3 rfl) rfl ?_
 refine vq (q_load rfl rfl Try.isAgg3 (.obj 0 rfl rfl)) rfl ?_
 refine simL_bind (fun s54v hs55v => ?_)
 refine simL_eff (re_call (vs := [.pointer (some ⟨b0, 0, none⟩), .int .i64 x1_1]) (cap := []) (A := [obj b0 64 [.map (some m0_0), str x0_1, .int .i64 x0_2, .bool x0_3], mapF (mapO m0_0 enc9 encP q0_0) FA68 q0_0 x0_0]) (rst := [obj b1v 52 [.int .i64 x1_0, .int .i64 x1_1, str x1_2, str x1_3, .slice a1_4 x1_4.length c1_4], F]) rfl rfl rfl rfl rfl rfl Try.call47 (.sel 1 rfl (.sel 1 rfl (.sel 0 rfl (.sel 0 rfl (.nil _))))) (disk_Disk_Arm.calls _ _ b0 m0_0 q0_0 x0_0 x0_1 x0_2 x0_3 x1_1 ) hs55v) rfl rfl rfl ?_
 intro y56v
 refine simL_nil (nrm_block ?_)
 exact nrm_cutR (s := (x0_0, s54v.1, s54v.2.1, s54v.2.2)) (m0_0, q0_0) trivial (.sel 0 rfl (.sel 0 rfl (.sel 1 rfl (.nil _))))
 refine sr ?_
 refine vq (q_eql rfl rfl rfl) rfl ?_
 refine va rfl rfl (simL_nil (nrm_then ?_))
 refine sim_cond rfl (fun h57v => ?_) (fun h58v => ?_)
 refine sim_region ?_
 refine vm rfl rfl ?_
 refine vq (q_fa rfl rfl Try.underlying52 rfl rfl Try.sizeOf3 rfl) rfl ?_
 refine vq (q_load rfl rfl Try.isAgg3 (.obj 0 rfl rfl)) rfl ?_
 refine simL_bind (fun s59v hs60v => ?_)
 refine simL_eff (re_call (vs := [.pointer (some ⟨b0, 0, none⟩), .int .i64 x1_1]) (cap := []) (A := [obj b0 64 [.map (some m0_0), str x0_1, .int .i64 x0_2, .bool x0_3], mapF (mapO m0_0 enc9 encP q0_0) FA68 q0_0 x0_0]) (rst := [obj b1v 52 [.int .i64 x1_0, .int .i64 x1_1, str x1_2, str x1_3, .slice a1_4 x1_4.length c1_4], F]) rfl rfl rfl rfl rfl rfl Try.call22 (.sel 1 rfl (.sel 1 rfl (.sel 0 rfl (.sel 0 rfl (.nil _))))) (disk_Disk_Crash.calls _ _ b0 m0_0 q0_0 x0_0 x0_1 x0_2 x0_3 x1_1 ) hs60v) rfl rfl rfl ?_
 intro y61v
 refine simL_nil (nrm_block ?_)
 exact nrm_cutR (s := (s59v.1, s59v.2.1, s59v.2.2.1, s59v.2.2.2)) (y61v.1, y61v.2) trivial (.sel 0 rfl (.sel 0 rfl (.sel 1 rfl (.nil _))))
 refine sim_skip ?_
 refine nrm_block ?_
 exact nrm_cutR (s := (x0_0, x0_1, x0_2, x0_3)) (m0_0, q0_0) trivial (.sel 1 rfl (.sel 1 rfl (.sel 1 rfl (.nil _))))
 intro s2v y3v
 refine sr ?_
 refine va rfl rfl (simL_nil (nrm_then (sim_rtn ?_)))
 exact rtn_fn (y3v.1, y3v.2) rfl rfl rfl (.sel 0 rfl (.sel 0 rfl (.sel 0 rfl (.nil _))))

def synodlaw4_made.l0 (x0 : List (Ty52)) : Nat → Int → List ((List UInt8) × (List UInt8 × Int)) → List UInt8 → Int → Bool → Option ((List ((List UInt8) × (List UInt8 × Int))) × List UInt8 × Int × Bool)
  | 0, _, _, _, _, _ => none
  | k + 1, z8v, z9v, z10v, z11v, z12v => if z8v < (x0.length : Int) then (if 0 ≤ z8v ∧ z8v < (x0.length : Int) then ((synodlaw4_told.f k z9v z10v z11v z12v ((x0.getD z8v.toNat dz52).1) ((x0.getD z8v.toNat dz52).2.1) ((x0.getD z8v.toNat dz52).2.2.1) ((x0.getD z8v.toNat dz52).2.2.2.1) ((x0.getD z8v.toNat dz52).2.2.2.2)).bind fun s28v => (synodlaw4_made.l0 x0 k (IntKind.i64.wrap (z8v + 1)) s28v.2.1 s28v.2.2.1 s28v.2.2.2.1 s28v.2.2.2.2)) else none) else (some (z9v, z10v, z11v, z12v))
def synodlaw4_made.f (k : Nat) (x0 : List (Ty52)) : Option ((List ((List UInt8) × (List UInt8 × Int))) × List UInt8 × Int × Bool) := (disk_New.f).bind fun s1v => ((synodlaw4_made.l0 x0 k 0 s1v.1 s1v.2.1 s1v.2.2.1 s1v.2.2.2).bind fun s4v => (some (s4v.1, s4v.2.1, s4v.2.2.1, s4v.2.2.2)))
theorem synodlaw4_made.calls (W : World) (F : HA) (k : Nat) (a0 : Option Addr) (c0 : Nat) (x0 : List (Ty52)) (h0 : RdV F 5 (V52 F) a0 x0) (hc0 : x0.length ≤ c0) (hm0 : c0 ≤ maxLen) :
    Fn Try.prog W 20 [.slice a0 x0.length c0] [] F (synodlaw4_made.f k x0) (fun (r : (List ((List UInt8) × (List UInt8 × Int))) × List UInt8 × Int × Bool) (y : Nat × Nat × Kps) => .pointer (some ⟨y.1, 0, none⟩)) (fun r y => [obj y.1 64 [.map (some y.2.1), str r.2.1, .int .i64 r.2.2.1, .bool r.2.2.2], mapF (mapO y.2.1 enc9 encP y.2.2) FA68 y.2.2 r.1]) := by
 unfold synodlaw4_made.f
 refine fn_intro 19 Try.func20 rfl Try.ntmps20 rfl ?_
 refine sr ?_
 refine va rfl rfl (nx ?_)
 refine simL_bind (fun s1v hs2v => ?_)
 refine simL_eff (re_call (vs := []) (cap := []) (A := []) (rst := [F]) rfl rfl rfl rfl rfl rfl Try.call10 (.sel 0 rfl (.nil _)) (disk_New.calls _ _  ) hs2v) rfl rfl rfl ?_
 intro y3v
 refine va rfl rfl (simL_nil (nrm_then ?_))
 refine sim_cut (S := (List ((List UInt8) × (List UInt8 × Int))) × List UInt8 × Int × Bool) (Nat × Kps) (fun s y => [(3, .pointer (some ⟨y3v.1, 0, none⟩))]) (fun s y => [obj y3v.1 64 [.map (some y.1), str s.2.1, .int .i64 s.2.2.1, .bool s.2.2.2], mapF (mapO y.1 enc9 encP y.2) FA68 y.2 s.1, F]) ?_ ?_
 refine sr ?_
 refine va rfl rfl (simL_nil (nrm_then ?_))
 refine sim_block ?_
 refine sim_loop (S := Int × (List ((List UInt8) × (List UInt8 × Int))) × List UInt8 × Int × Bool) (Nat × Kps) (fun k s => synodlaw4_made.l0 x0 k s.1 s.2.1 s.2.2.1 s.2.2.2.1 s.2.2.2.2) (fun s y => [(0, .slice a0 x0.length c0), (3, .pointer (some ⟨y3v.1, 0, none⟩)), (4, .int .i64 s.1)]) (fun s y => [obj y3v.1 64 [.map (some y.1), str s.2.2.1, .int .i64 s.2.2.2.1, .bool s.2.2.2.2], mapF (mapO y.1 enc9 encP y.2) FA68 y.2 s.2.1, F]) (fun _ => by rw [synodlaw4_made.l0]) ?_ k (0, s1v.1, s1v.2.1, s1v.2.2.1, s1v.2.2.2) (y3v.2.1, y3v.2.2) ⟨rfl, rfl, rfl, trivial⟩ (.sel 0 rfl (.sel 0 rfl (.sel 0 rfl (.nil _))))
 intro k s6v y7v
 refine sim_eq (by rw [synodlaw4_made.l0]) ?_
 refine sim_seq (sr ?_)
 refine vm rfl rfl ?_
 refine vm rfl rfl ?_
 refine vq (q_len rfl rfl rfl Try.underlying42) rfl ?_
 refine vq (q_lss rfl rfl rfl) rfl (simL_nil (nrm_then ?_))
 refine sim_cond rfl (fun h13v => ?_) (fun h14v => ?_)
 refine sim_skip ?_
 refine nrm_then (sim_seq ?_)
 refine sim_block ?_
 refine sim_region ?_
 refine vm rfl rfl ?_
 refine vm rfl rfl ?_
 refine vm rfl rfl ?_
 refine simL_ask (fun hi15v => ?_)
 obtain ⟨b16v, b16vo, r19v, ha17v, hV20v, hlr21v, hcell22v⟩ := RdV.pos h0 (Up.refl _) rfl (i := s6v.1.toNat) (by omega) dz52
 obtain ⟨a23v, c24v, rfl, ⟨he25v, hc26v, hm27v⟩⟩ := hV20v
 refine vq (q_idx rfl rfl rfl ha17v Try.underlying42 Try.sizeOf52 hi15v.1 hi15v.2) rfl ?_
 refine vq (q_loads rfl rfl Try.isAgg52 Try.sizeOf52 rfl (fun j v hj => hcell22v 2 rfl j v hj)) rfl ?_
 refine simL_bind (fun s28v hs29v => ?_)
 refine simL_eff (re_call (vs := [.pointer (some ⟨y3v.1, 0, none⟩), .agg #[.int .i64 ((x0.getD s6v.1.toNat dz52).1), .int .i64 ((x0.getD s6v.1.toNat dz52).2.1), str ((x0.getD s6v.1.toNat dz52).2.2.1), str ((x0.getD s6v.1.toNat dz52).2.2.2.1), .slice a23v (((x0.getD s6v.1.toNat dz52).2.2.2.2).length) c24v]]) (cap := []) (A := [obj y3v.1 64 [.map (some y7v.1), str s6v.2.2.1, .int .i64 s6v.2.2.2.1, .bool s6v.2.2.2.2], mapF (mapO y7v.1 enc9 encP y7v.2) FA68 y7v.2 s6v.2.1]) (rst := [F]) rfl rfl rfl rfl rfl rfl Try.call26 (.sel 0 rfl (.sel 0 rfl (.sel 0 rfl (.nil _)))) (synodlaw4_told.calls _ _ k y3v.1 y7v.1 y7v.2 s6v.2.1 s6v.2.2.1 s6v.2.2.2.1 s6v.2.2.2.2 ((x0.getD s6v.1.toNat dz52).1) ((x0.getD s6v.1.toNat dz52).2.1) ((x0.getD s6v.1.toNat dz52).2.2.1) ((x0.getD s6v.1.toNat dz52).2.2.2.1) a23v c24v ((x0.getD s6v.1.toNat dz52).2.2.2.2) (he25v.lend 0 rfl) hc26v hm27v) hs29v) rfl rfl rfl ?_
 intro y30v
 refine simL_nil (nrm_block (nrm_then (sim_region ?_)))
 refine vm rfl rfl ?_
 refine vq (q_add rfl rfl rfl) rfl ?_
 refine va rfl rfl (simL_nil ?_)
 exact nrm_again (s := (IntKind.i64.wrap (s6v.1 + 1), s28v.2.1, s28v.2.2.1, s28v.2.2.2.1, s28v.2.2.2.2)) (y30v.1, y30v.2) ⟨rfl, rfl, rfl, trivial⟩ (.sel 0 rfl (.sel 0 rfl (.sel 0 rfl (.nil _))))
 refine sim_exi ?_
 refine exi_then ?_
 refine exi_loop ?_
 refine exi_here ?_
 exact nrm_cut (s := (s6v.2.1, s6v.2.2.1, s6v.2.2.2.1, s6v.2.2.2.2)) (y7v.1, y7v.2) ⟨rfl, trivial⟩ (.sel 0 rfl (.sel 0 rfl (.sel 0 rfl (.nil _))))
 intro s4v y5v
 refine sr ?_
 refine vm rfl rfl ?_
 refine va rfl rfl (simL_nil (nrm_then (sim_rtn ?_)))
 exact rtn_fn (y3v.1, y5v.1, y5v.2) rfl rfl rfl (.sel 0 rfl (.sel 0 rfl (.sel 0 rfl (.nil _))))

def synodlaw4_few.l0 (x0 : List (Ty52)) : Nat → Int → Int → Option (Int)
  | 0, _, _ => none
  | k + 1, z5v, z6v => if ((decide (z6v < (x0.length : Int))) && (decide (z6v < (400 : Int)))) = true then (if 0 ≤ z6v ∧ z6v < (x0.length : Int) then (if 0 ≤ z6v ∧ z6v < (x0.length : Int) then (if 0 ≤ z6v ∧ z6v < (x0.length : Int) then (synodlaw4_few.l0 x0 k (IntKind.i64.wrap ((IntKind.i64.wrap ((IntKind.i64.wrap (z5v + (min (((x0.getD z6v.toNat dz52).2.2.1).length : Int) (20000 : Int)))) + (min (((x0.getD z6v.toNat dz52).2.2.2.1).length : Int) (20000 : Int)))) + (min (((x0.getD z6v.toNat dz52).2.2.2.2).length : Int) (20000 : Int)))) (IntKind.i64.wrap (z6v + 1))) else none) else none) else none) else (some z5v)
def synodlaw4_few.f (k : Nat) (x0 : List (Ty52)) : Option (Bool) := (synodlaw4_few.l0 x0 k 0 0).bind fun s1v => (some ((decide ((x0.length : Int) ≤ (400 : Int))) && (decide (s1v ≤ (20000 : Int)))))
theorem synodlaw4_few.calls (W : World) (F : HA) (k : Nat) (a0 : Option Addr) (c0 : Nat) (x0 : List (Ty52)) (h0 : RdV F 5 (V52 F) a0 x0) (hc0 : x0.length ≤ c0) (hm0 : c0 ≤ maxLen) :
    Fn Try.prog W 19 [.slice a0 x0.length c0] [] F (synodlaw4_few.f k x0) (fun (r : Bool) (y : Unit) => .bool r) (fun r y => []) := by
 unfold synodlaw4_few.f
 refine fn_intro 47 Try.func19 rfl Try.ntmps19 rfl ?_
 refine sr ?_
 refine va rfl rfl (nx ?_)
 refine va rfl rfl (simL_nil (nrm_then ?_))
 refine sim_cut (S := Int) (Unit) (fun s y => [(0, .slice a0 x0.length c0), (3, .int .i64 s)]) (fun s y => [F]) ?_ ?_
 refine sr ?_
 refine va rfl rfl (simL_nil (nrm_then ?_))
 refine sim_block ?_
 refine sim_loop (S := Int × Int) (Unit) (fun k s => synodlaw4_few.l0 x0 k s.1 s.2) (fun s y => [(0, .slice a0 x0.length c0), (3, .int .i64 s.1), (4, .int .i64 s.2)]) (fun s y => [F]) (fun _ => by rw [synodlaw4_few.l0]) ?_ k (0, 0) () ⟨rfl, rfl, rfl, trivial⟩ (.sel 0 rfl (.nil _))
 intro k s3v y4v
 refine sim_eq (by rw [synodlaw4_few.l0]) ?_
 refine sim_seq (sr ?_)
 refine vm rfl rfl ?_
 refine vm rfl rfl ?_
 refine vq (q_len rfl rfl rfl Try.underlying42) rfl ?_
 refine vq (q_lss rfl rfl rfl) rfl ?_
 refine vm rfl rfl ?_
 refine simL_valc (b := decide (s3v.2 < (x0.length : Int))) (fun hb50v => RQ.sub (E' := [(4, .int .i64 s3v.2)]) ⟨rfl, trivial⟩ (q_move rfl rfl)) rfl rfl rfl rfl rfl ?_
 refine simL_valc (b := decide (s3v.2 < (x0.length : Int))) (fun hb49v => RQ.sub (E' := [(10, .int .i64 s3v.2)]) ⟨lk_cv rfl hb49v, trivial⟩ (q_lss rfl rfl rfl)) rfl rfl rfl rfl rfl ?_
 refine vq (q_and rfl rfl rfl) rfl (simL_nil (nrm_then ?_))
 refine sim_condb rfl (fun h7v => ?_) (fun h8v => ?_)
 refine sim_skip ?_
 refine nrm_then (sim_seq ?_)
 refine sim_block ?_
 refine sim_ask (fun hi9v => ?_)
 obtain ⟨b10v, b10vo, r13v, ha11v, hV14v, hlr15v, hcell16v⟩ := RdV.pos h0 (Up.refl _) rfl (i := s3v.2.toNat) (by omega) dz52
 obtain ⟨a17v, c18v, rfl, ⟨he19v, hc20v, hm21v⟩⟩ := hV14v
 refine sim_ask (fun hi22v => ?_)
 obtain ⟨b23v, b23vo, r26v, ha24v, hV27v, hlr28v, hcell29v⟩ := RdV.pos h0 (Up.refl _) rfl (i := s3v.2.toNat) (by omega) dz52
 obtain ⟨a30v, c31v, rfl, ⟨he32v, hc33v, hm34v⟩⟩ := hV27v
 refine sim_ask (fun hi35v => ?_)
 obtain ⟨b36v, b36vo, r39v, ha37v, hV40v, hlr41v, hcell42v⟩ := RdV.pos h0 (Up.refl _) rfl (i := s3v.2.toNat) (by omega) dz52
 obtain ⟨a43v, c44v, rfl, ⟨he45v, hc46v, hm47v⟩⟩ := hV40v
 refine sim_draw (Γ := Unit) () [[], [], [], [1, 2], [1, 2, 3], [1, 2, 3, 4], [1, 2, 3, 4, 5], [1, 2, 3, 4, 5, 6], rL 8, [], [], [9, 10], [9, 10, 11], [9, 10, 11, 12], [9, 10, 11, 12, 13], [9, 10, 11, 12, 13, 14], rL 16, [], [], [17, 18], [17, 18, 19], [17, 18, 19, 20], [17, 18, 19, 20, 21], [17, 18, 19, 20, 21, 22], rL 24, rL 25] [] [0, 1, 2, 3, 4, 5, 6, 7, 8, 9, 10, 11, 12, 13, 14, 15, 16, 17, 18, 19, 20, 21, 22, 23, 24, 25] (fun i => [[0], [0], [0], [0], [0], [0], [0], [0], [0], [0], [0], [0], [0], [0], [0], [0], [0], [0], [0], [0], [0], [0], [0], [0], [0], [0]].getD i []) (fun i => [[], [], [], [], [], [], [], [], [], [], [], [], [], [], [], [], [], [], [], [], [], [], [], [], [], []].getD i []) (fun γ i => [.int .i64 s3v.1, .slice a0 x0.length c0, .int .i64 s3v.2, .pointer (some ⟨b10v, b10vo + s3v.2.toNat * 5, none⟩), .pointer (some ⟨b10v, b10vo + s3v.2.toNat * 5 + 2, none⟩), str ((x0.getD s3v.2.toNat dz52).2.2.1), .int .i64 (((x0.getD s3v.2.toNat dz52).2.2.1).length : Int), .int .i64 (min (((x0.getD s3v.2.toNat dz52).2.2.1).length : Int) (20000 : Int)), .int .i64 (IntKind.i64.wrap (s3v.1 + (min (((x0.getD s3v.2.toNat dz52).2.2.1).length : Int) (20000 : Int)))), .slice a0 x0.length c0, .int .i64 s3v.2, .pointer (some ⟨b23v, b23vo + s3v.2.toNat * 5, none⟩), .pointer (some ⟨b23v, b23vo + s3v.2.toNat * 5 + 3, none⟩), str ((x0.getD s3v.2.toNat dz52).2.2.2.1), .int .i64 (((x0.getD s3v.2.toNat dz52).2.2.2.1).length : Int), .int .i64 (min (((x0.getD s3v.2.toNat dz52).2.2.2.1).length : Int) (20000 : Int)), .int .i64 (IntKind.i64.wrap ((IntKind.i64.wrap (s3v.1 + (min (((x0.getD s3v.2.toNat dz52).2.2.1).length : Int) (20000 : Int)))) + (min (((x0.getD s3v.2.toNat dz52).2.2.2.1).length : Int) (20000 : Int)))), .slice a0 x0.length c0, .int .i64 s3v.2, .pointer (some ⟨b36v, b36vo + s3v.2.toNat * 5, none⟩), .pointer (some ⟨b36v, b36vo + s3v.2.toNat * 5 + 4, none⟩), .slice a43v (((x0.getD s3v.2.toNat dz52).2.2.2.2).length) c44v, .int .i64 (((x0.getD s3v.2.toNat dz52).2.2.2.2).length : Int), .int .i64 (min (((x0.getD s3v.2.toNat dz52).2.2.2.2).length : Int) (20000 : Int)), .int .i64 (IntKind.i64.wrap ((IntKind.i64.wrap ((IntKind.i64.wrap (s3v.1 + (min (((x0.getD s3v.2.toNat dz52).2.2.1).length : Int) (20000 : Int)))) + (min (((x0.getD s3v.2.toNat dz52).2.2.2.1).length : Int) (20000 : Int)))) + (min (((x0.getD s3v.2.toNat dz52).2.2.2.2).length : Int) (20000 : Int)))), .int .i64 (IntKind.i64.wrap ((IntKind.i64.wrap ((IntKind.i64.wrap (s3v.1 + (min (((x0.getD s3v.2.toNat dz52).2.2.1).length : Int) (20000 : Int)))) + (min (((x0.getD s3v.2.toNat dz52).2.2.2.1).length : Int) (20000 : Int)))) + (min (((x0.getD s3v.2.toNat dz52).2.2.2.2).length : Int) (20000 : Int))))].getD i undef) (fun j γ => [[F]].getD j []) (fun γ => [(0, .slice a0 x0.length c0), (3, .int .i64 (IntKind.i64.wrap ((IntKind.i64.wrap ((IntKind.i64.wrap (s3v.1 + (min (((x0.getD s3v.2.toNat dz52).2.2.1).length : Int) (20000 : Int)))) + (min (((x0.getD s3v.2.toNat dz52).2.2.2.1).length : Int) (20000 : Int)))) + (min (((x0.getD s3v.2.toNat dz52).2.2.2.2).length : Int) (20000 : Int))))), (4, .int .i64 s3v.2), (10, cv ((decide (s3v.2 < (x0.length : Int))) == true) (.int .i64 s3v.2)), (11, cv ((decide (s3v.2 < (x0.length : Int))) == true) (.bool (decide (s3v.2 < (400 : Int)))))]) mixed (by decide) (by decide) (by decide) (by decide) (by decide) (by decide) (by decide) 47 rfl (by decide) (by decide) (by decide) (Ent.refl _) ?_ ?_ (fun _ => ⟨rfl, rfl, rfl, rfl, rfl, trivial⟩) ?_
 exact (aq rfl (fun γ => qm rfl (.o (s := 3) rfl (by decide) .nil) rfl) (aq rfl (fun γ => qm rfl (.o (s := 0) rfl (by decide) .nil) rfl) (aq rfl (fun γ => qm rfl (.o (s := 4) rfl (by decide) .nil) rfl) (aq rfl (fun γ => qp rfl rfl (.v 1 rfl rfl (.v 2 rfl rfl .nil)) (q_idx rfl rfl rfl ha11v Try.underlying42 Try.sizeOf52 hi9v.1 hi9v.2) rfl) (aq rfl (fun γ => qp rfl rfl (.v 3 rfl rfl .nil) (q_fa rfl rfl Try.underlying52 rfl rfl Try.sizeOf9 rfl) rfl) (aq rfl (fun γ => qp rfl rfl (.v 4 rfl rfl .nil) (q_load rfl rfl Try.isAgg9 (hcell16v 0 rfl 2 _ rfl)) rfl) (aq rfl (fun γ => qp rfl rfl (.v 5 rfl rfl .nil) (q_lens rfl rfl rfl Try.underlying9) rfl) (aq rfl (fun γ => qp rfl rfl (.v 6 rfl rfl .nil) (q_min rfl rfl rfl) rfl) (aq rfl (fun γ => qp rfl rfl (.v 0 rfl rfl (.v 7 rfl rfl .nil)) (q_add rfl rfl rfl) rfl) (aq rfl (fun γ => qm rfl (.o (s := 0) rfl (by decide) .nil) rfl) (aq rfl (fun γ => qm rfl (.o (s := 4) rfl (by decide) .nil) rfl) (aq rfl (fun γ => qp rfl rfl (.v 9 rfl rfl (.v 10 rfl rfl .nil)) (q_idx rfl rfl rfl ha24v Try.underlying42 Try.sizeOf52 hi22v.1 hi22v.2) rfl) (aq rfl (fun γ => qp rfl rfl (.v 11 rfl rfl .nil) (q_fa rfl rfl Try.underlying52 rfl rfl Try.sizeOf9 rfl) rfl) (aq rfl (fun γ => qp rfl rfl (.v 12 rfl rfl .nil) (q_load rfl rfl Try.isAgg9 (hcell29v 0 rfl 3 _ rfl)) rfl) (aq rfl (fun γ => qp rfl rfl (.v 13 rfl rfl .nil) (q_lens rfl rfl rfl Try.underlying9) rfl) (aq rfl (fun γ => qp rfl rfl (.v 14 rfl rfl .nil) (q_min rfl rfl rfl) rfl) (aq rfl (fun γ => qp rfl rfl (.v 8 rfl rfl (.v 15 rfl rfl .nil)) (q_add rfl rfl rfl) rfl) (aq rfl (fun γ => qm rfl (.o (s := 0) rfl (by decide) .nil) rfl) (aq rfl (fun γ => qm rfl (.o (s := 4) rfl (by decide) .nil) rfl) (aq rfl (fun γ => qp rfl rfl (.v 17 rfl rfl (.v 18 rfl rfl .nil)) (q_idx rfl rfl rfl ha37v Try.underlying42 Try.sizeOf52 hi35v.1 hi35v.2) rfl) (aq rfl (fun γ => qp rfl rfl (.v 19 rfl rfl .nil) (q_fa rfl rfl Try.underlying52 rfl rfl Try.sizeOf34 rfl) rfl) (aq rfl (fun γ => qp rfl rfl (.v 20 rfl rfl .nil) (q_load rfl rfl Try.isAgg34 (hcell42v 0 rfl 4 _ rfl)) rfl) (aq rfl (fun γ => qp rfl rfl (.v 21 rfl rfl .nil) (q_len rfl rfl rfl Try.underlying34) rfl) (aq rfl (fun γ => qp rfl rfl (.v 22 rfl rfl .nil) (q_min rfl rfl rfl) rfl) (aq rfl (fun γ => qp rfl rfl (.v 16 rfl rfl (.v 23 rfl rfl .nil)) (q_add rfl rfl rfl) rfl) (aq rfl (fun γ => qp rfl rfl (.v 24 rfl rfl .nil) (q_asg rfl rfl) rfl) zA))))))))))))))))))))))))))
 exact zA
 intro g48v
 refine nrm_block (nrm_then (sim_region ?_))
 refine vm rfl rfl ?_
 refine vq (q_add rfl rfl rfl) rfl ?_
 refine va rfl rfl (simL_nil ?_)
 exact nrm_again (s := (IntKind.i64.wrap ((IntKind.i64.wrap ((IntKind.i64.wrap (s3v.1 + (min (((x0.getD s3v.2.toNat dz52).2.2.1).length : Int) (20000 : Int)))) + (min (((x0.getD s3v.2.toNat dz52).2.2.2.1).length : Int) (20000 : Int)))) + (min (((x0.getD s3v.2.toNat dz52).2.2.2.2).length : Int) (20000 : Int))), IntKind.i64.wrap (s3v.2 + 1))) () ⟨rfl, rfl, rfl, trivial⟩ (.sel 0 rfl (.nil _))
 refine sim_exi ?_
 refine exi_then ?_
 refine exi_loop ?_
 refine exi_here ?_
 exact nrm_cut (s := s3v.1) () ⟨rfl, rfl, trivial⟩ (.sel 0 rfl (.nil _))
 intro s1v y2v
 refine sr ?_
 refine vm rfl rfl ?_
 refine vq (q_len rfl rfl rfl Try.underlying42) rfl ?_
 refine vq (q_leq rfl rfl rfl) rfl ?_
 refine vm rfl rfl ?_
 refine simL_valc (b := decide ((x0.length : Int) ≤ (400 : Int))) (fun hb52v => RQ.sub (E' := [(3, .int .i64 s1v)]) ⟨rfl, trivial⟩ (q_move rfl rfl)) rfl rfl rfl rfl rfl ?_
 refine simL_valc (b := decide ((x0.length : Int) ≤ (400 : Int))) (fun hb51v => RQ.sub (E' := [(44, .int .i64 s1v)]) ⟨lk_cv rfl hb51v, trivial⟩ (q_leq rfl rfl rfl)) rfl rfl rfl rfl rfl ?_
 refine vq (q_and rfl rfl rfl) rfl ?_
 refine va rfl rfl (simL_nil (nrm_then (sim_rtn ?_)))
 exact rtn_fn () rfl rfl rfl (.sel 0 rfl (.nil _))

def disk_Load.l0 (x0 : List (Ty36)) (s1v : (List ((List UInt8) × (List UInt8 × Int))) × List UInt8 × Int × Bool) : Nat → Int → List ((List UInt8) × (List UInt8 × Int)) → Option (((List ((List UInt8) × (List UInt8 × Int)))) ⊕ (Bool × (List ((List UInt8) × (List UInt8 × Int))) × List UInt8 × Int × Bool × Int))
  | 0, _, _ => none
  | k + 1, z8v, z9v => if z8v < (x0.length : Int) then (if 0 ≤ z8v ∧ z8v < (x0.length : Int) then ((disk_named.f k ((x0.getD z8v.toNat dz36).1)).bind fun s26v => (if (!s26v) = true then (some (.inr (false, ([] : List ((List UInt8) × (List UInt8 × Int))), ([] : List UInt8), (0 : Int), false, 7))) else ((disk_Disk_Has.f z9v s1v.2.1 s1v.2.2.1 s1v.2.2.2 ((x0.getD z8v.toNat dz36).1)).bind fun s31v => (if s31v = true then (some (.inr (false, ([] : List ((List UInt8) × (List UInt8 × Int))), ([] : List UInt8), (0 : Int), false, 9))) else (if ((decide ((x0.getD z8v.toNat dz36).2.2 < (0 : Int))) || (decide ((((x0.getD z8v.toNat dz36).2.1).length : Int) < (x0.getD z8v.toNat dz36).2.2))) = true then (some (.inr (false, ([] : List ((List UInt8) × (List UInt8 × Int))), ([] : List UInt8), (0 : Int), false, 1))) else ((disk_fresh.f ((x0.getD z8v.toNat dz36).2.1)).bind fun s38v => (disk_Load.l0 x0 s1v k (IntKind.i64.wrap (z8v + 1)) (mput z9v ((x0.getD z8v.toNat dz36).1) (s38v, (x0.getD z8v.toNat dz36).2.2))))))))) else none) else (some (.inl z9v))
def disk_Load.f (k : Nat) (x0 : List (Ty36)) : Option (Bool × (List ((List UInt8) × (List UInt8 × Int))) × List UInt8 × Int × Bool × Int) := (disk_New.f).bind fun s1v => (orR (disk_Load.l0 x0 s1v k 0 s1v.1) fun s4v => ((if (256 : Int) < (x0.length : Int) then (some true) else ((disk_Disk_Size.f s4v s1v.2.1 s1v.2.2.1 s1v.2.2.2).bind fun s51v => (some (decide ((16777216 : Int) < s51v))))).bind fun s49v => (if s49v = true then (some (false, ([] : List ((List UInt8) × (List UInt8 × Int))), ([] : List UInt8), (0 : Int), false, 10)) else (some (true, s4v, s1v.2.1, s1v.2.2.1, s1v.2.2.2, 0)))))
theorem disk_Load.calls (W : World) (F : HA) (k : Nat) (a0 : Option Addr) (c0 : Nat) (x0 : List (Ty36)) (h0 : RdV F 3 (V36 F) a0 x0) (hc0 : x0.length ≤ c0) (hm0 : c0 ≤ maxLen) :
    Fn Try.prog W 29 [.slice a0 x0.length c0] [] F (disk_Load.f k x0) (fun (r : Bool × (List ((List UInt8) × (List UInt8 × Int))) × List UInt8 × Int × Bool × Int) (y : Nat × Nat × Kps) => .tuple #[.pointer (optA r.1 y.1), .int .i64 r.2.2.2.2.2]) (fun r y => [whenA r.1 [obj y.1 64 [.map (some y.2.1), str r.2.2.1, .int .i64 r.2.2.2.1, .bool r.2.2.2.2.1], mapF (mapO y.2.1 enc9 encP y.2.2) FA68 y.2.2 r.2.1]]) := by
 unfold disk_Load.f
 refine fn_intro 59 Try.func29 rfl Try.ntmps29 rfl ?_
 refine sr ?_
 refine va rfl rfl ?_
 refine va rfl rfl (nx ?_)
 refine simL_bind (fun s1v hs2v => ?_)
 refine simL_eff (re_call (vs := []) (cap := []) (A := []) (rst := [F]) rfl rfl rfl rfl rfl rfl Try.call10 (.sel 0 rfl (.nil _)) (disk_New.calls _ _  ) hs2v) rfl rfl rfl ?_
 intro y3v
 refine va rfl rfl (simL_nil (nrm_then ?_))
 refine sim_cutR (S := (List ((List UInt8) × (List UInt8 × Int)))) (Kps) (fun s y => [(0, .slice a0 x0.length c0), (4, .pointer (some ⟨y3v.1, 0, none⟩))]) (fun s y => [obj y3v.1 64 [.map (some y3v.2.1), str s1v.2.1, .int .i64 s1v.2.2.1, .bool s1v.2.2.2], mapF (mapO y3v.2.1 enc9 encP y) FA68 y s, F]) ?_ ?_
 refine sr ?_
 refine vm rfl rfl ?_
 refine vq (q_len rfl rfl rfl Try.underlying27) rfl ?_
 refine vm rfl rfl (simL_nil (nrm_then ?_))
 refine sim_block ?_
 refine sim_loop (S := Int × (List ((List UInt8) × (List UInt8 × Int)))) (Kps) (fun k s => disk_Load.l0 x0 s1v k s.1 s.2) (fun s y => [(0, .slice a0 x0.length c0), (4, .pointer (some ⟨y3v.1, 0, none⟩)), (8, .slice a0 x0.length c0), (9, .int .i64 (x0.length : Int)), (10, .int .i64 s.1)]) (fun s y => [obj y3v.1 64 [.map (some y3v.2.1), str s1v.2.1, .int .i64 s1v.2.2.1, .bool s1v.2.2.2], mapF (mapO y3v.2.1 enc9 encP y) FA68 y s.2, F]) (fun _ => by rw [disk_Load.l0]) ?_ k (0, s1v.1) y3v.2.2 ⟨rfl, rfl, rfl, rfl, rfl, trivial⟩ (.sel 0 rfl (.sel 0 rfl (.sel 0 rfl (.nil _))))
 intro k s6v y7v
 refine sim_eq (by rw [disk_Load.l0]) ?_
 refine sr ?_
 refine vq (q_lss rfl rfl rfl) rfl (simL_nil (nrm_then (sim_seq ?_)))
 refine sim_cond rfl (fun h10v => ?_) (fun h11v => ?_)
 refine sim_skip ?_
 refine nrm_then (sim_seq ?_)
 refine sim_block ?_
 refine sr ?_
 refine simL_ask (fun hi12v => ?_)
 obtain ⟨b13v, b13vo, r16v, ha14v, hV17v, hlr18v, hcell19v⟩ := RdV.pos h0 (Up.refl _) rfl (i := s6v.1.toNat) (by omega) dz36
 obtain ⟨a20v, c21v, rfl, ⟨he22v, hc23v, hm24v⟩⟩ := hV17v
 refine vq (q_idx rfl rfl rfl ha14v Try.underlying27 Try.sizeOf36 hi12v.1 hi12v.2) rfl ?_
 refine vq (q_loads rfl rfl Try.isAgg36 Try.sizeOf36 rfl (fun j v hj => hcell19v 2 rfl j v hj)) rfl ?_
 refine simL_eff (re_alloc rfl Try.zeroValue36 rfl) rfl rfl rfl ?_
 intro b25v
 refine simL_do (re_store 0 rfl rfl rfl Try.sizeOf36 rfl rfl (one_of (by rfl)) rfl rfl) rfl rfl ?_
 intro _
 refine simL_nil (nrm_then (sim_seq ?_))
 refine sim_block ?_
 refine sr ?_
 refine vq (q_fa rfl rfl Try.underlying36 rfl rfl Try.sizeOf9 rfl) rfl ?_
 refine vq (q_load rfl rfl Try.isAgg9 (.obj 0 rfl rfl)) rfl ?_
 refine simL_bind (fun s26v hs27v => ?_)
 refine simL_eff (re_call (vs := [str ((x0.getD s6v.1.toNat dz36).1)]) (cap := []) (A := []) (rst := [obj b25v 36 [str ((x0.getD s6v.1.toNat dz36).1), .slice a20v (((x0.getD s6v.1.toNat dz36).2.1).length) c21v, .int .i64 ((x0.getD s6v.1.toNat dz36).2.2)], obj y3v.1 64 [.map (some y3v.2.1), str s1v.2.1, .int .i64 s1v.2.2.1, .bool s1v.2.2.2], mapF (mapO y3v.2.1 enc9 encP y7v) FA68 y7v s6v.2, F]) rfl rfl rfl rfl rfl rfl Try.call33 (.sel 0 rfl (.sel 0 rfl (.sel 0 rfl (.sel 0 rfl (.nil _))))) (disk_named.calls _ _ k ((x0.getD s6v.1.toNat dz36).1) ) hs27v) rfl rfl rfl ?_
 intro y28v
 refine vq (q_not rfl rfl) rfl ?_
 refine va rfl rfl (simL_nil (nrm_then ?_))
 refine sim_condb rfl (fun h29v => ?_) (fun h30v => ?_)
 refine sr ?_
 refine va rfl rfl ?_
 refine va rfl rfl (simL_nil (nrm_then (sim_rtn ?_)))
 refine rtn_block ?_
 refine rtn_then ?_
 refine rtn_block ?_
 refine rtn_then ?_
 refine rtn_loop ?_
 refine rtn_block ?_
 refine rtn_cutR ?_
 exact rtn_fn (0, 0, ([] : Kps)) rfl rfl rfl (.when_no rfl (.sel 3 rfl (.nil _)))
 refine sr ?_
 refine vm rfl rfl ?_
 refine vq (q_fa rfl rfl Try.underlying36 rfl rfl Try.sizeOf9 rfl) rfl ?_
 refine vq (q_load rfl rfl Try.isAgg9 (.obj 0 rfl rfl)) rfl ?_
 refine simL_bind (fun s31v hs32v => ?_)
 refine simL_eff (re_call (vs := [.pointer (some ⟨y3v.1, 0, none⟩), str ((x0.getD s6v.1.toNat dz36).1)]) (cap := []) (A := [obj y3v.1 64 [.map (some y3v.2.1), str s1v.2.1, .int .i64 s1v.2.2.1, .bool s1v.2.2.2], mapF (mapO y3v.2.1 enc9 encP y7v) FA68 y7v s6v.2]) (rst := [obj b25v 36 [str ((x0.getD s6v.1.toNat dz36).1), .slice a20v (((x0.getD s6v.1.toNat dz36).2.1).length) c21v, .int .i64 ((x0.getD s6v.1.toNat dz36).2.2)], F]) rfl rfl rfl rfl rfl rfl Try.call34 (.sel 1 rfl (.sel 1 rfl (.sel 0 rfl (.sel 0 rfl (.nil _))))) (disk_Disk_Has.calls _ _ y3v.1 y3v.2.1 y7v s6v.2 s1v.2.1 s1v.2.2.1 s1v.2.2.2 ((x0.getD s6v.1.toNat dz36).1) ) hs32v) rfl rfl rfl ?_
 intro y33v
 refine va rfl rfl (simL_nil (nrm_then ?_))
 refine sim_condb rfl (fun h34v => ?_) (fun h35v => ?_)
 refine sr ?_
 refine va rfl rfl ?_
 refine va rfl rfl (simL_nil (nrm_then (sim_rtn ?_)))
 refine rtn_block ?_
 refine rtn_then ?_
 refine rtn_block ?_
 refine rtn_then ?_
 refine rtn_loop ?_
 refine rtn_block ?_
 refine rtn_cutR ?_
 exact rtn_fn (0, 0, ([] : Kps)) rfl rfl rfl (.when_no rfl (.sel 3 rfl (.nil _)))
 refine sr ?_
 refine vq (q_fa rfl rfl Try.underlying36 rfl rfl Try.sizeOf3 rfl) rfl ?_
 refine vq (q_load rfl rfl Try.isAgg3 (.obj 2 rfl rfl)) rfl ?_
 refine vq (q_lss rfl rfl rfl) rfl ?_
 refine vm rfl rfl ?_
 refine simL_valc (b := decide ((x0.getD s6v.1.toNat dz36).2.2 < (0 : Int))) (fun hb48v => RQ.sub (E' := [(6, .pointer (some ⟨b25v, 0, none⟩))]) ⟨rfl, trivial⟩ (q_fa rfl rfl Try.underlying36 rfl rfl Try.sizeOf3 rfl)) rfl rfl rfl rfl rfl ?_
 refine simL_valc (b := decide ((x0.getD s6v.1.toNat dz36).2.2 < (0 : Int))) (fun hb47v => RQ.sub (E' := [(29, .pointer (some ⟨b25v, 2, none⟩))]) ⟨lk_cv rfl hb47v, trivial⟩ (q_load rfl rfl Try.isAgg3 (.obj 2 rfl rfl))) rfl rfl rfl rfl rfl ?_
 refine simL_valc (b := decide ((x0.getD s6v.1.toNat dz36).2.2 < (0 : Int))) (fun hb46v => RQ.sub (E' := [(6, .pointer (some ⟨b25v, 0, none⟩))]) ⟨rfl, trivial⟩ (q_fa rfl rfl Try.underlying36 rfl rfl Try.sizeOf34 rfl)) rfl rfl rfl rfl rfl ?_
 refine simL_valc (b := decide ((x0.getD s6v.1.toNat dz36).2.2 < (0 : Int))) (fun hb45v => RQ.sub (E' := [(31, .pointer (some ⟨b25v, 1, none⟩))]) ⟨lk_cv rfl hb45v, trivial⟩ (q_load rfl rfl Try.isAgg34 (.obj 2 rfl rfl))) rfl rfl rfl rfl rfl ?_
 refine simL_valc (b := decide ((x0.getD s6v.1.toNat dz36).2.2 < (0 : Int))) (fun hb44v => RQ.sub (E' := [(32, .slice a20v (((x0.getD s6v.1.toNat dz36).2.1).length) c21v)]) ⟨lk_cv rfl hb44v, trivial⟩ (q_len rfl rfl rfl Try.underlying34)) rfl rfl rfl rfl rfl ?_
 refine simL_valc (b := decide ((x0.getD s6v.1.toNat dz36).2.2 < (0 : Int))) (fun hb43v => RQ.sub (E' := [(30, .int .i64 ((x0.getD s6v.1.toNat dz36).2.2)), (33, .int .i64 (((x0.getD s6v.1.toNat dz36).2.1).length : Int))]) ⟨lk_cv rfl hb43v, lk_cv rfl hb43v, trivial⟩ (q_gtr rfl rfl rfl)) rfl rfl rfl rfl rfl ?_
 refine vq (q_or rfl rfl rfl) rfl ?_
 refine va rfl rfl (simL_nil (nrm_then ?_))
 refine sim_condb rfl (fun h36v => ?_) (fun h37v => ?_)
 refine sr ?_
 refine va rfl rfl ?_
 refine va rfl rfl (simL_nil (nrm_then (sim_rtn ?_)))
 refine rtn_block ?_
 refine rtn_then ?_
 refine rtn_block ?_
 refine rtn_then ?_
 refine rtn_loop ?_
 refine rtn_block ?_
 refine rtn_cutR ?_
 exact rtn_fn (0, 0, ([] : Kps)) rfl rfl rfl (.when_no rfl (.sel 3 rfl (.nil _)))
 refine sim_skip ?_
 refine nrm_block (nrm_then ?_)
 refine sim_bind (fun s38v hs39v => ?_)
 refine sim_draw (Γ := (Option Addr × Nat) × Nat) ((none, 0), 0) [[], [0], [0, 1], [0, 1, 2], [], [4], [], [6], [6, 7], [], [9], [6, 7, 8, 9, 10], [6, 7, 8, 9, 10, 11], rL 13] [8, 12, 13] [0, 1, 2, 3, 4, 5, 6, 7, 9, 10, 11] (fun i => [[0, 1, 2], [0, 1, 2], [0, 1, 2], [0, 1, 2], [0, 1, 2], [0, 1, 2], [0], [0], [], [0, 1], [0, 1], [1], [], []].getD i []) (fun i => [[], [], [], [], [], [], [], [], [0, 1, 2, 3, 4, 5, 6, 7, 9, 10], [], [], [], rL 12, rL 13].getD i []) (fun γ i => [.pointer (some ⟨y3v.1, 0, none⟩), .pointer (some ⟨y3v.1, 0, none⟩), .pointer (some ⟨y3v.1, 0, none⟩), .map (some y3v.2.1), .pointer (some ⟨b25v, 0, none⟩), str ((x0.getD s6v.1.toNat dz36).1), .pointer (some ⟨b25v, 1, none⟩), .slice a20v (((x0.getD s6v.1.toNat dz36).2.1).length) c21v, .slice γ.1.1 s38v.length γ.1.2, .pointer (some ⟨b25v, 2, none⟩), .int .i64 ((x0.getD s6v.1.toNat dz36).2.2), .agg #[.slice γ.1.1 s38v.length γ.1.2, .int .i64 ((x0.getD s6v.1.toNat dz36).2.2)], .pointer (some ⟨γ.2, 0, none⟩), undef].getD i undef) (fun j γ => [[obj y3v.1 64 [.map (some y3v.2.1), str s1v.2.1, .int .i64 s1v.2.2.1, .bool s1v.2.2.2], mapF (mapO y3v.2.1 enc9 encP y7v) FA68 y7v s6v.2, obj b25v 36 [str ((x0.getD s6v.1.toNat dz36).1), .slice a20v (((x0.getD s6v.1.toNat dz36).2.1).length) c21v, .int .i64 ((x0.getD s6v.1.toNat dz36).2.2)], F], [Row 5 1 γ.1.1 s38v.length γ.1.2 (encB s38v), obj y3v.1 64 [.map (some y3v.2.1), str s1v.2.1, .int .i64 s1v.2.2.1, .bool s1v.2.2.2], mapF (mapO y3v.2.1 enc9 encP y7v) FA68 y7v s6v.2, obj b25v 36 [str ((x0.getD s6v.1.toNat dz36).1), .slice a20v (((x0.getD s6v.1.toNat dz36).2.1).length) c21v, .int .i64 ((x0.getD s6v.1.toNat dz36).2.2)], F], [obj γ.2 68 [.slice γ.1.1 s38v.length γ.1.2, .int .i64 ((x0.getD s6v.1.toNat dz36).2.2)], Row 5 1 γ.1.1 s38v.length γ.1.2 (encB s38v), obj y3v.1 64 [.map (some y3v.2.1), str s1v.2.1, .int .i64 s1v.2.2.1, .bool s1v.2.2.2], mapF (mapO y3v.2.1 enc9 encP y7v) FA68 y7v s6v.2, obj b25v 36 [str ((x0.getD s6v.1.toNat dz36).1), .slice a20v (((x0.getD s6v.1.toNat dz36).2.1).length) c21v, .int .i64 ((x0.getD s6v.1.toNat dz36).2.2)], F], [obj y3v.1 64 [.map (some y3v.2.1), str s1v.2.1, .int .i64 s1v.2.2.1, .bool s1v.2.2.2], mapF (mapO y3v.2.1 enc9 encP (mput y7v ((x0.getD s6v.1.toNat dz36).1) γ.2)) FA68 (mput y7v ((x0.getD s6v.1.toNat dz36).1) γ.2) (mput s6v.2 ((x0.getD s6v.1.toNat dz36).1) (s38v, (x0.getD s6v.1.toNat dz36).2.2)), obj b25v 36 [str ((x0.getD s6v.1.toNat dz36).1), .slice a20v (((x0.getD s6v.1.toNat dz36).2.1).length) c21v, .int .i64 ((x0.getD s6v.1.toNat dz36).2.2)], F]].getD j []) (fun γ => [(0, .slice a0 x0.length c0), (4, .pointer (some ⟨y3v.1, 0, none⟩)), (8, .slice a0 x0.length c0), (9, .int .i64 (x0.length : Int)), (10, .int .i64 s6v.1), (29, cv ((decide ((x0.getD s6v.1.toNat dz36).2.2 < (0 : Int))) == false) (.pointer (some ⟨b25v, 2, none⟩))), (30, cv ((decide ((x0.getD s6v.1.toNat dz36).2.2 < (0 : Int))) == false) (.int .i64 ((x0.getD s6v.1.toNat dz36).2.2))), (31, cv ((decide ((x0.getD s6v.1.toNat dz36).2.2 < (0 : Int))) == false) (.pointer (some ⟨b25v, 1, none⟩))), (32, cv ((decide ((x0.getD s6v.1.toNat dz36).2.2 < (0 : Int))) == false) (.slice a20v (((x0.getD s6v.1.toNat dz36).2.1).length) c21v)), (33, cv ((decide ((x0.getD s6v.1.toNat dz36).2.2 < (0 : Int))) == false) (.int .i64 (((x0.getD s6v.1.toNat dz36).2.1).length : Int))), (34, cv ((decide ((x0.getD s6v.1.toNat dz36).2.2 < (0 : Int))) == false) (.bool (decide ((((x0.getD s6v.1.toNat dz36).2.1).length : Int) < (x0.getD s6v.1.toNat dz36).2.2))))]) mixed (by decide) (by decide) (by decide) (by decide) (by decide) (by decide) (by decide) 59 rfl (by decide) (by decide) (by decide) (Ent.refl _) ?_ ?_ (fun _ => ⟨rfl, rfl, rfl, rfl, rfl, rfl, rfl, rfl, rfl, rfl, rfl, trivial⟩) ?_
 exact (ac (fun γ => (ac (qm rfl (.o (s := 4) rfl (by decide) .nil) rfl) (ac (qm rfl (.o (s := 4) rfl (by decide) .nil) rfl) (ac (qm rfl (.o (s := 4) rfl (by decide) .nil) rfl) zA)))) (ac (fun γ => (ac (qp rfl rfl (.v 0 rfl rfl .nil) (q_nil rfl rfl) rfl) (ac (qp rfl rfl (.v 0 rfl rfl .nil) (q_nil rfl rfl) rfl) (ac (qp rfl rfl (.v 0 rfl rfl .nil) (q_nil rfl rfl) rfl) zA)))) (ac (fun γ => (ac (qp rfl rfl (.v 1 rfl rfl .nil) (q_fa rfl rfl Try.underlying64 rfl rfl Try.sizeOf62 rfl) rfl) (ac (qp rfl rfl (.v 1 rfl rfl .nil) (q_fa rfl rfl Try.underlying64 rfl rfl Try.sizeOf62 rfl) rfl) (ac (qp rfl rfl (.v 1 rfl rfl .nil) (q_fa rfl rfl Try.underlying64 rfl rfl Try.sizeOf62 rfl) rfl) zA)))) (ac (fun γ => (ac (qp rfl rfl (.v 2 rfl rfl .nil) (q_load rfl rfl Try.isAgg62 (.obj 0 rfl rfl)) rfl) (ac (qp rfl rfl (.v 2 rfl rfl .nil) (q_load rfl rfl Try.isAgg62 (.obj 1 rfl rfl)) rfl) (ac (qp rfl rfl (.v 2 rfl rfl .nil) (q_load rfl rfl Try.isAgg62 (.obj 2 rfl rfl)) rfl) zA)))) (ac (fun γ => (ac (qp rfl rfl (.o (s := 6) rfl (by decide) .nil) (q_fa rfl rfl Try.underlying36 rfl rfl Try.sizeOf9 rfl) rfl) (ac (qp rfl rfl (.o (s := 6) rfl (by decide) .nil) (q_fa rfl rfl Try.underlying36 rfl rfl Try.sizeOf9 rfl) rfl) (ac (qp rfl rfl (.o (s := 6) rfl (by decide) .nil) (q_fa rfl rfl Try.underlying36 rfl rfl Try.sizeOf9 rfl) rfl) zA)))) (ac (fun γ => (ac (qp rfl rfl (.v 4 rfl rfl .nil) (q_load rfl rfl Try.isAgg9 (.obj 2 rfl rfl)) rfl) (ac (qp rfl rfl (.v 4 rfl rfl .nil) (q_load rfl rfl Try.isAgg9 (.obj 3 rfl rfl)) rfl) (ac (qp rfl rfl (.v 4 rfl rfl .nil) (q_load rfl rfl Try.isAgg9 (.obj 4 rfl rfl)) rfl) zA)))) (aq rfl (fun γ => qp rfl rfl (.o (s := 6) rfl (by decide) .nil) (q_fa rfl rfl Try.underlying36 rfl rfl Try.sizeOf34 rfl) rfl) (aq rfl (fun γ => qp rfl rfl (.v 6 rfl rfl .nil) (q_load rfl rfl Try.isAgg34 (.obj 2 rfl rfl)) rfl) (ac (fun γ => (ac (qp rfl rfl (.o (s := 6) rfl (by decide) .nil) (q_fa rfl rfl Try.underlying36 rfl rfl Try.sizeOf3 rfl) rfl) (ac (qp rfl rfl (.o (s := 6) rfl (by decide) .nil) (q_fa rfl rfl Try.underlying36 rfl rfl Try.sizeOf3 rfl) rfl) zA))) (ac (fun γ => (ac (qp rfl rfl (.v 9 rfl rfl .nil) (q_load rfl rfl Try.isAgg3 (.obj 2 rfl rfl)) rfl) (ac (qp rfl rfl (.v 9 rfl rfl .nil) (q_load rfl rfl Try.isAgg3 (.obj 3 rfl rfl)) rfl) zA))) (aq rfl (fun γ => qp rfl rfl (.v 8 rfl rfl (.v 10 rfl rfl .nil)) (q_build (v := .agg #[.slice γ.1.1 s38v.length γ.1.2, .int .i64 ((x0.getD s6v.1.toNat dz36).2.2)]) rfl rfl (fun _ => by kernel_rfl)) rfl) zA)))))))))))
 exact (ac (fun γ => eo (Z := Option Addr × Nat) (fun z => (z, γ.2)) rfl rfl (.v 7 rfl rfl .nil) (re_call (vs := [.slice a20v (((x0.getD s6v.1.toNat dz36).2.1).length) c21v]) (cap := []) (A := []) (rst := [obj y3v.1 64 [.map (some y3v.2.1), str s1v.2.1, .int .i64 s1v.2.2.1, .bool s1v.2.2.2], mapF (mapO y3v.2.1 enc9 encP y7v) FA68 y7v s6v.2, obj b25v 36 [str ((x0.getD s6v.1.toNat dz36).1), .slice a20v (((x0.getD s6v.1.toNat dz36).2.1).length) c21v, .int .i64 ((x0.getD s6v.1.toNat dz36).2.2)], F]) rfl rfl rfl rfl rfl rfl Try.call43 (.sel 0 rfl (.sel 0 rfl (.sel 0 rfl (.sel 0 rfl (.nil _))))) (disk_fresh.calls _ _ a20v c21v ((x0.getD s6v.1.toNat dz36).2.1) (he22v.lend 3 rfl) hc23v hm24v) hs39v) (fun _ => ⟨rfl, rfl, rfl, rfl, rfl, rfl, rfl, rfl, rfl, rfl, trivial⟩) (fun _ => .inr rfl) (fun z => Ent.refl _)) (ac (fun γ => eo (Z := Nat) (fun z => (γ.1, z)) rfl rfl (.v 11 rfl rfl .nil) (re_box rfl rfl rfl) (fun _ => ⟨rfl, rfl, rfl, rfl, rfl, rfl, rfl, rfl, rfl, rfl, rfl, rfl, trivial⟩) (fun _ => .inr rfl) (fun z => Ent.refl _)) (ac (fun γ => eo (Z := Unit) (fun z => (γ.1, γ.2)) rfl rfl (.v 3 rfl rfl (.v 5 rfl rfl (.v 12 rfl rfl .nil))) (re_mputF (ek := enc9) 3 ((x0.getD s6v.1.toNat dz36).1) γ.2 rfl rfl rfl rfl Try.underlying62 key9 rfl) (fun _ => ⟨rfl, rfl, rfl, rfl, rfl, rfl, rfl, rfl, rfl, rfl, rfl, rfl, rfl, trivial⟩) (fun _ => .inl rfl) (fun z => ((.sel 2 rfl (.foldU (x := (x0.getD s6v.1.toNat dz36).1) (p := γ.2) (v := (s38v, (x0.getD s6v.1.toNat dz36).2.2)) (γ.1.1, γ.1.2) (.sel 2 rfl (.sel 0 rfl (.sel 0 rfl (.sel 0 rfl (.sel 0 rfl (.nil _))))))))))) zA)))
 intro g42v
 refine nrm_block (nrm_then (sim_region ?_))
 refine vq (q_add rfl rfl rfl) rfl ?_
 refine vm rfl rfl (simL_nil ?_)
 exact nrm_again (s := (IntKind.i64.wrap (s6v.1 + 1), mput s6v.2 ((x0.getD s6v.1.toNat dz36).1) (s38v, (x0.getD s6v.1.toNat dz36).2.2))) (mput y7v ((x0.getD s6v.1.toNat dz36).1) g42v.2) ⟨rfl, rfl, rfl, rfl, rfl, trivial⟩ (.sel 0 rfl (.sel 0 rfl (.sel 1 rfl (.nil _))))
 refine sim_exi ?_
 refine exi_then ?_
 refine exi_loop ?_
 refine exi_here ?_
 exact nrm_cutR (s := s6v.2) y7v ⟨rfl, rfl, trivial⟩ (.sel 0 rfl (.sel 0 rfl (.sel 0 rfl (.nil _))))
 intro s4v y5v
 refine sim_seq (sr ?_)
 refine vm rfl rfl ?_
 refine vq (q_len rfl rfl rfl Try.underlying27) rfl ?_
 refine vq (q_gtr rfl rfl rfl) rfl ?_
 refine vm rfl rfl ?_
 refine simL_cut' 4 (S := Bool) (Unit) (fun s y => [(4, .pointer (some ⟨y3v.1, 0, none⟩)), (57, .bool s)]) (fun s y => [obj y3v.1 64 [.map (some y3v.2.1), str s1v.2.1, .int .i64 s1v.2.2.1, .bool s1v.2.2.2], mapF (mapO y3v.2.1 enc9 encP y5v) FA68 y5v s4v, F]) ?_ ?_
 refine simL_casep (fun hb54v => ?_) (fun hb55v => ?_)
 rw [hb54v]
 refine simL_skipd rfl rfl rfl rfl rfl rfl ?_
 refine simL_skipd rfl rfl rfl rfl rfl rfl ?_
 refine simL_skipd rfl rfl rfl rfl rfl rfl ?_
 refine vq (q_pick rfl rfl rfl rfl rfl) rfl (simL_nil ?_)
 exact nrm_cut (s := true) () ⟨rfl, rfl, trivial⟩ (.sel 0 rfl (.sel 0 rfl (.sel 0 rfl (.nil _))))
 rw [hb55v]
 refine simL_valg (q_move rfl rfl) rfl rfl rfl rfl rfl rfl ?_
 refine simL_bind (fun s51v hs52v => ?_)
 refine simL_effg (re_call (vs := [.pointer (some ⟨y3v.1, 0, none⟩)]) (cap := []) (A := [obj y3v.1 64 [.map (some y3v.2.1), str s1v.2.1, .int .i64 s1v.2.2.1, .bool s1v.2.2.2], mapF (mapO y3v.2.1 enc9 encP y5v) FA68 y5v s4v]) (rst := [F]) rfl rfl rfl rfl rfl rfl Try.call16 (.sel 0 rfl (.sel 0 rfl (.sel 0 rfl (.nil _)))) (disk_Disk_Size.calls _ _ y3v.1 y3v.2.1 y5v s4v s1v.2.1 s1v.2.2.1 s1v.2.2.2 ) hs52v) rfl rfl rfl rfl rfl rfl ?_
 intro y53v
 refine simL_valg (q_gtr rfl rfl rfl) rfl rfl rfl rfl rfl rfl ?_
 refine vq (q_pick rfl rfl rfl rfl rfl) rfl (simL_nil ?_)
 exact nrm_cut (s := decide ((16777216 : Int) < s51v)) () ⟨rfl, rfl, trivial⟩ (.sel 0 rfl (.sel 0 rfl (.sel 0 rfl (.nil _))))
 intro s49v y50v
 refine simL_nil (nrm_then ?_)
 refine sim_condb rfl (fun h56v => ?_) (fun h57v => ?_)
 refine sr ?_
 refine va rfl rfl ?_
 refine va rfl rfl (simL_nil (nrm_then (sim_rtn ?_)))
 refine rtn_then ?_
 exact rtn_fn (0, 0, ([] : Kps)) rfl rfl rfl (.when_no rfl (.sel 2 rfl (.nil _)))
 refine sim_skip ?_
 refine nrm_then (sr ?_)
 refine vm rfl rfl ?_
 refine va rfl rfl ?_
 refine va rfl rfl (simL_nil (nrm_then (sim_rtn ?_)))
 exact rtn_fn (y3v.1, y3v.2.1, y5v) rfl rfl rfl (.when_yes rfl (.sel 0 rfl (.sel 0 rfl (.sel 0 rfl (.nil _)))))
theorem disk_Load.callsT (W : World) (F : HA) (k : Nat) (a0 : Option Addr) (c0 : Nat) (x0 : List (Ty36)) (h0 : RdV F 3 (V36 F) a0 x0) (hc0 : x0.length ≤ c0) (hm0 : c0 ≤ maxLen) :
    Fn Try.prog W 29 [.slice a0 x0.length c0] [] F ((disk_Load.f k x0).filter fun (r : Bool × (List ((List UInt8) × (List UInt8 × Int))) × List UInt8 × Int × Bool × Int) => r.1 == true) (fun (r : Bool × (List ((List UInt8) × (List UInt8 × Int))) × List UInt8 × Int × Bool × Int) (y : Nat × Nat × Kps) => .tuple #[.pointer (some ⟨y.1, 0, none⟩), .int .i64 r.2.2.2.2.2]) (fun r y => [obj y.1 64 [.map (some y.2.1), str r.2.2.1, .int .i64 r.2.2.2.1, .bool r.2.2.2.2.1], mapF (mapO y.2.1 enc9 encP y.2.2) FA68 y.2.2 r.2.1]) :=
  Fn.when (disk_Load.calls W F k a0 c0 x0 h0 hc0 hm0) _ true (fun r y h => by simp only [h]; rfl) (fun r y h => (Ent.when_yo h _))
theorem disk_Load.callsN (W : World) (F : HA) (k : Nat) (a0 : Option Addr) (c0 : Nat) (x0 : List (Ty36)) (h0 : RdV F 3 (V36 F) a0 x0) (hc0 : x0.length ≤ c0) (hm0 : c0 ≤ maxLen) :
    Fn Try.prog W 29 [.slice a0 x0.length c0] [] F ((disk_Load.f k x0).filter fun (r : Bool × (List ((List UInt8) × (List UInt8 × Int))) × List UInt8 × Int × Bool × Int) => r.1 == false) (fun (r : Bool × (List ((List UInt8) × (List UInt8 × Int))) × List UInt8 × Int × Bool × Int) (y : Nat × Nat × Kps) => .tuple #[.pointer none, .int .i64 r.2.2.2.2.2]) (fun r y => []) :=
  Fn.when (disk_Load.calls W F k a0 c0 x0 h0 hc0 hm0) _ false (fun r y h => by simp only [h]; rfl) (fun r y h => (Ent.when_no_ h _))
end Go.Proofs.Ytkkbgcocpkipjaa

/- Printed by gen.py: pure functions and the proofs that the Go functions simulate them. Conditions: as each theorem says. -/
import Derived.Test.YtdaedoklkmdhcaaG4
namespace Go.Proofs.Ytdaedoklkmdhcaa
open Go.RowKit
set_option linter.unusedVariables false
set_option linter.unusedSimpArgs false
set_option maxRecDepth 20000
set_option maxHeartbeats 20000000
def synodlaw11_KvPlays.l0 (x0 : List (Ty33)) : Nat → Int → List (Ty92) → List (Ty86) → List ((List UInt8) × (List UInt8)) → List ((Int) × (Ty86)) → Option (((List (Ty92)) × (List (Ty86)) × (List ((List UInt8) × (List UInt8))) × (List ((Int) × (Ty86)))) ⊕ (Bool))
  | 0, _, _, _, _, _ => none
  | k + 1, z17v, z18v, z19v, z20v, z21v => if z17v < (x0.length : Int) then (if 0 ≤ z17v ∧ z17v < (x0.length : Int) then ((kv_Store_Do.f z20v z21v ((x0.getD z17v.toNat dz33).1) ((x0.getD z17v.toNat dz33).2.1) ((x0.getD z17v.toNat dz33).2.2.1) ((x0.getD z17v.toNat dz33).2.2.2.1) ((x0.getD z17v.toNat dz33).2.2.2.2.1) ((x0.getD z17v.toNat dz33).2.2.2.2.2)).bind fun s32v => (if 0 ≤ z17v ∧ z17v < (x0.length : Int) then ((synodref11_Store_Do.f k z18v z19v ((x0.getD z17v.toNat dz33).1) ((x0.getD z17v.toNat dz33).2.1) ((x0.getD z17v.toNat dz33).2.2.1) ((x0.getD z17v.toNat dz33).2.2.2.1) ((x0.getD z17v.toNat dz33).2.2.2.2.1) ((x0.getD z17v.toNat dz33).2.2.2.2.2)).bind fun s48v => ((if ((!(decide (s32v.1 = s48v.1) && (decide (s32v.2.1 = s48v.2.1)))) || (!decide ((synodref_Num.v s32v.2.2.1) = s48v.2.2.1))) = true then (some true) else (if 0 ≤ z17v ∧ z17v < (x0.length : Int) then (if 0 ≤ z17v ∧ z17v < (x0.length : Int) then ((synodref11_Store_Get.f k s48v.2.2.2.1 s48v.2.2.2.2 ((x0.getD z17v.toNat dz33).2.2.2.1)).bind fun s97v => (some (!(decide ((kv_Store_Get.v s32v.2.2.2.1 s32v.2.2.2.2 ((x0.getD z17v.toNat dz33).2.2.2.1)).1 = s97v.1) && (decide (((kv_Store_Get.v s32v.2.2.2.1 s32v.2.2.2.2 ((x0.getD z17v.toNat dz33).2.2.2.1)).2) = s97v.2)))))) else none) else none)).bind fun s52v => (if s52v = true then (some (.inr false)) else ((if Int.tmod z17v 8 = (7 : Int) then ((synodlaw11_Same.f k s32v.2.2.2.1 s32v.2.2.2.2 s48v.2.2.2.1 s48v.2.2.2.2).bind fun s128v => (some (!s128v))) else (some false)).bind fun s114v => (if s114v = true then (some (.inr false)) else (synodlaw11_KvPlays.l0 x0 k (IntKind.i64.wrap (z17v + 1)) s48v.2.2.2.1 s48v.2.2.2.2 s32v.2.2.2.1 s32v.2.2.2.2)))))) else none)) else none) else (some (.inl (z18v, z19v, z20v, z21v)))
def synodlaw11_KvPlays.f (k : Nat) (x0 : List (Ty33)) (x1 : List UInt8) (x2 : Int) : Option (Bool) := (synodlaw11_first.f).bind fun s1v => ((synodlaw11_few.f k x0).bind fun s4v => (if (((!s1v) || (!s4v)) || (decide ((1000 : Int) < (x1.length : Int)))) = true then (some s1v) else ((kv_New.f).bind fun s9v => (orR (synodlaw11_KvPlays.l0 x0 k 0 ([] : List (Ty92)) ([] : List (Ty86)) s9v.1 s9v.2) fun s13v => ((synodlaw11_Same.f k s13v.2.2.1 s13v.2.2.2 s13v.1 s13v.2.1).bind fun s147v => ((if s147v = true then ((kv_Store_Get.f s13v.2.2.1 s13v.2.2.2 x1).bind fun s152v => ((synodref11_Store_Get.f k s13v.1 s13v.2.1 x1).bind fun s163v => (some (decide (s152v.1 = s163v.1) && (decide (s152v.2 = s163v.2)))))) else (some false)).bind fun s150v => ((if s150v = true then ((synodlaw11_each.f k s13v.2.2.1 s13v.2.2.2 s13v.1 s13v.2.1 x2).bind fun s182v => (some s182v)) else (some false)).bind fun s168v => (some s168v))))))))
theorem synodlaw11_KvPlays.calls (W : World) (F : HA) (k : Nat) (a0 : Option Addr) (c0 : Nat) (x0 : List (Ty33)) (x1 : List UInt8) (x2 : Int) (h0 : RdV F 6 (V33 tt) a0 x0) (hc0 : x0.length ≤ c0) (hm0 : c0 ≤ maxLen) :
    Fn Try.prog W 5 [.slice a0 x0.length c0, str x1, .int .i64 x2] [] F (synodlaw11_KvPlays.f k x0 x1 x2) (fun (r : Bool) (y : Unit) => .bool r) (fun r y => []) := by
 unfold synodlaw11_KvPlays.f
 refine fn_intro 111 Try.func5 rfl Try.ntmps5 rfl ?_
 refine sr ?_
 refine va rfl rfl (nx ?_)
 refine simL_bind (fun s1v hs2v => ?_)
 refine simL_eff (re_call (vs := []) (cap := []) (A := []) (rst := [F]) rfl rfl rfl rfl rfl rfl Try.call9 (.sel 0 rfl (.nil _)) (synodlaw11_first.calls _ _  ) hs2v) rfl rfl rfl ?_
 intro y3v
 refine va rfl rfl (nx ?_)
 refine vm rfl rfl ?_
 refine simL_bind (fun s4v hs5v => ?_)
 refine simL_eff (re_call (vs := [.slice a0 x0.length c0]) (cap := []) (A := []) (rst := [F]) rfl rfl rfl rfl rfl rfl Try.call10 (.sel 0 rfl (.nil _)) (synodlaw11_few.calls _ _ k a0 c0 x0 (h0.up (Up.lend 0 rfl) (fun _ _ h => h)) hc0 hm0) hs5v) rfl rfl rfl ?_
 intro y6v
 refine va rfl rfl (simL_nil (nrm_then (sim_seq (sr ?_))))
 refine vm rfl rfl ?_
 refine vq (q_not rfl rfl) rfl ?_
 refine vm rfl rfl ?_
 refine simL_valc (b := !s1v) (fun hb191v => RQ.sub (E' := [(8, .bool s4v)]) ⟨rfl, trivial⟩ (q_move rfl rfl)) rfl rfl rfl rfl rfl ?_
 refine simL_valc (b := !s1v) (fun hb190v => RQ.sub (E' := [(22, .bool s4v)]) ⟨lk_cv rfl hb190v, trivial⟩ (q_not rfl rfl)) rfl rfl rfl rfl rfl ?_
 refine vq (q_or rfl rfl rfl) rfl ?_
 refine vm rfl rfl ?_
 refine simL_valc (b := (!s1v) || (!s4v)) (fun hb189v => RQ.sub (E' := [(1, str x1)]) ⟨rfl, trivial⟩ (q_move rfl rfl)) rfl rfl rfl rfl rfl ?_
 refine simL_valc (b := (!s1v) || (!s4v)) (fun hb188v => RQ.sub (E' := [(26, str x1)]) ⟨lk_cv rfl hb188v, trivial⟩ (q_lens rfl rfl rfl Try.underlying9)) rfl rfl rfl rfl rfl ?_
 refine simL_valc (b := (!s1v) || (!s4v)) (fun hb187v => RQ.sub (E' := [(27, .int .i64 (x1.length : Int))]) ⟨lk_cv rfl hb187v, trivial⟩ (q_gtr rfl rfl rfl)) rfl rfl rfl rfl rfl ?_
 refine vq (q_or rfl rfl rfl) rfl (simL_nil (nrm_then ?_))
 refine sim_condb rfl (fun h7v => ?_) (fun h8v => ?_)
 refine sr ?_
 refine vm rfl rfl ?_
 refine va rfl rfl (simL_nil (nrm_then (sim_rtn ?_)))
 refine rtn_then ?_
 exact rtn_fn () rfl rfl rfl (.sel 0 rfl (.nil _))
 refine sim_skip ?_
 refine nrm_then (sr ?_)
 refine simL_bind (fun s9v hs10v => ?_)
 refine simL_eff (re_call (vs := []) (cap := []) (A := []) (rst := [F]) rfl rfl rfl rfl rfl rfl Try.call11 (.sel 0 rfl (.nil _)) (kv_New.calls _ _  ) hs10v) rfl rfl rfl ?_
 intro y11v
 refine va rfl rfl (nx ?_)
 refine vq (q_build (v := .agg #[.slice none 0 0, .slice none 0 0]) rfl rfl (fun _ => by kernel_rfl)) rfl ?_
 refine simL_eff (re_box rfl rfl rfl) rfl rfl rfl ?_
 intro b12v
 refine va rfl rfl (simL_nil (nrm_then ?_))
 refine sim_cutR (S := (List (Ty92)) × (List (Ty86)) × (List ((List UInt8) × (List UInt8))) × (List ((Int) × (Ty86)))) (Option Addr × Nat × Option Addr × Nat × Nat × Nat) (fun s y => [(1, str x1), (2, .int .i64 x2), (9, .pointer (some ⟨y11v.1, 0, none⟩)), (10, .pointer (some ⟨b12v, 0, none⟩))]) (fun s y => [obj b12v 47 [.slice y.1 s.1.length y.2.1, .slice y.2.2.1 s.2.1.length y.2.2.2.1], obj y11v.1 63 [.map (some y.2.2.2.2.1), .map (some y.2.2.2.2.2)], RowV 92 2 (V92 tt) y.1 s.1 y.2.1, RowV 86 4 (V86 tt) y.2.2.1 s.2.1 y.2.2.2.1, mapO y.2.2.2.2.1 enc9 enc9 s.2.2.1, mapO y.2.2.2.2.2 enc3 enc42 s.2.2.2, F]) ?_ ?_
 refine sr ?_
 refine va rfl rfl (simL_nil (nrm_then ?_))
 refine sim_block ?_
 refine sim_loop (S := Int × (List (Ty92)) × (List (Ty86)) × (List ((List UInt8) × (List UInt8))) × (List ((Int) × (Ty86)))) (Option Addr × Nat × Option Addr × Nat × Nat × Nat) (fun k s => synodlaw11_KvPlays.l0 x0 k s.1 s.2.1 s.2.2.1 s.2.2.2.1 s.2.2.2.2) (fun s y => [(0, .slice a0 x0.length c0), (1, str x1), (2, .int .i64 x2), (9, .pointer (some ⟨y11v.1, 0, none⟩)), (10, .pointer (some ⟨b12v, 0, none⟩)), (11, .int .i64 s.1)]) (fun s y => [obj b12v 47 [.slice y.1 s.2.1.length y.2.1, .slice y.2.2.1 s.2.2.1.length y.2.2.2.1], obj y11v.1 63 [.map (some y.2.2.2.2.1), .map (some y.2.2.2.2.2)], RowV 92 2 (V92 tt) y.1 s.2.1 y.2.1, RowV 86 4 (V86 tt) y.2.2.1 s.2.2.1 y.2.2.2.1, mapO y.2.2.2.2.1 enc9 enc9 s.2.2.2.1, mapO y.2.2.2.2.2 enc3 enc42 s.2.2.2.2, F]) (fun _ => by rw [synodlaw11_KvPlays.l0]) ?_ k (0, ([] : List (Ty92)), ([] : List (Ty86)), s9v.1, s9v.2) (none, 0, none, 0, y11v.2.1, y11v.2.2) ⟨rfl, rfl, rfl, rfl, rfl, rfl, trivial⟩ (.sel 0 rfl (.sel 0 rfl (.rowV_nil (.rowV_nil (.sel 0 rfl (.sel 0 rfl (.sel 0 rfl (.nil _))))))))
 intro k s15v y16v
 refine sim_eq (by rw [synodlaw11_KvPlays.l0]) ?_
 refine sim_seq (sr ?_)
 refine vm rfl rfl ?_
 refine vm rfl rfl ?_
 refine vq (q_len rfl rfl rfl Try.underlying22) rfl ?_
 refine vq (q_lss rfl rfl rfl) rfl (simL_nil (nrm_then ?_))
 refine sim_cond rfl (fun h22v => ?_) (fun h23v => ?_)
 refine sim_skip ?_
 refine nrm_then (sim_seq ?_)
 refine sim_block ?_
 refine sr ?_
 refine vm rfl rfl ?_
 refine vm rfl rfl ?_
 refine vm rfl rfl ?_
 refine simL_ask (fun hi24v => ?_)
 obtain ⟨b25v, b25vo, r28v, ha26v, hV29v, hlr30v, hcell31v⟩ := RdV.pos h0 (Up.refl _) rfl (i := s15v.1.toNat) (by omega) dz33
 obtain rfl := hV29v
 refine vq (q_idx rfl rfl rfl ha26v Try.underlying22 Try.sizeOf33 hi24v.1 hi24v.2) rfl ?_
 refine vq (q_loads rfl rfl Try.isAgg33 Try.sizeOf33 rfl (fun j v hj => hcell31v 6 rfl j v hj)) rfl ?_
 refine simL_bind (fun s32v hs33v => ?_)
 refine simL_eff (re_call (vs := [.pointer (some ⟨y11v.1, 0, none⟩), .agg #[.int .i64 ((x0.getD s15v.1.toNat dz33).1), .int .i64 ((x0.getD s15v.1.toNat dz33).2.1), .int .i64 ((x0.getD s15v.1.toNat dz33).2.2.1), str ((x0.getD s15v.1.toNat dz33).2.2.2.1), str ((x0.getD s15v.1.toNat dz33).2.2.2.2.1), str ((x0.getD s15v.1.toNat dz33).2.2.2.2.2)]]) (cap := []) (A := [obj y11v.1 63 [.map (some y16v.2.2.2.2.1), .map (some y16v.2.2.2.2.2)], mapO y16v.2.2.2.2.1 enc9 enc9 s15v.2.2.2.1, mapO y16v.2.2.2.2.2 enc3 enc42 s15v.2.2.2.2]) (rst := [obj b12v 47 [.slice y16v.1 s15v.2.1.length y16v.2.1, .slice y16v.2.2.1 s15v.2.2.1.length y16v.2.2.2.1], RowV 92 2 (V92 tt) y16v.1 s15v.2.1 y16v.2.1, RowV 86 4 (V86 tt) y16v.2.2.1 s15v.2.2.1 y16v.2.2.2.1, F]) rfl rfl rfl rfl rfl rfl Try.call12 (.sel 1 rfl (.sel 3 rfl (.sel 3 rfl (.sel 0 rfl (.sel 0 rfl (.sel 0 rfl (.sel 0 rfl (.nil _)))))))) (kv_Store_Do.calls _ _ y11v.1 y16v.2.2.2.2.1 s15v.2.2.2.1 y16v.2.2.2.2.2 s15v.2.2.2.2 ((x0.getD s15v.1.toNat dz33).1) ((x0.getD s15v.1.toNat dz33).2.1) ((x0.getD s15v.1.toNat dz33).2.2.1) ((x0.getD s15v.1.toNat dz33).2.2.2.1) ((x0.getD s15v.1.toNat dz33).2.2.2.2.1) ((x0.getD s15v.1.toNat dz33).2.2.2.2.2) ) hs33v) rfl rfl rfl ?_
 intro y34v
 refine vm rfl rfl ?_
 refine vq (q_ext rfl rfl rfl) rfl ?_
 refine vq (q_ext rfl rfl rfl) rfl ?_
 refine simL_eff (re_alloc rfl Try.zeroValue28 rfl) rfl rfl rfl ?_
 intro b35v
 refine simL_do (re_store 0 rfl rfl rfl Try.sizeOf28 rfl rfl (one_of (by rfl)) rfl rfl) rfl rfl ?_
 intro _
 refine va rfl rfl (nx ?_)
 refine vm rfl rfl ?_
 refine vm rfl rfl ?_
 refine vm rfl rfl ?_
 refine simL_ask (fun hi36v => ?_)
 obtain ⟨b37v, b37vo, r40v, ha38v, hV41v, hlr42v, hcell43v⟩ := RdV.pos h0 (Up.refl _) rfl (i := s15v.1.toNat) (by omega) dz33
 obtain rfl := hV41v
 refine vq (q_idx rfl rfl rfl ha38v Try.underlying22 Try.sizeOf33 hi36v.1 hi36v.2) rfl ?_
 refine vq (q_loads rfl rfl Try.isAgg33 Try.sizeOf33 rfl (fun j v hj => hcell43v 7 rfl j v hj)) rfl ?_
 refine simL_openV 5 rfl (fun rs44v hl45v => ?_)
 refine simL_openV 6 rfl (fun rs46v hl47v => ?_)
 refine simL_bind (fun s48v hs49v => ?_)
 refine simL_eff (re_call (vs := [.pointer (some ⟨b12v, 0, none⟩), .agg #[.int .i64 ((x0.getD s15v.1.toNat dz33).1), .int .i64 ((x0.getD s15v.1.toNat dz33).2.1), .int .i64 ((x0.getD s15v.1.toNat dz33).2.2.1), str ((x0.getD s15v.1.toNat dz33).2.2.2.1), str ((x0.getD s15v.1.toNat dz33).2.2.2.2.1), str ((x0.getD s15v.1.toNat dz33).2.2.2.2.2)]]) (cap := []) (A := [obj b12v 47 [.slice y16v.1 s15v.2.1.length y16v.2.1, .slice y16v.2.2.1 s15v.2.2.1.length y16v.2.2.2.1], RowV 92 2 (V92 tt) y16v.1 s15v.2.1 y16v.2.1, RowV 86 4 (V86 tt) y16v.2.2.1 s15v.2.2.1 y16v.2.2.2.1]) (rst := [obj b35v 28 [.int .i64 s32v.1, str s32v.2.1], obj y11v.1 63 [.map (some y34v.1), .map (some y34v.2)], mapO y34v.1 enc9 enc9 s32v.2.2.2.1, mapO y34v.2 enc3 enc42 s32v.2.2.2.2, F]) rfl rfl rfl rfl rfl rfl Try.call18 (.sel 4 rfl (.sel' 4 rfl (RowV.mk hl45v) (.sel' 4 rfl (RowV.mk hl47v) (.sel 0 rfl (.sel 0 rfl (.sel 0 rfl (.sel 0 rfl (.sel 0 rfl (.nil _))))))))) (synodref11_Store_Do.calls _ _ k b12v y16v.1 y16v.2.1 s15v.2.1 y16v.2.2.1 y16v.2.2.2.1 s15v.2.2.1 ((x0.getD s15v.1.toNat dz33).1) ((x0.getD s15v.1.toNat dz33).2.1) ((x0.getD s15v.1.toNat dz33).2.2.1) ((x0.getD s15v.1.toNat dz33).2.2.2.1) ((x0.getD s15v.1.toNat dz33).2.2.2.2.1) ((x0.getD s15v.1.toNat dz33).2.2.2.2.2) ) hs49v) rfl rfl rfl ?_
 intro y50v
 refine vm rfl rfl ?_
 refine vq (q_ext rfl rfl rfl) rfl ?_
 refine vq (q_ext rfl rfl rfl) rfl ?_
 refine simL_eff (re_alloc rfl Try.zeroValue28 rfl) rfl rfl rfl ?_
 intro b51v
 refine simL_do (re_store 0 rfl rfl rfl Try.sizeOf28 rfl rfl (one_of (by rfl)) rfl rfl) rfl rfl ?_
 intro _
 refine va rfl rfl (simL_nil (nrm_then (sim_seq ?_)))
 refine sim_cut (S := Bool) (Unit) (fun s y => [(0, .slice a0 x0.length c0), (1, str x1), (2, .int .i64 x2), (9, .pointer (some ⟨y11v.1, 0, none⟩)), (10, .pointer (some ⟨b12v, 0, none⟩)), (11, .int .i64 s15v.1), (83, .bool s)]) (fun s y => [obj b12v 47 [.slice y50v.1 s48v.2.2.2.1.length y50v.2.1, .slice y50v.2.2.1 s48v.2.2.2.2.length y50v.2.2.2], obj y11v.1 63 [.map (some y34v.1), .map (some y34v.2)], RowV 92 2 (V92 tt) y50v.1 s48v.2.2.2.1 y50v.2.1, RowV 86 4 (V86 tt) y50v.2.2.1 s48v.2.2.2.2 y50v.2.2.2, mapO y34v.1 enc9 enc9 s32v.2.2.2.1, mapO y34v.2 enc3 enc42 s32v.2.2.2.2, F]) ?_ ?_
 refine sim_openV 2 rfl (fun rs54v hl55v => ?_)
 refine sim_openV 3 rfl (fun rs56v hl57v => ?_)
 refine sim_if (fun hk61v => ?_) (fun hk61v => ?_)
 refine sim_draw (Γ := Unit) () [[], [], [0, 1], [0, 1, 2], rL 4, rL 5, rL 4, rL 7, rL 8, rL 9, rL 10, rL 10, rL 10, [0, 1, 2, 3, 4, 5, 6, 7, 8, 9, 11, 12], [0, 1, 2, 3, 4, 5, 6, 7, 8, 9, 11, 12, 13], [0, 1, 2, 3, 4, 5, 6, 7, 8, 9, 11, 12, 13, 14], rL 16, rL 10, rL 10, rL 10, [0, 1, 2, 3, 4, 5, 6, 7, 8, 9, 18, 19], [0, 1, 2, 3, 4, 5, 6, 7, 8, 9, 18, 19, 20], [0, 1, 2, 3, 4, 5, 6, 7, 8, 9, 18, 19, 20, 21], rL 23, rL 24, rL 25] [] [0, 1, 2, 3, 4, 5, 6, 7, 8, 9, 10, 11, 12, 13, 14, 15, 16, 17, 18, 19, 20, 21, 22, 23, 24, 25] (fun i => [[0], [0], [0], [0], [0], [0], [0], [0], [0], [0], [0], [0], [0], [0], [0], [0], [0], [0], [0], [0], [0], [0], [0], [0], [0], [0]].getD i []) (fun i => [[], [], [], [], [], [], [], [], [], [], [], [], [], [], [], [], [], [], [], [], [], [], [], [], [], []].getD i []) (fun γ i => [.agg #[.int .i64 s32v.1, str s32v.2.1], .agg #[.int .i64 s48v.1, str s48v.2.1], .bool (!(decide (s32v.1 = s48v.1) && (decide (s32v.2.1 = s48v.2.1)))), .bool (!(decide (s32v.1 = s48v.1) && (decide (s32v.2.1 = s48v.2.1)))), cv ((!(decide (s32v.1 = s48v.1) && (decide (s32v.2.1 = s48v.2.1)))) == false) (.int .i64 s32v.2.2.1), cv ((!(decide (s32v.1 = s48v.1) && (decide (s32v.2.1 = s48v.2.1)))) == false) (.int .i64 (synodref_Num.v s32v.2.2.1)), cv ((!(decide (s32v.1 = s48v.1) && (decide (s32v.2.1 = s48v.2.1)))) == false) (.int .i64 s48v.2.2.1), cv ((!(decide (s32v.1 = s48v.1) && (decide (s32v.2.1 = s48v.2.1)))) == false) (.bool (!decide ((synodref_Num.v s32v.2.2.1) = s48v.2.2.1))), .bool ((!(decide (s32v.1 = s48v.1) && (decide (s32v.2.1 = s48v.2.1)))) || (!decide ((synodref_Num.v s32v.2.2.1) = s48v.2.2.1))), .bool ((!(decide (s32v.1 = s48v.1) && (decide (s32v.2.1 = s48v.2.1)))) || (!decide ((synodref_Num.v s32v.2.2.1) = s48v.2.2.1))), undef, undef, undef, undef, undef, undef, undef, undef, undef, undef, undef, undef, undef, undef, undef, .bool true].getD i undef) (fun j γ => [[obj b51v 28 [.int .i64 s48v.1, str s48v.2.1], obj b12v 47 [.slice y50v.1 s48v.2.2.2.1.length y50v.2.1, .slice y50v.2.2.1 s48v.2.2.2.2.length y50v.2.2.2], Row 92 2 y50v.1 s48v.2.2.2.1.length y50v.2.1 rs54v.flatten, Row 86 4 y50v.2.2.1 s48v.2.2.2.2.length y50v.2.2.2 rs56v.flatten, obj b35v 28 [.int .i64 s32v.1, str s32v.2.1], obj y11v.1 63 [.map (some y34v.1), .map (some y34v.2)], mapO y34v.1 enc9 enc9 s32v.2.2.2.1, mapO y34v.2 enc3 enc42 s32v.2.2.2.2, F]].getD j []) (fun γ => [(0, .slice a0 x0.length c0), (1, str x1), (2, .int .i64 x2), (9, .pointer (some ⟨y11v.1, 0, none⟩)), (10, .pointer (some ⟨b12v, 0, none⟩)), (11, .int .i64 s15v.1), (62, cv ((!(decide (s32v.1 = s48v.1) && (decide (s32v.2.1 = s48v.2.1)))) == false) (.int .i64 s32v.2.2.1)), (63, cv ((!(decide (s32v.1 = s48v.1) && (decide (s32v.2.1 = s48v.2.1)))) == false) (.int .i64 (synodref_Num.v s32v.2.2.1))), (64, cv ((!(decide (s32v.1 = s48v.1) && (decide (s32v.2.1 = s48v.2.1)))) == false) (.int .i64 s48v.2.2.1)), (65, cv ((!(decide (s32v.1 = s48v.1) && (decide (s32v.2.1 = s48v.2.1)))) == false) (.bool (!decide ((synodref_Num.v s32v.2.2.1) = s48v.2.2.1)))), (68, undef), (69, undef), (70, undef), (71, undef), (72, undef), (73, undef), (74, undef), (75, undef), (76, undef), (77, undef), (78, undef), (79, undef), (80, undef), (81, undef), (82, undef), (83, .bool true)]) mixed (by decide) (by decide) (by decide) (by decide) (by decide) (by decide) (by decide) 111 rfl (by decide) (by decide) (by decide) (Ent.refl _) ?_ ?_ (fun _ => ⟨rfl, rfl, rfl, rfl, rfl, rfl, rfl, rfl, rfl, rfl, rfl, rfl, rfl, rfl, rfl, rfl, rfl, rfl, rfl, rfl, rfl, rfl, rfl, rfl, rfl, rfl, trivial⟩) ?_
 exact (aq rfl (fun γ => qp rfl rfl (.o (s := 12) rfl (by decide) .nil) (q_loado 4 rfl rfl Try.isAgg28 Try.sizeOf28 rfl rfl) rfl) (aq rfl (fun γ => qp rfl rfl (.o (s := 14) rfl (by decide) .nil) (q_loado 0 rfl rfl Try.isAgg28 Try.sizeOf28 rfl rfl) rfl) (aq rfl (fun γ => qp rfl rfl (.v 0 rfl rfl (.v 1 rfl rfl .nil)) (q_neagg rfl rfl rfl (by kernel_rfl) (fun d w => eqi_struct Try.underlying28 (by kernel_rfl) (eqf_cons (by rfl) (part_of Try.isAgg3 rfl) (part_of Try.isAgg3 rfl) (eqi_int Try.underlying3) (eqf_last (by rfl) (part_of Try.isAgg9 rfl) (part_of Try.isAgg9 rfl) (eqi_str Try.underlying9))))) rfl) (aq rfl (fun γ => qm rfl (.v 2 rfl rfl .nil) rfl) (aq rfl (fun γ => QOb.grd (b := !(decide (s32v.1 = s48v.1) && (decide (s32v.2.1 = s48v.2.1)))) [(13, .int .i64 s32v.2.2.1), (61, .bool (!(decide (s32v.1 = s48v.1) && (decide (s32v.2.1 = s48v.2.1)))))] rfl rfl rfl rfl (.o (s := 13) rfl (by decide) (.v 3 rfl rfl .nil)) (fun hb62v => RQ.sub (E' := [(13, .int .i64 s32v.2.2.1)]) ⟨rfl, trivial⟩ (q_move rfl rfl)) rfl) (aq rfl (fun γ => QOb.grd (b := !(decide (s32v.1 = s48v.1) && (decide (s32v.2.1 = s48v.2.1)))) [(61, .bool (!(decide (s32v.1 = s48v.1) && (decide (s32v.2.1 = s48v.2.1))))), (62, cv ((!(decide (s32v.1 = s48v.1) && (decide (s32v.2.1 = s48v.2.1)))) == false) (.int .i64 s32v.2.2.1))] rfl rfl rfl rfl (.v 3 rfl rfl (.v 4 rfl rfl .nil)) (fun hb66v => RQ.sub (E' := [(62, .int .i64 s32v.2.2.1)]) ⟨lk_cv rfl hb66v, trivial⟩ (RE.rq (re_call (vs := [.int .i64 s32v.2.2.1]) (cap := []) (A := []) (rst := [obj b51v 28 [.int .i64 s48v.1, str s48v.2.1], obj b12v 47 [.slice y50v.1 s48v.2.2.2.1.length y50v.2.1, .slice y50v.2.2.1 s48v.2.2.2.2.length y50v.2.2.2], Row 92 2 y50v.1 s48v.2.2.2.1.length y50v.2.1 rs54v.flatten, Row 86 4 y50v.2.2.1 s48v.2.2.2.2.length y50v.2.2.2 rs56v.flatten, obj b35v 28 [.int .i64 s32v.1, str s32v.2.1], obj y11v.1 63 [.map (some y34v.1), .map (some y34v.2)], mapO y34v.1 enc9 enc9 s32v.2.2.2.1, mapO y34v.2 enc3 enc42 s32v.2.2.2.2, F]) rfl rfl rfl rfl rfl rfl Try.call13 (.sel 0 rfl (.sel 0 rfl (.sel 0 rfl (.sel 0 rfl (.sel 0 rfl (.sel 0 rfl (.sel 0 rfl (.sel 0 rfl (.sel 0 rfl (.nil _)))))))))) (synodref_Num.calls _ _ s32v.2.2.1 ) (synodref_Num.tot s32v.2.2.1)) (fun _ => rfl) (fun _ => (.sel 0 rfl (.sel 0 rfl (.sel 0 rfl (.sel 0 rfl (.sel 0 rfl (.sel 0 rfl (.sel 0 rfl (.sel 0 rfl (.sel 0 rfl (.nil _))))))))))))) rfl) (aq rfl (fun γ => QOb.grd (b := !(decide (s32v.1 = s48v.1) && (decide (s32v.2.1 = s48v.2.1)))) [(15, .int .i64 s48v.2.2.1), (61, .bool (!(decide (s32v.1 = s48v.1) && (decide (s32v.2.1 = s48v.2.1)))))] rfl rfl rfl rfl (.o (s := 15) rfl (by decide) (.v 3 rfl rfl .nil)) (fun hb67v => RQ.sub (E' := [(15, .int .i64 s48v.2.2.1)]) ⟨rfl, trivial⟩ (q_move rfl rfl)) rfl) (aq rfl (fun γ => QOb.grd (b := !(decide (s32v.1 = s48v.1) && (decide (s32v.2.1 = s48v.2.1)))) [(61, .bool (!(decide (s32v.1 = s48v.1) && (decide (s32v.2.1 = s48v.2.1))))), (63, cv ((!(decide (s32v.1 = s48v.1) && (decide (s32v.2.1 = s48v.2.1)))) == false) (.int .i64 (synodref_Num.v s32v.2.2.1))), (64, cv ((!(decide (s32v.1 = s48v.1) && (decide (s32v.2.1 = s48v.2.1)))) == false) (.int .i64 s48v.2.2.1))] rfl rfl rfl rfl (.v 3 rfl rfl (.v 5 rfl rfl (.v 6 rfl rfl .nil))) (fun hb68v => RQ.sub (E' := [(63, .int .i64 (synodref_Num.v s32v.2.2.1)), (64, .int .i64 s48v.2.2.1)]) ⟨lk_cv rfl hb68v, lk_cv rfl hb68v, trivial⟩ (q_neq rfl rfl rfl)) rfl) (aq rfl (fun γ => qp rfl rfl (.v 3 rfl rfl (.v 7 rfl rfl .nil)) (q_or rfl rfl rfl) rfl) (aq rfl (fun γ => qm rfl (.v 8 rfl rfl .nil) rfl) (aq rfl (fun γ => qn rfl rfl (.o (s := 9) rfl (by decide) (.v 9 rfl rfl .nil)) rfl rfl (beq_yes' hk61v) rfl) (aq rfl (fun γ => qn rfl rfl (.o (s := 0) rfl (by decide) (.v 9 rfl rfl .nil)) rfl rfl (beq_yes' hk61v) rfl) (aq rfl (fun γ => qn rfl rfl (.o (s := 11) rfl (by decide) (.v 9 rfl rfl .nil)) rfl rfl (beq_yes' hk61v) rfl) (aq rfl (fun γ => qn rfl rfl (.v 9 rfl rfl (.v 11 rfl rfl (.v 12 rfl rfl .nil))) rfl rfl (beq_yes' hk61v) rfl) (aq rfl (fun γ => qn rfl rfl (.v 9 rfl rfl (.v 13 rfl rfl .nil)) rfl rfl (beq_yes' hk61v) rfl) (aq rfl (fun γ => qn rfl rfl (.v 9 rfl rfl (.v 14 rfl rfl .nil)) rfl rfl (beq_yes' hk61v) rfl) (aq rfl (fun γ => qn rfl rfl (.v 9 rfl rfl (.v 10 rfl rfl (.v 15 rfl rfl .nil))) rfl rfl (beq_yes' hk61v) rfl) (aq rfl (fun γ => qn rfl rfl (.o (s := 10) rfl (by decide) (.v 9 rfl rfl .nil)) rfl rfl (beq_yes' hk61v) rfl) (aq rfl (fun γ => qn rfl rfl (.o (s := 0) rfl (by decide) (.v 9 rfl rfl .nil)) rfl rfl (beq_yes' hk61v) rfl) (aq rfl (fun γ => qn rfl rfl (.o (s := 11) rfl (by decide) (.v 9 rfl rfl .nil)) rfl rfl (beq_yes' hk61v) rfl) (aq rfl (fun γ => qn rfl rfl (.v 9 rfl rfl (.v 18 rfl rfl (.v 19 rfl rfl .nil))) rfl rfl (beq_yes' hk61v) rfl) (aq rfl (fun γ => qn rfl rfl (.v 9 rfl rfl (.v 20 rfl rfl .nil)) rfl rfl (beq_yes' hk61v) rfl) (aq rfl (fun γ => qn rfl rfl (.v 9 rfl rfl (.v 21 rfl rfl .nil)) rfl rfl (beq_yes' hk61v) rfl) (aq rfl (fun γ => qn rfl rfl (.v 9 rfl rfl (.v 17 rfl rfl (.v 22 rfl rfl .nil))) rfl rfl (beq_yes' hk61v) rfl) (aq rfl (fun γ => qn rfl rfl (.v 9 rfl rfl (.v 16 rfl rfl (.v 23 rfl rfl .nil))) rfl rfl (beq_yes' hk61v) rfl) (aq rfl (fun γ => qp rfl rfl (.v 9 rfl rfl (.v 24 rfl rfl .nil)) (q_pick rfl rfl rfl rfl (bif_yes hk61v _ _)) rfl) zA))))))))))))))))))))))))))
 exact zA
 intro g69v
 exact nrm_cut (s := true) () ⟨rfl, rfl, rfl, rfl, rfl, rfl, rfl, trivial⟩ (.sel 1 rfl (.sel 4 rfl (.sel' 1 rfl (RowV.mk hl55v) (.sel' 1 rfl (RowV.mk hl57v) (.sel 2 rfl (.sel 2 rfl (.sel 2 rfl (.nil _))))))))
 refine sim_ask (fun hi70v => ?_)
 obtain ⟨b71v, b71vo, r74v, ha72v, hV75v, hlr76v, hcell77v⟩ := RdV.pos h0 (Up.refl _) rfl (i := s15v.1.toNat) (by omega) dz33
 obtain rfl := hV75v
 refine sim_ask (fun hi81v => ?_)
 obtain ⟨b82v, b82vo, r85v, ha83v, hV86v, hlr87v, hcell88v⟩ := RdV.pos h0 (Up.refl _) rfl (i := s15v.1.toNat) (by omega) dz33
 obtain rfl := hV86v
 refine sim_bind (fun s97v hs98v => ?_)
 refine sim_draw (Γ := Unit) () [[], [], [0, 1], [0, 1, 2], rL 4, rL 5, rL 4, rL 7, rL 8, rL 9, rL 10, rL 10, rL 10, [0, 1, 2, 3, 4, 5, 6, 7, 8, 9, 11, 12], [0, 1, 2, 3, 4, 5, 6, 7, 8, 9, 11, 12, 13], [0, 1, 2, 3, 4, 5, 6, 7, 8, 9, 11, 12, 13, 14], rL 16, rL 10, rL 10, rL 10, [0, 1, 2, 3, 4, 5, 6, 7, 8, 9, 18, 19], [0, 1, 2, 3, 4, 5, 6, 7, 8, 9, 18, 19, 20], [0, 1, 2, 3, 4, 5, 6, 7, 8, 9, 18, 19, 20, 21], rL 23, rL 24, rL 25] [] [0, 1, 2, 3, 4, 5, 6, 7, 8, 9, 10, 11, 12, 13, 14, 15, 16, 17, 18, 19, 20, 21, 22, 23, 24, 25] (fun i => [[0], [0], [0], [0], [0], [0], [0], [0], [0], [0], [0], [0], [0], [0], [0], [0], [0], [0], [0], [0], [0], [0], [0], [0], [0], [0]].getD i []) (fun i => [[], [], [], [], [], [], [], [], [], [], [], [], [], [], [], [], [], [], [], [], [], [], [], [], [], []].getD i []) (fun γ i => [.agg #[.int .i64 s32v.1, str s32v.2.1], .agg #[.int .i64 s48v.1, str s48v.2.1], .bool (!(decide (s32v.1 = s48v.1) && (decide (s32v.2.1 = s48v.2.1)))), .bool (!(decide (s32v.1 = s48v.1) && (decide (s32v.2.1 = s48v.2.1)))), cv ((!(decide (s32v.1 = s48v.1) && (decide (s32v.2.1 = s48v.2.1)))) == false) (.int .i64 s32v.2.2.1), cv ((!(decide (s32v.1 = s48v.1) && (decide (s32v.2.1 = s48v.2.1)))) == false) (.int .i64 (synodref_Num.v s32v.2.2.1)), cv ((!(decide (s32v.1 = s48v.1) && (decide (s32v.2.1 = s48v.2.1)))) == false) (.int .i64 s48v.2.2.1), cv ((!(decide (s32v.1 = s48v.1) && (decide (s32v.2.1 = s48v.2.1)))) == false) (.bool (!decide ((synodref_Num.v s32v.2.2.1) = s48v.2.2.1))), .bool ((!(decide (s32v.1 = s48v.1) && (decide (s32v.2.1 = s48v.2.1)))) || (!decide ((synodref_Num.v s32v.2.2.1) = s48v.2.2.1))), .bool ((!(decide (s32v.1 = s48v.1) && (decide (s32v.2.1 = s48v.2.1)))) || (!decide ((synodref_Num.v s32v.2.2.1) = s48v.2.2.1))), .pointer (some ⟨y11v.1, 0, none⟩), .slice a0 x0.length c0, .int .i64 s15v.1, .pointer (some ⟨b71v, b71vo + s15v.1.toNat * 6, none⟩), .pointer (some ⟨b71v, b71vo + s15v.1.toNat * 6 + 3, none⟩), str ((x0.getD s15v.1.toNat dz33).2.2.2.1), .agg #[.int .i64 ((kv_Store_Get.v s32v.2.2.2.1 s32v.2.2.2.2 ((x0.getD s15v.1.toNat dz33).2.2.2.1)).1), str ((kv_Store_Get.v s32v.2.2.2.1 s32v.2.2.2.2 ((x0.getD s15v.1.toNat dz33).2.2.2.1)).2)], .pointer (some ⟨b12v, 0, none⟩), .slice a0 x0.length c0, .int .i64 s15v.1, .pointer (some ⟨b82v, b82vo + s15v.1.toNat * 6, none⟩), .pointer (some ⟨b82v, b82vo + s15v.1.toNat * 6 + 3, none⟩), str ((x0.getD s15v.1.toNat dz33).2.2.2.1), .agg #[.int .i64 s97v.1, str s97v.2], .bool (!(decide ((kv_Store_Get.v s32v.2.2.2.1 s32v.2.2.2.2 ((x0.getD s15v.1.toNat dz33).2.2.2.1)).1 = s97v.1) && (decide (((kv_Store_Get.v s32v.2.2.2.1 s32v.2.2.2.2 ((x0.getD s15v.1.toNat dz33).2.2.2.1)).2) = s97v.2)))), .bool (!(decide ((kv_Store_Get.v s32v.2.2.2.1 s32v.2.2.2.2 ((x0.getD s15v.1.toNat dz33).2.2.2.1)).1 = s97v.1) && (decide (((kv_Store_Get.v s32v.2.2.2.1 s32v.2.2.2.2 ((x0.getD s15v.1.toNat dz33).2.2.2.1)).2) = s97v.2))))].getD i undef) (fun j γ => [[obj b51v 28 [.int .i64 s48v.1, str s48v.2.1], obj b12v 47 [.slice y50v.1 s48v.2.2.2.1.length y50v.2.1, .slice y50v.2.2.1 s48v.2.2.2.2.length y50v.2.2.2], Row 92 2 y50v.1 s48v.2.2.2.1.length y50v.2.1 rs54v.flatten, Row 86 4 y50v.2.2.1 s48v.2.2.2.2.length y50v.2.2.2 rs56v.flatten, obj b35v 28 [.int .i64 s32v.1, str s32v.2.1], obj y11v.1 63 [.map (some y34v.1), .map (some y34v.2)], mapO y34v.1 enc9 enc9 s32v.2.2.2.1, mapO y34v.2 enc3 enc42 s32v.2.2.2.2, F]].getD j []) (fun γ => [(0, .slice a0 x0.length c0), (1, str x1), (2, .int .i64 x2), (9, .pointer (some ⟨y11v.1, 0, none⟩)), (10, .pointer (some ⟨b12v, 0, none⟩)), (11, .int .i64 s15v.1), (62, cv ((!(decide (s32v.1 = s48v.1) && (decide (s32v.2.1 = s48v.2.1)))) == false) (.int .i64 s32v.2.2.1)), (63, cv ((!(decide (s32v.1 = s48v.1) && (decide (s32v.2.1 = s48v.2.1)))) == false) (.int .i64 (synodref_Num.v s32v.2.2.1))), (64, cv ((!(decide (s32v.1 = s48v.1) && (decide (s32v.2.1 = s48v.2.1)))) == false) (.int .i64 s48v.2.2.1)), (65, cv ((!(decide (s32v.1 = s48v.1) && (decide (s32v.2.1 = s48v.2.1)))) == false) (.bool (!decide ((synodref_Num.v s32v.2.2.1) = s48v.2.2.1)))), (68, .pointer (some ⟨y11v.1, 0, none⟩)), (69, .slice a0 x0.length c0), (70, .int .i64 s15v.1), (71, .pointer (some ⟨b71v, b71vo + s15v.1.toNat * 6, none⟩)), (72, .pointer (some ⟨b71v, b71vo + s15v.1.toNat * 6 + 3, none⟩)), (73, str ((x0.getD s15v.1.toNat dz33).2.2.2.1)), (74, .agg #[.int .i64 ((kv_Store_Get.v s32v.2.2.2.1 s32v.2.2.2.2 ((x0.getD s15v.1.toNat dz33).2.2.2.1)).1), str ((kv_Store_Get.v s32v.2.2.2.1 s32v.2.2.2.2 ((x0.getD s15v.1.toNat dz33).2.2.2.1)).2)]), (75, .pointer (some ⟨b12v, 0, none⟩)), (76, .slice a0 x0.length c0), (77, .int .i64 s15v.1), (78, .pointer (some ⟨b82v, b82vo + s15v.1.toNat * 6, none⟩)), (79, .pointer (some ⟨b82v, b82vo + s15v.1.toNat * 6 + 3, none⟩)), (80, str ((x0.getD s15v.1.toNat dz33).2.2.2.1)), (81, .agg #[.int .i64 s97v.1, str s97v.2]), (82, .bool (!(decide ((kv_Store_Get.v s32v.2.2.2.1 s32v.2.2.2.2 ((x0.getD s15v.1.toNat dz33).2.2.2.1)).1 = s97v.1) && (decide (((kv_Store_Get.v s32v.2.2.2.1 s32v.2.2.2.2 ((x0.getD s15v.1.toNat dz33).2.2.2.1)).2) = s97v.2))))), (83, .bool (!(decide ((kv_Store_Get.v s32v.2.2.2.1 s32v.2.2.2.2 ((x0.getD s15v.1.toNat dz33).2.2.2.1)).1 = s97v.1) && (decide (((kv_Store_Get.v s32v.2.2.2.1 s32v.2.2.2.2 ((x0.getD s15v.1.toNat dz33).2.2.2.1)).2) = s97v.2)))))]) mixed (by decide) (by decide) (by decide) (by decide) (by decide) (by decide) (by decide) 111 rfl (by decide) (by decide) (by decide) (Ent.refl _) ?_ ?_ (fun _ => ⟨rfl, rfl, rfl, rfl, rfl, rfl, rfl, rfl, rfl, rfl, rfl, rfl, rfl, rfl, rfl, rfl, rfl, rfl, rfl, rfl, rfl, rfl, rfl, rfl, rfl, rfl, trivial⟩) ?_
 exact (aq rfl (fun γ => qp rfl rfl (.o (s := 12) rfl (by decide) .nil) (q_loado 4 rfl rfl Try.isAgg28 Try.sizeOf28 rfl rfl) rfl) (aq rfl (fun γ => qp rfl rfl (.o (s := 14) rfl (by decide) .nil) (q_loado 0 rfl rfl Try.isAgg28 Try.sizeOf28 rfl rfl) rfl) (aq rfl (fun γ => qp rfl rfl (.v 0 rfl rfl (.v 1 rfl rfl .nil)) (q_neagg rfl rfl rfl (by kernel_rfl) (fun d w => eqi_struct Try.underlying28 (by kernel_rfl) (eqf_cons (by rfl) (part_of Try.isAgg3 rfl) (part_of Try.isAgg3 rfl) (eqi_int Try.underlying3) (eqf_last (by rfl) (part_of Try.isAgg9 rfl) (part_of Try.isAgg9 rfl) (eqi_str Try.underlying9))))) rfl) (aq rfl (fun γ => qm rfl (.v 2 rfl rfl .nil) rfl) (aq rfl (fun γ => QOb.grd (b := !(decide (s32v.1 = s48v.1) && (decide (s32v.2.1 = s48v.2.1)))) [(13, .int .i64 s32v.2.2.1), (61, .bool (!(decide (s32v.1 = s48v.1) && (decide (s32v.2.1 = s48v.2.1)))))] rfl rfl rfl rfl (.o (s := 13) rfl (by decide) (.v 3 rfl rfl .nil)) (fun hb100v => RQ.sub (E' := [(13, .int .i64 s32v.2.2.1)]) ⟨rfl, trivial⟩ (q_move rfl rfl)) rfl) (aq rfl (fun γ => QOb.grd (b := !(decide (s32v.1 = s48v.1) && (decide (s32v.2.1 = s48v.2.1)))) [(61, .bool (!(decide (s32v.1 = s48v.1) && (decide (s32v.2.1 = s48v.2.1))))), (62, cv ((!(decide (s32v.1 = s48v.1) && (decide (s32v.2.1 = s48v.2.1)))) == false) (.int .i64 s32v.2.2.1))] rfl rfl rfl rfl (.v 3 rfl rfl (.v 4 rfl rfl .nil)) (fun hb104v => RQ.sub (E' := [(62, .int .i64 s32v.2.2.1)]) ⟨lk_cv rfl hb104v, trivial⟩ (RE.rq (re_call (vs := [.int .i64 s32v.2.2.1]) (cap := []) (A := []) (rst := [obj b51v 28 [.int .i64 s48v.1, str s48v.2.1], obj b12v 47 [.slice y50v.1 s48v.2.2.2.1.length y50v.2.1, .slice y50v.2.2.1 s48v.2.2.2.2.length y50v.2.2.2], Row 92 2 y50v.1 s48v.2.2.2.1.length y50v.2.1 rs54v.flatten, Row 86 4 y50v.2.2.1 s48v.2.2.2.2.length y50v.2.2.2 rs56v.flatten, obj b35v 28 [.int .i64 s32v.1, str s32v.2.1], obj y11v.1 63 [.map (some y34v.1), .map (some y34v.2)], mapO y34v.1 enc9 enc9 s32v.2.2.2.1, mapO y34v.2 enc3 enc42 s32v.2.2.2.2, F]) rfl rfl rfl rfl rfl rfl Try.call13 (.sel 0 rfl (.sel 0 rfl (.sel 0 rfl (.sel 0 rfl (.sel 0 rfl (.sel 0 rfl (.sel 0 rfl (.sel 0 rfl (.sel 0 rfl (.nil _)))))))))) (synodref_Num.calls _ _ s32v.2.2.1 ) (synodref_Num.tot s32v.2.2.1)) (fun _ => rfl) (fun _ => (.sel 0 rfl (.sel 0 rfl (.sel 0 rfl (.sel 0 rfl (.sel 0 rfl (.sel 0 rfl (.sel 0 rfl (.sel 0 rfl (.sel 0 rfl (.nil _))))))))))))) rfl) (aq rfl (fun γ => QOb.grd (b := !(decide (s32v.1 = s48v.1) && (decide (s32v.2.1 = s48v.2.1)))) [(15, .int .i64 s48v.2.2.1), (61, .bool (!(decide (s32v.1 = s48v.1) && (decide (s32v.2.1 = s48v.2.1)))))] rfl rfl rfl rfl (.o (s := 15) rfl (by decide) (.v 3 rfl rfl .nil)) (fun hb105v => RQ.sub (E' := [(15, .int .i64 s48v.2.2.1)]) ⟨rfl, trivial⟩ (q_move rfl rfl)) rfl) (aq rfl (fun γ => QOb.grd (b := !(decide (s32v.1 = s48v.1) && (decide (s32v.2.1 = s48v.2.1)))) [(61, .bool (!(decide (s32v.1 = s48v.1) && (decide (s32v.2.1 = s48v.2.1))))), (63, cv ((!(decide (s32v.1 = s48v.1) && (decide (s32v.2.1 = s48v.2.1)))) == false) (.int .i64 (synodref_Num.v s32v.2.2.1))), (64, cv ((!(decide (s32v.1 = s48v.1) && (decide (s32v.2.1 = s48v.2.1)))) == false) (.int .i64 s48v.2.2.1))] rfl rfl rfl rfl (.v 3 rfl rfl (.v 5 rfl rfl (.v 6 rfl rfl .nil))) (fun hb106v => RQ.sub (E' := [(63, .int .i64 (synodref_Num.v s32v.2.2.1)), (64, .int .i64 s48v.2.2.1)]) ⟨lk_cv rfl hb106v, lk_cv rfl hb106v, trivial⟩ (q_neq rfl rfl rfl)) rfl) (aq rfl (fun γ => qp rfl rfl (.v 3 rfl rfl (.v 7 rfl rfl .nil)) (q_or rfl rfl rfl) rfl) (aq rfl (fun γ => qm rfl (.v 8 rfl rfl .nil) rfl) (aq rfl (fun γ => qy rfl rfl (.o (s := 9) rfl (by decide) (.v 9 rfl rfl .nil)) rfl rfl (beq_no (eq_false_of_ne_true hk61v)) (q_move rfl rfl) rfl) (aq rfl (fun γ => qy rfl rfl (.o (s := 0) rfl (by decide) (.v 9 rfl rfl .nil)) rfl rfl (beq_no (eq_false_of_ne_true hk61v)) (q_move rfl rfl) rfl) (aq rfl (fun γ => qy rfl rfl (.o (s := 11) rfl (by decide) (.v 9 rfl rfl .nil)) rfl rfl (beq_no (eq_false_of_ne_true hk61v)) (q_move rfl rfl) rfl) (aq rfl (fun γ => qy rfl rfl (.v 9 rfl rfl (.v 11 rfl rfl (.v 12 rfl rfl .nil))) rfl rfl (beq_no (eq_false_of_ne_true hk61v)) (q_idx rfl rfl rfl ha72v Try.underlying22 Try.sizeOf33 hi70v.1 hi70v.2) rfl) (aq rfl (fun γ => qy rfl rfl (.v 9 rfl rfl (.v 13 rfl rfl .nil)) rfl rfl (beq_no (eq_false_of_ne_true hk61v)) (q_fa rfl rfl Try.underlying33 rfl rfl Try.sizeOf9 rfl) rfl) (aq rfl (fun γ => qy rfl rfl (.v 9 rfl rfl (.v 14 rfl rfl .nil)) rfl rfl (beq_no (eq_false_of_ne_true hk61v)) (q_load rfl rfl Try.isAgg9 (hcell77v 8 rfl 3 _ rfl)) rfl) (aq rfl (fun γ => qy rfl rfl (.v 9 rfl rfl (.v 10 rfl rfl (.v 15 rfl rfl .nil))) rfl rfl (beq_no (eq_false_of_ne_true hk61v)) (RE.rq (re_call (vs := [.pointer (some ⟨y11v.1, 0, none⟩), str ((x0.getD s15v.1.toNat dz33).2.2.2.1)]) (cap := []) (A := [obj y11v.1 63 [.map (some y34v.1), .map (some y34v.2)], mapO y34v.1 enc9 enc9 s32v.2.2.2.1, mapO y34v.2 enc3 enc42 s32v.2.2.2.2]) (rst := [obj b51v 28 [.int .i64 s48v.1, str s48v.2.1], obj b12v 47 [.slice y50v.1 s48v.2.2.2.1.length y50v.2.1, .slice y50v.2.2.1 s48v.2.2.2.2.length y50v.2.2.2], Row 92 2 y50v.1 s48v.2.2.2.1.length y50v.2.1 rs54v.flatten, Row 86 4 y50v.2.2.1 s48v.2.2.2.2.length y50v.2.2.2 rs56v.flatten, obj b35v 28 [.int .i64 s32v.1, str s32v.2.1], F]) rfl rfl rfl rfl rfl rfl Try.call19 (.sel 5 rfl (.sel 5 rfl (.sel 5 rfl (.sel 0 rfl (.sel 0 rfl (.sel 0 rfl (.sel 0 rfl (.sel 0 rfl (.sel 0 rfl (.nil _)))))))))) (kv_Store_Get.calls _ _ y11v.1 y34v.1 s32v.2.2.2.1 y34v.2 s32v.2.2.2.2 ((x0.getD s15v.1.toNat dz33).2.2.2.1) ) (kv_Store_Get.tot s32v.2.2.2.1 s32v.2.2.2.2 ((x0.getD s15v.1.toNat dz33).2.2.2.1))) (fun _ => rfl) (fun _ => (.sel 3 rfl (.sel 3 rfl (.sel 3 rfl (.sel 3 rfl (.sel 3 rfl (.sel 0 rfl (.sel 0 rfl (.sel 0 rfl (.sel 0 rfl (.nil _)))))))))))) rfl) (aq rfl (fun γ => qy rfl rfl (.o (s := 10) rfl (by decide) (.v 9 rfl rfl .nil)) rfl rfl (beq_no (eq_false_of_ne_true hk61v)) (q_move rfl rfl) rfl) (aq rfl (fun γ => qy rfl rfl (.o (s := 0) rfl (by decide) (.v 9 rfl rfl .nil)) rfl rfl (beq_no (eq_false_of_ne_true hk61v)) (q_move rfl rfl) rfl) (aq rfl (fun γ => qy rfl rfl (.o (s := 11) rfl (by decide) (.v 9 rfl rfl .nil)) rfl rfl (beq_no (eq_false_of_ne_true hk61v)) (q_move rfl rfl) rfl) (aq rfl (fun γ => qy rfl rfl (.v 9 rfl rfl (.v 18 rfl rfl (.v 19 rfl rfl .nil))) rfl rfl (beq_no (eq_false_of_ne_true hk61v)) (q_idx rfl rfl rfl ha83v Try.underlying22 Try.sizeOf33 hi81v.1 hi81v.2) rfl) (aq rfl (fun γ => qy rfl rfl (.v 9 rfl rfl (.v 20 rfl rfl .nil)) rfl rfl (beq_no (eq_false_of_ne_true hk61v)) (q_fa rfl rfl Try.underlying33 rfl rfl Try.sizeOf9 rfl) rfl) (aq rfl (fun γ => qy rfl rfl (.v 9 rfl rfl (.v 21 rfl rfl .nil)) rfl rfl (beq_no (eq_false_of_ne_true hk61v)) (q_load rfl rfl Try.isAgg9 (hcell88v 8 rfl 3 _ rfl)) rfl) (aq rfl (fun γ => qy rfl rfl (.v 9 rfl rfl (.v 17 rfl rfl (.v 22 rfl rfl .nil))) rfl rfl (beq_no (eq_false_of_ne_true hk61v)) (RE.rq (RE.lend 2 rfl (fun hq89v hq90v hq91v hq92v => RE.lend 3 rfl (fun hq93v hq94v hq95v hq96v => re_call (vs := [.pointer (some ⟨b12v, 0, none⟩), str ((x0.getD s15v.1.toNat dz33).2.2.2.1)]) (cap := []) (A := [obj b12v 47 [.slice y50v.1 s48v.2.2.2.1.length y50v.2.1, .slice y50v.2.2.1 s48v.2.2.2.2.length y50v.2.2.2]]) (rst := [obj b51v 28 [.int .i64 s48v.1, str s48v.2.1], Row 92 2 y50v.1 s48v.2.2.2.1.length y50v.2.1 rs54v.flatten, Row 86 4 y50v.2.2.1 s48v.2.2.2.2.length y50v.2.2.2 rs56v.flatten, obj b35v 28 [.int .i64 s32v.1, str s32v.2.1], obj y11v.1 63 [.map (some y34v.1), .map (some y34v.2)], mapO y34v.1 enc9 enc9 s32v.2.2.2.1, mapO y34v.2 enc3 enc42 s32v.2.2.2.2, F]) rfl rfl rfl rfl rfl rfl Try.call20 (.sel 1 rfl (.sel 0 rfl (.sel 0 rfl (.sel 0 rfl (.sel 0 rfl (.sel 0 rfl (.sel 0 rfl (.sel 0 rfl (.sel 0 rfl (.nil _)))))))))) (synodref11_Store_Get.calls _ _ k b12v y50v.1 y50v.2.1 s48v.2.2.2.1 y50v.2.2.1 y50v.2.2.2 s48v.2.2.2.2 ((x0.getD s15v.1.toNat dz33).2.2.2.1) ((Rd.asV hl55v hq89v).up (Up.lend 1 rfl) (fun _ _ h => h)) hq90v hq91v ((Rd.asV hl57v hq93v).up (Up.lend 2 rfl) (fun _ _ h => h)) hq94v hq95v) hs98v))) (fun _ => by rfl) (fun _ => by exact ((.sel 1 rfl (.sel 0 rfl (.sel 0 rfl (.sel 0 rfl (.sel 0 rfl (.sel 0 rfl (.sel 0 rfl (.sel 0 rfl (.sel 0 rfl (.nil _))))))))))))) rfl) (aq rfl (fun γ => qy rfl rfl (.v 9 rfl rfl (.v 16 rfl rfl (.v 23 rfl rfl .nil))) rfl rfl (beq_no (eq_false_of_ne_true hk61v)) (q_neagg rfl rfl rfl (by kernel_rfl) (fun d w => eqi_struct Try.underlying28 (by kernel_rfl) (eqf_cons (by rfl) (part_of Try.isAgg3 rfl) (part_of Try.isAgg3 rfl) (eqi_int Try.underlying3) (eqf_last (by rfl) (part_of Try.isAgg9 rfl) (part_of Try.isAgg9 rfl) (eqi_str Try.underlying9))))) rfl) (aq rfl (fun γ => qp rfl rfl (.v 9 rfl rfl (.v 24 rfl rfl .nil)) (q_pick rfl rfl rfl rfl (bif_no (eq_false_of_ne_true hk61v) _ _)) rfl) zA))))))))))))))))))))))))))
 exact zA
 intro g110v
 exact nrm_cut (s := !(decide ((kv_Store_Get.v s32v.2.2.2.1 s32v.2.2.2.2 ((x0.getD s15v.1.toNat dz33).2.2.2.1)).1 = s97v.1) && (decide (((kv_Store_Get.v s32v.2.2.2.1 s32v.2.2.2.2 ((x0.getD s15v.1.toNat dz33).2.2.2.1)).2) = s97v.2)))) () ⟨rfl, rfl, rfl, rfl, rfl, rfl, rfl, trivial⟩ (.sel 1 rfl (.sel 4 rfl (.sel' 1 rfl (RowV.mk hl55v) (.sel' 1 rfl (RowV.mk hl57v) (.sel 2 rfl (.sel 2 rfl (.sel 2 rfl (.nil _))))))))
 intro s52v y53v
 refine sim_condb rfl (fun h111v => ?_) (fun h112v => ?_)
 refine sr ?_
 refine va rfl rfl (simL_nil (nrm_then (sim_rtn ?_)))
 refine rtn_then ?_
 refine rtn_block ?_
 refine rtn_then ?_
 refine rtn_loop ?_
 refine rtn_block ?_
 refine rtn_cutR ?_
 exact rtn_fn () rfl rfl rfl (.sel 6 rfl (.nil _))
 refine sim_skip ?_
 refine nrm_then (sr ?_)
 refine vm rfl rfl ?_
 refine vq (q_rem rfl rfl rfl (by decide)) rfl ?_
 refine vq (q_eql rfl rfl rfl) rfl ?_
 refine vm rfl rfl ?_
 refine simL_cut' 5 (S := Bool) (Unit) (fun s y => [(0, .slice a0 x0.length c0), (1, str x1), (2, .int .i64 x2), (9, .pointer (some ⟨y11v.1, 0, none⟩)), (10, .pointer (some ⟨b12v, 0, none⟩)), (11, .int .i64 s15v.1), (92, .bool s)]) (fun s y => [obj y11v.1 63 [.map (some y34v.1), .map (some y34v.2)], obj b12v 47 [.slice y50v.1 s48v.2.2.2.1.length y50v.2.1, .slice y50v.2.2.1 s48v.2.2.2.2.length y50v.2.2.2], mapO y34v.1 enc9 enc9 s32v.2.2.2.1, mapO y34v.2 enc3 enc42 s32v.2.2.2.2, RowV 92 2 (V92 tt) y50v.1 s48v.2.2.2.1 y50v.2.1, RowV 86 4 (V86 tt) y50v.2.2.1 s48v.2.2.2.2 y50v.2.2.2, F]) ?_ ?_
 refine simL_casep (fun hb131v => ?_) (fun hb132v => ?_)
 rw [hb131v]
 refine simL_valg (q_move rfl rfl) rfl rfl rfl rfl rfl rfl ?_
 refine simL_valg (q_move rfl rfl) rfl rfl rfl rfl rfl rfl ?_
 refine simL_openV 2 rfl (fun rs116v hl117v => ?_)
 refine simL_openV 3 rfl (fun rs118v hl119v => ?_)
 refine simL_bind (fun s128v hs129v => ?_)
 refine simL_lend 2 rfl (fun hq120v hq121v hq122v hq123v => ?_)
 refine simL_lend 3 rfl (fun hq124v hq125v hq126v hq127v => ?_)
 refine simL_effg (re_call (vs := [.pointer (some ⟨y11v.1, 0, none⟩), .pointer (some ⟨b12v, 0, none⟩)]) (cap := []) (A := [obj y11v.1 63 [.map (some y34v.1), .map (some y34v.2)], mapO y34v.1 enc9 enc9 s32v.2.2.2.1, mapO y34v.2 enc3 enc42 s32v.2.2.2.2, obj b12v 47 [.slice y50v.1 s48v.2.2.2.1.length y50v.2.1, .slice y50v.2.2.1 s48v.2.2.2.2.length y50v.2.2.2]]) (rst := [Row 92 2 y50v.1 s48v.2.2.2.1.length y50v.2.1 rs116v.flatten, Row 86 4 y50v.2.2.1 s48v.2.2.2.2.length y50v.2.2.2 rs118v.flatten, F]) rfl rfl rfl rfl rfl rfl Try.call21 (.sel 1 rfl (.sel 3 rfl (.sel 3 rfl (.sel 0 rfl (.sel 0 rfl (.sel 0 rfl (.sel 0 rfl (.nil _)))))))) (synodlaw11_Same.calls _ _ k y11v.1 y34v.1 s32v.2.2.2.1 y34v.2 s32v.2.2.2.2 b12v y50v.1 y50v.2.1 s48v.2.2.2.1 y50v.2.2.1 y50v.2.2.2 s48v.2.2.2.2 ((Rd.asV hl117v hq120v).up (Up.lend 0 rfl) (fun _ _ h => h)) hq121v hq122v ((Rd.asV hl119v hq124v).up (Up.lend 1 rfl) (fun _ _ h => h)) hq125v hq126v) hs129v) rfl rfl rfl rfl rfl rfl ?_
 intro y130v
 refine simL_valg (q_not rfl rfl) rfl rfl rfl rfl rfl rfl ?_
 refine vq (q_pick rfl rfl rfl rfl rfl) rfl (simL_nil ?_)
 exact nrm_cut (s := !s128v) () ⟨rfl, rfl, rfl, rfl, rfl, rfl, rfl, trivial⟩ (.sel 0 rfl (.sel 2 rfl (.sel 0 rfl (.sel 0 rfl (.sel' 0 rfl (RowV.mk hl117v) (.sel' 0 rfl (RowV.mk hl119v) (.sel 0 rfl (.nil _))))))))
 rw [hb132v]
 refine simL_skipd rfl rfl rfl rfl rfl rfl ?_
 refine simL_skipd rfl rfl rfl rfl rfl rfl ?_
 refine simL_skipd rfl rfl rfl rfl rfl rfl ?_
 refine simL_skipd rfl rfl rfl rfl rfl rfl ?_
 refine vq (q_pick rfl rfl rfl rfl rfl) rfl (simL_nil ?_)
 exact nrm_cut (s := false) () ⟨rfl, rfl, rfl, rfl, rfl, rfl, rfl, trivial⟩ (.sel 1 rfl (.sel 0 rfl (.sel 2 rfl (.sel 2 rfl (.sel 0 rfl (.sel 0 rfl (.sel 0 rfl (.nil _))))))))
 intro s114v y115v
 refine simL_nil (nrm_then ?_)
 refine sim_condb rfl (fun h133v => ?_) (fun h134v => ?_)
 refine sr ?_
 refine va rfl rfl (simL_nil (nrm_then (sim_rtn ?_)))
 refine rtn_block ?_
 refine rtn_then ?_
 refine rtn_loop ?_
 refine rtn_block ?_
 refine rtn_cutR ?_
 exact rtn_fn () rfl rfl rfl (.sel 6 rfl (.nil _))
 refine sim_skip ?_
 refine nrm_block (nrm_then (sim_region ?_))
 refine vm rfl rfl ?_
 refine vq (q_add rfl rfl rfl) rfl ?_
 refine va rfl rfl (simL_nil ?_)
 exact nrm_again (s := (IntKind.i64.wrap (s15v.1 + 1), s48v.2.2.2.1, s48v.2.2.2.2, s32v.2.2.2.1, s32v.2.2.2.2)) (y50v.1, y50v.2.1, y50v.2.2.1, y50v.2.2.2, y34v.1, y34v.2) ⟨rfl, rfl, rfl, rfl, rfl, rfl, trivial⟩ (.sel 1 rfl (.sel 0 rfl (.sel 2 rfl (.sel 2 rfl (.sel 0 rfl (.sel 0 rfl (.sel 0 rfl (.nil _))))))))
 refine sim_exi ?_
 refine exi_then ?_
 refine exi_loop ?_
 refine exi_here ?_
 exact nrm_cutR (s := (s15v.2.1, s15v.2.2.1, s15v.2.2.2.1, s15v.2.2.2.2)) (y16v.1, y16v.2.1, y16v.2.2.1, y16v.2.2.2.1, y16v.2.2.2.2.1, y16v.2.2.2.2.2) ⟨rfl, rfl, rfl, rfl, trivial⟩ (.sel 0 rfl (.sel 0 rfl (.sel 0 rfl (.sel 0 rfl (.sel 0 rfl (.sel 0 rfl (.sel 0 rfl (.nil _))))))))
 intro s13v y14v
 refine sr ?_
 refine vm rfl rfl ?_
 refine vm rfl rfl ?_
 refine simL_openV 2 rfl (fun rs135v hl136v => ?_)
 refine simL_openV 3 rfl (fun rs137v hl138v => ?_)
 refine simL_bind (fun s147v hs148v => ?_)
 refine simL_lend 2 rfl (fun hq139v hq140v hq141v hq142v => ?_)
 refine simL_lend 3 rfl (fun hq143v hq144v hq145v hq146v => ?_)
 refine simL_eff (re_call (vs := [.pointer (some ⟨y11v.1, 0, none⟩), .pointer (some ⟨b12v, 0, none⟩)]) (cap := []) (A := [obj y11v.1 63 [.map (some y14v.2.2.2.2.1), .map (some y14v.2.2.2.2.2)], mapO y14v.2.2.2.2.1 enc9 enc9 s13v.2.2.1, mapO y14v.2.2.2.2.2 enc3 enc42 s13v.2.2.2, obj b12v 47 [.slice y14v.1 s13v.1.length y14v.2.1, .slice y14v.2.2.1 s13v.2.1.length y14v.2.2.2.1]]) (rst := [Row 92 2 y14v.1 s13v.1.length y14v.2.1 rs135v.flatten, Row 86 4 y14v.2.2.1 s13v.2.1.length y14v.2.2.2.1 rs137v.flatten, F]) rfl rfl rfl rfl rfl rfl Try.call21 (.sel 1 rfl (.sel 3 rfl (.sel 3 rfl (.sel 0 rfl (.sel 0 rfl (.sel 0 rfl (.sel 0 rfl (.nil _)))))))) (synodlaw11_Same.calls _ _ k y11v.1 y14v.2.2.2.2.1 s13v.2.2.1 y14v.2.2.2.2.2 s13v.2.2.2 b12v y14v.1 y14v.2.1 s13v.1 y14v.2.2.1 y14v.2.2.2.1 s13v.2.1 ((Rd.asV hl136v hq139v).up (Up.lend 0 rfl) (fun _ _ h => h)) hq140v hq141v ((Rd.asV hl138v hq143v).up (Up.lend 1 rfl) (fun _ _ h => h)) hq144v hq145v) hs148v) rfl rfl rfl ?_
 intro y149v
 refine vm rfl rfl ?_
 refine simL_cut' 8 (S := Bool) (Unit) (fun s y => [(2, .int .i64 x2), (9, .pointer (some ⟨y11v.1, 0, none⟩)), (10, .pointer (some ⟨b12v, 0, none⟩)), (104, .bool s)]) (fun s y => [obj b12v 47 [.slice y14v.1 s13v.1.length y14v.2.1, .slice y14v.2.2.1 s13v.2.1.length y14v.2.2.2.1], obj y11v.1 63 [.map (some y14v.2.2.2.2.1), .map (some y14v.2.2.2.2.2)], RowV 92 2 (V92 tt) y14v.1 s13v.1 y14v.2.1, RowV 86 4 (V86 tt) y14v.2.2.1 s13v.2.1 y14v.2.2.2.1, mapO y14v.2.2.2.2.1 enc9 enc9 s13v.2.2.1, mapO y14v.2.2.2.2.2 enc3 enc42 s13v.2.2.2, F]) ?_ ?_
 refine simL_caseb (fun hb166v => ?_) (fun hb167v => ?_)
 rw [hb166v]
 refine simL_valg (q_move rfl rfl) rfl rfl rfl rfl rfl rfl ?_
 refine simL_valg (q_move rfl rfl) rfl rfl rfl rfl rfl rfl ?_
 refine simL_bind (fun s152v hs153v => ?_)
 refine simL_effg (re_call (vs := [.pointer (some ⟨y11v.1, 0, none⟩), str x1]) (cap := []) (A := [obj y11v.1 63 [.map (some y14v.2.2.2.2.1), .map (some y14v.2.2.2.2.2)], mapO y14v.2.2.2.2.1 enc9 enc9 s13v.2.2.1, mapO y14v.2.2.2.2.2 enc3 enc42 s13v.2.2.2]) (rst := [obj b12v 47 [.slice y14v.1 s13v.1.length y14v.2.1, .slice y14v.2.2.1 s13v.2.1.length y14v.2.2.2.1], Row 92 2 y14v.1 s13v.1.length y14v.2.1 rs135v.flatten, Row 86 4 y14v.2.2.1 s13v.2.1.length y14v.2.2.2.1 rs137v.flatten, F]) rfl rfl rfl rfl rfl rfl Try.call19 (.sel 0 rfl (.sel 0 rfl (.sel 0 rfl (.sel 0 rfl (.sel 0 rfl (.sel 0 rfl (.sel 0 rfl (.nil _)))))))) (kv_Store_Get.calls _ _ y11v.1 y14v.2.2.2.2.1 s13v.2.2.1 y14v.2.2.2.2.2 s13v.2.2.2 x1 ) hs153v) rfl rfl rfl rfl rfl rfl ?_
 intro y154v
 refine simL_valg (q_move rfl rfl) rfl rfl rfl rfl rfl rfl ?_
 refine simL_valg (q_move rfl rfl) rfl rfl rfl rfl rfl rfl ?_
 refine simL_bind (fun s163v hs164v => ?_)
 refine simL_lend 4 rfl (fun hq155v hq156v hq157v hq158v => ?_)
 refine simL_lend 5 rfl (fun hq159v hq160v hq161v hq162v => ?_)
 refine simL_effg (re_call (vs := [.pointer (some ⟨b12v, 0, none⟩), str x1]) (cap := []) (A := [obj b12v 47 [.slice y14v.1 s13v.1.length y14v.2.1, .slice y14v.2.2.1 s13v.2.1.length y14v.2.2.2.1]]) (rst := [obj y11v.1 63 [.map (some y14v.2.2.2.2.1), .map (some y14v.2.2.2.2.2)], mapO y14v.2.2.2.2.1 enc9 enc9 s13v.2.2.1, mapO y14v.2.2.2.2.2 enc3 enc42 s13v.2.2.2, Row 92 2 y14v.1 s13v.1.length y14v.2.1 rs135v.flatten, Row 86 4 y14v.2.2.1 s13v.2.1.length y14v.2.2.2.1 rs137v.flatten, F]) rfl rfl rfl rfl rfl rfl Try.call20 (.sel 3 rfl (.sel 0 rfl (.sel 0 rfl (.sel 0 rfl (.sel 0 rfl (.sel 0 rfl (.sel 0 rfl (.nil _)))))))) (synodref11_Store_Get.calls _ _ k b12v y14v.1 y14v.2.1 s13v.1 y14v.2.2.1 y14v.2.2.2.1 s13v.2.1 x1 ((Rd.asV hl136v hq155v).up (Up.lend 3 rfl) (fun _ _ h => h)) hq156v hq157v ((Rd.asV hl138v hq159v).up (Up.lend 4 rfl) (fun _ _ h => h)) hq160v hq161v) hs164v) rfl rfl rfl rfl rfl rfl ?_
 intro y165v
 refine simL_valg (q_eqagg rfl rfl rfl (by kernel_rfl) (fun d w => eqi_struct Try.underlying28 (by kernel_rfl) (eqf_cons (by rfl) (part_of Try.isAgg3 rfl) (part_of Try.isAgg3 rfl) (eqi_int Try.underlying3) (eqf_last (by rfl) (part_of Try.isAgg9 rfl) (part_of Try.isAgg9 rfl) (eqi_str Try.underlying9))))) rfl rfl rfl rfl rfl rfl ?_
 refine vq (q_pick rfl rfl rfl rfl rfl) rfl (simL_nil ?_)
 exact nrm_cut (s := decide (s152v.1 = s163v.1) && (decide (s152v.2 = s163v.2))) () ⟨rfl, rfl, rfl, rfl, trivial⟩ (.sel 0 rfl (.sel 0 rfl (.sel' 2 rfl (RowV.mk hl136v) (.sel' 2 rfl (RowV.mk hl138v) (.sel 0 rfl (.sel 0 rfl (.sel 0 rfl (.nil _))))))))
 rw [hb167v]
 refine simL_skipd rfl rfl rfl rfl rfl rfl ?_
 refine simL_skipd rfl rfl rfl rfl rfl rfl ?_
 refine simL_skipd rfl rfl rfl rfl rfl rfl ?_
 refine simL_skipd rfl rfl rfl rfl rfl rfl ?_
 refine simL_skipd rfl rfl rfl rfl rfl rfl ?_
 refine simL_skipd rfl rfl rfl rfl rfl rfl ?_
 refine simL_skipd rfl rfl rfl rfl rfl rfl ?_
 refine vq (q_pick rfl rfl rfl rfl rfl) rfl (simL_nil ?_)
 exact nrm_cut (s := false) () ⟨rfl, rfl, rfl, rfl, trivial⟩ (.sel 3 rfl (.sel 0 rfl (.sel' 2 rfl (RowV.mk hl136v) (.sel' 2 rfl (RowV.mk hl138v) (.sel 0 rfl (.sel 0 rfl (.sel 0 rfl (.nil _))))))))
 intro s150v y151v
 refine vm rfl rfl ?_
 refine simL_cut' 5 (S := Bool) (Unit) (fun s y => [(110, .bool s)]) (fun s y => [F]) ?_ ?_
 refine simL_caseb (fun hb185v => ?_) (fun hb186v => ?_)
 rw [hb185v]
 refine simL_valg (q_move rfl rfl) rfl rfl rfl rfl rfl rfl ?_
 refine simL_valg (q_move rfl rfl) rfl rfl rfl rfl rfl rfl ?_
 refine simL_valg (q_move rfl rfl) rfl rfl rfl rfl rfl rfl ?_
 refine simL_openV 2 rfl (fun rs170v hl171v => ?_)
 refine simL_openV 3 rfl (fun rs172v hl173v => ?_)
 refine simL_bind (fun s182v hs183v => ?_)
 refine simL_lend 2 rfl (fun hq174v hq175v hq176v hq177v => ?_)
 refine simL_lend 3 rfl (fun hq178v hq179v hq180v hq181v => ?_)
 refine simL_effg (re_call (vs := [.pointer (some ⟨y11v.1, 0, none⟩), .pointer (some ⟨b12v, 0, none⟩), .int .i64 x2]) (cap := []) (A := [obj y11v.1 63 [.map (some y14v.2.2.2.2.1), .map (some y14v.2.2.2.2.2)], mapO y14v.2.2.2.2.1 enc9 enc9 s13v.2.2.1, mapO y14v.2.2.2.2.2 enc3 enc42 s13v.2.2.2, obj b12v 47 [.slice y14v.1 s13v.1.length y14v.2.1, .slice y14v.2.2.1 s13v.2.1.length y14v.2.2.2.1]]) (rst := [Row 92 2 y14v.1 s13v.1.length y14v.2.1 rs170v.flatten, Row 86 4 y14v.2.2.1 s13v.2.1.length y14v.2.2.2.1 rs172v.flatten, F]) rfl rfl rfl rfl rfl rfl Try.call22 (.sel 1 rfl (.sel 3 rfl (.sel 3 rfl (.sel 0 rfl (.sel 0 rfl (.sel 0 rfl (.sel 0 rfl (.nil _)))))))) (synodlaw11_each.calls _ _ k y11v.1 y14v.2.2.2.2.1 s13v.2.2.1 y14v.2.2.2.2.2 s13v.2.2.2 b12v y14v.1 y14v.2.1 s13v.1 y14v.2.2.1 y14v.2.2.2.1 s13v.2.1 x2 ((Rd.asV hl171v hq174v).up (Up.lend 0 rfl) (fun _ _ h => h)) hq175v hq176v ((Rd.asV hl173v hq178v).up (Up.lend 1 rfl) (fun _ _ h => h)) hq179v hq180v) hs183v) rfl rfl rfl rfl rfl rfl ?_
 intro y184v
 refine vq (q_pick rfl rfl rfl rfl rfl) rfl (simL_nil ?_)
 exact nrm_cut (s := s182v) () ⟨rfl, trivial⟩ (.sel 6 rfl (.nil _))
 rw [hb186v]
 refine simL_skipd rfl rfl rfl rfl rfl rfl ?_
 refine simL_skipd rfl rfl rfl rfl rfl rfl ?_
 refine simL_skipd rfl rfl rfl rfl rfl rfl ?_
 refine simL_skipd rfl rfl rfl rfl rfl rfl ?_
 refine vq (q_pick rfl rfl rfl rfl rfl) rfl (simL_nil ?_)
 exact nrm_cut (s := false) () ⟨rfl, trivial⟩ (.sel 6 rfl (.nil _))
 intro s168v y169v
 refine va rfl rfl (simL_nil (nrm_then (sim_rtn ?_)))
 exact rtn_fn () rfl rfl rfl (.sel 0 rfl (.nil _))
end Go.Proofs.Ytdaedoklkmdhcaa

/- Texts that lead to the law TextOpts: G3. Conditions: as each says. -/
import Derived.Test.YtbcnegennmpliaaDoorM3
namespace Go.Proofs.YtbcnegennmpliaaDoor
open Go.RowKit
set_option linter.unusedVariables false
set_option linter.unusedSimpArgs false
set_option maxRecDepth 20000
set_option maxHeartbeats 20000000
def text_named.l0 (x0_0 : Int) (x0_4 : Int) (x0_5 : Int) (s5v : List (List UInt8 × Int × Int × Int × Int × Int × Int × List UInt8 × List UInt8 × List UInt8 × (List (Ty103)))) : Nat → Int → Int → Option ((Int) ⊕ (List UInt8 × Int × Int × Int × Int × Int × Int × List UInt8 × List UInt8 × List UInt8 × (List (Ty103)) × Int))
  | 0, _, _ => none
  | k + 1, z10v, z11v => if z11v < (s5v.length : Int) then (if 0 ≤ z11v ∧ z11v < (s5v.length : Int) then (if (s5v.getD z11v.toNat (([] : List UInt8), (0 : Int), (0 : Int), (0 : Int), (0 : Int), (0 : Int), (0 : Int), ([] : List UInt8), ([] : List UInt8), ([] : List UInt8), ([] : List (Ty103)))).2.1 = x0_0 then (if ((decide (x0_0 = (13 : Int))) && (!decide ((s5v.getD z11v.toNat (([] : List UInt8), (0 : Int), (0 : Int), (0 : Int), (0 : Int), (0 : Int), (0 : Int), ([] : List UInt8), ([] : List UInt8), ([] : List UInt8), ([] : List (Ty103)))).2.2.2.2.2.2.1 = x0_5))) = true then (text_named.l0 x0_0 x0_4 x0_5 s5v k 20 (IntKind.i64.wrap (z11v + 1))) else (if ((decide (x0_0 = (8 : Int))) && (!decide ((s5v.getD z11v.toNat (([] : List UInt8), (0 : Int), (0 : Int), (0 : Int), (0 : Int), (0 : Int), (0 : Int), ([] : List UInt8), ([] : List UInt8), ([] : List UInt8), ([] : List (Ty103)))).2.2.2.2.2.1 = min (max x0_4 (0 : Int)) (1 : Int)))) = true then (text_named.l0 x0_0 x0_4 x0_5 s5v k z10v (IntKind.i64.wrap (z11v + 1))) else (some (.inr ((s5v.getD z11v.toNat (([] : List UInt8), (0 : Int), (0 : Int), (0 : Int), (0 : Int), (0 : Int), (0 : Int), ([] : List UInt8), ([] : List UInt8), ([] : List UInt8), ([] : List (Ty103)))).1, (s5v.getD z11v.toNat (([] : List UInt8), (0 : Int), (0 : Int), (0 : Int), (0 : Int), (0 : Int), (0 : Int), ([] : List UInt8), ([] : List UInt8), ([] : List UInt8), ([] : List (Ty103)))).2.1, (s5v.getD z11v.toNat (([] : List UInt8), (0 : Int), (0 : Int), (0 : Int), (0 : Int), (0 : Int), (0 : Int), ([] : List UInt8), ([] : List UInt8), ([] : List UInt8), ([] : List (Ty103)))).2.2.1, (s5v.getD z11v.toNat (([] : List UInt8), (0 : Int), (0 : Int), (0 : Int), (0 : Int), (0 : Int), (0 : Int), ([] : List UInt8), ([] : List UInt8), ([] : List UInt8), ([] : List (Ty103)))).2.2.2.1, (s5v.getD z11v.toNat (([] : List UInt8), (0 : Int), (0 : Int), (0 : Int), (0 : Int), (0 : Int), (0 : Int), ([] : List UInt8), ([] : List UInt8), ([] : List UInt8), ([] : List (Ty103)))).2.2.2.2.1, (s5v.getD z11v.toNat (([] : List UInt8), (0 : Int), (0 : Int), (0 : Int), (0 : Int), (0 : Int), (0 : Int), ([] : List UInt8), ([] : List UInt8), ([] : List UInt8), ([] : List (Ty103)))).2.2.2.2.2.1, (s5v.getD z11v.toNat (([] : List UInt8), (0 : Int), (0 : Int), (0 : Int), (0 : Int), (0 : Int), (0 : Int), ([] : List UInt8), ([] : List UInt8), ([] : List UInt8), ([] : List (Ty103)))).2.2.2.2.2.2.1, (s5v.getD z11v.toNat (([] : List UInt8), (0 : Int), (0 : Int), (0 : Int), (0 : Int), (0 : Int), (0 : Int), ([] : List UInt8), ([] : List UInt8), ([] : List UInt8), ([] : List (Ty103)))).2.2.2.2.2.2.2.1, (s5v.getD z11v.toNat (([] : List UInt8), (0 : Int), (0 : Int), (0 : Int), (0 : Int), (0 : Int), (0 : Int), ([] : List UInt8), ([] : List UInt8), ([] : List UInt8), ([] : List (Ty103)))).2.2.2.2.2.2.2.2.1, (s5v.getD z11v.toNat (([] : List UInt8), (0 : Int), (0 : Int), (0 : Int), (0 : Int), (0 : Int), (0 : Int), ([] : List UInt8), ([] : List UInt8), ([] : List UInt8), ([] : List (Ty103)))).2.2.2.2.2.2.2.2.2.1, (s5v.getD z11v.toNat (([] : List UInt8), (0 : Int), (0 : Int), (0 : Int), (0 : Int), (0 : Int), (0 : Int), ([] : List UInt8), ([] : List UInt8), ([] : List UInt8), ([] : List (Ty103)))).2.2.2.2.2.2.2.2.2.2, 0))))) else (text_named.l0 x0_0 x0_4 x0_5 s5v k z10v (IntKind.i64.wrap (z11v + 1)))) else none) else (some (.inl z10v))
def text_named.f (k : Nat) (x0_0 : Int) (x0_1 : Int) (x0_2 : Int) (x0_3 : Int) (x0_4 : Int) (x0_5 : Int) (x0_6 : List UInt8) (x0_7 : List UInt8) (x0_8 : List UInt8) : Option (List UInt8 × Int × Int × Int × Int × Int × Int × List UInt8 × List UInt8 × List UInt8 × (List (Ty103)) × Int) := orR ((text_lines.f).bind fun s5v => (text_named.l0 x0_0 x0_4 x0_5 s5v k 6 0)) fun s3v => (some (([] : List UInt8), 0, 0, 0, 0, 0, 0, ([] : List UInt8), ([] : List UInt8), ([] : List UInt8), ([] : List (Ty103)), s3v))
theorem text_named.calls (W : World) (F : HA) (k : Nat) (x0_0 : Int) (x0_1 : Int) (x0_2 : Int) (x0_3 : Int) (x0_4 : Int) (x0_5 : Int) (x0_6 : List UInt8) (x0_7 : List UInt8) (x0_8 : List UInt8)  :
    Fn Tryd.prog W 48 [.agg #[.int .i64 x0_0, .int .i64 x0_1, .int .i64 x0_2, .int .i64 x0_3, .int .i64 x0_4, .int .i64 x0_5, str x0_6, str x0_7, str x0_8]] [] F (text_named.f k x0_0 x0_1 x0_2 x0_3 x0_4 x0_5 x0_6 x0_7 x0_8) (fun (r : List UInt8 × Int × Int × Int × Int × Int × Int × List UInt8 × List UInt8 × List UInt8 × (List (Ty103)) × Int) (y : Option Addr × Nat × HA) => .tuple #[.agg #[str r.1, .int .i64 r.2.1, .int .i64 r.2.2.1, .int .i64 r.2.2.2.1, .int .i64 r.2.2.2.2.1, .int .i64 r.2.2.2.2.2.1, .int .i64 r.2.2.2.2.2.2.1, str r.2.2.2.2.2.2.2.1, str r.2.2.2.2.2.2.2.2.1, str r.2.2.2.2.2.2.2.2.2.1, .slice y.1 r.2.2.2.2.2.2.2.2.2.2.1.length y.2.1], .int .i64 r.2.2.2.2.2.2.2.2.2.2.2]) (fun r y => [pr (RdV (y.2.2) 3 (V103 tt) y.1 r.2.2.2.2.2.2.2.2.2.2.1 ∧ r.2.2.2.2.2.2.2.2.2.2.1.length ≤ y.2.1 ∧ y.2.1 ≤ maxLen), y.2.2]) := by
 unfold text_named.f
 refine fn_intro 49 Tryd.func48 rfl Tryd.ntmps48 rfl ?_
 refine sr ?_
 refine simL_eff (re_box rfl rfl rfl) rfl rfl rfl ?_
 intro b1v
 refine simL_eff (re_alloc rfl Tryd.zeroValue99 rfl) rfl rfl rfl ?_
 intro b2v
 refine va rfl rfl (nx ?_)
 refine va rfl rfl (nx ?_)
 refine vq (q_fa rfl rfl Tryd.underlying34 rfl rfl Tryd.sizeOf3 rfl) rfl ?_
 refine vq (q_load rfl rfl Tryd.isAgg3 (.obj 1 rfl rfl)) rfl ?_
 refine vq (q_max rfl rfl rfl) rfl ?_
 refine vq (q_min rfl rfl rfl) rfl ?_
 refine va rfl rfl (simL_nil (nrm_then ?_))
 refine sim_cutR (S := Int) (Unit) (fun s y => [(2, .pointer (some ⟨b2v, 0, none⟩)), (4, .int .i64 s)]) (fun s y => [obj b2v 99 [str ([] : List UInt8), .int .i64 0, .int .i64 0, .int .i64 0, .int .i64 0, .int .i64 0, .int .i64 0, str ([] : List UInt8), str ([] : List UInt8), str ([] : List UInt8), .slice none 0 0], F]) ?_ ?_
 refine sr ?_
 refine simL_bind (fun s5v hs6v => ?_)
 refine simL_eff (re_call (vs := []) (cap := []) (A := []) (rst := [obj b2v 99 [str ([] : List UInt8), .int .i64 0, .int .i64 0, .int .i64 0, .int .i64 0, .int .i64 0, .int .i64 0, str ([] : List UInt8), str ([] : List UInt8), str ([] : List UInt8), .slice none 0 0], obj b1v 34 [.int .i64 x0_0, .int .i64 x0_1, .int .i64 x0_2, .int .i64 x0_3, .int .i64 x0_4, .int .i64 x0_5, str x0_6, str x0_7, str x0_8], F]) rfl rfl rfl rfl rfl rfl Tryd.call44 (.sel 0 rfl (.sel 0 rfl (.sel 0 rfl (.nil _)))) (text_lines.calls _ _  ) hs6v) rfl rfl rfl ?_
 intro y7v
 refine vq (q_len rfl rfl rfl Tryd.underlying95) rfl ?_
 refine vm rfl rfl (simL_nil (nrm_then ?_))
 refine sim_block ?_
 refine sim_loop (S := Int × Int) (Unit) (fun k s => text_named.l0 x0_0 x0_4 x0_5 s5v k s.1 s.2) (fun s y => [(1, .pointer (some ⟨b1v, 0, none⟩)), (2, .pointer (some ⟨b2v, 0, none⟩)), (4, .int .i64 s.1), (5, .int .i64 (min (max x0_4 (0 : Int)) (1 : Int))), (12, .slice y7v.1 s5v.length y7v.2.1), (13, .int .i64 (s5v.length : Int)), (14, .int .i64 s.2)]) (fun s y => [obj b2v 99 [str ([] : List UInt8), .int .i64 0, .int .i64 0, .int .i64 0, .int .i64 0, .int .i64 0, .int .i64 0, str ([] : List UInt8), str ([] : List UInt8), str ([] : List UInt8), .slice none 0 0], obj b1v 34 [.int .i64 x0_0, .int .i64 x0_1, .int .i64 x0_2, .int .i64 x0_3, .int .i64 x0_4, .int .i64 x0_5, str x0_6, str x0_7, str x0_8], RowV 99 11 (V99 (y7v.2.2)) y7v.1 s5v y7v.2.1, y7v.2.2, F]) (fun _ => by rw [text_named.l0]) ?_ k (6, 0) () ⟨rfl, rfl, rfl, rfl, rfl, rfl, rfl, trivial⟩ (.sel 2 rfl (.sel 2 rfl (.sel 0 rfl (.sel 0 rfl (.sel 0 rfl (.nil _))))))
 intro k s8v y9v
 refine sim_eq (by rw [text_named.l0]) ?_
 refine sr ?_
 refine vq (q_lss rfl rfl rfl) rfl (simL_nil (nrm_then (sim_seq ?_)))
 refine sim_cond rfl (fun h12v => ?_) (fun h13v => ?_)
 refine sim_skip ?_
 refine nrm_then (sim_seq ?_)
 refine sim_block ?_
 refine sr ?_
 refine simL_openV 2 rfl (fun rs22v hl23v => ?_)
 refine simL_ask (fun hi14v => ?_)
 refine simL_posV 2 rfl hl23v rfl (i := s8v.2.toNat) (by omega) (([] : List UInt8), (0 : Int), (0 : Int), (0 : Int), (0 : Int), (0 : Int), (0 : Int), ([] : List UInt8), ([] : List UInt8), ([] : List UInt8), ([] : List (Ty103))) (fun b15v b15vo r18v ha16v hV19v hlr20v hcell21v => ?_)
 obtain ⟨a24v, c25v, rfl, ⟨he26v, hc27v, hm28v⟩⟩ := hV19v
 refine vq (q_idx rfl rfl rfl ha16v Tryd.underlying95 Tryd.sizeOf99 hi14v.1 hi14v.2) rfl ?_
 refine vq (q_loads rfl rfl Tryd.isAgg99 Tryd.sizeOf99 rfl (fun j v hj => hcell21v 2 rfl j v hj)) rfl ?_
 refine simL_eff (re_alloc rfl Tryd.zeroValue99 rfl) rfl rfl rfl ?_
 intro b29v
 refine simL_do (re_store 0 rfl rfl rfl Tryd.sizeOf99 rfl rfl (one_of (by rfl)) rfl rfl) rfl rfl ?_
 intro _
 refine simL_ent (H' := [obj b29v 99 [str ((s5v.getD s8v.2.toNat (([] : List UInt8), (0 : Int), (0 : Int), (0 : Int), (0 : Int), (0 : Int), (0 : Int), ([] : List UInt8), ([] : List UInt8), ([] : List UInt8), ([] : List (Ty103)))).1), .int .i64 ((s5v.getD s8v.2.toNat (([] : List UInt8), (0 : Int), (0 : Int), (0 : Int), (0 : Int), (0 : Int), (0 : Int), ([] : List UInt8), ([] : List UInt8), ([] : List UInt8), ([] : List (Ty103)))).2.1), .int .i64 ((s5v.getD s8v.2.toNat (([] : List UInt8), (0 : Int), (0 : Int), (0 : Int), (0 : Int), (0 : Int), (0 : Int), ([] : List UInt8), ([] : List UInt8), ([] : List UInt8), ([] : List (Ty103)))).2.2.1), .int .i64 ((s5v.getD s8v.2.toNat (([] : List UInt8), (0 : Int), (0 : Int), (0 : Int), (0 : Int), (0 : Int), (0 : Int), ([] : List UInt8), ([] : List UInt8), ([] : List UInt8), ([] : List (Ty103)))).2.2.2.1), .int .i64 ((s5v.getD s8v.2.toNat (([] : List UInt8), (0 : Int), (0 : Int), (0 : Int), (0 : Int), (0 : Int), (0 : Int), ([] : List UInt8), ([] : List UInt8), ([] : List UInt8), ([] : List (Ty103)))).2.2.2.2.1), .int .i64 ((s5v.getD s8v.2.toNat (([] : List UInt8), (0 : Int), (0 : Int), (0 : Int), (0 : Int), (0 : Int), (0 : Int), ([] : List UInt8), ([] : List UInt8), ([] : List UInt8), ([] : List (Ty103)))).2.2.2.2.2.1), .int .i64 ((s5v.getD s8v.2.toNat (([] : List UInt8), (0 : Int), (0 : Int), (0 : Int), (0 : Int), (0 : Int), (0 : Int), ([] : List UInt8), ([] : List UInt8), ([] : List UInt8), ([] : List (Ty103)))).2.2.2.2.2.2.1), str ((s5v.getD s8v.2.toNat (([] : List UInt8), (0 : Int), (0 : Int), (0 : Int), (0 : Int), (0 : Int), (0 : Int), ([] : List UInt8), ([] : List UInt8), ([] : List UInt8), ([] : List (Ty103)))).2.2.2.2.2.2.2.1), str ((s5v.getD s8v.2.toNat (([] : List UInt8), (0 : Int), (0 : Int), (0 : Int), (0 : Int), (0 : Int), (0 : Int), ([] : List UInt8), ([] : List UInt8), ([] : List UInt8), ([] : List (Ty103)))).2.2.2.2.2.2.2.2.1), str ((s5v.getD s8v.2.toNat (([] : List UInt8), (0 : Int), (0 : Int), (0 : Int), (0 : Int), (0 : Int), (0 : Int), ([] : List UInt8), ([] : List UInt8), ([] : List UInt8), ([] : List (Ty103)))).2.2.2.2.2.2.2.2.2.1), .slice a24v (((s5v.getD s8v.2.toNat (([] : List UInt8), (0 : Int), (0 : Int), (0 : Int), (0 : Int), (0 : Int), (0 : Int), ([] : List UInt8), ([] : List UInt8), ([] : List UInt8), ([] : List (Ty103)))).2.2.2.2.2.2.2.2.2.2).length) c25v], obj b2v 99 [str ([] : List UInt8), .int .i64 0, .int .i64 0, .int .i64 0, .int .i64 0, .int .i64 0, .int .i64 0, str ([] : List UInt8), str ([] : List UInt8), str ([] : List UInt8), .slice none 0 0], obj b1v 34 [.int .i64 x0_0, .int .i64 x0_1, .int .i64 x0_2, .int .i64 x0_3, .int .i64 x0_4, .int .i64 x0_5, str x0_6, str x0_7, str x0_8], Row 99 11 y7v.1 s5v.length y7v.2.1 rs22v.flatten, y7v.2.2, F]) (Ent.refl _) ?_
 refine simL_nil (nrm_then (sim_seq (sr ?_)))
 refine vq (q_fa rfl rfl Tryd.underlying99 rfl rfl Tryd.sizeOf34 rfl) rfl ?_
 refine vq (q_fa rfl rfl Tryd.underlying34 rfl rfl Tryd.sizeOf3 rfl) rfl ?_
 refine vq (q_load rfl rfl Tryd.isAgg3 (.obj 0 rfl rfl)) rfl ?_
 refine vq (q_fa rfl rfl Tryd.underlying34 rfl rfl Tryd.sizeOf3 rfl) rfl ?_
 refine vq (q_load rfl rfl Tryd.isAgg3 (.obj 2 rfl rfl)) rfl ?_
 refine vq (q_neq rfl rfl rfl) rfl (simL_nil (nrm_then ?_))
 refine sim_condn rfl (fun h30v => ?_) (fun h31v => ?_)
 refine sim_skip ?_
 refine nrm_then (sim_seq (sr ?_))
 refine vq (q_fa rfl rfl Tryd.underlying34 rfl rfl Tryd.sizeOf3 rfl) rfl ?_
 refine vq (q_load rfl rfl Tryd.isAgg3 (.obj 2 rfl rfl)) rfl ?_
 refine vq (q_eql rfl rfl rfl) rfl ?_
 refine vm rfl rfl ?_
 refine simL_valc (b := decide (x0_0 = (13 : Int))) (fun hb46v => RQ.sub (E' := [(7, .pointer (some ⟨b29v, 0, none⟩))]) ⟨rfl, trivial⟩ (q_fa rfl rfl Tryd.underlying99 rfl rfl Tryd.sizeOf34 rfl)) rfl rfl rfl rfl rfl ?_
 refine simL_valc (b := decide (x0_0 = (13 : Int))) (fun hb45v => RQ.sub (E' := [(28, .pointer (some ⟨b29v, 1, none⟩))]) ⟨lk_cv rfl hb45v, trivial⟩ (q_fa rfl rfl Tryd.underlying34 rfl rfl Tryd.sizeOf3 rfl)) rfl rfl rfl rfl rfl ?_
 refine simL_valc (b := decide (x0_0 = (13 : Int))) (fun hb44v => RQ.sub (E' := [(29, .pointer (some ⟨b29v, 6, none⟩))]) ⟨lk_cv rfl hb44v, trivial⟩ (q_load rfl rfl Tryd.isAgg3 (.obj 0 rfl rfl))) rfl rfl rfl rfl rfl ?_
 refine simL_valc (b := decide (x0_0 = (13 : Int))) (fun hb43v => RQ.sub (E' := [(1, .pointer (some ⟨b1v, 0, none⟩))]) ⟨rfl, trivial⟩ (q_fa rfl rfl Tryd.underlying34 rfl rfl Tryd.sizeOf3 rfl)) rfl rfl rfl rfl rfl ?_
 refine simL_valc (b := decide (x0_0 = (13 : Int))) (fun hb42v => RQ.sub (E' := [(31, .pointer (some ⟨b1v, 5, none⟩))]) ⟨lk_cv rfl hb42v, trivial⟩ (q_load rfl rfl Tryd.isAgg3 (.obj 2 rfl rfl))) rfl rfl rfl rfl rfl ?_
 refine simL_valc (b := decide (x0_0 = (13 : Int))) (fun hb41v => RQ.sub (E' := [(30, .int .i64 ((s5v.getD s8v.2.toNat (([] : List UInt8), (0 : Int), (0 : Int), (0 : Int), (0 : Int), (0 : Int), (0 : Int), ([] : List UInt8), ([] : List UInt8), ([] : List UInt8), ([] : List (Ty103)))).2.2.2.2.2.2.1)), (32, .int .i64 x0_5)]) ⟨lk_cv rfl hb41v, lk_cv rfl hb41v, trivial⟩ (q_neq rfl rfl rfl)) rfl rfl rfl rfl rfl ?_
 refine vq (q_and rfl rfl rfl) rfl (simL_nil (nrm_then ?_))
 refine sim_condb rfl (fun h32v => ?_) (fun h33v => ?_)
 refine sr ?_
 refine va rfl rfl (simL_nil (nrm_then ?_))
 refine sim_exi ?_
 refine exi_then ?_
 refine exi_here ?_
 refine nrm_then (sim_region ?_)
 refine vq (q_add rfl rfl rfl) rfl ?_
 refine vm rfl rfl (simL_nil ?_)
 exact nrm_again (s := (20, IntKind.i64.wrap (s8v.2 + 1))) () ⟨rfl, rfl, rfl, rfl, rfl, rfl, rfl, trivial⟩ (.sel 1 rfl (.sel 1 rfl (.sel' 1 rfl (RowV.mk hl23v) (.sel 1 rfl (.sel 1 rfl (.nil _))))))
 refine sim_skip ?_
 refine nrm_then (sim_seq (sr ?_))
 refine vq (q_fa rfl rfl Tryd.underlying34 rfl rfl Tryd.sizeOf3 rfl) rfl ?_
 refine vq (q_load rfl rfl Tryd.isAgg3 (.obj 2 rfl rfl)) rfl ?_
 refine vq (q_eql rfl rfl rfl) rfl ?_
 refine vm rfl rfl ?_
 refine simL_valc (b := decide (x0_0 = (8 : Int))) (fun hb40v => RQ.sub (E' := [(7, .pointer (some ⟨b29v, 0, none⟩))]) ⟨rfl, trivial⟩ (q_fa rfl rfl Tryd.underlying99 rfl rfl Tryd.sizeOf34 rfl)) rfl rfl rfl rfl rfl ?_
 refine simL_valc (b := decide (x0_0 = (8 : Int))) (fun hb39v => RQ.sub (E' := [(39, .pointer (some ⟨b29v, 1, none⟩))]) ⟨lk_cv rfl hb39v, trivial⟩ (q_fa rfl rfl Tryd.underlying34 rfl rfl Tryd.sizeOf3 rfl)) rfl rfl rfl rfl rfl ?_
 refine simL_valc (b := decide (x0_0 = (8 : Int))) (fun hb38v => RQ.sub (E' := [(40, .pointer (some ⟨b29v, 5, none⟩))]) ⟨lk_cv rfl hb38v, trivial⟩ (q_load rfl rfl Tryd.isAgg3 (.obj 0 rfl rfl))) rfl rfl rfl rfl rfl ?_
 refine simL_valc (b := decide (x0_0 = (8 : Int))) (fun hb37v => RQ.sub (E' := [(5, .int .i64 (min (max x0_4 (0 : Int)) (1 : Int)))]) ⟨rfl, trivial⟩ (q_move rfl rfl)) rfl rfl rfl rfl rfl ?_
 refine simL_valc (b := decide (x0_0 = (8 : Int))) (fun hb36v => RQ.sub (E' := [(41, .int .i64 ((s5v.getD s8v.2.toNat (([] : List UInt8), (0 : Int), (0 : Int), (0 : Int), (0 : Int), (0 : Int), (0 : Int), ([] : List UInt8), ([] : List UInt8), ([] : List UInt8), ([] : List (Ty103)))).2.2.2.2.2.1)), (42, .int .i64 (min (max x0_4 (0 : Int)) (1 : Int)))]) ⟨lk_cv rfl hb36v, lk_cv rfl hb36v, trivial⟩ (q_neq rfl rfl rfl)) rfl rfl rfl rfl rfl ?_
 refine vq (q_and rfl rfl rfl) rfl (simL_nil (nrm_then ?_))
 refine sim_condb rfl (fun h34v => ?_) (fun h35v => ?_)
 refine sim_exi ?_
 refine exi_then ?_
 refine exi_here ?_
 refine nrm_then (sim_region ?_)
 refine vq (q_add rfl rfl rfl) rfl ?_
 refine vm rfl rfl (simL_nil ?_)
 exact nrm_again (s := (s8v.1, IntKind.i64.wrap (s8v.2 + 1))) () ⟨rfl, rfl, rfl, rfl, rfl, rfl, rfl, trivial⟩ (.sel 1 rfl (.sel 1 rfl (.sel' 1 rfl (RowV.mk hl23v) (.sel 1 rfl (.sel 1 rfl (.nil _))))))
 refine sim_skip ?_
 refine nrm_then (sr ?_)
 refine vq (q_loado 0 rfl rfl Tryd.isAgg99 Tryd.sizeOf99 rfl rfl) rfl ?_
 refine simL_do (re_store 1 rfl rfl rfl Tryd.sizeOf99 rfl rfl (one_of (by rfl)) rfl rfl) rfl rfl ?_
 intro _
 refine simL_ent (H' := [obj b29v 99 [str ((s5v.getD s8v.2.toNat (([] : List UInt8), (0 : Int), (0 : Int), (0 : Int), (0 : Int), (0 : Int), (0 : Int), ([] : List UInt8), ([] : List UInt8), ([] : List UInt8), ([] : List (Ty103)))).1), .int .i64 ((s5v.getD s8v.2.toNat (([] : List UInt8), (0 : Int), (0 : Int), (0 : Int), (0 : Int), (0 : Int), (0 : Int), ([] : List UInt8), ([] : List UInt8), ([] : List UInt8), ([] : List (Ty103)))).2.1), .int .i64 ((s5v.getD s8v.2.toNat (([] : List UInt8), (0 : Int), (0 : Int), (0 : Int), (0 : Int), (0 : Int), (0 : Int), ([] : List UInt8), ([] : List UInt8), ([] : List UInt8), ([] : List (Ty103)))).2.2.1), .int .i64 ((s5v.getD s8v.2.toNat (([] : List UInt8), (0 : Int), (0 : Int), (0 : Int), (0 : Int), (0 : Int), (0 : Int), ([] : List UInt8), ([] : List UInt8), ([] : List UInt8), ([] : List (Ty103)))).2.2.2.1), .int .i64 ((s5v.getD s8v.2.toNat (([] : List UInt8), (0 : Int), (0 : Int), (0 : Int), (0 : Int), (0 : Int), (0 : Int), ([] : List UInt8), ([] : List UInt8), ([] : List UInt8), ([] : List (Ty103)))).2.2.2.2.1), .int .i64 ((s5v.getD s8v.2.toNat (([] : List UInt8), (0 : Int), (0 : Int), (0 : Int), (0 : Int), (0 : Int), (0 : Int), ([] : List UInt8), ([] : List UInt8), ([] : List UInt8), ([] : List (Ty103)))).2.2.2.2.2.1), .int .i64 ((s5v.getD s8v.2.toNat (([] : List UInt8), (0 : Int), (0 : Int), (0 : Int), (0 : Int), (0 : Int), (0 : Int), ([] : List UInt8), ([] : List UInt8), ([] : List UInt8), ([] : List (Ty103)))).2.2.2.2.2.2.1), str ((s5v.getD s8v.2.toNat (([] : List UInt8), (0 : Int), (0 : Int), (0 : Int), (0 : Int), (0 : Int), (0 : Int), ([] : List UInt8), ([] : List UInt8), ([] : List UInt8), ([] : List (Ty103)))).2.2.2.2.2.2.2.1), str ((s5v.getD s8v.2.toNat (([] : List UInt8), (0 : Int), (0 : Int), (0 : Int), (0 : Int), (0 : Int), (0 : Int), ([] : List UInt8), ([] : List UInt8), ([] : List UInt8), ([] : List (Ty103)))).2.2.2.2.2.2.2.2.1), str ((s5v.getD s8v.2.toNat (([] : List UInt8), (0 : Int), (0 : Int), (0 : Int), (0 : Int), (0 : Int), (0 : Int), ([] : List UInt8), ([] : List UInt8), ([] : List UInt8), ([] : List (Ty103)))).2.2.2.2.2.2.2.2.2.1), .slice a24v (((s5v.getD s8v.2.toNat (([] : List UInt8), (0 : Int), (0 : Int), (0 : Int), (0 : Int), (0 : Int), (0 : Int), ([] : List UInt8), ([] : List UInt8), ([] : List UInt8), ([] : List (Ty103)))).2.2.2.2.2.2.2.2.2.2).length) c25v], obj b2v 99 [str ((s5v.getD s8v.2.toNat (([] : List UInt8), (0 : Int), (0 : Int), (0 : Int), (0 : Int), (0 : Int), (0 : Int), ([] : List UInt8), ([] : List UInt8), ([] : List UInt8), ([] : List (Ty103)))).1), .int .i64 ((s5v.getD s8v.2.toNat (([] : List UInt8), (0 : Int), (0 : Int), (0 : Int), (0 : Int), (0 : Int), (0 : Int), ([] : List UInt8), ([] : List UInt8), ([] : List UInt8), ([] : List (Ty103)))).2.1), .int .i64 ((s5v.getD s8v.2.toNat (([] : List UInt8), (0 : Int), (0 : Int), (0 : Int), (0 : Int), (0 : Int), (0 : Int), ([] : List UInt8), ([] : List UInt8), ([] : List UInt8), ([] : List (Ty103)))).2.2.1), .int .i64 ((s5v.getD s8v.2.toNat (([] : List UInt8), (0 : Int), (0 : Int), (0 : Int), (0 : Int), (0 : Int), (0 : Int), ([] : List UInt8), ([] : List UInt8), ([] : List UInt8), ([] : List (Ty103)))).2.2.2.1), .int .i64 ((s5v.getD s8v.2.toNat (([] : List UInt8), (0 : Int), (0 : Int), (0 : Int), (0 : Int), (0 : Int), (0 : Int), ([] : List UInt8), ([] : List UInt8), ([] : List UInt8), ([] : List (Ty103)))).2.2.2.2.1), .int .i64 ((s5v.getD s8v.2.toNat (([] : List UInt8), (0 : Int), (0 : Int), (0 : Int), (0 : Int), (0 : Int), (0 : Int), ([] : List UInt8), ([] : List UInt8), ([] : List UInt8), ([] : List (Ty103)))).2.2.2.2.2.1), .int .i64 ((s5v.getD s8v.2.toNat (([] : List UInt8), (0 : Int), (0 : Int), (0 : Int), (0 : Int), (0 : Int), (0 : Int), ([] : List UInt8), ([] : List UInt8), ([] : List UInt8), ([] : List (Ty103)))).2.2.2.2.2.2.1), str ((s5v.getD s8v.2.toNat (([] : List UInt8), (0 : Int), (0 : Int), (0 : Int), (0 : Int), (0 : Int), (0 : Int), ([] : List UInt8), ([] : List UInt8), ([] : List UInt8), ([] : List (Ty103)))).2.2.2.2.2.2.2.1), str ((s5v.getD s8v.2.toNat (([] : List UInt8), (0 : Int), (0 : Int), (0 : Int), (0 : Int), (0 : Int), (0 : Int), ([] : List UInt8), ([] : List UInt8), ([] : List UInt8), ([] : List (Ty103)))).2.2.2.2.2.2.2.2.1), str ((s5v.getD s8v.2.toNat (([] : List UInt8), (0 : Int), (0 : Int), (0 : Int), (0 : Int), (0 : Int), (0 : Int), ([] : List UInt8), ([] : List UInt8), ([] : List UInt8), ([] : List (Ty103)))).2.2.2.2.2.2.2.2.2.1), .slice a24v (((s5v.getD s8v.2.toNat (([] : List UInt8), (0 : Int), (0 : Int), (0 : Int), (0 : Int), (0 : Int), (0 : Int), ([] : List UInt8), ([] : List UInt8), ([] : List UInt8), ([] : List (Ty103)))).2.2.2.2.2.2.2.2.2.2).length) c25v], obj b1v 34 [.int .i64 x0_0, .int .i64 x0_1, .int .i64 x0_2, .int .i64 x0_3, .int .i64 x0_4, .int .i64 x0_5, str x0_6, str x0_7, str x0_8], Row 99 11 y7v.1 s5v.length y7v.2.1 rs22v.flatten, y7v.2.2, F]) (Ent.refl _) ?_
 refine va rfl rfl (simL_nil (nrm_then (sim_rtn ?_)))
 refine rtn_block ?_
 refine rtn_then ?_
 refine rtn_loop ?_
 refine rtn_block ?_
 refine rtn_cutR ?_
 exact rtn_fnC (vs := [.agg #[str ((s5v.getD s8v.2.toNat (([] : List UInt8), (0 : Int), (0 : Int), (0 : Int), (0 : Int), (0 : Int), (0 : Int), ([] : List UInt8), ([] : List UInt8), ([] : List UInt8), ([] : List (Ty103)))).1), .int .i64 ((s5v.getD s8v.2.toNat (([] : List UInt8), (0 : Int), (0 : Int), (0 : Int), (0 : Int), (0 : Int), (0 : Int), ([] : List UInt8), ([] : List UInt8), ([] : List UInt8), ([] : List (Ty103)))).2.1), .int .i64 ((s5v.getD s8v.2.toNat (([] : List UInt8), (0 : Int), (0 : Int), (0 : Int), (0 : Int), (0 : Int), (0 : Int), ([] : List UInt8), ([] : List UInt8), ([] : List UInt8), ([] : List (Ty103)))).2.2.1), .int .i64 ((s5v.getD s8v.2.toNat (([] : List UInt8), (0 : Int), (0 : Int), (0 : Int), (0 : Int), (0 : Int), (0 : Int), ([] : List UInt8), ([] : List UInt8), ([] : List UInt8), ([] : List (Ty103)))).2.2.2.1), .int .i64 ((s5v.getD s8v.2.toNat (([] : List UInt8), (0 : Int), (0 : Int), (0 : Int), (0 : Int), (0 : Int), (0 : Int), ([] : List UInt8), ([] : List UInt8), ([] : List UInt8), ([] : List (Ty103)))).2.2.2.2.1), .int .i64 ((s5v.getD s8v.2.toNat (([] : List UInt8), (0 : Int), (0 : Int), (0 : Int), (0 : Int), (0 : Int), (0 : Int), ([] : List UInt8), ([] : List UInt8), ([] : List UInt8), ([] : List (Ty103)))).2.2.2.2.2.1), .int .i64 ((s5v.getD s8v.2.toNat (([] : List UInt8), (0 : Int), (0 : Int), (0 : Int), (0 : Int), (0 : Int), (0 : Int), ([] : List UInt8), ([] : List UInt8), ([] : List UInt8), ([] : List (Ty103)))).2.2.2.2.2.2.1), str ((s5v.getD s8v.2.toNat (([] : List UInt8), (0 : Int), (0 : Int), (0 : Int), (0 : Int), (0 : Int), (0 : Int), ([] : List UInt8), ([] : List UInt8), ([] : List UInt8), ([] : List (Ty103)))).2.2.2.2.2.2.2.1), str ((s5v.getD s8v.2.toNat (([] : List UInt8), (0 : Int), (0 : Int), (0 : Int), (0 : Int), (0 : Int), (0 : Int), ([] : List UInt8), ([] : List UInt8), ([] : List UInt8), ([] : List (Ty103)))).2.2.2.2.2.2.2.2.1), str ((s5v.getD s8v.2.toNat (([] : List UInt8), (0 : Int), (0 : Int), (0 : Int), (0 : Int), (0 : Int), (0 : Int), ([] : List UInt8), ([] : List UInt8), ([] : List UInt8), ([] : List (Ty103)))).2.2.2.2.2.2.2.2.2.1), .slice a24v (((s5v.getD s8v.2.toNat (([] : List UInt8), (0 : Int), (0 : Int), (0 : Int), (0 : Int), (0 : Int), (0 : Int), ([] : List UInt8), ([] : List UInt8), ([] : List UInt8), ([] : List (Ty103)))).2.2.2.2.2.2.2.2.2.2).length) c25v], .int .i64 0]) (a24v, c25v, y7v.2.2) rfl ⟨⟨b2v, rfl, load_agg 1 Tryd.isAgg99 Tryd.sizeOf99 rfl rfl⟩, rfl, trivial⟩ rfl (.pr_in ⟨he26v, hc27v, hm28v⟩ (.sel 4 rfl (.sel 4 rfl (.nil _))))
 refine sim_exi ?_
 refine exi_then ?_
 refine exi_here ?_
 refine nrm_then (sim_region ?_)
 refine vq (q_add rfl rfl rfl) rfl ?_
 refine vm rfl rfl (simL_nil ?_)
 exact nrm_again (s := (s8v.1, IntKind.i64.wrap (s8v.2 + 1))) () ⟨rfl, rfl, rfl, rfl, rfl, rfl, rfl, trivial⟩ (.sel 1 rfl (.sel 1 rfl (.sel' 1 rfl (RowV.mk hl23v) (.sel 1 rfl (.sel 1 rfl (.nil _))))))
 refine sim_exi ?_
 refine exi_then ?_
 refine exi_loop ?_
 refine exi_here ?_
 exact nrm_cutR (s := s8v.1) () ⟨rfl, rfl, trivial⟩ (.sel 0 rfl (.sel 3 rfl (.nil _)))
 intro s3v y4v
 refine sr ?_
 refine vq (q_build (v := .agg #[str ([] : List UInt8), .int .i64 0, .int .i64 0, .int .i64 0, .int .i64 0, .int .i64 0, .int .i64 0, str ([] : List UInt8), str ([] : List UInt8), str ([] : List UInt8), .slice none 0 0]) rfl rfl (fun _ => by kernel_rfl)) rfl ?_
 refine vm rfl rfl ?_
 refine simL_do (re_store 0 rfl rfl rfl Tryd.sizeOf99 rfl rfl (one_of (by rfl)) rfl rfl) rfl rfl ?_
 intro _
 refine simL_ent (H' := [obj b2v 99 [str ([] : List UInt8), .int .i64 0, .int .i64 0, .int .i64 0, .int .i64 0, .int .i64 0, .int .i64 0, str ([] : List UInt8), str ([] : List UInt8), str ([] : List UInt8), .slice none 0 0], F]) (Ent.refl _) ?_
 refine va rfl rfl (simL_nil (nrm_then (sim_rtn ?_)))
 exact rtn_fnC (vs := [.agg #[str ([] : List UInt8), .int .i64 0, .int .i64 0, .int .i64 0, .int .i64 0, .int .i64 0, .int .i64 0, str ([] : List UInt8), str ([] : List UInt8), str ([] : List UInt8), .slice none 0 0], .int .i64 s3v]) (none, 0, tt) rfl ⟨⟨b2v, rfl, load_agg 0 Tryd.isAgg99 Tryd.sizeOf99 rfl rfl⟩, rfl, trivial⟩ rfl (.pr_in ⟨RdV.nil, Nat.le_refl _, Nat.zero_le _⟩ (.tt_in (.sel 1 rfl (.nil _))))

def text_Quote.l1 (x0 : List UInt8) : Nat → List UInt8 → Int → Option (List UInt8)
  | 0, _, _ => none
  | k + 1, z30v, z31v => if z31v < (x0.length : Int) then (if 0 ≤ z31v ∧ z31v < (x0.length : Int) then (if ((decide (((x0.getD z31v.toNat 0).toNat : Int) = (34 : Int))) || (decide (((x0.getD z31v.toNat 0).toNat : Int) = (92 : Int)))) = true then (if (z30v.length + ([92, (x0.getD z31v.toNat 0)] : List UInt8).length) * 1 ≤ 140737488355328 then (text_Quote.l1 x0 k (z30v ++ ([92, (x0.getD z31v.toNat 0)] : List UInt8)) (IntKind.i64.wrap (z31v + 1))) else none) else ((text_plain.f ((x0.getD z31v.toNat 0).toNat : Int)).bind fun s41v => (if s41v = true then (if (z30v.length + ([(x0.getD z31v.toNat 0)] : List UInt8).length) * 1 ≤ 140737488355328 then (text_Quote.l1 x0 k (z30v ++ ([(x0.getD z31v.toNat 0)] : List UInt8)) (IntKind.i64.wrap (z31v + 1))) else none) else (if 0 ≤ IntKind.u8.wrap (Int.tdiv ((x0.getD z31v.toNat 0).toNat : Int) 16) ∧ IntKind.u8.wrap (Int.tdiv ((x0.getD z31v.toNat 0).toNat : Int) 16) < (([48, 49, 50, 51, 52, 53, 54, 55, 56, 57, 97, 98, 99, 100, 101, 102] : List UInt8).length : Int) then (if 0 ≤ Int.tmod ((x0.getD z31v.toNat 0).toNat : Int) 16 ∧ Int.tmod ((x0.getD z31v.toNat 0).toNat : Int) 16 < (([48, 49, 50, 51, 52, 53, 54, 55, 56, 57, 97, 98, 99, 100, 101, 102] : List UInt8).length : Int) then (if (z30v.length + ([92, 120, (([48, 49, 50, 51, 52, 53, 54, 55, 56, 57, 97, 98, 99, 100, 101, 102] : List UInt8).getD (IntKind.u8.wrap (Int.tdiv ((x0.getD z31v.toNat 0).toNat : Int) 16)).toNat 0), (([48, 49, 50, 51, 52, 53, 54, 55, 56, 57, 97, 98, 99, 100, 101, 102] : List UInt8).getD (Int.tmod ((x0.getD z31v.toNat 0).toNat : Int) 16).toNat 0)] : List UInt8).length) * 1 ≤ 140737488355328 then (text_Quote.l1 x0 k (z30v ++ ([92, 120, (([48, 49, 50, 51, 52, 53, 54, 55, 56, 57, 97, 98, 99, 100, 101, 102] : List UInt8).getD (IntKind.u8.wrap (Int.tdiv ((x0.getD z31v.toNat 0).toNat : Int) 16)).toNat 0), (([48, 49, 50, 51, 52, 53, 54, 55, 56, 57, 97, 98, 99, 100, 101, 102] : List UInt8).getD (Int.tmod ((x0.getD z31v.toNat 0).toNat : Int) 16).toNat 0)] : List UInt8)) (IntKind.i64.wrap (z31v + 1))) else none) else none) else none)))) else none) else (some z30v)
def text_Quote.l0 (x0 : List UInt8) : Nat → Bool → Int → Option (Bool)
  | 0, _, _ => none
  | k + 1, z10v, z11v => if z11v < (x0.length : Int) then ((if z10v = true then (if 0 ≤ z11v ∧ z11v < (x0.length : Int) then ((text_bare.f ((x0.getD z11v.toNat 0).toNat : Int)).bind fun s17v => (some s17v)) else none) else (some false)).bind fun s14v => (text_Quote.l0 x0 k s14v (IntKind.i64.wrap (z11v + 1)))) else (some z10v)
def text_Quote.f (k : Nat) (x0 : List UInt8) : Option (List UInt8) := (if x0 = ([] : List UInt8) then (some false) else (if 0 ≤ (0 : Int) ∧ (0 : Int) < (x0.length : Int) then (some (!decide (((x0.getD (0 : Int).toNat 0).toNat : Int) = (35 : Int)))) else none)).bind fun s1v => ((text_Quote.l0 x0 k s1v 0).bind fun s6v => (if s6v = true then (some x0) else ((text_Quote.l1 x0 k ([34] : List UInt8) 0).bind fun s26v => (if (s26v.length + ([34] : List UInt8).length) * 1 ≤ 140737488355328 then (some (s26v ++ ([34] : List UInt8))) else none))))
theorem text_Quote.calls (W : World) (F : HA) (k : Nat) (x0 : List UInt8)  :
    Fn Tryd.prog W 16 [str x0] [] F (text_Quote.f k x0) (fun (r : List UInt8) (y : Unit) => str r) (fun r y => []) := by
 unfold text_Quote.f
 refine fn_intro 71 Tryd.func16 rfl Tryd.ntmps16 rfl ?_
 refine sr ?_
 refine va rfl rfl (nx ?_)
 refine vm rfl rfl ?_
 refine vq (q_nes rfl rfl rfl) rfl ?_
 refine vm rfl rfl ?_
 refine simL_cut' 4 (S := Bool) (Unit) (fun s y => [(0, str x0), (14, .bool s)]) (fun s y => [F]) ?_ ?_
 refine simL_casen (fun hb4v => ?_) (fun hb5v => ?_)
 rw [hb4v]
 refine simL_valg (q_move rfl rfl) rfl rfl rfl rfl rfl rfl ?_
 refine simL_ask (fun hi3v => ?_)
 refine simL_valg (q_sidx rfl rfl rfl Tryd.underlying9 hi3v.1 hi3v.2) rfl rfl rfl rfl rfl rfl ?_
 refine simL_valg (q_neq rfl rfl rfl) rfl rfl rfl rfl rfl rfl ?_
 refine vq (q_pick rfl rfl rfl rfl rfl) rfl (simL_nil ?_)
 exact nrm_cut (s := !decide (((x0.getD (0 : Int).toNat 0).toNat : Int) = (35 : Int))) () ⟨rfl, rfl, trivial⟩ (.sel 0 rfl (.nil _))
 rw [hb5v]
 refine simL_skipd rfl rfl rfl rfl rfl rfl ?_
 refine simL_skipd rfl rfl rfl rfl rfl rfl ?_
 refine simL_skipd rfl rfl rfl rfl rfl rfl ?_
 refine vq (q_pick rfl rfl rfl rfl rfl) rfl (simL_nil ?_)
 exact nrm_cut (s := false) () ⟨rfl, rfl, trivial⟩ (.sel 0 rfl (.nil _))
 intro s1v y2v
 refine va rfl rfl (simL_nil (nrm_then ?_))
 refine sim_cut (S := Bool) (Unit) (fun s y => [(0, str x0), (3, .bool s)]) (fun s y => [F]) ?_ ?_
 refine sr ?_
 refine va rfl rfl (simL_nil (nrm_then ?_))
 refine sim_block ?_
 refine sim_loop (S := Bool × Int) (Unit) (fun k s => text_Quote.l0 x0 k s.1 s.2) (fun s y => [(0, str x0), (3, .bool s.1), (4, .int .i64 s.2)]) (fun s y => [F]) (fun _ => by rw [text_Quote.l0]) ?_ k (s1v, 0) () ⟨rfl, rfl, rfl, trivial⟩ (.sel 0 rfl (.nil _))
 intro k s8v y9v
 refine sim_eq (by rw [text_Quote.l0]) ?_
 refine sim_seq (sr ?_)
 refine vm rfl rfl ?_
 refine vm rfl rfl ?_
 refine vq (q_lens rfl rfl rfl Tryd.underlying9) rfl ?_
 refine vq (q_lss rfl rfl rfl) rfl (simL_nil (nrm_then ?_))
 refine sim_cond rfl (fun h12v => ?_) (fun h13v => ?_)
 refine sim_skip ?_
 refine nrm_then (sim_seq ?_)
 refine sim_block ?_
 refine sim_region ?_
 refine vm rfl rfl ?_
 refine vm rfl rfl ?_
 refine simL_cut' 5 (S := Bool) (Unit) (fun s y => [(0, str x0), (4, .int .i64 s8v.2), (27, .bool s)]) (fun s y => [F]) ?_ ?_
 refine simL_caseb (fun hb20v => ?_) (fun hb21v => ?_)
 rw [hb20v]
 refine simL_valg (q_move rfl rfl) rfl rfl rfl rfl rfl rfl ?_
 refine simL_valg (q_move rfl rfl) rfl rfl rfl rfl rfl rfl ?_
 refine simL_ask (fun hi16v => ?_)
 refine simL_valg (q_sidx rfl rfl rfl Tryd.underlying9 hi16v.1 hi16v.2) rfl rfl rfl rfl rfl rfl ?_
 refine simL_bind (fun s17v hs18v => ?_)
 refine simL_effg (re_call (vs := [.int .u8 ((x0.getD s8v.2.toNat 0).toNat : Int)]) (cap := []) (A := []) (rst := [F]) rfl rfl rfl rfl rfl rfl Tryd.call38 (.sel 0 rfl (.nil _)) (text_bare.calls _ _ ((x0.getD s8v.2.toNat 0).toNat : Int) ) hs18v) rfl rfl rfl rfl rfl rfl ?_
 intro y19v
 refine vq (q_pick rfl rfl rfl rfl rfl) rfl (simL_nil ?_)
 exact nrm_cut (s := s17v) () ⟨rfl, rfl, rfl, trivial⟩ (.sel 0 rfl (.nil _))
 rw [hb21v]
 refine simL_skipd rfl rfl rfl rfl rfl rfl ?_
 refine simL_skipd rfl rfl rfl rfl rfl rfl ?_
 refine simL_skipd rfl rfl rfl rfl rfl rfl ?_
 refine simL_skipd rfl rfl rfl rfl rfl rfl ?_
 refine vq (q_pick rfl rfl rfl rfl rfl) rfl (simL_nil ?_)
 exact nrm_cut (s := false) () ⟨rfl, rfl, rfl, trivial⟩ (.sel 0 rfl (.nil _))
 intro s14v y15v
 refine va rfl rfl (simL_nil (nrm_block (nrm_then (sim_region ?_))))
 refine vm rfl rfl ?_
 refine vq (q_add rfl rfl rfl) rfl ?_
 refine va rfl rfl (simL_nil ?_)
 exact nrm_again (s := (s14v, IntKind.i64.wrap (s8v.2 + 1))) () ⟨rfl, rfl, rfl, trivial⟩ (.sel 0 rfl (.nil _))
 refine sim_exi ?_
 refine exi_then ?_
 refine exi_loop ?_
 refine exi_here ?_
 exact nrm_cut (s := s8v.1) () ⟨rfl, rfl, trivial⟩ (.sel 0 rfl (.nil _))
 intro s6v y7v
 refine sim_seq (sr ?_)
 refine vm rfl rfl (simL_nil (nrm_then ?_))
 refine sim_condb rfl (fun h22v => ?_) (fun h23v => ?_)
 refine sr ?_
 refine vm rfl rfl ?_
 refine va rfl rfl (simL_nil (nrm_then (sim_rtn ?_)))
 refine rtn_then ?_
 exact rtn_fn () rfl rfl rfl (.sel 0 rfl (.nil _))
 refine sim_skip ?_
 refine nrm_then (sr ?_)
 refine simL_eff (re_litb (cs := [.int .u8 34]) ([34] : List UInt8) rfl rfl Tryd.underlying93 elt5 rfl (by kernel_rfl) rfl rfl rfl) rfl rfl rfl ?_
 intro b24v
 refine va rfl rfl (simL_nil (nrm_then ?_))
 refine sim_cut (S := List UInt8) (Option Addr × Nat) (fun s y => [(5, .slice y.1 s.length y.2)]) (fun s y => [Row 5 1 y.1 s.length y.2 (encB s), F]) ?_ ?_
 refine sr ?_
 refine va rfl rfl (simL_nil (nrm_then ?_))
 refine sim_block ?_
 refine sim_loop (S := List UInt8 × Int) (Option Addr × Nat) (fun k s => text_Quote.l1 x0 k s.1 s.2) (fun s y => [(0, str x0), (5, .slice y.1 s.1.length y.2), (6, .int .i64 s.2)]) (fun s y => [Row 5 1 y.1 s.1.length y.2 (encB s.1), F]) (fun _ => by rw [text_Quote.l1]) ?_ k (([34] : List UInt8), 0) ((some ⟨b24v, 0, none⟩), 1) ⟨rfl, rfl, rfl, trivial⟩ (.sel 0 rfl (.sel 0 rfl (.nil _)))
 intro k s28v y29v
 refine sim_eq (by rw [text_Quote.l1]) ?_
 refine sim_seq (sr ?_)
 refine vm rfl rfl ?_
 refine vm rfl rfl ?_
 refine vq (q_lens rfl rfl rfl Tryd.underlying9) rfl ?_
 refine vq (q_lss rfl rfl rfl) rfl (simL_nil (nrm_then ?_))
 refine sim_cond rfl (fun h32v => ?_) (fun h33v => ?_)
 refine sim_skip ?_
 refine nrm_then (sim_seq ?_)
 refine sim_block ?_
 refine sr ?_
 refine vm rfl rfl ?_
 refine vm rfl rfl ?_
 refine simL_ask (fun hi34v => ?_)
 refine vq (q_sidx rfl rfl rfl Tryd.underlying9 hi34v.1 hi34v.2) rfl ?_
 refine va rfl rfl (simL_nil (nrm_then ?_))
 refine sim_block ?_
 refine sr ?_
 refine vm rfl rfl ?_
 refine vq (q_eql rfl rfl rfl) rfl ?_
 refine vm rfl rfl ?_
 refine simL_valc (b := decide (((x0.getD s28v.2.toNat 0).toNat : Int) = (34 : Int))) (fun hb60v => RQ.sub (E' := [(7, .int .u8 ((x0.getD s28v.2.toNat 0).toNat : Int))]) ⟨rfl, trivial⟩ (q_move rfl rfl)) rfl rfl rfl rfl rfl ?_
 refine simL_valc (b := decide (((x0.getD s28v.2.toNat 0).toNat : Int) = (34 : Int))) (fun hb59v => RQ.sub (E' := [(53, .int .u8 ((x0.getD s28v.2.toNat 0).toNat : Int))]) ⟨lk_cv rfl hb59v, trivial⟩ (q_eql rfl rfl rfl)) rfl rfl rfl rfl rfl ?_
 refine vq (q_or rfl rfl rfl) rfl ?_
 refine va rfl rfl (simL_nil (nrm_then ?_))
 refine sim_condb rfl (fun h35v => ?_) (fun h36v => ?_)
 refine sim_region ?_
 refine vm rfl rfl ?_
 refine vm rfl rfl ?_
 refine simL_eff (re_litb (cs := [.int .u8 92, .int .u8 ((x0.getD s28v.2.toNat 0).toNat : Int)]) ([92, (x0.getD s28v.2.toNat 0)] : List UInt8) rfl rfl Tryd.underlying93 elt5 rfl (by kernel_rfl) rfl rfl rfl) rfl rfl rfl ?_
 intro b37v
 refine simL_ask (fun hb40v => ?_)
 refine simL_eff (re_appendb 1 rfl rfl rfl Tryd.underlying93 elt5 rfl (Rds.row 0 rfl) hb40v) rfl rfl rfl ?_
 intro y39v
 refine va rfl rfl (simL_nil (nrm_block (nrm_block (nrm_then (sim_region ?_)))))
 refine vm rfl rfl ?_
 refine vq (q_add rfl rfl rfl) rfl ?_
 refine va rfl rfl (simL_nil ?_)
 exact nrm_again (s := (s28v.1 ++ ([92, (x0.getD s28v.2.toNat 0)] : List UInt8), IntKind.i64.wrap (s28v.2 + 1))) (y39v.1, y39v.2) ⟨rfl, rfl, rfl, trivial⟩ (.sel 1 rfl (.sel 1 rfl (.nil _)))
 refine sr ?_
 refine vm rfl rfl ?_
 refine simL_bind (fun s41v hs42v => ?_)
 refine simL_eff (re_call (vs := [.int .u8 ((x0.getD s28v.2.toNat 0).toNat : Int)]) (cap := []) (A := []) (rst := [Row 5 1 y29v.1 s28v.1.length y29v.2 (encB s28v.1), F]) rfl rfl rfl rfl rfl rfl Tryd.call41 (.sel 0 rfl (.sel 0 rfl (.nil _))) (text_plain.calls _ _ ((x0.getD s28v.2.toNat 0).toNat : Int) ) hs42v) rfl rfl rfl ?_
 intro y43v
 refine va rfl rfl (simL_nil (nrm_then ?_))
 refine sim_condb rfl (fun h44v => ?_) (fun h45v => ?_)
 refine sim_region ?_
 refine vm rfl rfl ?_
 refine vm rfl rfl ?_
 refine simL_eff (re_litb (cs := [.int .u8 ((x0.getD s28v.2.toNat 0).toNat : Int)]) ([(x0.getD s28v.2.toNat 0)] : List UInt8) rfl rfl Tryd.underlying93 elt5 rfl (by kernel_rfl) rfl rfl rfl) rfl rfl rfl ?_
 intro b46v
 refine simL_ask (fun hb49v => ?_)
 refine simL_eff (re_appendb 1 rfl rfl rfl Tryd.underlying93 elt5 rfl (Rds.row 0 rfl) hb49v) rfl rfl rfl ?_
 intro y48v
 refine va rfl rfl (simL_nil (nrm_block (nrm_block (nrm_then (sim_region ?_)))))
 refine vm rfl rfl ?_
 refine vq (q_add rfl rfl rfl) rfl ?_
 refine va rfl rfl (simL_nil ?_)
 exact nrm_again (s := (s28v.1 ++ ([(x0.getD s28v.2.toNat 0)] : List UInt8), IntKind.i64.wrap (s28v.2 + 1))) (y48v.1, y48v.2) ⟨rfl, rfl, rfl, trivial⟩ (.sel 1 rfl (.sel 1 rfl (.nil _)))
 refine sim_ask (fun hi51v => ?_)
 refine sim_ask (fun hi53v => ?_)
 refine sim_ask (fun hb57v => ?_)
 refine sim_draw (Γ := Nat × (Option Addr × Nat)) (0, (none, 0)) [[], [], [1], [1, 2], [], [4], [4, 5], [1, 2, 3, 4, 5, 6], rL 8, rL 9] [7, 8] [0, 1, 2, 3, 4, 5, 6, 9] (fun i => [[0, 1], [0], [0], [0], [0], [0], [0], [], [], [2]].getD i []) (fun i => [[], [], [], [], [], [], [], rL 7, rL 8, []].getD i []) (fun γ i => [.slice y29v.1 s28v.1.length y29v.2, .int .u8 ((x0.getD s28v.2.toNat 0).toNat : Int), .int .u8 (IntKind.u8.wrap (Int.tdiv ((x0.getD s28v.2.toNat 0).toNat : Int) 16)), .int .u8 ((([48, 49, 50, 51, 52, 53, 54, 55, 56, 57, 97, 98, 99, 100, 101, 102] : List UInt8).getD (IntKind.u8.wrap (Int.tdiv ((x0.getD s28v.2.toNat 0).toNat : Int) 16)).toNat 0).toNat : Int), .int .u8 ((x0.getD s28v.2.toNat 0).toNat : Int), .int .u8 (Int.tmod ((x0.getD s28v.2.toNat 0).toNat : Int) 16), .int .u8 ((([48, 49, 50, 51, 52, 53, 54, 55, 56, 57, 97, 98, 99, 100, 101, 102] : List UInt8).getD (Int.tmod ((x0.getD s28v.2.toNat 0).toNat : Int) 16).toNat 0).toNat : Int), .slice (some ⟨γ.1, 0, none⟩) (([92, 120, (([48, 49, 50, 51, 52, 53, 54, 55, 56, 57, 97, 98, 99, 100, 101, 102] : List UInt8).getD (IntKind.u8.wrap (Int.tdiv ((x0.getD s28v.2.toNat 0).toNat : Int) 16)).toNat 0), (([48, 49, 50, 51, 52, 53, 54, 55, 56, 57, 97, 98, 99, 100, 101, 102] : List UInt8).getD (Int.tmod ((x0.getD s28v.2.toNat 0).toNat : Int) 16).toNat 0)] : List UInt8).length) 4, .slice γ.2.1 ((s28v.1 ++ ([92, 120, (([48, 49, 50, 51, 52, 53, 54, 55, 56, 57, 97, 98, 99, 100, 101, 102] : List UInt8).getD (IntKind.u8.wrap (Int.tdiv ((x0.getD s28v.2.toNat 0).toNat : Int) 16)).toNat 0), (([48, 49, 50, 51, 52, 53, 54, 55, 56, 57, 97, 98, 99, 100, 101, 102] : List UInt8).getD (Int.tmod ((x0.getD s28v.2.toNat 0).toNat : Int) 16).toNat 0)] : List UInt8)).length) γ.2.2, .slice γ.2.1 ((s28v.1 ++ ([92, 120, (([48, 49, 50, 51, 52, 53, 54, 55, 56, 57, 97, 98, 99, 100, 101, 102] : List UInt8).getD (IntKind.u8.wrap (Int.tdiv ((x0.getD s28v.2.toNat 0).toNat : Int) 16)).toNat 0), (([48, 49, 50, 51, 52, 53, 54, 55, 56, 57, 97, 98, 99, 100, 101, 102] : List UInt8).getD (Int.tmod ((x0.getD s28v.2.toNat 0).toNat : Int) 16).toNat 0)] : List UInt8)).length) γ.2.2].getD i undef) (fun j γ => [[Row 5 1 y29v.1 s28v.1.length y29v.2 (encB s28v.1), F], [Row 5 1 (some ⟨γ.1, 0, none⟩) ([92, 120, (([48, 49, 50, 51, 52, 53, 54, 55, 56, 57, 97, 98, 99, 100, 101, 102] : List UInt8).getD (IntKind.u8.wrap (Int.tdiv ((x0.getD s28v.2.toNat 0).toNat : Int) 16)).toNat 0), (([48, 49, 50, 51, 52, 53, 54, 55, 56, 57, 97, 98, 99, 100, 101, 102] : List UInt8).getD (Int.tmod ((x0.getD s28v.2.toNat 0).toNat : Int) 16).toNat 0)] : List UInt8).length 4 (encB ([92, 120, (([48, 49, 50, 51, 52, 53, 54, 55, 56, 57, 97, 98, 99, 100, 101, 102] : List UInt8).getD (IntKind.u8.wrap (Int.tdiv ((x0.getD s28v.2.toNat 0).toNat : Int) 16)).toNat 0), (([48, 49, 50, 51, 52, 53, 54, 55, 56, 57, 97, 98, 99, 100, 101, 102] : List UInt8).getD (Int.tmod ((x0.getD s28v.2.toNat 0).toNat : Int) 16).toNat 0)] : List UInt8)), Row 5 1 y29v.1 s28v.1.length y29v.2 (encB s28v.1), F], [Row 5 1 (some ⟨γ.1, 0, none⟩) ([92, 120, (([48, 49, 50, 51, 52, 53, 54, 55, 56, 57, 97, 98, 99, 100, 101, 102] : List UInt8).getD (IntKind.u8.wrap (Int.tdiv ((x0.getD s28v.2.toNat 0).toNat : Int) 16)).toNat 0), (([48, 49, 50, 51, 52, 53, 54, 55, 56, 57, 97, 98, 99, 100, 101, 102] : List UInt8).getD (Int.tmod ((x0.getD s28v.2.toNat 0).toNat : Int) 16).toNat 0)] : List UInt8).length 4 (encB ([92, 120, (([48, 49, 50, 51, 52, 53, 54, 55, 56, 57, 97, 98, 99, 100, 101, 102] : List UInt8).getD (IntKind.u8.wrap (Int.tdiv ((x0.getD s28v.2.toNat 0).toNat : Int) 16)).toNat 0), (([48, 49, 50, 51, 52, 53, 54, 55, 56, 57, 97, 98, 99, 100, 101, 102] : List UInt8).getD (Int.tmod ((x0.getD s28v.2.toNat 0).toNat : Int) 16).toNat 0)] : List UInt8)), Row 5 1 γ.2.1 (s28v.1 ++ ([92, 120, (([48, 49, 50, 51, 52, 53, 54, 55, 56, 57, 97, 98, 99, 100, 101, 102] : List UInt8).getD (IntKind.u8.wrap (Int.tdiv ((x0.getD s28v.2.toNat 0).toNat : Int) 16)).toNat 0), (([48, 49, 50, 51, 52, 53, 54, 55, 56, 57, 97, 98, 99, 100, 101, 102] : List UInt8).getD (Int.tmod ((x0.getD s28v.2.toNat 0).toNat : Int) 16).toNat 0)] : List UInt8)).length γ.2.2 (encB (s28v.1 ++ ([92, 120, (([48, 49, 50, 51, 52, 53, 54, 55, 56, 57, 97, 98, 99, 100, 101, 102] : List UInt8).getD (IntKind.u8.wrap (Int.tdiv ((x0.getD s28v.2.toNat 0).toNat : Int) 16)).toNat 0), (([48, 49, 50, 51, 52, 53, 54, 55, 56, 57, 97, 98, 99, 100, 101, 102] : List UInt8).getD (Int.tmod ((x0.getD s28v.2.toNat 0).toNat : Int) 16).toNat 0)] : List UInt8))), F]].getD j []) (fun γ => [(0, str x0), (5, .slice γ.2.1 ((s28v.1 ++ ([92, 120, (([48, 49, 50, 51, 52, 53, 54, 55, 56, 57, 97, 98, 99, 100, 101, 102] : List UInt8).getD (IntKind.u8.wrap (Int.tdiv ((x0.getD s28v.2.toNat 0).toNat : Int) 16)).toNat 0), (([48, 49, 50, 51, 52, 53, 54, 55, 56, 57, 97, 98, 99, 100, 101, 102] : List UInt8).getD (Int.tmod ((x0.getD s28v.2.toNat 0).toNat : Int) 16).toNat 0)] : List UInt8)).length) γ.2.2), (6, .int .i64 s28v.2), (53, cv ((decide (((x0.getD s28v.2.toNat 0).toNat : Int) = (34 : Int))) == false) (.int .u8 ((x0.getD s28v.2.toNat 0).toNat : Int))), (54, cv ((decide (((x0.getD s28v.2.toNat 0).toNat : Int) = (34 : Int))) == false) (.bool (decide (((x0.getD s28v.2.toNat 0).toNat : Int) = (92 : Int)))))]) mixed (by decide) (by decide) (by decide) (by decide) (by decide) (by decide) (by decide) 71 rfl (by decide) (by decide) (by decide) (Ent.refl _) ?_ ?_ (fun _ => ⟨rfl, rfl, rfl, rfl, rfl, trivial⟩) ?_
 exact (ac (fun γ => (ac (qm rfl (.o (s := 5) rfl (by decide) .nil) rfl) (ac (qm rfl (.o (s := 5) rfl (by decide) .nil) rfl) zA))) (aq rfl (fun γ => qm rfl (.o (s := 7) rfl (by decide) .nil) rfl) (aq rfl (fun γ => qp rfl rfl (.v 1 rfl rfl .nil) (q_quo rfl rfl rfl (by decide)) rfl) (aq rfl (fun γ => qp rfl rfl (.v 2 rfl rfl .nil) (q_sidx rfl rfl rfl Tryd.underlying9 hi51v.1 hi51v.2) rfl) (aq rfl (fun γ => qm rfl (.o (s := 7) rfl (by decide) .nil) rfl) (aq rfl (fun γ => qp rfl rfl (.v 4 rfl rfl .nil) (q_rem rfl rfl rfl (by decide)) rfl) (aq rfl (fun γ => qp rfl rfl (.v 5 rfl rfl .nil) (q_sidx rfl rfl rfl Tryd.underlying9 hi53v.1 hi53v.2) rfl) (aq rfl (fun γ => qp rfl rfl (.v 8 rfl rfl .nil) (q_asg rfl rfl) rfl) zA))))))))
 exact (ac (fun γ => eo (Z := Nat) (fun z => (z, γ.2)) rfl rfl (.v 3 rfl rfl (.v 6 rfl rfl .nil)) (re_litb (cs := [.int .u8 92, .int .u8 120, .int .u8 ((([48, 49, 50, 51, 52, 53, 54, 55, 56, 57, 97, 98, 99, 100, 101, 102] : List UInt8).getD (IntKind.u8.wrap (Int.tdiv ((x0.getD s28v.2.toNat 0).toNat : Int) 16)).toNat 0).toNat : Int), .int .u8 ((([48, 49, 50, 51, 52, 53, 54, 55, 56, 57, 97, 98, 99, 100, 101, 102] : List UInt8).getD (Int.tmod ((x0.getD s28v.2.toNat 0).toNat : Int) 16).toNat 0).toNat : Int)]) ([92, 120, (([48, 49, 50, 51, 52, 53, 54, 55, 56, 57, 97, 98, 99, 100, 101, 102] : List UInt8).getD (IntKind.u8.wrap (Int.tdiv ((x0.getD s28v.2.toNat 0).toNat : Int) 16)).toNat 0), (([48, 49, 50, 51, 52, 53, 54, 55, 56, 57, 97, 98, 99, 100, 101, 102] : List UInt8).getD (Int.tmod ((x0.getD s28v.2.toNat 0).toNat : Int) 16).toNat 0)] : List UInt8) rfl rfl Tryd.underlying93 elt5 rfl (by kernel_rfl) rfl rfl rfl) (fun _ => ⟨rfl, rfl, rfl, rfl, rfl, rfl, rfl, trivial⟩) (fun _ => .inr rfl) (fun z => Ent.refl _)) (ac (fun γ => eo (Z := Option Addr × Nat) (fun z => (γ.1, z)) rfl rfl (.v 0 rfl rfl (.v 7 rfl rfl .nil)) (re_appendb 1 rfl rfl rfl Tryd.underlying93 elt5 rfl (Rds.row 0 rfl) hb57v) (fun _ => ⟨rfl, rfl, rfl, rfl, rfl, rfl, rfl, rfl, trivial⟩) (fun _ => .inr rfl) (fun z => Ent.refl _)) zA))
 intro g58v
 refine nrm_block (nrm_block (nrm_then (sim_region ?_)))
 refine vm rfl rfl ?_
 refine vq (q_add rfl rfl rfl) rfl ?_
 refine va rfl rfl (simL_nil ?_)
 exact nrm_again (s := (s28v.1 ++ ([92, 120, (([48, 49, 50, 51, 52, 53, 54, 55, 56, 57, 97, 98, 99, 100, 101, 102] : List UInt8).getD (IntKind.u8.wrap (Int.tdiv ((x0.getD s28v.2.toNat 0).toNat : Int) 16)).toNat 0), (([48, 49, 50, 51, 52, 53, 54, 55, 56, 57, 97, 98, 99, 100, 101, 102] : List UInt8).getD (Int.tmod ((x0.getD s28v.2.toNat 0).toNat : Int) 16).toNat 0)] : List UInt8), IntKind.i64.wrap (s28v.2 + 1))) (g58v.2.1, g58v.2.2) ⟨rfl, rfl, rfl, trivial⟩ (.sel 1 rfl (.sel 1 rfl (.nil _)))
 refine sim_exi ?_
 refine exi_then ?_
 refine exi_loop ?_
 refine exi_here ?_
 exact nrm_cut (s := s28v.1) (y29v.1, y29v.2) ⟨rfl, trivial⟩ (.sel 0 rfl (.sel 0 rfl (.nil _)))
 intro s26v y27v
 refine sr ?_
 refine vm rfl rfl ?_
 refine simL_eff (re_litb (cs := [.int .u8 34]) ([34] : List UInt8) rfl rfl Tryd.underlying93 elt5 rfl (by kernel_rfl) rfl rfl rfl) rfl rfl rfl ?_
 intro b61v
 refine simL_ask (fun hb64v => ?_)
 refine simL_eff (re_appendb 1 rfl rfl rfl Tryd.underlying93 elt5 rfl (Rds.row 0 rfl) hb64v) rfl rfl rfl ?_
 intro y63v
 refine vq (q_tostr rfl rfl Tryd.underlying93 Tryd.underlying5 Tryd.underlying9 (Rds.row 1 rfl) rfl) rfl ?_
 refine va rfl rfl (simL_nil (nrm_then (sim_rtn ?_)))
 exact rtn_fn () rfl rfl rfl (.sel 2 rfl (.nil _))

def text_within.f (x0 : Int) : Option (Bool) := some ((decide ((-4611686018427387904) ≤ x0)) && (decide (x0 ≤ (4611686018427387904 : Int))))
theorem text_within.calls (W : World) (F : HA) (x0 : Int)  :
    Fn Tryd.prog W 49 [.int .i64 x0] [] F (text_within.f x0) (fun (r : Bool) (y : Unit) => .bool r) (fun r y => []) := by
 unfold text_within.f
 refine fn_intro 9 Tryd.func49 rfl Tryd.ntmps49 rfl ?_
 refine sr ?_
 refine va rfl rfl (nx ?_)
 refine vm rfl rfl ?_
 refine vq (q_geq rfl rfl rfl) rfl ?_
 refine vm rfl rfl ?_
 refine simL_valc (b := decide ((-4611686018427387904) ≤ x0)) (fun hb2v => RQ.sub (E' := [(0, .int .i64 x0)]) ⟨rfl, trivial⟩ (q_move rfl rfl)) rfl rfl rfl rfl rfl ?_
 refine simL_valc (b := decide ((-4611686018427387904) ≤ x0)) (fun hb1v => RQ.sub (E' := [(6, .int .i64 x0)]) ⟨lk_cv rfl hb1v, trivial⟩ (q_leq rfl rfl rfl)) rfl rfl rfl rfl rfl ?_
 refine vq (q_and rfl rfl rfl) rfl ?_
 refine va rfl rfl (simL_nil (nrm_then (sim_rtn ?_)))
 exact rtn_fn () rfl rfl rfl (.sel 0 rfl (.nil _))

def strconv_Itoa.f (x0 : Int) : Option (List UInt8) := if -9223372036854775808 ≤ x0 ∧ x0 ≤ 9223372036854775807 then some (Lib.itoa x0) else none
theorem strconv_Itoa.calls (W : World) (F : HA) (x0 : Int) (hgl : Glb Tryd.prog F) :
    Fn Tryd.prog W 51 [.int .i64 x0] [] F (strconv_Itoa.f x0) (fun (r : List UInt8) (y : Unit) => str r) (fun r y => []) := by
  unfold strconv_Itoa.f
  exact fn_ask (fun h => fn_itoa hgl (fun w ht => Any.strconv_Itoa shL171 x0 h.1 h.2 w ht))

def text_FormatAct.l1 (x0_0 : Int) (x0_1 : Int) (x0_2 : Int) (x0_3 : Int) (x0_4 : Int) (x0_5 : Int) (x0_6 : List UInt8) (x0_7 : List UInt8) (x0_8 : List UInt8) (s2v : List UInt8 × Int × Int × Int × Int × Int × Int × List UInt8 × List UInt8 × List UInt8 × (List (Ty103)) × Int) : Nat → Int → List UInt8 → Int → Option (Int × List UInt8)
  | 0, _, _, _ => none
  | k + 1, z97v, z98v, z99v => if z99v < (s2v.2.2.2.2.2.2.2.2.2.2.1.length : Int) then (if 0 ≤ z99v ∧ z99v < (s2v.2.2.2.2.2.2.2.2.2.2.1.length : Int) then (if (((s2v.2.2.2.2.2.2.2.2.2.2.1.getD z99v.toNat dz103).2.1).isSome) = true then (if (s2v.2.2.2.2.2.2.2.2.2.2.1.getD z99v.toNat dz103).2.1 = some 70 then ((text_lines_6.f x0_0 x0_1 x0_2 x0_3 x0_4 x0_5 x0_6 x0_7 x0_8).bind fun s114v => ((text_Quote.f k x0_6).bind fun s117v => (if ([32] : List UInt8).length + s117v.length ≤ 9223372036854775807 then (if z98v.length + (([32] : List UInt8) ++ s117v).length ≤ 9223372036854775807 then (text_FormatAct.l1 x0_0 x0_1 x0_2 x0_3 x0_4 x0_5 x0_6 x0_7 x0_8 s2v k z97v (z98v ++ (([32] : List UInt8) ++ s117v)) (IntKind.i64.wrap (z99v + 1))) else none) else none))) else (if (s2v.2.2.2.2.2.2.2.2.2.2.1.getD z99v.toNat dz103).2.1 = some 71 then ((text_lines_7.f x0_0 x0_1 x0_2 x0_3 x0_4 x0_5 x0_6 x0_7 x0_8).bind fun s123v => ((text_Quote.f k x0_7).bind fun s126v => (if ([32] : List UInt8).length + s126v.length ≤ 9223372036854775807 then (if z98v.length + (([32] : List UInt8) ++ s126v).length ≤ 9223372036854775807 then (text_FormatAct.l1 x0_0 x0_1 x0_2 x0_3 x0_4 x0_5 x0_6 x0_7 x0_8 s2v k z97v (z98v ++ (([32] : List UInt8) ++ s126v)) (IntKind.i64.wrap (z99v + 1))) else none) else none))) else (if (s2v.2.2.2.2.2.2.2.2.2.2.1.getD z99v.toNat dz103).2.1 = some 72 then ((text_lines_8.f x0_0 x0_1 x0_2 x0_3 x0_4 x0_5 x0_6 x0_7 x0_8).bind fun s132v => ((text_Quote.f k x0_8).bind fun s135v => (if ([32] : List UInt8).length + s135v.length ≤ 9223372036854775807 then (if z98v.length + (([32] : List UInt8) ++ s135v).length ≤ 9223372036854775807 then (text_FormatAct.l1 x0_0 x0_1 x0_2 x0_3 x0_4 x0_5 x0_6 x0_7 x0_8 s2v k z97v (z98v ++ (([32] : List UInt8) ++ s135v)) (IntKind.i64.wrap (z99v + 1))) else none) else none))) else (none)))) else (if (s2v.2.2.2.2.2.2.2.2.2.2.1.getD z99v.toNat dz103).1 = some 65 then ((text_lines_1.f x0_0 x0_1 x0_2 x0_3 x0_4 x0_5 x0_6 x0_7 x0_8).bind fun s141v => ((text_within.f x0_1).bind fun s144v => (if (!s144v) = true then (text_FormatAct.l1 x0_0 x0_1 x0_2 x0_3 x0_4 x0_5 x0_6 x0_7 x0_8 s2v k 1 z98v (IntKind.i64.wrap (z99v + 1))) else (if ((s2v.2.2.2.2.2.2.2.2.2.2.1.getD z99v.toNat dz103).2.2) = true then ((text_picks.f).bind fun s151v => (if 0 ≤ IntKind.i64.wrap (x0_3 - 1) ∧ IntKind.i64.wrap (x0_3 - 1) < (s151v.length : Int) then (if ([32] : List UInt8).length + (s151v.getD (IntKind.i64.wrap (x0_3 - 1)).toNat ([] : List UInt8)).length ≤ 9223372036854775807 then (if z98v.length + (([32] : List UInt8) ++ (s151v.getD (IntKind.i64.wrap (x0_3 - 1)).toNat ([] : List UInt8))).length ≤ 9223372036854775807 then (text_FormatAct.l1 x0_0 x0_1 x0_2 x0_3 x0_4 x0_5 x0_6 x0_7 x0_8 s2v k z97v (z98v ++ (([32] : List UInt8) ++ (s151v.getD (IntKind.i64.wrap (x0_3 - 1)).toNat ([] : List UInt8)))) (IntKind.i64.wrap (z99v + 1))) else none) else none) else none)) else ((text_lines_1.f x0_0 x0_1 x0_2 x0_3 x0_4 x0_5 x0_6 x0_7 x0_8).bind fun s158v => ((strconv_Itoa.f x0_1).bind fun s161v => (if ([32] : List UInt8).length + s161v.length ≤ 9223372036854775807 then (if z98v.length + (([32] : List UInt8) ++ s161v).length ≤ 9223372036854775807 then (text_FormatAct.l1 x0_0 x0_1 x0_2 x0_3 x0_4 x0_5 x0_6 x0_7 x0_8 s2v k z97v (z98v ++ (([32] : List UInt8) ++ s161v)) (IntKind.i64.wrap (z99v + 1))) else none) else none))))))) else (if (s2v.2.2.2.2.2.2.2.2.2.2.1.getD z99v.toNat dz103).1 = some 66 then ((text_lines_2.f x0_0 x0_1 x0_2 x0_3 x0_4 x0_5 x0_6 x0_7 x0_8).bind fun s167v => ((text_within.f x0_2).bind fun s170v => (if (!s170v) = true then (text_FormatAct.l1 x0_0 x0_1 x0_2 x0_3 x0_4 x0_5 x0_6 x0_7 x0_8 s2v k 1 z98v (IntKind.i64.wrap (z99v + 1))) else (if ((s2v.2.2.2.2.2.2.2.2.2.2.1.getD z99v.toNat dz103).2.2) = true then ((text_picks.f).bind fun s177v => (if 0 ≤ IntKind.i64.wrap (x0_3 - 1) ∧ IntKind.i64.wrap (x0_3 - 1) < (s177v.length : Int) then (if ([32] : List UInt8).length + (s177v.getD (IntKind.i64.wrap (x0_3 - 1)).toNat ([] : List UInt8)).length ≤ 9223372036854775807 then (if z98v.length + (([32] : List UInt8) ++ (s177v.getD (IntKind.i64.wrap (x0_3 - 1)).toNat ([] : List UInt8))).length ≤ 9223372036854775807 then (text_FormatAct.l1 x0_0 x0_1 x0_2 x0_3 x0_4 x0_5 x0_6 x0_7 x0_8 s2v k z97v (z98v ++ (([32] : List UInt8) ++ (s177v.getD (IntKind.i64.wrap (x0_3 - 1)).toNat ([] : List UInt8)))) (IntKind.i64.wrap (z99v + 1))) else none) else none) else none)) else ((text_lines_2.f x0_0 x0_1 x0_2 x0_3 x0_4 x0_5 x0_6 x0_7 x0_8).bind fun s184v => ((strconv_Itoa.f x0_2).bind fun s187v => (if ([32] : List UInt8).length + s187v.length ≤ 9223372036854775807 then (if z98v.length + (([32] : List UInt8) ++ s187v).length ≤ 9223372036854775807 then (text_FormatAct.l1 x0_0 x0_1 x0_2 x0_3 x0_4 x0_5 x0_6 x0_7 x0_8 s2v k z97v (z98v ++ (([32] : List UInt8) ++ s187v)) (IntKind.i64.wrap (z99v + 1))) else none) else none))))))) else (if (s2v.2.2.2.2.2.2.2.2.2.2.1.getD z99v.toNat dz103).1 = some 67 then ((text_lines_3.f x0_0 x0_1 x0_2 x0_3 x0_4 x0_5 x0_6 x0_7 x0_8).bind fun s193v => ((text_within.f x0_3).bind fun s196v => (if (!s196v) = true then (text_FormatAct.l1 x0_0 x0_1 x0_2 x0_3 x0_4 x0_5 x0_6 x0_7 x0_8 s2v k 1 z98v (IntKind.i64.wrap (z99v + 1))) else (if ((s2v.2.2.2.2.2.2.2.2.2.2.1.getD z99v.toNat dz103).2.2) = true then ((text_picks.f).bind fun s203v => (if 0 ≤ IntKind.i64.wrap (x0_3 - 1) ∧ IntKind.i64.wrap (x0_3 - 1) < (s203v.length : Int) then (if ([32] : List UInt8).length + (s203v.getD (IntKind.i64.wrap (x0_3 - 1)).toNat ([] : List UInt8)).length ≤ 9223372036854775807 then (if z98v.length + (([32] : List UInt8) ++ (s203v.getD (IntKind.i64.wrap (x0_3 - 1)).toNat ([] : List UInt8))).length ≤ 9223372036854775807 then (text_FormatAct.l1 x0_0 x0_1 x0_2 x0_3 x0_4 x0_5 x0_6 x0_7 x0_8 s2v k z97v (z98v ++ (([32] : List UInt8) ++ (s203v.getD (IntKind.i64.wrap (x0_3 - 1)).toNat ([] : List UInt8)))) (IntKind.i64.wrap (z99v + 1))) else none) else none) else none)) else ((text_lines_3.f x0_0 x0_1 x0_2 x0_3 x0_4 x0_5 x0_6 x0_7 x0_8).bind fun s210v => ((strconv_Itoa.f x0_3).bind fun s213v => (if ([32] : List UInt8).length + s213v.length ≤ 9223372036854775807 then (if z98v.length + (([32] : List UInt8) ++ s213v).length ≤ 9223372036854775807 then (text_FormatAct.l1 x0_0 x0_1 x0_2 x0_3 x0_4 x0_5 x0_6 x0_7 x0_8 s2v k z97v (z98v ++ (([32] : List UInt8) ++ s213v)) (IntKind.i64.wrap (z99v + 1))) else none) else none))))))) else (if (s2v.2.2.2.2.2.2.2.2.2.2.1.getD z99v.toNat dz103).1 = some 68 then ((text_lines_4.f x0_0 x0_1 x0_2 x0_3 x0_4 x0_5 x0_6 x0_7 x0_8).bind fun s219v => ((text_within.f x0_4).bind fun s222v => (if (!s222v) = true then (text_FormatAct.l1 x0_0 x0_1 x0_2 x0_3 x0_4 x0_5 x0_6 x0_7 x0_8 s2v k 1 z98v (IntKind.i64.wrap (z99v + 1))) else (if ((s2v.2.2.2.2.2.2.2.2.2.2.1.getD z99v.toNat dz103).2.2) = true then ((text_picks.f).bind fun s229v => (if 0 ≤ IntKind.i64.wrap (x0_3 - 1) ∧ IntKind.i64.wrap (x0_3 - 1) < (s229v.length : Int) then (if ([32] : List UInt8).length + (s229v.getD (IntKind.i64.wrap (x0_3 - 1)).toNat ([] : List UInt8)).length ≤ 9223372036854775807 then (if z98v.length + (([32] : List UInt8) ++ (s229v.getD (IntKind.i64.wrap (x0_3 - 1)).toNat ([] : List UInt8))).length ≤ 9223372036854775807 then (text_FormatAct.l1 x0_0 x0_1 x0_2 x0_3 x0_4 x0_5 x0_6 x0_7 x0_8 s2v k z97v (z98v ++ (([32] : List UInt8) ++ (s229v.getD (IntKind.i64.wrap (x0_3 - 1)).toNat ([] : List UInt8)))) (IntKind.i64.wrap (z99v + 1))) else none) else none) else none)) else ((text_lines_4.f x0_0 x0_1 x0_2 x0_3 x0_4 x0_5 x0_6 x0_7 x0_8).bind fun s236v => ((strconv_Itoa.f x0_4).bind fun s239v => (if ([32] : List UInt8).length + s239v.length ≤ 9223372036854775807 then (if z98v.length + (([32] : List UInt8) ++ s239v).length ≤ 9223372036854775807 then (text_FormatAct.l1 x0_0 x0_1 x0_2 x0_3 x0_4 x0_5 x0_6 x0_7 x0_8 s2v k z97v (z98v ++ (([32] : List UInt8) ++ s239v)) (IntKind.i64.wrap (z99v + 1))) else none) else none))))))) else (if (s2v.2.2.2.2.2.2.2.2.2.2.1.getD z99v.toNat dz103).1 = some 69 then ((text_lines_5.f x0_0 x0_1 x0_2 x0_3 x0_4 x0_5 x0_6 x0_7 x0_8).bind fun s245v => ((text_within.f x0_3).bind fun s248v => (if (!s248v) = true then (text_FormatAct.l1 x0_0 x0_1 x0_2 x0_3 x0_4 x0_5 x0_6 x0_7 x0_8 s2v k 1 z98v (IntKind.i64.wrap (z99v + 1))) else (if ((s2v.2.2.2.2.2.2.2.2.2.2.1.getD z99v.toNat dz103).2.2) = true then ((text_picks.f).bind fun s255v => (if 0 ≤ IntKind.i64.wrap (x0_3 - 1) ∧ IntKind.i64.wrap (x0_3 - 1) < (s255v.length : Int) then (if ([32] : List UInt8).length + (s255v.getD (IntKind.i64.wrap (x0_3 - 1)).toNat ([] : List UInt8)).length ≤ 9223372036854775807 then (if z98v.length + (([32] : List UInt8) ++ (s255v.getD (IntKind.i64.wrap (x0_3 - 1)).toNat ([] : List UInt8))).length ≤ 9223372036854775807 then (text_FormatAct.l1 x0_0 x0_1 x0_2 x0_3 x0_4 x0_5 x0_6 x0_7 x0_8 s2v k z97v (z98v ++ (([32] : List UInt8) ++ (s255v.getD (IntKind.i64.wrap (x0_3 - 1)).toNat ([] : List UInt8)))) (IntKind.i64.wrap (z99v + 1))) else none) else none) else none)) else ((text_lines_5.f x0_0 x0_1 x0_2 x0_3 x0_4 x0_5 x0_6 x0_7 x0_8).bind fun s262v => ((strconv_Itoa.f x0_3).bind fun s265v => (if ([32] : List UInt8).length + s265v.length ≤ 9223372036854775807 then (if z98v.length + (([32] : List UInt8) ++ s265v).length ≤ 9223372036854775807 then (text_FormatAct.l1 x0_0 x0_1 x0_2 x0_3 x0_4 x0_5 x0_6 x0_7 x0_8 s2v k z97v (z98v ++ (([32] : List UInt8) ++ s265v)) (IntKind.i64.wrap (z99v + 1))) else none) else none))))))) else (none))))))) else none) else (some (z97v, z98v))
def text_FormatAct.l0 (x0_5 : Int) (s2v : List UInt8 × Int × Int × Int × Int × Int × Int × List UInt8 × List UInt8 × List UInt8 × (List (Ty103)) × Int) : Nat → Int → Int → Int → Int → Int → List UInt8 → List UInt8 → List UInt8 → Option (Int × Int × Int × Int × List UInt8 × List UInt8 × List UInt8)
  | 0, _, _, _, _, _, _, _, _ => none
  | k + 1, z19v, z20v, z21v, z22v, z23v, z24v, z25v, z26v => if z19v < (s2v.2.2.2.2.2.2.2.2.2.2.1.length : Int) then (if 0 ≤ z19v ∧ z19v < (s2v.2.2.2.2.2.2.2.2.2.2.1.length : Int) then (if (((s2v.2.2.2.2.2.2.2.2.2.2.1.getD z19v.toNat dz103).2.1).isSome) = true then (if (s2v.2.2.2.2.2.2.2.2.2.2.1.getD z19v.toNat dz103).2.1 = some 70 then ((text_lines_6.f (0 : Int) z20v z21v z22v z23v (IntKind.i64.wrap (x0_5 - s2v.2.2.2.2.2.2.1)) z24v z25v z26v).bind fun s41v => (text_FormatAct.l0 x0_5 s2v k (IntKind.i64.wrap (z19v + 1)) z20v z21v z22v z23v ([] : List UInt8) z25v z26v)) else (if (s2v.2.2.2.2.2.2.2.2.2.2.1.getD z19v.toNat dz103).2.1 = some 71 then ((text_lines_7.f (0 : Int) z20v z21v z22v z23v (IntKind.i64.wrap (x0_5 - s2v.2.2.2.2.2.2.1)) z24v z25v z26v).bind fun s45v => (text_FormatAct.l0 x0_5 s2v k (IntKind.i64.wrap (z19v + 1)) z20v z21v z22v z23v z24v ([] : List UInt8) z26v)) else (if (s2v.2.2.2.2.2.2.2.2.2.2.1.getD z19v.toNat dz103).2.1 = some 72 then ((text_lines_8.f (0 : Int) z20v z21v z22v z23v (IntKind.i64.wrap (x0_5 - s2v.2.2.2.2.2.2.1)) z24v z25v z26v).bind fun s49v => (text_FormatAct.l0 x0_5 s2v k (IntKind.i64.wrap (z19v + 1)) z20v z21v z22v z23v z24v z25v ([] : List UInt8))) else (none)))) else (if (s2v.2.2.2.2.2.2.2.2.2.2.1.getD z19v.toNat dz103).1 = some 65 then ((text_lines_1.f (0 : Int) z20v z21v z22v z23v (IntKind.i64.wrap (x0_5 - s2v.2.2.2.2.2.2.1)) z24v z25v z26v).bind fun s53v => (text_FormatAct.l0 x0_5 s2v k (IntKind.i64.wrap (z19v + 1)) 0 z21v z22v z23v z24v z25v z26v)) else (if (s2v.2.2.2.2.2.2.2.2.2.2.1.getD z19v.toNat dz103).1 = some 66 then ((text_lines_2.f (0 : Int) z20v z21v z22v z23v (IntKind.i64.wrap (x0_5 - s2v.2.2.2.2.2.2.1)) z24v z25v z26v).bind fun s57v => (text_FormatAct.l0 x0_5 s2v k (IntKind.i64.wrap (z19v + 1)) z20v 0 z22v z23v z24v z25v z26v)) else (if (s2v.2.2.2.2.2.2.2.2.2.2.1.getD z19v.toNat dz103).1 = some 67 then ((text_lines_3.f (0 : Int) z20v z21v z22v z23v (IntKind.i64.wrap (x0_5 - s2v.2.2.2.2.2.2.1)) z24v z25v z26v).bind fun s61v => (text_FormatAct.l0 x0_5 s2v k (IntKind.i64.wrap (z19v + 1)) z20v z21v 0 z23v z24v z25v z26v)) else (if (s2v.2.2.2.2.2.2.2.2.2.2.1.getD z19v.toNat dz103).1 = some 68 then ((text_lines_4.f (0 : Int) z20v z21v z22v z23v (IntKind.i64.wrap (x0_5 - s2v.2.2.2.2.2.2.1)) z24v z25v z26v).bind fun s65v => (text_FormatAct.l0 x0_5 s2v k (IntKind.i64.wrap (z19v + 1)) z20v z21v z22v 0 z24v z25v z26v)) else (if (s2v.2.2.2.2.2.2.2.2.2.2.1.getD z19v.toNat dz103).1 = some 69 then ((text_lines_5.f (0 : Int) z20v z21v z22v z23v (IntKind.i64.wrap (x0_5 - s2v.2.2.2.2.2.2.1)) z24v z25v z26v).bind fun s69v => (text_FormatAct.l0 x0_5 s2v k (IntKind.i64.wrap (z19v + 1)) z20v z21v 0 z23v z24v z25v z26v)) else (none))))))) else none) else (some (z20v, z21v, z22v, z23v, z24v, z25v, z26v))
def text_FormatAct.f (k : Nat) (x0_0 : Int) (x0_1 : Int) (x0_2 : Int) (x0_3 : Int) (x0_4 : Int) (x0_5 : Int) (x0_6 : List UInt8) (x0_7 : List UInt8) (x0_8 : List UInt8) : Option (List UInt8 × Int) := (text_named.f k x0_0 x0_1 x0_2 x0_3 x0_4 x0_5 x0_6 x0_7 x0_8).bind fun s2v => (if s2v.2.2.2.2.2.2.2.2.2.2.2 = (0 : Int) then ((if x0_0 = (8 : Int) then (some 0) else (some x0_4)).bind fun s11v => ((text_FormatAct.l0 x0_5 s2v k 0 x0_1 x0_2 x0_3 s11v x0_6 x0_7 x0_8).bind fun s15v => (if (!(decide ((0 : Int) = (0 : Int)) && (decide (s15v.1 = (0 : Int)) && (decide (s15v.2.1 = (0 : Int)) && (decide (s15v.2.2.1 = (0 : Int)) && (decide (s15v.2.2.2.1 = (0 : Int)) && (decide (IntKind.i64.wrap (x0_5 - s2v.2.2.2.2.2.2.1) = (0 : Int)) && (decide (s15v.2.2.2.2.1 = ([] : List UInt8)) && (decide (s15v.2.2.2.2.2.1 = ([] : List UInt8)) && (decide (s15v.2.2.2.2.2.2 = ([] : List UInt8)))))))))))) = true then (some (([] : List UInt8), 4)) else ((if x0_0 = (2 : Int) then (some ((decide (x0_3 < (1 : Int))) || (decide ((9 : Int) < x0_3)))) else (some false)).bind fun s74v => (if s74v = true then (some (([] : List UInt8), 20)) else ((if ((decide (x0_0 = (8 : Int))) && (!decide (x0_4 = s2v.2.2.2.2.2.1))) = true then (some 1) else (some s2v.2.2.2.2.2.2.2.2.2.2.2)).bind fun s83v => ((text_FormatAct.l1 x0_0 x0_1 x0_2 x0_3 x0_4 x0_5 x0_6 x0_7 x0_8 s2v k s83v s2v.1 0).bind fun s93v => ((if ((decide (s93v.1 = (0 : Int))) && (decide ((4096 : Int) < (s93v.2.length : Int)))) = true then (some 3) else (some s93v.1)).bind fun s270v => (if s270v = (0 : Int) then (some (s93v.2, 0)) else (some (([] : List UInt8), s270v))))))))))) else (some (([] : List UInt8), s2v.2.2.2.2.2.2.2.2.2.2.2)))
theorem text_FormatAct.calls (W : World) (F : HA) (k : Nat) (x0_0 : Int) (x0_1 : Int) (x0_2 : Int) (x0_3 : Int) (x0_4 : Int) (x0_5 : Int) (x0_6 : List UInt8) (x0_7 : List UInt8) (x0_8 : List UInt8) (hgl : Glb Tryd.prog F) :
    Fn Tryd.prog W 20 [.agg #[.int .i64 x0_0, .int .i64 x0_1, .int .i64 x0_2, .int .i64 x0_3, .int .i64 x0_4, .int .i64 x0_5, str x0_6, str x0_7, str x0_8]] [] F (text_FormatAct.f k x0_0 x0_1 x0_2 x0_3 x0_4 x0_5 x0_6 x0_7 x0_8) (fun (r : List UInt8 × Int) (y : Unit) => .tuple #[str r.1, .int .i64 r.2]) (fun r y => []) := by
 unfold text_FormatAct.f
 refine fn_intro 142 Tryd.func20 rfl Tryd.ntmps20 rfl ?_
 refine sr ?_
 refine simL_eff (re_box rfl rfl rfl) rfl rfl rfl ?_
 intro b1v
 refine va rfl rfl ?_
 refine va rfl rfl (nx ?_)
 refine vq (q_loado 0 rfl rfl Tryd.isAgg34 Tryd.sizeOf34 rfl rfl) rfl ?_
 refine simL_bind (fun s2v hs3v => ?_)
 refine simL_eff (re_call (vs := [.agg #[.int .i64 x0_0, .int .i64 x0_1, .int .i64 x0_2, .int .i64 x0_3, .int .i64 x0_4, .int .i64 x0_5, str x0_6, str x0_7, str x0_8]]) (cap := []) (A := []) (rst := [obj b1v 34 [.int .i64 x0_0, .int .i64 x0_1, .int .i64 x0_2, .int .i64 x0_3, .int .i64 x0_4, .int .i64 x0_5, str x0_6, str x0_7, str x0_8], F]) rfl rfl rfl rfl rfl rfl Tryd.call48 (.sel 0 rfl (.sel 0 rfl (.nil _))) (text_named.calls _ _ k x0_0 x0_1 x0_2 x0_3 x0_4 x0_5 x0_6 x0_7 x0_8 ) hs3v) rfl rfl rfl ?_
 intro y4v
 refine simL_pr (fun hp5v => ?_)
 refine vm rfl rfl ?_
 refine vq (q_ext rfl rfl rfl) rfl ?_
 refine vq (q_ext rfl rfl rfl) rfl ?_
 refine simL_eff (re_alloc rfl Tryd.zeroValue99 rfl) rfl rfl rfl ?_
 intro b6v
 refine simL_do (re_store 0 rfl rfl rfl Tryd.sizeOf99 rfl rfl (one_of (by rfl)) rfl rfl) rfl rfl ?_
 intro _
 refine simL_ent (H' := [obj b6v 99 [str s2v.1, .int .i64 s2v.2.1, .int .i64 s2v.2.2.1, .int .i64 s2v.2.2.2.1, .int .i64 s2v.2.2.2.2.1, .int .i64 s2v.2.2.2.2.2.1, .int .i64 s2v.2.2.2.2.2.2.1, str s2v.2.2.2.2.2.2.2.1, str s2v.2.2.2.2.2.2.2.2.1, str s2v.2.2.2.2.2.2.2.2.2.1, .slice y4v.1 s2v.2.2.2.2.2.2.2.2.2.2.1.length y4v.2.1], y4v.2.2, obj b1v 34 [.int .i64 x0_0, .int .i64 x0_1, .int .i64 x0_2, .int .i64 x0_3, .int .i64 x0_4, .int .i64 x0_5, str x0_6, str x0_7, str x0_8], F]) (Ent.refl _) ?_
 refine va rfl rfl (simL_nil (nrm_then (sim_seq (sr ?_))))
 refine vm rfl rfl ?_
 refine vq (q_neq rfl rfl rfl) rfl (simL_nil (nrm_then ?_))
 refine sim_condn rfl (fun h7v => ?_) (fun h8v => ?_)
 refine sim_skip ?_
 refine nrm_then (sr ?_)
 refine vq (q_loado 2 rfl rfl Tryd.isAgg34 Tryd.sizeOf34 rfl rfl) rfl ?_
 refine simL_eff (re_alloc rfl Tryd.zeroValue34 rfl) rfl rfl rfl ?_
 intro b9v
 refine simL_do (re_store 0 rfl rfl rfl Tryd.sizeOf34 rfl rfl (one_of (by rfl)) rfl rfl) rfl rfl ?_
 intro _
 refine simL_ent (H' := [obj b9v 34 [.int .i64 x0_0, .int .i64 x0_1, .int .i64 x0_2, .int .i64 x0_3, .int .i64 x0_4, .int .i64 x0_5, str x0_6, str x0_7, str x0_8], obj b6v 99 [str s2v.1, .int .i64 s2v.2.1, .int .i64 s2v.2.2.1, .int .i64 s2v.2.2.2.1, .int .i64 s2v.2.2.2.2.1, .int .i64 s2v.2.2.2.2.2.1, .int .i64 s2v.2.2.2.2.2.2.1, str s2v.2.2.2.2.2.2.2.1, str s2v.2.2.2.2.2.2.2.2.1, str s2v.2.2.2.2.2.2.2.2.2.1, .slice y4v.1 s2v.2.2.2.2.2.2.2.2.2.2.1.length y4v.2.1], y4v.2.2, obj b1v 34 [.int .i64 x0_0, .int .i64 x0_1, .int .i64 x0_2, .int .i64 x0_3, .int .i64 x0_4, .int .i64 x0_5, str x0_6, str x0_7, str x0_8], F]) (Ent.refl _) ?_
 refine simL_nil (nrm_then (sim_seq ?_))
 refine sim_draw (Γ := Unit) () [[], [0], [], [2], [2, 3], rL 5, [0, 1], [0, 1, 6], rL 8, rL 9] [7, 9] [0, 1, 2, 3, 4, 5, 6, 8] (fun i => [[0], [0], [0, 1], [0, 1], [0, 1], [0, 1], [0], [], [1], []].getD i []) (fun i => [[], [], [], [], [], [], [], rL 7, [], rL 9].getD i []) (fun γ i => [.pointer (some ⟨b9v, 5, none⟩), .int .i64 x0_5, .pointer (some ⟨b6v, 1, none⟩), .pointer (some ⟨b6v, 6, none⟩), .int .i64 s2v.2.2.2.2.2.2.1, .int .i64 (IntKind.i64.wrap (x0_5 - s2v.2.2.2.2.2.2.1)), .pointer (some ⟨b9v, 0, none⟩), undef, .pointer (some ⟨b9v, 5, none⟩), undef].getD i undef) (fun j γ => [[obj b9v 34 [.int .i64 x0_0, .int .i64 x0_1, .int .i64 x0_2, .int .i64 x0_3, .int .i64 x0_4, .int .i64 x0_5, str x0_6, str x0_7, str x0_8], obj b6v 99 [str s2v.1, .int .i64 s2v.2.1, .int .i64 s2v.2.2.1, .int .i64 s2v.2.2.2.1, .int .i64 s2v.2.2.2.2.1, .int .i64 s2v.2.2.2.2.2.1, .int .i64 s2v.2.2.2.2.2.2.1, str s2v.2.2.2.2.2.2.2.1, str s2v.2.2.2.2.2.2.2.2.1, str s2v.2.2.2.2.2.2.2.2.2.1, .slice y4v.1 s2v.2.2.2.2.2.2.2.2.2.2.1.length y4v.2.1], y4v.2.2, obj b1v 34 [.int .i64 x0_0, .int .i64 x0_1, .int .i64 x0_2, .int .i64 x0_3, .int .i64 x0_4, .int .i64 x0_5, str x0_6, str x0_7, str x0_8], F], [obj b9v 34 [.int .i64 0, .int .i64 x0_1, .int .i64 x0_2, .int .i64 x0_3, .int .i64 x0_4, .int .i64 x0_5, str x0_6, str x0_7, str x0_8], obj b6v 99 [str s2v.1, .int .i64 s2v.2.1, .int .i64 s2v.2.2.1, .int .i64 s2v.2.2.2.1, .int .i64 s2v.2.2.2.2.1, .int .i64 s2v.2.2.2.2.2.1, .int .i64 s2v.2.2.2.2.2.2.1, str s2v.2.2.2.2.2.2.2.1, str s2v.2.2.2.2.2.2.2.2.1, str s2v.2.2.2.2.2.2.2.2.2.1, .slice y4v.1 s2v.2.2.2.2.2.2.2.2.2.2.1.length y4v.2.1], y4v.2.2, obj b1v 34 [.int .i64 x0_0, .int .i64 x0_1, .int .i64 x0_2, .int .i64 x0_3, .int .i64 x0_4, .int .i64 x0_5, str x0_6, str x0_7, str x0_8], F], [obj b9v 34 [.int .i64 0, .int .i64 x0_1, .int .i64 x0_2, .int .i64 x0_3, .int .i64 x0_4, .int .i64 (IntKind.i64.wrap (x0_5 - s2v.2.2.2.2.2.2.1)), str x0_6, str x0_7, str x0_8], obj b6v 99 [str s2v.1, .int .i64 s2v.2.1, .int .i64 s2v.2.2.1, .int .i64 s2v.2.2.2.1, .int .i64 s2v.2.2.2.2.1, .int .i64 s2v.2.2.2.2.2.1, .int .i64 s2v.2.2.2.2.2.2.1, str s2v.2.2.2.2.2.2.2.1, str s2v.2.2.2.2.2.2.2.2.1, str s2v.2.2.2.2.2.2.2.2.2.1, .slice y4v.1 s2v.2.2.2.2.2.2.2.2.2.2.1.length y4v.2.1], y4v.2.2, obj b1v 34 [.int .i64 x0_0, .int .i64 x0_1, .int .i64 x0_2, .int .i64 x0_3, .int .i64 x0_4, .int .i64 x0_5, str x0_6, str x0_7, str x0_8], F]].getD j []) (fun γ => [(1, .pointer (some ⟨b1v, 0, none⟩)), (4, .pointer (some ⟨b6v, 0, none⟩)), (5, .int .i64 s2v.2.2.2.2.2.2.2.2.2.2.2), (6, .pointer (some ⟨b9v, 0, none⟩))]) mixed (by decide) (by decide) (by decide) (by decide) (by decide) (by decide) (by decide) 142 rfl (by decide) (by decide) (by decide) (Ent.refl _) ?_ ?_ (fun _ => ⟨rfl, rfl, rfl, rfl, trivial⟩) ?_
 exact (aq rfl (fun γ => qp rfl rfl (.o (s := 6) rfl (by decide) .nil) (q_fa rfl rfl Tryd.underlying34 rfl rfl Tryd.sizeOf3 rfl) rfl) (aq rfl (fun γ => qp rfl rfl (.v 0 rfl rfl .nil) (q_load rfl rfl Tryd.isAgg3 (.obj 0 rfl rfl)) rfl) (ac (fun γ => (ac (qp rfl rfl (.o (s := 4) rfl (by decide) .nil) (q_fa rfl rfl Tryd.underlying99 rfl rfl Tryd.sizeOf34 rfl) rfl) (ac (qp rfl rfl (.o (s := 4) rfl (by decide) .nil) (q_fa rfl rfl Tryd.underlying99 rfl rfl Tryd.sizeOf34 rfl) rfl) zA))) (ac (fun γ => (ac (qp rfl rfl (.v 2 rfl rfl .nil) (q_fa rfl rfl Tryd.underlying34 rfl rfl Tryd.sizeOf3 rfl) rfl) (ac (qp rfl rfl (.v 2 rfl rfl .nil) (q_fa rfl rfl Tryd.underlying34 rfl rfl Tryd.sizeOf3 rfl) rfl) zA))) (ac (fun γ => (ac (qp rfl rfl (.v 3 rfl rfl .nil) (q_load rfl rfl Tryd.isAgg3 (.obj 1 rfl rfl)) rfl) (ac (qp rfl rfl (.v 3 rfl rfl .nil) (q_load rfl rfl Tryd.isAgg3 (.obj 1 rfl rfl)) rfl) zA))) (ac (fun γ => (ac (qp rfl rfl (.v 1 rfl rfl (.v 4 rfl rfl .nil)) (q_sub rfl rfl rfl) rfl) (ac (qp rfl rfl (.v 1 rfl rfl (.v 4 rfl rfl .nil)) (q_sub rfl rfl rfl) rfl) zA))) (aq rfl (fun γ => qp rfl rfl (.o (s := 6) rfl (by decide) .nil) (q_fa rfl rfl Tryd.underlying34 rfl rfl Tryd.sizeOf3 rfl) rfl) (aq rfl (fun γ => qp rfl rfl (.o (s := 6) rfl (by decide) .nil) (q_fa rfl rfl Tryd.underlying34 rfl rfl Tryd.sizeOf3 rfl) rfl) zA))))))))
 exact (ac (fun γ => eo (Z := Unit) (fun z => ()) rfl rfl (.v 6 rfl rfl .nil) (re_store 0 rfl rfl rfl Tryd.sizeOf3 rfl rfl (one_of (by rfl)) rfl rfl) (fun _ => ⟨rfl, rfl, rfl, rfl, rfl, rfl, rfl, trivial⟩) (fun _ => .inl rfl) (fun z => Ent.refl _)) (ac (fun γ => eo (Z := Unit) (fun z => ()) rfl rfl (.v 5 rfl rfl (.v 8 rfl rfl .nil)) (re_store 0 rfl rfl rfl Tryd.sizeOf3 rfl rfl (one_of (by rfl)) rfl rfl) (fun _ => ⟨rfl, rfl, rfl, rfl, rfl, rfl, rfl, rfl, rfl, trivial⟩) (fun _ => .inl rfl) (fun z => Ent.refl _)) zA))
 intro g10v
 refine nrm_then ?_
 refine sim_cut (S := Int) (Unit) (fun s y => [(1, .pointer (some ⟨b1v, 0, none⟩)), (4, .pointer (some ⟨b6v, 0, none⟩)), (5, .int .i64 s2v.2.2.2.2.2.2.2.2.2.2.2), (6, .pointer (some ⟨b9v, 0, none⟩))]) (fun s y => [obj b9v 34 [.int .i64 0, .int .i64 x0_1, .int .i64 x0_2, .int .i64 x0_3, .int .i64 s, .int .i64 (IntKind.i64.wrap (x0_5 - s2v.2.2.2.2.2.2.1)), str x0_6, str x0_7, str x0_8], obj b6v 99 [str s2v.1, .int .i64 s2v.2.1, .int .i64 s2v.2.2.1, .int .i64 s2v.2.2.2.1, .int .i64 s2v.2.2.2.2.1, .int .i64 s2v.2.2.2.2.2.1, .int .i64 s2v.2.2.2.2.2.2.1, str s2v.2.2.2.2.2.2.2.1, str s2v.2.2.2.2.2.2.2.2.1, str s2v.2.2.2.2.2.2.2.2.2.1, .slice y4v.1 s2v.2.2.2.2.2.2.2.2.2.2.1.length y4v.2.1], obj b1v 34 [.int .i64 x0_0, .int .i64 x0_1, .int .i64 x0_2, .int .i64 x0_3, .int .i64 x0_4, .int .i64 x0_5, str x0_6, str x0_7, str x0_8], y4v.2.2, F]) ?_ ?_
 refine sr ?_
 refine vq (q_fa rfl rfl Tryd.underlying34 rfl rfl Tryd.sizeOf3 rfl) rfl ?_
 refine vq (q_load rfl rfl Tryd.isAgg3 (.obj 3 rfl rfl)) rfl ?_
 refine vq (q_eql rfl rfl rfl) rfl (simL_nil (nrm_then ?_))
 refine sim_cond rfl (fun h13v => ?_) (fun h14v => ?_)
 refine sim_region ?_
 refine vq (q_fa rfl rfl Tryd.underlying34 rfl rfl Tryd.sizeOf3 rfl) rfl ?_
 refine simL_do (re_store 0 rfl rfl rfl Tryd.sizeOf3 rfl rfl (one_of (by rfl)) rfl rfl) rfl rfl ?_
 intro _
 refine simL_ent (H' := [obj b9v 34 [.int .i64 0, .int .i64 x0_1, .int .i64 x0_2, .int .i64 x0_3, .int .i64 0, .int .i64 (IntKind.i64.wrap (x0_5 - s2v.2.2.2.2.2.2.1)), str x0_6, str x0_7, str x0_8], obj b6v 99 [str s2v.1, .int .i64 s2v.2.1, .int .i64 s2v.2.2.1, .int .i64 s2v.2.2.2.1, .int .i64 s2v.2.2.2.2.1, .int .i64 s2v.2.2.2.2.2.1, .int .i64 s2v.2.2.2.2.2.2.1, str s2v.2.2.2.2.2.2.2.1, str s2v.2.2.2.2.2.2.2.2.1, str s2v.2.2.2.2.2.2.2.2.2.1, .slice y4v.1 s2v.2.2.2.2.2.2.2.2.2.2.1.length y4v.2.1], y4v.2.2, obj b1v 34 [.int .i64 x0_0, .int .i64 x0_1, .int .i64 x0_2, .int .i64 x0_3, .int .i64 x0_4, .int .i64 x0_5, str x0_6, str x0_7, str x0_8], F]) (Ent.refl _) ?_
 refine simL_nil ?_
 exact nrm_cut (s := 0) () ⟨rfl, rfl, rfl, rfl, trivial⟩ (.sel 0 rfl (.sel 0 rfl (.sel 1 rfl (.sel 0 rfl (.sel 0 rfl (.nil _))))))
 refine sim_skip ?_
 exact nrm_cut (s := x0_4) () ⟨rfl, rfl, rfl, rfl, trivial⟩ (.sel 0 rfl (.sel 0 rfl (.sel 1 rfl (.sel 0 rfl (.sel 0 rfl (.nil _))))))
 intro s11v y12v
 refine sim_cut (S := Int × Int × Int × Int × List UInt8 × List UInt8 × List UInt8) (Unit) (fun s y => [(1, .pointer (some ⟨b1v, 0, none⟩)), (4, .pointer (some ⟨b6v, 0, none⟩)), (5, .int .i64 s2v.2.2.2.2.2.2.2.2.2.2.2), (6, .pointer (some ⟨b9v, 0, none⟩))]) (fun s y => [obj b9v 34 [.int .i64 0, .int .i64 s.1, .int .i64 s.2.1, .int .i64 s.2.2.1, .int .i64 s.2.2.2.1, .int .i64 (IntKind.i64.wrap (x0_5 - s2v.2.2.2.2.2.2.1)), str s.2.2.2.2.1, str s.2.2.2.2.2.1, str s.2.2.2.2.2.2], obj b6v 99 [str s2v.1, .int .i64 s2v.2.1, .int .i64 s2v.2.2.1, .int .i64 s2v.2.2.2.1, .int .i64 s2v.2.2.2.2.1, .int .i64 s2v.2.2.2.2.2.1, .int .i64 s2v.2.2.2.2.2.2.1, str s2v.2.2.2.2.2.2.2.1, str s2v.2.2.2.2.2.2.2.2.1, str s2v.2.2.2.2.2.2.2.2.2.1, .slice y4v.1 s2v.2.2.2.2.2.2.2.2.2.2.1.length y4v.2.1], obj b1v 34 [.int .i64 x0_0, .int .i64 x0_1, .int .i64 x0_2, .int .i64 x0_3, .int .i64 x0_4, .int .i64 x0_5, str x0_6, str x0_7, str x0_8], y4v.2.2, F]) ?_ ?_
 refine sr ?_
 refine vq (q_fa rfl rfl Tryd.underlying99 rfl rfl Tryd.sizeOf97 rfl) rfl ?_
 refine vq (q_load rfl rfl Tryd.isAgg97 (.obj 1 rfl rfl)) rfl ?_
 refine vq (q_len rfl rfl rfl Tryd.underlying97) rfl ?_
 refine vm rfl rfl (simL_nil (nrm_then ?_))
 refine sim_block ?_
 refine sim_loop (S := Int × Int × Int × Int × Int × List UInt8 × List UInt8 × List UInt8) (Unit) (fun k s => text_FormatAct.l0 x0_5 s2v k s.1 s.2.1 s.2.2.1 s.2.2.2.1 s.2.2.2.2.1 s.2.2.2.2.2.1 s.2.2.2.2.2.2.1 s.2.2.2.2.2.2.2) (fun s y => [(1, .pointer (some ⟨b1v, 0, none⟩)), (4, .pointer (some ⟨b6v, 0, none⟩)), (5, .int .i64 s2v.2.2.2.2.2.2.2.2.2.2.2), (6, .pointer (some ⟨b9v, 0, none⟩)), (34, .slice y4v.1 s2v.2.2.2.2.2.2.2.2.2.2.1.length y4v.2.1), (35, .int .i64 (s2v.2.2.2.2.2.2.2.2.2.2.1.length : Int)), (36, .int .i64 s.1)]) (fun s y => [obj b9v 34 [.int .i64 0, .int .i64 s.2.1, .int .i64 s.2.2.1, .int .i64 s.2.2.2.1, .int .i64 s.2.2.2.2.1, .int .i64 (IntKind.i64.wrap (x0_5 - s2v.2.2.2.2.2.2.1)), str s.2.2.2.2.2.1, str s.2.2.2.2.2.2.1, str s.2.2.2.2.2.2.2], obj b6v 99 [str s2v.1, .int .i64 s2v.2.1, .int .i64 s2v.2.2.1, .int .i64 s2v.2.2.2.1, .int .i64 s2v.2.2.2.2.1, .int .i64 s2v.2.2.2.2.2.1, .int .i64 s2v.2.2.2.2.2.2.1, str s2v.2.2.2.2.2.2.2.1, str s2v.2.2.2.2.2.2.2.2.1, str s2v.2.2.2.2.2.2.2.2.2.1, .slice y4v.1 s2v.2.2.2.2.2.2.2.2.2.2.1.length y4v.2.1], obj b1v 34 [.int .i64 x0_0, .int .i64 x0_1, .int .i64 x0_2, .int .i64 x0_3, .int .i64 x0_4, .int .i64 x0_5, str x0_6, str x0_7, str x0_8], y4v.2.2, F]) (fun _ => by rw [text_FormatAct.l0]) ?_ k (0, x0_1, x0_2, x0_3, s11v, x0_6, x0_7, x0_8) () ⟨rfl, rfl, rfl, rfl, rfl, rfl, rfl, trivial⟩ (.sel 0 rfl (.sel 0 rfl (.sel 0 rfl (.sel 0 rfl (.sel 0 rfl (.nil _))))))
 intro k s17v y18v
 refine sim_eq (by rw [text_FormatAct.l0]) ?_
 refine sr ?_
 refine vq (q_lss rfl rfl rfl) rfl (simL_nil (nrm_then (sim_seq ?_)))
 refine sim_cond rfl (fun h27v => ?_) (fun h28v => ?_)
 refine sim_skip ?_
 refine nrm_then (sim_seq ?_)
 refine sim_block ?_
 refine sr ?_
 refine simL_ask (fun hi29v => ?_)
 obtain ⟨b30v, b30vo, r33v, ha31v, hV34v, hlr35v, hcell36v⟩ := RdV.pos hp5v.1 (Up.refl _) rfl (i := s17v.1.toNat) (by omega) dz103
 obtain rfl := hV34v
 refine vq (q_idx rfl rfl rfl ha31v Tryd.underlying97 Tryd.sizeOf103 hi29v.1 hi29v.2) rfl ?_
 refine vq (q_loads rfl rfl Tryd.isAgg103 Tryd.sizeOf103 rfl (fun j v hj => hcell36v 3 rfl j v hj)) rfl ?_
 refine simL_eff (re_alloc rfl Tryd.zeroValue103 rfl) rfl rfl rfl ?_
 intro b37v
 refine simL_do (re_store 0 rfl rfl rfl Tryd.sizeOf103 rfl rfl (one_cons (fnV_one _) (one_cons (fnV_one _) (one_cons rfl one_nil))) rfl rfl) rfl rfl ?_
 intro _
 refine nx ?_
 refine vq (q_fa rfl rfl Tryd.underlying103 rfl rfl Tryd.sizeOf101 rfl) rfl ?_
 refine vq (q_load rfl rfl Tryd.isAgg101 (.obj 0 rfl rfl)) rfl ?_
 refine vq (q_neqfn rfl rfl Tryd.underlying101) rfl (simL_nil (nrm_then ?_))
 refine sim_condb rfl (fun h38v => ?_) (fun h39v => ?_)
 refine sim_if (fun hk40v => ?_) (fun hk40v => ?_)
 refine sim_region ?_
 refine vq (q_fa rfl rfl Tryd.underlying103 rfl rfl Tryd.sizeOf101 rfl) rfl ?_
 refine vq (rq_cast (congrArg fnV hk40v).symm (q_load rfl rfl Tryd.isAgg101 (.obj 0 rfl rfl))) rfl ?_
 refine simL_bind (fun s41v hs42v => ?_)
 refine simL_eff (re_call (vs := [.pointer (some ⟨b9v, 0, none⟩)]) (cap := []) (A := [obj b9v 34 [.int .i64 0, .int .i64 s17v.2.1, .int .i64 s17v.2.2.1, .int .i64 s17v.2.2.2.1, .int .i64 s17v.2.2.2.2.1, .int .i64 (IntKind.i64.wrap (x0_5 - s2v.2.2.2.2.2.2.1)), str s17v.2.2.2.2.2.1, str s17v.2.2.2.2.2.2.1, str s17v.2.2.2.2.2.2.2]]) (rst := [obj b37v 103 [fnV ((s2v.2.2.2.2.2.2.2.2.2.2.1.getD s17v.1.toNat dz103).1), fnV ((s2v.2.2.2.2.2.2.2.2.2.2.1.getD s17v.1.toNat dz103).2.1), .bool ((s2v.2.2.2.2.2.2.2.2.2.2.1.getD s17v.1.toNat dz103).2.2)], obj b6v 99 [str s2v.1, .int .i64 s2v.2.1, .int .i64 s2v.2.2.1, .int .i64 s2v.2.2.2.1, .int .i64 s2v.2.2.2.2.1, .int .i64 s2v.2.2.2.2.2.1, .int .i64 s2v.2.2.2.2.2.2.1, str s2v.2.2.2.2.2.2.2.1, str s2v.2.2.2.2.2.2.2.2.1, str s2v.2.2.2.2.2.2.2.2.2.1, .slice y4v.1 s2v.2.2.2.2.2.2.2.2.2.2.1.length y4v.2.1], obj b1v 34 [.int .i64 x0_0, .int .i64 x0_1, .int .i64 x0_2, .int .i64 x0_3, .int .i64 x0_4, .int .i64 x0_5, str x0_6, str x0_7, str x0_8], y4v.2.2, F]) rfl rfl rfl rfl rfl rfl Tryd.call70 (.sel 1 rfl (.sel 0 rfl (.sel 0 rfl (.sel 0 rfl (.sel 0 rfl (.sel 0 rfl (.nil _))))))) (text_lines_6.calls _ _ b9v (0 : Int) s17v.2.1 s17v.2.2.1 s17v.2.2.2.1 s17v.2.2.2.2.1 (IntKind.i64.wrap (x0_5 - s2v.2.2.2.2.2.2.1)) s17v.2.2.2.2.2.1 s17v.2.2.2.2.2.2.1 s17v.2.2.2.2.2.2.2 ) hs42v) rfl rfl rfl ?_
 intro y43v
 refine vn rfl rfl ?_
 refine simL_do (re_store 0 rfl rfl rfl Tryd.sizeOf9 rfl rfl (one_of (by rfl)) rfl rfl) rfl rfl ?_
 intro _
 refine simL_ent (H' := [obj b9v 34 [.int .i64 0, .int .i64 s17v.2.1, .int .i64 s17v.2.2.1, .int .i64 s17v.2.2.2.1, .int .i64 s17v.2.2.2.2.1, .int .i64 (IntKind.i64.wrap (x0_5 - s2v.2.2.2.2.2.2.1)), str ([] : List UInt8), str s17v.2.2.2.2.2.2.1, str s17v.2.2.2.2.2.2.2], obj b37v 103 [fnV ((s2v.2.2.2.2.2.2.2.2.2.2.1.getD s17v.1.toNat dz103).1), fnV ((s2v.2.2.2.2.2.2.2.2.2.2.1.getD s17v.1.toNat dz103).2.1), .bool ((s2v.2.2.2.2.2.2.2.2.2.2.1.getD s17v.1.toNat dz103).2.2)], obj b6v 99 [str s2v.1, .int .i64 s2v.2.1, .int .i64 s2v.2.2.1, .int .i64 s2v.2.2.2.1, .int .i64 s2v.2.2.2.2.1, .int .i64 s2v.2.2.2.2.2.1, .int .i64 s2v.2.2.2.2.2.2.1, str s2v.2.2.2.2.2.2.2.1, str s2v.2.2.2.2.2.2.2.2.1, str s2v.2.2.2.2.2.2.2.2.2.1, .slice y4v.1 s2v.2.2.2.2.2.2.2.2.2.2.1.length y4v.2.1], obj b1v 34 [.int .i64 x0_0, .int .i64 x0_1, .int .i64 x0_2, .int .i64 x0_3, .int .i64 x0_4, .int .i64 x0_5, str x0_6, str x0_7, str x0_8], y4v.2.2, F]) (Ent.refl _) ?_
 refine simL_nil (nrm_block (nrm_then (sim_region ?_)))
 refine vq (q_add rfl rfl rfl) rfl ?_
 refine vm rfl rfl (simL_nil ?_)
 exact nrm_again (s := (IntKind.i64.wrap (s17v.1 + 1), s17v.2.1, s17v.2.2.1, s17v.2.2.2.1, s17v.2.2.2.2.1, ([] : List UInt8), s17v.2.2.2.2.2.2.1, s17v.2.2.2.2.2.2.2)) () ⟨rfl, rfl, rfl, rfl, rfl, rfl, rfl, trivial⟩ (.sel 0 rfl (.sel 1 rfl (.sel 1 rfl (.sel 1 rfl (.sel 1 rfl (.nil _))))))
 refine sim_if (fun hk44v => ?_) (fun hk44v => ?_)
 refine sim_region ?_
 refine vq (q_fa rfl rfl Tryd.underlying103 rfl rfl Tryd.sizeOf101 rfl) rfl ?_
 refine vq (rq_cast (congrArg fnV hk44v).symm (q_load rfl rfl Tryd.isAgg101 (.obj 0 rfl rfl))) rfl ?_
 refine simL_bind (fun s45v hs46v => ?_)
 refine simL_eff (re_call (vs := [.pointer (some ⟨b9v, 0, none⟩)]) (cap := []) (A := [obj b9v 34 [.int .i64 0, .int .i64 s17v.2.1, .int .i64 s17v.2.2.1, .int .i64 s17v.2.2.2.1, .int .i64 s17v.2.2.2.2.1, .int .i64 (IntKind.i64.wrap (x0_5 - s2v.2.2.2.2.2.2.1)), str s17v.2.2.2.2.2.1, str s17v.2.2.2.2.2.2.1, str s17v.2.2.2.2.2.2.2]]) (rst := [obj b37v 103 [fnV ((s2v.2.2.2.2.2.2.2.2.2.2.1.getD s17v.1.toNat dz103).1), fnV ((s2v.2.2.2.2.2.2.2.2.2.2.1.getD s17v.1.toNat dz103).2.1), .bool ((s2v.2.2.2.2.2.2.2.2.2.2.1.getD s17v.1.toNat dz103).2.2)], obj b6v 99 [str s2v.1, .int .i64 s2v.2.1, .int .i64 s2v.2.2.1, .int .i64 s2v.2.2.2.1, .int .i64 s2v.2.2.2.2.1, .int .i64 s2v.2.2.2.2.2.1, .int .i64 s2v.2.2.2.2.2.2.1, str s2v.2.2.2.2.2.2.2.1, str s2v.2.2.2.2.2.2.2.2.1, str s2v.2.2.2.2.2.2.2.2.2.1, .slice y4v.1 s2v.2.2.2.2.2.2.2.2.2.2.1.length y4v.2.1], obj b1v 34 [.int .i64 x0_0, .int .i64 x0_1, .int .i64 x0_2, .int .i64 x0_3, .int .i64 x0_4, .int .i64 x0_5, str x0_6, str x0_7, str x0_8], y4v.2.2, F]) rfl rfl rfl rfl rfl rfl Tryd.call71 (.sel 1 rfl (.sel 0 rfl (.sel 0 rfl (.sel 0 rfl (.sel 0 rfl (.sel 0 rfl (.nil _))))))) (text_lines_7.calls _ _ b9v (0 : Int) s17v.2.1 s17v.2.2.1 s17v.2.2.2.1 s17v.2.2.2.2.1 (IntKind.i64.wrap (x0_5 - s2v.2.2.2.2.2.2.1)) s17v.2.2.2.2.2.1 s17v.2.2.2.2.2.2.1 s17v.2.2.2.2.2.2.2 ) hs46v) rfl rfl rfl ?_
 intro y47v
 refine vn rfl rfl ?_
 refine simL_do (re_store 0 rfl rfl rfl Tryd.sizeOf9 rfl rfl (one_of (by rfl)) rfl rfl) rfl rfl ?_
 intro _
 refine simL_ent (H' := [obj b9v 34 [.int .i64 0, .int .i64 s17v.2.1, .int .i64 s17v.2.2.1, .int .i64 s17v.2.2.2.1, .int .i64 s17v.2.2.2.2.1, .int .i64 (IntKind.i64.wrap (x0_5 - s2v.2.2.2.2.2.2.1)), str s17v.2.2.2.2.2.1, str ([] : List UInt8), str s17v.2.2.2.2.2.2.2], obj b37v 103 [fnV ((s2v.2.2.2.2.2.2.2.2.2.2.1.getD s17v.1.toNat dz103).1), fnV ((s2v.2.2.2.2.2.2.2.2.2.2.1.getD s17v.1.toNat dz103).2.1), .bool ((s2v.2.2.2.2.2.2.2.2.2.2.1.getD s17v.1.toNat dz103).2.2)], obj b6v 99 [str s2v.1, .int .i64 s2v.2.1, .int .i64 s2v.2.2.1, .int .i64 s2v.2.2.2.1, .int .i64 s2v.2.2.2.2.1, .int .i64 s2v.2.2.2.2.2.1, .int .i64 s2v.2.2.2.2.2.2.1, str s2v.2.2.2.2.2.2.2.1, str s2v.2.2.2.2.2.2.2.2.1, str s2v.2.2.2.2.2.2.2.2.2.1, .slice y4v.1 s2v.2.2.2.2.2.2.2.2.2.2.1.length y4v.2.1], obj b1v 34 [.int .i64 x0_0, .int .i64 x0_1, .int .i64 x0_2, .int .i64 x0_3, .int .i64 x0_4, .int .i64 x0_5, str x0_6, str x0_7, str x0_8], y4v.2.2, F]) (Ent.refl _) ?_
 refine simL_nil (nrm_block (nrm_then (sim_region ?_)))
 refine vq (q_add rfl rfl rfl) rfl ?_
 refine vm rfl rfl (simL_nil ?_)
 exact nrm_again (s := (IntKind.i64.wrap (s17v.1 + 1), s17v.2.1, s17v.2.2.1, s17v.2.2.2.1, s17v.2.2.2.2.1, s17v.2.2.2.2.2.1, ([] : List UInt8), s17v.2.2.2.2.2.2.2)) () ⟨rfl, rfl, rfl, rfl, rfl, rfl, rfl, trivial⟩ (.sel 0 rfl (.sel 1 rfl (.sel 1 rfl (.sel 1 rfl (.sel 1 rfl (.nil _))))))
 refine sim_if (fun hk48v => ?_) (fun hk48v => ?_)
 refine sim_region ?_
 refine vq (q_fa rfl rfl Tryd.underlying103 rfl rfl Tryd.sizeOf101 rfl) rfl ?_
 refine vq (rq_cast (congrArg fnV hk48v).symm (q_load rfl rfl Tryd.isAgg101 (.obj 0 rfl rfl))) rfl ?_
 refine simL_bind (fun s49v hs50v => ?_)
 refine simL_eff (re_call (vs := [.pointer (some ⟨b9v, 0, none⟩)]) (cap := []) (A := [obj b9v 34 [.int .i64 0, .int .i64 s17v.2.1, .int .i64 s17v.2.2.1, .int .i64 s17v.2.2.2.1, .int .i64 s17v.2.2.2.2.1, .int .i64 (IntKind.i64.wrap (x0_5 - s2v.2.2.2.2.2.2.1)), str s17v.2.2.2.2.2.1, str s17v.2.2.2.2.2.2.1, str s17v.2.2.2.2.2.2.2]]) (rst := [obj b37v 103 [fnV ((s2v.2.2.2.2.2.2.2.2.2.2.1.getD s17v.1.toNat dz103).1), fnV ((s2v.2.2.2.2.2.2.2.2.2.2.1.getD s17v.1.toNat dz103).2.1), .bool ((s2v.2.2.2.2.2.2.2.2.2.2.1.getD s17v.1.toNat dz103).2.2)], obj b6v 99 [str s2v.1, .int .i64 s2v.2.1, .int .i64 s2v.2.2.1, .int .i64 s2v.2.2.2.1, .int .i64 s2v.2.2.2.2.1, .int .i64 s2v.2.2.2.2.2.1, .int .i64 s2v.2.2.2.2.2.2.1, str s2v.2.2.2.2.2.2.2.1, str s2v.2.2.2.2.2.2.2.2.1, str s2v.2.2.2.2.2.2.2.2.2.1, .slice y4v.1 s2v.2.2.2.2.2.2.2.2.2.2.1.length y4v.2.1], obj b1v 34 [.int .i64 x0_0, .int .i64 x0_1, .int .i64 x0_2, .int .i64 x0_3, .int .i64 x0_4, .int .i64 x0_5, str x0_6, str x0_7, str x0_8], y4v.2.2, F]) rfl rfl rfl rfl rfl rfl Tryd.call72 (.sel 1 rfl (.sel 0 rfl (.sel 0 rfl (.sel 0 rfl (.sel 0 rfl (.sel 0 rfl (.nil _))))))) (text_lines_8.calls _ _ b9v (0 : Int) s17v.2.1 s17v.2.2.1 s17v.2.2.2.1 s17v.2.2.2.2.1 (IntKind.i64.wrap (x0_5 - s2v.2.2.2.2.2.2.1)) s17v.2.2.2.2.2.1 s17v.2.2.2.2.2.2.1 s17v.2.2.2.2.2.2.2 ) hs50v) rfl rfl rfl ?_
 intro y51v
 refine vn rfl rfl ?_
 refine simL_do (re_store 0 rfl rfl rfl Tryd.sizeOf9 rfl rfl (one_of (by rfl)) rfl rfl) rfl rfl ?_
 intro _
 refine simL_ent (H' := [obj b9v 34 [.int .i64 0, .int .i64 s17v.2.1, .int .i64 s17v.2.2.1, .int .i64 s17v.2.2.2.1, .int .i64 s17v.2.2.2.2.1, .int .i64 (IntKind.i64.wrap (x0_5 - s2v.2.2.2.2.2.2.1)), str s17v.2.2.2.2.2.1, str s17v.2.2.2.2.2.2.1, str ([] : List UInt8)], obj b37v 103 [fnV ((s2v.2.2.2.2.2.2.2.2.2.2.1.getD s17v.1.toNat dz103).1), fnV ((s2v.2.2.2.2.2.2.2.2.2.2.1.getD s17v.1.toNat dz103).2.1), .bool ((s2v.2.2.2.2.2.2.2.2.2.2.1.getD s17v.1.toNat dz103).2.2)], obj b6v 99 [str s2v.1, .int .i64 s2v.2.1, .int .i64 s2v.2.2.1, .int .i64 s2v.2.2.2.1, .int .i64 s2v.2.2.2.2.1, .int .i64 s2v.2.2.2.2.2.1, .int .i64 s2v.2.2.2.2.2.2.1, str s2v.2.2.2.2.2.2.2.1, str s2v.2.2.2.2.2.2.2.2.1, str s2v.2.2.2.2.2.2.2.2.2.1, .slice y4v.1 s2v.2.2.2.2.2.2.2.2.2.2.1.length y4v.2.1], obj b1v 34 [.int .i64 x0_0, .int .i64 x0_1, .int .i64 x0_2, .int .i64 x0_3, .int .i64 x0_4, .int .i64 x0_5, str x0_6, str x0_7, str x0_8], y4v.2.2, F]) (Ent.refl _) ?_
 refine simL_nil (nrm_block (nrm_then (sim_region ?_)))
 refine vq (q_add rfl rfl rfl) rfl ?_
 refine vm rfl rfl (simL_nil ?_)
 exact nrm_again (s := (IntKind.i64.wrap (s17v.1 + 1), s17v.2.1, s17v.2.2.1, s17v.2.2.2.1, s17v.2.2.2.2.1, s17v.2.2.2.2.2.1, s17v.2.2.2.2.2.2.1, ([] : List UInt8))) () ⟨rfl, rfl, rfl, rfl, rfl, rfl, rfl, trivial⟩ (.sel 0 rfl (.sel 1 rfl (.sel 1 rfl (.sel 1 rfl (.sel 1 rfl (.nil _))))))
 exact sim_none
 refine sim_if (fun hk52v => ?_) (fun hk52v => ?_)
 refine sim_region ?_
 refine vq (q_fa rfl rfl Tryd.underlying103 rfl rfl Tryd.sizeOf100 rfl) rfl ?_
 refine vq (rq_cast (congrArg fnV hk52v).symm (q_load rfl rfl Tryd.isAgg100 (.obj 0 rfl rfl))) rfl ?_
 refine simL_bind (fun s53v hs54v => ?_)
 refine simL_eff (re_call (vs := [.pointer (some ⟨b9v, 0, none⟩)]) (cap := []) (A := [obj b9v 34 [.int .i64 0, .int .i64 s17v.2.1, .int .i64 s17v.2.2.1, .int .i64 s17v.2.2.2.1, .int .i64 s17v.2.2.2.2.1, .int .i64 (IntKind.i64.wrap (x0_5 - s2v.2.2.2.2.2.2.1)), str s17v.2.2.2.2.2.1, str s17v.2.2.2.2.2.2.1, str s17v.2.2.2.2.2.2.2]]) (rst := [obj b37v 103 [fnV ((s2v.2.2.2.2.2.2.2.2.2.2.1.getD s17v.1.toNat dz103).1), fnV ((s2v.2.2.2.2.2.2.2.2.2.2.1.getD s17v.1.toNat dz103).2.1), .bool ((s2v.2.2.2.2.2.2.2.2.2.2.1.getD s17v.1.toNat dz103).2.2)], obj b6v 99 [str s2v.1, .int .i64 s2v.2.1, .int .i64 s2v.2.2.1, .int .i64 s2v.2.2.2.1, .int .i64 s2v.2.2.2.2.1, .int .i64 s2v.2.2.2.2.2.1, .int .i64 s2v.2.2.2.2.2.2.1, str s2v.2.2.2.2.2.2.2.1, str s2v.2.2.2.2.2.2.2.2.1, str s2v.2.2.2.2.2.2.2.2.2.1, .slice y4v.1 s2v.2.2.2.2.2.2.2.2.2.2.1.length y4v.2.1], obj b1v 34 [.int .i64 x0_0, .int .i64 x0_1, .int .i64 x0_2, .int .i64 x0_3, .int .i64 x0_4, .int .i64 x0_5, str x0_6, str x0_7, str x0_8], y4v.2.2, F]) rfl rfl rfl rfl rfl rfl Tryd.call65 (.sel 1 rfl (.sel 0 rfl (.sel 0 rfl (.sel 0 rfl (.sel 0 rfl (.sel 0 rfl (.nil _))))))) (text_lines_1.calls _ _ b9v (0 : Int) s17v.2.1 s17v.2.2.1 s17v.2.2.2.1 s17v.2.2.2.2.1 (IntKind.i64.wrap (x0_5 - s2v.2.2.2.2.2.2.1)) s17v.2.2.2.2.2.1 s17v.2.2.2.2.2.2.1 s17v.2.2.2.2.2.2.2 ) hs54v) rfl rfl rfl ?_
 intro y55v
 refine vn rfl rfl ?_
 refine simL_do (re_store 0 rfl rfl rfl Tryd.sizeOf3 rfl rfl (one_of (by rfl)) rfl rfl) rfl rfl ?_
 intro _
 refine simL_ent (H' := [obj b9v 34 [.int .i64 0, .int .i64 0, .int .i64 s17v.2.2.1, .int .i64 s17v.2.2.2.1, .int .i64 s17v.2.2.2.2.1, .int .i64 (IntKind.i64.wrap (x0_5 - s2v.2.2.2.2.2.2.1)), str s17v.2.2.2.2.2.1, str s17v.2.2.2.2.2.2.1, str s17v.2.2.2.2.2.2.2], obj b37v 103 [fnV ((s2v.2.2.2.2.2.2.2.2.2.2.1.getD s17v.1.toNat dz103).1), fnV ((s2v.2.2.2.2.2.2.2.2.2.2.1.getD s17v.1.toNat dz103).2.1), .bool ((s2v.2.2.2.2.2.2.2.2.2.2.1.getD s17v.1.toNat dz103).2.2)], obj b6v 99 [str s2v.1, .int .i64 s2v.2.1, .int .i64 s2v.2.2.1, .int .i64 s2v.2.2.2.1, .int .i64 s2v.2.2.2.2.1, .int .i64 s2v.2.2.2.2.2.1, .int .i64 s2v.2.2.2.2.2.2.1, str s2v.2.2.2.2.2.2.2.1, str s2v.2.2.2.2.2.2.2.2.1, str s2v.2.2.2.2.2.2.2.2.2.1, .slice y4v.1 s2v.2.2.2.2.2.2.2.2.2.2.1.length y4v.2.1], obj b1v 34 [.int .i64 x0_0, .int .i64 x0_1, .int .i64 x0_2, .int .i64 x0_3, .int .i64 x0_4, .int .i64 x0_5, str x0_6, str x0_7, str x0_8], y4v.2.2, F]) (Ent.refl _) ?_
 refine simL_nil (nrm_block (nrm_then (sim_region ?_)))
 refine vq (q_add rfl rfl rfl) rfl ?_
 refine vm rfl rfl (simL_nil ?_)
 exact nrm_again (s := (IntKind.i64.wrap (s17v.1 + 1), 0, s17v.2.2.1, s17v.2.2.2.1, s17v.2.2.2.2.1, s17v.2.2.2.2.2.1, s17v.2.2.2.2.2.2.1, s17v.2.2.2.2.2.2.2)) () ⟨rfl, rfl, rfl, rfl, rfl, rfl, rfl, trivial⟩ (.sel 0 rfl (.sel 1 rfl (.sel 1 rfl (.sel 1 rfl (.sel 1 rfl (.nil _))))))
 refine sim_if (fun hk56v => ?_) (fun hk56v => ?_)
 refine sim_region ?_
 refine vq (q_fa rfl rfl Tryd.underlying103 rfl rfl Tryd.sizeOf100 rfl) rfl ?_
 refine vq (rq_cast (congrArg fnV hk56v).symm (q_load rfl rfl Tryd.isAgg100 (.obj 0 rfl rfl))) rfl ?_
 refine simL_bind (fun s57v hs58v => ?_)
 refine simL_eff (re_call (vs := [.pointer (some ⟨b9v, 0, none⟩)]) (cap := []) (A := [obj b9v 34 [.int .i64 0, .int .i64 s17v.2.1, .int .i64 s17v.2.2.1, .int .i64 s17v.2.2.2.1, .int .i64 s17v.2.2.2.2.1, .int .i64 (IntKind.i64.wrap (x0_5 - s2v.2.2.2.2.2.2.1)), str s17v.2.2.2.2.2.1, str s17v.2.2.2.2.2.2.1, str s17v.2.2.2.2.2.2.2]]) (rst := [obj b37v 103 [fnV ((s2v.2.2.2.2.2.2.2.2.2.2.1.getD s17v.1.toNat dz103).1), fnV ((s2v.2.2.2.2.2.2.2.2.2.2.1.getD s17v.1.toNat dz103).2.1), .bool ((s2v.2.2.2.2.2.2.2.2.2.2.1.getD s17v.1.toNat dz103).2.2)], obj b6v 99 [str s2v.1, .int .i64 s2v.2.1, .int .i64 s2v.2.2.1, .int .i64 s2v.2.2.2.1, .int .i64 s2v.2.2.2.2.1, .int .i64 s2v.2.2.2.2.2.1, .int .i64 s2v.2.2.2.2.2.2.1, str s2v.2.2.2.2.2.2.2.1, str s2v.2.2.2.2.2.2.2.2.1, str s2v.2.2.2.2.2.2.2.2.2.1, .slice y4v.1 s2v.2.2.2.2.2.2.2.2.2.2.1.length y4v.2.1], obj b1v 34 [.int .i64 x0_0, .int .i64 x0_1, .int .i64 x0_2, .int .i64 x0_3, .int .i64 x0_4, .int .i64 x0_5, str x0_6, str x0_7, str x0_8], y4v.2.2, F]) rfl rfl rfl rfl rfl rfl Tryd.call66 (.sel 1 rfl (.sel 0 rfl (.sel 0 rfl (.sel 0 rfl (.sel 0 rfl (.sel 0 rfl (.nil _))))))) (text_lines_2.calls _ _ b9v (0 : Int) s17v.2.1 s17v.2.2.1 s17v.2.2.2.1 s17v.2.2.2.2.1 (IntKind.i64.wrap (x0_5 - s2v.2.2.2.2.2.2.1)) s17v.2.2.2.2.2.1 s17v.2.2.2.2.2.2.1 s17v.2.2.2.2.2.2.2 ) hs58v) rfl rfl rfl ?_
 intro y59v
 refine vn rfl rfl ?_
 refine simL_do (re_store 0 rfl rfl rfl Tryd.sizeOf3 rfl rfl (one_of (by rfl)) rfl rfl) rfl rfl ?_
 intro _
 refine simL_ent (H' := [obj b9v 34 [.int .i64 0, .int .i64 s17v.2.1, .int .i64 0, .int .i64 s17v.2.2.2.1, .int .i64 s17v.2.2.2.2.1, .int .i64 (IntKind.i64.wrap (x0_5 - s2v.2.2.2.2.2.2.1)), str s17v.2.2.2.2.2.1, str s17v.2.2.2.2.2.2.1, str s17v.2.2.2.2.2.2.2], obj b37v 103 [fnV ((s2v.2.2.2.2.2.2.2.2.2.2.1.getD s17v.1.toNat dz103).1), fnV ((s2v.2.2.2.2.2.2.2.2.2.2.1.getD s17v.1.toNat dz103).2.1), .bool ((s2v.2.2.2.2.2.2.2.2.2.2.1.getD s17v.1.toNat dz103).2.2)], obj b6v 99 [str s2v.1, .int .i64 s2v.2.1, .int .i64 s2v.2.2.1, .int .i64 s2v.2.2.2.1, .int .i64 s2v.2.2.2.2.1, .int .i64 s2v.2.2.2.2.2.1, .int .i64 s2v.2.2.2.2.2.2.1, str s2v.2.2.2.2.2.2.2.1, str s2v.2.2.2.2.2.2.2.2.1, str s2v.2.2.2.2.2.2.2.2.2.1, .slice y4v.1 s2v.2.2.2.2.2.2.2.2.2.2.1.length y4v.2.1], obj b1v 34 [.int .i64 x0_0, .int .i64 x0_1, .int .i64 x0_2, .int .i64 x0_3, .int .i64 x0_4, .int .i64 x0_5, str x0_6, str x0_7, str x0_8], y4v.2.2, F]) (Ent.refl _) ?_
 refine simL_nil (nrm_block (nrm_then (sim_region ?_)))
 refine vq (q_add rfl rfl rfl) rfl ?_
 refine vm rfl rfl (simL_nil ?_)
 exact nrm_again (s := (IntKind.i64.wrap (s17v.1 + 1), s17v.2.1, 0, s17v.2.2.2.1, s17v.2.2.2.2.1, s17v.2.2.2.2.2.1, s17v.2.2.2.2.2.2.1, s17v.2.2.2.2.2.2.2)) () ⟨rfl, rfl, rfl, rfl, rfl, rfl, rfl, trivial⟩ (.sel 0 rfl (.sel 1 rfl (.sel 1 rfl (.sel 1 rfl (.sel 1 rfl (.nil _))))))
 refine sim_if (fun hk60v => ?_) (fun hk60v => ?_)
 refine sim_region ?_
 refine vq (q_fa rfl rfl Tryd.underlying103 rfl rfl Tryd.sizeOf100 rfl) rfl ?_
 refine vq (rq_cast (congrArg fnV hk60v).symm (q_load rfl rfl Tryd.isAgg100 (.obj 0 rfl rfl))) rfl ?_
 refine simL_bind (fun s61v hs62v => ?_)
 refine simL_eff (re_call (vs := [.pointer (some ⟨b9v, 0, none⟩)]) (cap := []) (A := [obj b9v 34 [.int .i64 0, .int .i64 s17v.2.1, .int .i64 s17v.2.2.1, .int .i64 s17v.2.2.2.1, .int .i64 s17v.2.2.2.2.1, .int .i64 (IntKind.i64.wrap (x0_5 - s2v.2.2.2.2.2.2.1)), str s17v.2.2.2.2.2.1, str s17v.2.2.2.2.2.2.1, str s17v.2.2.2.2.2.2.2]]) (rst := [obj b37v 103 [fnV ((s2v.2.2.2.2.2.2.2.2.2.2.1.getD s17v.1.toNat dz103).1), fnV ((s2v.2.2.2.2.2.2.2.2.2.2.1.getD s17v.1.toNat dz103).2.1), .bool ((s2v.2.2.2.2.2.2.2.2.2.2.1.getD s17v.1.toNat dz103).2.2)], obj b6v 99 [str s2v.1, .int .i64 s2v.2.1, .int .i64 s2v.2.2.1, .int .i64 s2v.2.2.2.1, .int .i64 s2v.2.2.2.2.1, .int .i64 s2v.2.2.2.2.2.1, .int .i64 s2v.2.2.2.2.2.2.1, str s2v.2.2.2.2.2.2.2.1, str s2v.2.2.2.2.2.2.2.2.1, str s2v.2.2.2.2.2.2.2.2.2.1, .slice y4v.1 s2v.2.2.2.2.2.2.2.2.2.2.1.length y4v.2.1], obj b1v 34 [.int .i64 x0_0, .int .i64 x0_1, .int .i64 x0_2, .int .i64 x0_3, .int .i64 x0_4, .int .i64 x0_5, str x0_6, str x0_7, str x0_8], y4v.2.2, F]) rfl rfl rfl rfl rfl rfl Tryd.call67 (.sel 1 rfl (.sel 0 rfl (.sel 0 rfl (.sel 0 rfl (.sel 0 rfl (.sel 0 rfl (.nil _))))))) (text_lines_3.calls _ _ b9v (0 : Int) s17v.2.1 s17v.2.2.1 s17v.2.2.2.1 s17v.2.2.2.2.1 (IntKind.i64.wrap (x0_5 - s2v.2.2.2.2.2.2.1)) s17v.2.2.2.2.2.1 s17v.2.2.2.2.2.2.1 s17v.2.2.2.2.2.2.2 ) hs62v) rfl rfl rfl ?_
 intro y63v
 refine vn rfl rfl ?_
 refine simL_do (re_store 0 rfl rfl rfl Tryd.sizeOf3 rfl rfl (one_of (by rfl)) rfl rfl) rfl rfl ?_
 intro _
 refine simL_ent (H' := [obj b9v 34 [.int .i64 0, .int .i64 s17v.2.1, .int .i64 s17v.2.2.1, .int .i64 0, .int .i64 s17v.2.2.2.2.1, .int .i64 (IntKind.i64.wrap (x0_5 - s2v.2.2.2.2.2.2.1)), str s17v.2.2.2.2.2.1, str s17v.2.2.2.2.2.2.1, str s17v.2.2.2.2.2.2.2], obj b37v 103 [fnV ((s2v.2.2.2.2.2.2.2.2.2.2.1.getD s17v.1.toNat dz103).1), fnV ((s2v.2.2.2.2.2.2.2.2.2.2.1.getD s17v.1.toNat dz103).2.1), .bool ((s2v.2.2.2.2.2.2.2.2.2.2.1.getD s17v.1.toNat dz103).2.2)], obj b6v 99 [str s2v.1, .int .i64 s2v.2.1, .int .i64 s2v.2.2.1, .int .i64 s2v.2.2.2.1, .int .i64 s2v.2.2.2.2.1, .int .i64 s2v.2.2.2.2.2.1, .int .i64 s2v.2.2.2.2.2.2.1, str s2v.2.2.2.2.2.2.2.1, str s2v.2.2.2.2.2.2.2.2.1, str s2v.2.2.2.2.2.2.2.2.2.1, .slice y4v.1 s2v.2.2.2.2.2.2.2.2.2.2.1.length y4v.2.1], obj b1v 34 [.int .i64 x0_0, .int .i64 x0_1, .int .i64 x0_2, .int .i64 x0_3, .int .i64 x0_4, .int .i64 x0_5, str x0_6, str x0_7, str x0_8], y4v.2.2, F]) (Ent.refl _) ?_
 refine simL_nil (nrm_block (nrm_then (sim_region ?_)))
 refine vq (q_add rfl rfl rfl) rfl ?_
 refine vm rfl rfl (simL_nil ?_)
 exact nrm_again (s := (IntKind.i64.wrap (s17v.1 + 1), s17v.2.1, s17v.2.2.1, 0, s17v.2.2.2.2.1, s17v.2.2.2.2.2.1, s17v.2.2.2.2.2.2.1, s17v.2.2.2.2.2.2.2)) () ⟨rfl, rfl, rfl, rfl, rfl, rfl, rfl, trivial⟩ (.sel 0 rfl (.sel 1 rfl (.sel 1 rfl (.sel 1 rfl (.sel 1 rfl (.nil _))))))
 refine sim_if (fun hk64v => ?_) (fun hk64v => ?_)
 refine sim_region ?_
 refine vq (q_fa rfl rfl Tryd.underlying103 rfl rfl Tryd.sizeOf100 rfl) rfl ?_
 refine vq (rq_cast (congrArg fnV hk64v).symm (q_load rfl rfl Tryd.isAgg100 (.obj 0 rfl rfl))) rfl ?_
 refine simL_bind (fun s65v hs66v => ?_)
 refine simL_eff (re_call (vs := [.pointer (some ⟨b9v, 0, none⟩)]) (cap := []) (A := [obj b9v 34 [.int .i64 0, .int .i64 s17v.2.1, .int .i64 s17v.2.2.1, .int .i64 s17v.2.2.2.1, .int .i64 s17v.2.2.2.2.1, .int .i64 (IntKind.i64.wrap (x0_5 - s2v.2.2.2.2.2.2.1)), str s17v.2.2.2.2.2.1, str s17v.2.2.2.2.2.2.1, str s17v.2.2.2.2.2.2.2]]) (rst := [obj b37v 103 [fnV ((s2v.2.2.2.2.2.2.2.2.2.2.1.getD s17v.1.toNat dz103).1), fnV ((s2v.2.2.2.2.2.2.2.2.2.2.1.getD s17v.1.toNat dz103).2.1), .bool ((s2v.2.2.2.2.2.2.2.2.2.2.1.getD s17v.1.toNat dz103).2.2)], obj b6v 99 [str s2v.1, .int .i64 s2v.2.1, .int .i64 s2v.2.2.1, .int .i64 s2v.2.2.2.1, .int .i64 s2v.2.2.2.2.1, .int .i64 s2v.2.2.2.2.2.1, .int .i64 s2v.2.2.2.2.2.2.1, str s2v.2.2.2.2.2.2.2.1, str s2v.2.2.2.2.2.2.2.2.1, str s2v.2.2.2.2.2.2.2.2.2.1, .slice y4v.1 s2v.2.2.2.2.2.2.2.2.2.2.1.length y4v.2.1], obj b1v 34 [.int .i64 x0_0, .int .i64 x0_1, .int .i64 x0_2, .int .i64 x0_3, .int .i64 x0_4, .int .i64 x0_5, str x0_6, str x0_7, str x0_8], y4v.2.2, F]) rfl rfl rfl rfl rfl rfl Tryd.call68 (.sel 1 rfl (.sel 0 rfl (.sel 0 rfl (.sel 0 rfl (.sel 0 rfl (.sel 0 rfl (.nil _))))))) (text_lines_4.calls _ _ b9v (0 : Int) s17v.2.1 s17v.2.2.1 s17v.2.2.2.1 s17v.2.2.2.2.1 (IntKind.i64.wrap (x0_5 - s2v.2.2.2.2.2.2.1)) s17v.2.2.2.2.2.1 s17v.2.2.2.2.2.2.1 s17v.2.2.2.2.2.2.2 ) hs66v) rfl rfl rfl ?_
 intro y67v
 refine vn rfl rfl ?_
 refine simL_do (re_store 0 rfl rfl rfl Tryd.sizeOf3 rfl rfl (one_of (by rfl)) rfl rfl) rfl rfl ?_
 intro _
 refine simL_ent (H' := [obj b9v 34 [.int .i64 0, .int .i64 s17v.2.1, .int .i64 s17v.2.2.1, .int .i64 s17v.2.2.2.1, .int .i64 0, .int .i64 (IntKind.i64.wrap (x0_5 - s2v.2.2.2.2.2.2.1)), str s17v.2.2.2.2.2.1, str s17v.2.2.2.2.2.2.1, str s17v.2.2.2.2.2.2.2], obj b37v 103 [fnV ((s2v.2.2.2.2.2.2.2.2.2.2.1.getD s17v.1.toNat dz103).1), fnV ((s2v.2.2.2.2.2.2.2.2.2.2.1.getD s17v.1.toNat dz103).2.1), .bool ((s2v.2.2.2.2.2.2.2.2.2.2.1.getD s17v.1.toNat dz103).2.2)], obj b6v 99 [str s2v.1, .int .i64 s2v.2.1, .int .i64 s2v.2.2.1, .int .i64 s2v.2.2.2.1, .int .i64 s2v.2.2.2.2.1, .int .i64 s2v.2.2.2.2.2.1, .int .i64 s2v.2.2.2.2.2.2.1, str s2v.2.2.2.2.2.2.2.1, str s2v.2.2.2.2.2.2.2.2.1, str s2v.2.2.2.2.2.2.2.2.2.1, .slice y4v.1 s2v.2.2.2.2.2.2.2.2.2.2.1.length y4v.2.1], obj b1v 34 [.int .i64 x0_0, .int .i64 x0_1, .int .i64 x0_2, .int .i64 x0_3, .int .i64 x0_4, .int .i64 x0_5, str x0_6, str x0_7, str x0_8], y4v.2.2, F]) (Ent.refl _) ?_
 refine simL_nil (nrm_block (nrm_then (sim_region ?_)))
 refine vq (q_add rfl rfl rfl) rfl ?_
 refine vm rfl rfl (simL_nil ?_)
 exact nrm_again (s := (IntKind.i64.wrap (s17v.1 + 1), s17v.2.1, s17v.2.2.1, s17v.2.2.2.1, 0, s17v.2.2.2.2.2.1, s17v.2.2.2.2.2.2.1, s17v.2.2.2.2.2.2.2)) () ⟨rfl, rfl, rfl, rfl, rfl, rfl, rfl, trivial⟩ (.sel 0 rfl (.sel 1 rfl (.sel 1 rfl (.sel 1 rfl (.sel 1 rfl (.nil _))))))
 refine sim_if (fun hk68v => ?_) (fun hk68v => ?_)
 refine sim_region ?_
 refine vq (q_fa rfl rfl Tryd.underlying103 rfl rfl Tryd.sizeOf100 rfl) rfl ?_
 refine vq (rq_cast (congrArg fnV hk68v).symm (q_load rfl rfl Tryd.isAgg100 (.obj 0 rfl rfl))) rfl ?_
 refine simL_bind (fun s69v hs70v => ?_)
 refine simL_eff (re_call (vs := [.pointer (some ⟨b9v, 0, none⟩)]) (cap := []) (A := [obj b9v 34 [.int .i64 0, .int .i64 s17v.2.1, .int .i64 s17v.2.2.1, .int .i64 s17v.2.2.2.1, .int .i64 s17v.2.2.2.2.1, .int .i64 (IntKind.i64.wrap (x0_5 - s2v.2.2.2.2.2.2.1)), str s17v.2.2.2.2.2.1, str s17v.2.2.2.2.2.2.1, str s17v.2.2.2.2.2.2.2]]) (rst := [obj b37v 103 [fnV ((s2v.2.2.2.2.2.2.2.2.2.2.1.getD s17v.1.toNat dz103).1), fnV ((s2v.2.2.2.2.2.2.2.2.2.2.1.getD s17v.1.toNat dz103).2.1), .bool ((s2v.2.2.2.2.2.2.2.2.2.2.1.getD s17v.1.toNat dz103).2.2)], obj b6v 99 [str s2v.1, .int .i64 s2v.2.1, .int .i64 s2v.2.2.1, .int .i64 s2v.2.2.2.1, .int .i64 s2v.2.2.2.2.1, .int .i64 s2v.2.2.2.2.2.1, .int .i64 s2v.2.2.2.2.2.2.1, str s2v.2.2.2.2.2.2.2.1, str s2v.2.2.2.2.2.2.2.2.1, str s2v.2.2.2.2.2.2.2.2.2.1, .slice y4v.1 s2v.2.2.2.2.2.2.2.2.2.2.1.length y4v.2.1], obj b1v 34 [.int .i64 x0_0, .int .i64 x0_1, .int .i64 x0_2, .int .i64 x0_3, .int .i64 x0_4, .int .i64 x0_5, str x0_6, str x0_7, str x0_8], y4v.2.2, F]) rfl rfl rfl rfl rfl rfl Tryd.call69 (.sel 1 rfl (.sel 0 rfl (.sel 0 rfl (.sel 0 rfl (.sel 0 rfl (.sel 0 rfl (.nil _))))))) (text_lines_5.calls _ _ b9v (0 : Int) s17v.2.1 s17v.2.2.1 s17v.2.2.2.1 s17v.2.2.2.2.1 (IntKind.i64.wrap (x0_5 - s2v.2.2.2.2.2.2.1)) s17v.2.2.2.2.2.1 s17v.2.2.2.2.2.2.1 s17v.2.2.2.2.2.2.2 ) hs70v) rfl rfl rfl ?_
 intro y71v
 refine vn rfl rfl ?_
 refine simL_do (re_store 0 rfl rfl rfl Tryd.sizeOf3 rfl rfl (one_of (by rfl)) rfl rfl) rfl rfl ?_
 intro _
 refine simL_ent (H' := [obj b9v 34 [.int .i64 0, .int .i64 s17v.2.1, .int .i64 s17v.2.2.1, .int .i64 0, .int .i64 s17v.2.2.2.2.1, .int .i64 (IntKind.i64.wrap (x0_5 - s2v.2.2.2.2.2.2.1)), str s17v.2.2.2.2.2.1, str s17v.2.2.2.2.2.2.1, str s17v.2.2.2.2.2.2.2], obj b37v 103 [fnV ((s2v.2.2.2.2.2.2.2.2.2.2.1.getD s17v.1.toNat dz103).1), fnV ((s2v.2.2.2.2.2.2.2.2.2.2.1.getD s17v.1.toNat dz103).2.1), .bool ((s2v.2.2.2.2.2.2.2.2.2.2.1.getD s17v.1.toNat dz103).2.2)], obj b6v 99 [str s2v.1, .int .i64 s2v.2.1, .int .i64 s2v.2.2.1, .int .i64 s2v.2.2.2.1, .int .i64 s2v.2.2.2.2.1, .int .i64 s2v.2.2.2.2.2.1, .int .i64 s2v.2.2.2.2.2.2.1, str s2v.2.2.2.2.2.2.2.1, str s2v.2.2.2.2.2.2.2.2.1, str s2v.2.2.2.2.2.2.2.2.2.1, .slice y4v.1 s2v.2.2.2.2.2.2.2.2.2.2.1.length y4v.2.1], obj b1v 34 [.int .i64 x0_0, .int .i64 x0_1, .int .i64 x0_2, .int .i64 x0_3, .int .i64 x0_4, .int .i64 x0_5, str x0_6, str x0_7, str x0_8], y4v.2.2, F]) (Ent.refl _) ?_
 refine simL_nil (nrm_block (nrm_then (sim_region ?_)))
 refine vq (q_add rfl rfl rfl) rfl ?_
 refine vm rfl rfl (simL_nil ?_)
 exact nrm_again (s := (IntKind.i64.wrap (s17v.1 + 1), s17v.2.1, s17v.2.2.1, 0, s17v.2.2.2.2.1, s17v.2.2.2.2.2.1, s17v.2.2.2.2.2.2.1, s17v.2.2.2.2.2.2.2)) () ⟨rfl, rfl, rfl, rfl, rfl, rfl, rfl, trivial⟩ (.sel 0 rfl (.sel 1 rfl (.sel 1 rfl (.sel 1 rfl (.sel 1 rfl (.nil _))))))
 exact sim_none
 refine sim_exi ?_
 refine exi_then ?_
 refine exi_loop ?_
 refine exi_here ?_
 exact nrm_cut (s := (s17v.2.1, s17v.2.2.1, s17v.2.2.2.1, s17v.2.2.2.2.1, s17v.2.2.2.2.2.1, s17v.2.2.2.2.2.2.1, s17v.2.2.2.2.2.2.2)) () ⟨rfl, rfl, rfl, rfl, trivial⟩ (.sel 0 rfl (.sel 0 rfl (.sel 0 rfl (.sel 0 rfl (.sel 0 rfl (.nil _))))))
 intro s15v y16v
 refine sim_seq (sr ?_)
 refine vq (q_loado 0 rfl rfl Tryd.isAgg34 Tryd.sizeOf34 rfl rfl) rfl ?_
 refine vq (q_build (v := .agg #[.int .i64 0, .int .i64 0, .int .i64 0, .int .i64 0, .int .i64 0, .int .i64 0, str ([] : List UInt8), str ([] : List UInt8), str ([] : List UInt8)]) rfl rfl (fun _ => by kernel_rfl)) rfl ?_
 refine vq (q_neagg rfl rfl rfl (by kernel_rfl) (fun d w => eqi_struct Tryd.underlying34 (by kernel_rfl) (eqf_cons (by rfl) (part_of Tryd.isAgg3 rfl) (part_of Tryd.isAgg3 rfl) (eqi_int Tryd.underlying3) (eqf_cons (by rfl) (part_of Tryd.isAgg3 rfl) (part_of Tryd.isAgg3 rfl) (eqi_int Tryd.underlying3) (eqf_cons (by rfl) (part_of Tryd.isAgg3 rfl) (part_of Tryd.isAgg3 rfl) (eqi_int Tryd.underlying3) (eqf_cons (by rfl) (part_of Tryd.isAgg3 rfl) (part_of Tryd.isAgg3 rfl) (eqi_int Tryd.underlying3) (eqf_cons (by rfl) (part_of Tryd.isAgg3 rfl) (part_of Tryd.isAgg3 rfl) (eqi_int Tryd.underlying3) (eqf_cons (by rfl) (part_of Tryd.isAgg3 rfl) (part_of Tryd.isAgg3 rfl) (eqi_int Tryd.underlying3) (eqf_cons (by rfl) (part_of Tryd.isAgg9 rfl) (part_of Tryd.isAgg9 rfl) (eqi_str Tryd.underlying9) (eqf_cons (by rfl) (part_of Tryd.isAgg9 rfl) (part_of Tryd.isAgg9 rfl) (eqi_str Tryd.underlying9) (eqf_last (by rfl) (part_of Tryd.isAgg9 rfl) (part_of Tryd.isAgg9 rfl) (eqi_str Tryd.underlying9)))))))))))) rfl ?_
 refine simL_nil (nrm_then ?_)
 refine sim_condb rfl (fun h72v => ?_) (fun h73v => ?_)
 refine sr ?_
 refine va rfl rfl ?_
 refine va rfl rfl (simL_nil (nrm_then (sim_rtn ?_)))
 refine rtn_then ?_
 exact rtn_fn () rfl rfl rfl (.sel 4 rfl (.nil _))
 refine sim_skip ?_
 refine nrm_then (sr ?_)
 refine vq (q_fa rfl rfl Tryd.underlying99 rfl rfl Tryd.sizeOf9 rfl) rfl ?_
 refine vq (q_load rfl rfl Tryd.isAgg9 (.obj 1 rfl rfl)) rfl ?_
 refine va rfl rfl (simL_nil (nrm_then (sim_seq (sr ?_))))
 refine vq (q_fa rfl rfl Tryd.underlying34 rfl rfl Tryd.sizeOf3 rfl) rfl ?_
 refine vq (q_load rfl rfl Tryd.isAgg3 (.obj 2 rfl rfl)) rfl ?_
 refine vq (q_eql rfl rfl rfl) rfl ?_
 refine vm rfl rfl ?_
 refine simL_cut' 9 (S := Bool) (Unit) (fun s y => [(1, .pointer (some ⟨b1v, 0, none⟩)), (4, .pointer (some ⟨b6v, 0, none⟩)), (5, .int .i64 s2v.2.2.2.2.2.2.2.2.2.2.2), (9, str s2v.1), (69, .bool s)]) (fun s y => [obj b6v 99 [str s2v.1, .int .i64 s2v.2.1, .int .i64 s2v.2.2.1, .int .i64 s2v.2.2.2.1, .int .i64 s2v.2.2.2.2.1, .int .i64 s2v.2.2.2.2.2.1, .int .i64 s2v.2.2.2.2.2.2.1, str s2v.2.2.2.2.2.2.2.1, str s2v.2.2.2.2.2.2.2.2.1, str s2v.2.2.2.2.2.2.2.2.2.1, .slice y4v.1 s2v.2.2.2.2.2.2.2.2.2.2.1.length y4v.2.1], obj b1v 34 [.int .i64 x0_0, .int .i64 x0_1, .int .i64 x0_2, .int .i64 x0_3, .int .i64 x0_4, .int .i64 x0_5, str x0_6, str x0_7, str x0_8], y4v.2.2, F]) ?_ ?_
 refine simL_casep (fun hb79v => ?_) (fun hb80v => ?_)
 rw [hb79v]
 refine simL_valg (q_fa rfl rfl Tryd.underlying34 rfl rfl Tryd.sizeOf3 rfl) rfl rfl rfl rfl rfl rfl ?_
 refine simL_valg (q_load rfl rfl Tryd.isAgg3 (.obj 2 rfl rfl)) rfl rfl rfl rfl rfl rfl ?_
 refine simL_valg (q_lss rfl rfl rfl) rfl rfl rfl rfl rfl rfl ?_
 refine simL_valg (q_move rfl rfl) rfl rfl rfl rfl rfl rfl ?_
 refine simL_valc (b := decide (x0_3 < (1 : Int))) (fun hb78v => RQ.sub (E' := [(1, .pointer (some ⟨b1v, 0, none⟩))]) ⟨rfl, trivial⟩ (q_fa rfl rfl Tryd.underlying34 rfl rfl Tryd.sizeOf3 rfl)) rfl rfl rfl rfl rfl ?_
 refine simL_valc (b := decide (x0_3 < (1 : Int))) (fun hb77v => RQ.sub (E' := [(65, .pointer (some ⟨b1v, 3, none⟩))]) ⟨lk_cv rfl hb77v, trivial⟩ (q_load rfl rfl Tryd.isAgg3 (.obj 2 rfl rfl))) rfl rfl rfl rfl rfl ?_
 refine simL_valc (b := decide (x0_3 < (1 : Int))) (fun hb76v => RQ.sub (E' := [(66, .int .i64 x0_3)]) ⟨lk_cv rfl hb76v, trivial⟩ (q_gtr rfl rfl rfl)) rfl rfl rfl rfl rfl ?_
 refine simL_valg (q_or rfl rfl rfl) rfl rfl rfl rfl rfl rfl ?_
 refine vq (q_pick rfl rfl rfl rfl rfl) rfl (simL_nil ?_)
 exact nrm_cut (s := (decide (x0_3 < (1 : Int))) || (decide ((9 : Int) < x0_3))) () ⟨rfl, rfl, rfl, rfl, rfl, trivial⟩ (.sel 1 rfl (.sel 1 rfl (.sel 1 rfl (.sel 1 rfl (.nil _)))))
 rw [hb80v]
 refine simL_skipd rfl rfl rfl rfl rfl rfl ?_
 refine simL_skipd rfl rfl rfl rfl rfl rfl ?_
 refine simL_skipd rfl rfl rfl rfl rfl rfl ?_
 refine simL_skipd rfl rfl rfl rfl rfl rfl ?_
 refine simL_skipu rfl rfl rfl rfl rfl ?_
 refine simL_skipu rfl rfl rfl rfl rfl ?_
 refine simL_skipu rfl rfl rfl rfl rfl ?_
 refine simL_skipd rfl rfl rfl rfl rfl rfl ?_
 refine vq (q_pick rfl rfl rfl rfl rfl) rfl (simL_nil ?_)
 exact nrm_cut (s := false) () ⟨rfl, rfl, rfl, rfl, rfl, trivial⟩ (.sel 1 rfl (.sel 1 rfl (.sel 1 rfl (.sel 1 rfl (.nil _)))))
 intro s74v y75v
 refine simL_nil (nrm_then ?_)
 refine sim_condb rfl (fun h81v => ?_) (fun h82v => ?_)
 refine sr ?_
 refine va rfl rfl ?_
 refine va rfl rfl (simL_nil (nrm_then (sim_rtn ?_)))
 refine rtn_then ?_
 exact rtn_fn () rfl rfl rfl (.sel 3 rfl (.nil _))
 refine sim_skip ?_
 refine nrm_then ?_
 refine sim_cut (S := Int) (Unit) (fun s y => [(1, .pointer (some ⟨b1v, 0, none⟩)), (4, .pointer (some ⟨b6v, 0, none⟩)), (5, .int .i64 s), (9, str s2v.1)]) (fun s y => [obj b6v 99 [str s2v.1, .int .i64 s2v.2.1, .int .i64 s2v.2.2.1, .int .i64 s2v.2.2.2.1, .int .i64 s2v.2.2.2.2.1, .int .i64 s2v.2.2.2.2.2.1, .int .i64 s2v.2.2.2.2.2.2.1, str s2v.2.2.2.2.2.2.2.1, str s2v.2.2.2.2.2.2.2.2.1, str s2v.2.2.2.2.2.2.2.2.2.1, .slice y4v.1 s2v.2.2.2.2.2.2.2.2.2.2.1.length y4v.2.1], obj b1v 34 [.int .i64 x0_0, .int .i64 x0_1, .int .i64 x0_2, .int .i64 x0_3, .int .i64 x0_4, .int .i64 x0_5, str x0_6, str x0_7, str x0_8], y4v.2.2, F]) ?_ ?_
 refine sr ?_
 refine vq (q_fa rfl rfl Tryd.underlying34 rfl rfl Tryd.sizeOf3 rfl) rfl ?_
 refine vq (q_load rfl rfl Tryd.isAgg3 (.obj 1 rfl rfl)) rfl ?_
 refine vq (q_eql rfl rfl rfl) rfl ?_
 refine vm rfl rfl ?_
 refine simL_valc (b := decide (x0_0 = (8 : Int))) (fun hb92v => RQ.sub (E' := [(1, .pointer (some ⟨b1v, 0, none⟩))]) ⟨rfl, trivial⟩ (q_fa rfl rfl Tryd.underlying34 rfl rfl Tryd.sizeOf3 rfl)) rfl rfl rfl rfl rfl ?_
 refine simL_valc (b := decide (x0_0 = (8 : Int))) (fun hb91v => RQ.sub (E' := [(74, .pointer (some ⟨b1v, 4, none⟩))]) ⟨lk_cv rfl hb91v, trivial⟩ (q_load rfl rfl Tryd.isAgg3 (.obj 1 rfl rfl))) rfl rfl rfl rfl rfl ?_
 refine simL_valc (b := decide (x0_0 = (8 : Int))) (fun hb90v => RQ.sub (E' := [(4, .pointer (some ⟨b6v, 0, none⟩))]) ⟨rfl, trivial⟩ (q_fa rfl rfl Tryd.underlying99 rfl rfl Tryd.sizeOf34 rfl)) rfl rfl rfl rfl rfl ?_
 refine simL_valc (b := decide (x0_0 = (8 : Int))) (fun hb89v => RQ.sub (E' := [(76, .pointer (some ⟨b6v, 1, none⟩))]) ⟨lk_cv rfl hb89v, trivial⟩ (q_fa rfl rfl Tryd.underlying34 rfl rfl Tryd.sizeOf3 rfl)) rfl rfl rfl rfl rfl ?_
 refine simL_valc (b := decide (x0_0 = (8 : Int))) (fun hb88v => RQ.sub (E' := [(77, .pointer (some ⟨b6v, 5, none⟩))]) ⟨lk_cv rfl hb88v, trivial⟩ (q_load rfl rfl Tryd.isAgg3 (.obj 0 rfl rfl))) rfl rfl rfl rfl rfl ?_
 refine simL_valc (b := decide (x0_0 = (8 : Int))) (fun hb87v => RQ.sub (E' := [(75, .int .i64 x0_4), (78, .int .i64 s2v.2.2.2.2.2.1)]) ⟨lk_cv rfl hb87v, lk_cv rfl hb87v, trivial⟩ (q_neq rfl rfl rfl)) rfl rfl rfl rfl rfl ?_
 refine vq (q_and rfl rfl rfl) rfl (simL_nil (nrm_then ?_))
 refine sim_condb rfl (fun h85v => ?_) (fun h86v => ?_)
 refine sim_region ?_
 refine va rfl rfl (simL_nil ?_)
 exact nrm_cut (s := 1) () ⟨rfl, rfl, rfl, rfl, trivial⟩ (.sel 0 rfl (.sel 0 rfl (.sel 0 rfl (.sel 0 rfl (.nil _)))))
 refine sim_skip ?_
 exact nrm_cut (s := s2v.2.2.2.2.2.2.2.2.2.2.2) () ⟨rfl, rfl, rfl, rfl, trivial⟩ (.sel 0 rfl (.sel 0 rfl (.sel 0 rfl (.sel 0 rfl (.nil _)))))
 intro s83v y84v
 refine sim_cut (S := Int × List UInt8) (Unit) (fun s y => [(5, .int .i64 s.1), (9, str s.2)]) (fun s y => [F]) ?_ ?_
 refine sr ?_
 refine vq (q_fa rfl rfl Tryd.underlying99 rfl rfl Tryd.sizeOf97 rfl) rfl ?_
 refine vq (q_load rfl rfl Tryd.isAgg97 (.obj 0 rfl rfl)) rfl ?_
 refine vq (q_len rfl rfl rfl Tryd.underlying97) rfl ?_
 refine vm rfl rfl (simL_nil (nrm_then ?_))
 refine sim_block ?_
 refine sim_loop (S := Int × List UInt8 × Int) (Unit) (fun k s => text_FormatAct.l1 x0_0 x0_1 x0_2 x0_3 x0_4 x0_5 x0_6 x0_7 x0_8 s2v k s.1 s.2.1 s.2.2) (fun s y => [(1, .pointer (some ⟨b1v, 0, none⟩)), (5, .int .i64 s.1), (9, str s.2.1), (82, .slice y4v.1 s2v.2.2.2.2.2.2.2.2.2.2.1.length y4v.2.1), (83, .int .i64 (s2v.2.2.2.2.2.2.2.2.2.2.1.length : Int)), (84, .int .i64 s.2.2)]) (fun s y => [obj b1v 34 [.int .i64 x0_0, .int .i64 x0_1, .int .i64 x0_2, .int .i64 x0_3, .int .i64 x0_4, .int .i64 x0_5, str x0_6, str x0_7, str x0_8], y4v.2.2, F]) (fun _ => by rw [text_FormatAct.l1]) ?_ k (s83v, s2v.1, 0) () ⟨rfl, rfl, rfl, rfl, rfl, rfl, trivial⟩ (.sel 1 rfl (.sel 1 rfl (.sel 1 rfl (.nil _))))
 intro k s95v y96v
 refine sim_eq (by rw [text_FormatAct.l1]) ?_
 refine sr ?_
 refine vq (q_lss rfl rfl rfl) rfl (simL_nil (nrm_then (sim_seq ?_)))
 refine sim_cond rfl (fun h100v => ?_) (fun h101v => ?_)
 refine sim_skip ?_
 refine nrm_then (sim_seq ?_)
 refine sim_block ?_
 refine sr ?_
 refine simL_ask (fun hi102v => ?_)
 obtain ⟨b103v, b103vo, r106v, ha104v, hV107v, hlr108v, hcell109v⟩ := RdV.pos hp5v.1 (Up.refl _) rfl (i := s95v.2.2.toNat) (by omega) dz103
 obtain rfl := hV107v
 refine vq (q_idx rfl rfl rfl ha104v Tryd.underlying97 Tryd.sizeOf103 hi102v.1 hi102v.2) rfl ?_
 refine vq (q_loads rfl rfl Tryd.isAgg103 Tryd.sizeOf103 rfl (fun j v hj => hcell109v 1 rfl j v hj)) rfl ?_
 refine simL_eff (re_alloc rfl Tryd.zeroValue103 rfl) rfl rfl rfl ?_
 intro b110v
 refine simL_do (re_store 0 rfl rfl rfl Tryd.sizeOf103 rfl rfl (one_cons (fnV_one _) (one_cons (fnV_one _) (one_cons rfl one_nil))) rfl rfl) rfl rfl ?_
 intro _
 refine simL_nil (nrm_then ?_)
 refine sim_block ?_
 refine sr ?_
 refine vq (q_fa rfl rfl Tryd.underlying103 rfl rfl Tryd.sizeOf101 rfl) rfl ?_
 refine vq (q_load rfl rfl Tryd.isAgg101 (.obj 0 rfl rfl)) rfl ?_
 refine vq (q_neqfn rfl rfl Tryd.underlying101) rfl ?_
 refine va rfl rfl (simL_nil (nrm_then ?_))
 refine sim_condb rfl (fun h111v => ?_) (fun h112v => ?_)
 refine sim_if (fun hk113v => ?_) (fun hk113v => ?_)
 refine sim_region ?_
 refine vm rfl rfl ?_
 refine vq (q_fa rfl rfl Tryd.underlying103 rfl rfl Tryd.sizeOf101 rfl) rfl ?_
 refine vq (rq_cast (congrArg fnV hk113v).symm (q_load rfl rfl Tryd.isAgg101 (.obj 0 rfl rfl))) rfl ?_
 refine simL_bind (fun s114v hs115v => ?_)
 refine simL_eff (re_call (vs := [.pointer (some ⟨b1v, 0, none⟩)]) (cap := []) (A := [obj b1v 34 [.int .i64 x0_0, .int .i64 x0_1, .int .i64 x0_2, .int .i64 x0_3, .int .i64 x0_4, .int .i64 x0_5, str x0_6, str x0_7, str x0_8]]) (rst := [obj b110v 103 [fnV ((s2v.2.2.2.2.2.2.2.2.2.2.1.getD s95v.2.2.toNat dz103).1), fnV ((s2v.2.2.2.2.2.2.2.2.2.2.1.getD s95v.2.2.toNat dz103).2.1), .bool ((s2v.2.2.2.2.2.2.2.2.2.2.1.getD s95v.2.2.toNat dz103).2.2)], y4v.2.2, F]) rfl rfl rfl rfl rfl rfl Tryd.call70 (.sel 1 rfl (.sel 0 rfl (.sel 0 rfl (.sel 0 rfl (.nil _))))) (text_lines_6.calls _ _ b1v x0_0 x0_1 x0_2 x0_3 x0_4 x0_5 x0_6 x0_7 x0_8 ) hs115v) rfl rfl rfl ?_
 intro y116v
 refine vn rfl rfl ?_
 refine vq (q_load rfl rfl Tryd.isAgg9 (.obj 0 rfl rfl)) rfl ?_
 refine simL_bind (fun s117v hs118v => ?_)
 refine simL_eff (re_call (vs := [str x0_6]) (cap := []) (A := []) (rst := [obj b1v 34 [.int .i64 x0_0, .int .i64 x0_1, .int .i64 x0_2, .int .i64 x0_3, .int .i64 x0_4, .int .i64 x0_5, str x0_6, str x0_7, str x0_8], obj b110v 103 [fnV ((s2v.2.2.2.2.2.2.2.2.2.2.1.getD s95v.2.2.toNat dz103).1), fnV ((s2v.2.2.2.2.2.2.2.2.2.2.1.getD s95v.2.2.toNat dz103).2.1), .bool ((s2v.2.2.2.2.2.2.2.2.2.2.1.getD s95v.2.2.toNat dz103).2.2)], y4v.2.2, F]) rfl rfl rfl rfl rfl rfl Tryd.call16 (.sel 0 rfl (.sel 0 rfl (.sel 0 rfl (.sel 0 rfl (.nil _))))) (text_Quote.calls _ _ k x0_6 ) hs118v) rfl rfl rfl ?_
 intro y119v
 refine simL_ask (fun hb120v => ?_)
 refine vq (q_cat rfl rfl rfl hb120v) rfl ?_
 refine simL_ask (fun hb121v => ?_)
 refine vq (q_cat rfl rfl rfl hb121v) rfl ?_
 refine va rfl rfl (simL_nil (nrm_block (nrm_block (nrm_then (sim_region ?_)))))
 refine vq (q_add rfl rfl rfl) rfl ?_
 refine vm rfl rfl (simL_nil ?_)
 exact nrm_again (s := (s95v.1, s95v.2.1 ++ (([32] : List UInt8) ++ s117v), IntKind.i64.wrap (s95v.2.2 + 1))) () ⟨rfl, rfl, rfl, rfl, rfl, rfl, trivial⟩ (.sel 0 rfl (.sel 1 rfl (.sel 1 rfl (.nil _))))
 refine sim_if (fun hk122v => ?_) (fun hk122v => ?_)
 refine sim_region ?_
 refine vm rfl rfl ?_
 refine vq (q_fa rfl rfl Tryd.underlying103 rfl rfl Tryd.sizeOf101 rfl) rfl ?_
 refine vq (rq_cast (congrArg fnV hk122v).symm (q_load rfl rfl Tryd.isAgg101 (.obj 0 rfl rfl))) rfl ?_
 refine simL_bind (fun s123v hs124v => ?_)
 refine simL_eff (re_call (vs := [.pointer (some ⟨b1v, 0, none⟩)]) (cap := []) (A := [obj b1v 34 [.int .i64 x0_0, .int .i64 x0_1, .int .i64 x0_2, .int .i64 x0_3, .int .i64 x0_4, .int .i64 x0_5, str x0_6, str x0_7, str x0_8]]) (rst := [obj b110v 103 [fnV ((s2v.2.2.2.2.2.2.2.2.2.2.1.getD s95v.2.2.toNat dz103).1), fnV ((s2v.2.2.2.2.2.2.2.2.2.2.1.getD s95v.2.2.toNat dz103).2.1), .bool ((s2v.2.2.2.2.2.2.2.2.2.2.1.getD s95v.2.2.toNat dz103).2.2)], y4v.2.2, F]) rfl rfl rfl rfl rfl rfl Tryd.call71 (.sel 1 rfl (.sel 0 rfl (.sel 0 rfl (.sel 0 rfl (.nil _))))) (text_lines_7.calls _ _ b1v x0_0 x0_1 x0_2 x0_3 x0_4 x0_5 x0_6 x0_7 x0_8 ) hs124v) rfl rfl rfl ?_
 intro y125v
 refine vn rfl rfl ?_
 refine vq (q_load rfl rfl Tryd.isAgg9 (.obj 0 rfl rfl)) rfl ?_
 refine simL_bind (fun s126v hs127v => ?_)
 refine simL_eff (re_call (vs := [str x0_7]) (cap := []) (A := []) (rst := [obj b1v 34 [.int .i64 x0_0, .int .i64 x0_1, .int .i64 x0_2, .int .i64 x0_3, .int .i64 x0_4, .int .i64 x0_5, str x0_6, str x0_7, str x0_8], obj b110v 103 [fnV ((s2v.2.2.2.2.2.2.2.2.2.2.1.getD s95v.2.2.toNat dz103).1), fnV ((s2v.2.2.2.2.2.2.2.2.2.2.1.getD s95v.2.2.toNat dz103).2.1), .bool ((s2v.2.2.2.2.2.2.2.2.2.2.1.getD s95v.2.2.toNat dz103).2.2)], y4v.2.2, F]) rfl rfl rfl rfl rfl rfl Tryd.call16 (.sel 0 rfl (.sel 0 rfl (.sel 0 rfl (.sel 0 rfl (.nil _))))) (text_Quote.calls _ _ k x0_7 ) hs127v) rfl rfl rfl ?_
 intro y128v
 refine simL_ask (fun hb129v => ?_)
 refine vq (q_cat rfl rfl rfl hb129v) rfl ?_
 refine simL_ask (fun hb130v => ?_)
 refine vq (q_cat rfl rfl rfl hb130v) rfl ?_
 refine va rfl rfl (simL_nil (nrm_block (nrm_block (nrm_then (sim_region ?_)))))
 refine vq (q_add rfl rfl rfl) rfl ?_
 refine vm rfl rfl (simL_nil ?_)
 exact nrm_again (s := (s95v.1, s95v.2.1 ++ (([32] : List UInt8) ++ s126v), IntKind.i64.wrap (s95v.2.2 + 1))) () ⟨rfl, rfl, rfl, rfl, rfl, rfl, trivial⟩ (.sel 0 rfl (.sel 1 rfl (.sel 1 rfl (.nil _))))
 refine sim_if (fun hk131v => ?_) (fun hk131v => ?_)
 refine sim_region ?_
 refine vm rfl rfl ?_
 refine vq (q_fa rfl rfl Tryd.underlying103 rfl rfl Tryd.sizeOf101 rfl) rfl ?_
 refine vq (rq_cast (congrArg fnV hk131v).symm (q_load rfl rfl Tryd.isAgg101 (.obj 0 rfl rfl))) rfl ?_
 refine simL_bind (fun s132v hs133v => ?_)
 refine simL_eff (re_call (vs := [.pointer (some ⟨b1v, 0, none⟩)]) (cap := []) (A := [obj b1v 34 [.int .i64 x0_0, .int .i64 x0_1, .int .i64 x0_2, .int .i64 x0_3, .int .i64 x0_4, .int .i64 x0_5, str x0_6, str x0_7, str x0_8]]) (rst := [obj b110v 103 [fnV ((s2v.2.2.2.2.2.2.2.2.2.2.1.getD s95v.2.2.toNat dz103).1), fnV ((s2v.2.2.2.2.2.2.2.2.2.2.1.getD s95v.2.2.toNat dz103).2.1), .bool ((s2v.2.2.2.2.2.2.2.2.2.2.1.getD s95v.2.2.toNat dz103).2.2)], y4v.2.2, F]) rfl rfl rfl rfl rfl rfl Tryd.call72 (.sel 1 rfl (.sel 0 rfl (.sel 0 rfl (.sel 0 rfl (.nil _))))) (text_lines_8.calls _ _ b1v x0_0 x0_1 x0_2 x0_3 x0_4 x0_5 x0_6 x0_7 x0_8 ) hs133v) rfl rfl rfl ?_
 intro y134v
 refine vn rfl rfl ?_
 refine vq (q_load rfl rfl Tryd.isAgg9 (.obj 0 rfl rfl)) rfl ?_
 refine simL_bind (fun s135v hs136v => ?_)
 refine simL_eff (re_call (vs := [str x0_8]) (cap := []) (A := []) (rst := [obj b1v 34 [.int .i64 x0_0, .int .i64 x0_1, .int .i64 x0_2, .int .i64 x0_3, .int .i64 x0_4, .int .i64 x0_5, str x0_6, str x0_7, str x0_8], obj b110v 103 [fnV ((s2v.2.2.2.2.2.2.2.2.2.2.1.getD s95v.2.2.toNat dz103).1), fnV ((s2v.2.2.2.2.2.2.2.2.2.2.1.getD s95v.2.2.toNat dz103).2.1), .bool ((s2v.2.2.2.2.2.2.2.2.2.2.1.getD s95v.2.2.toNat dz103).2.2)], y4v.2.2, F]) rfl rfl rfl rfl rfl rfl Tryd.call16 (.sel 0 rfl (.sel 0 rfl (.sel 0 rfl (.sel 0 rfl (.nil _))))) (text_Quote.calls _ _ k x0_8 ) hs136v) rfl rfl rfl ?_
 intro y137v
 refine simL_ask (fun hb138v => ?_)
 refine vq (q_cat rfl rfl rfl hb138v) rfl ?_
 refine simL_ask (fun hb139v => ?_)
 refine vq (q_cat rfl rfl rfl hb139v) rfl ?_
 refine va rfl rfl (simL_nil (nrm_block (nrm_block (nrm_then (sim_region ?_)))))
 refine vq (q_add rfl rfl rfl) rfl ?_
 refine vm rfl rfl (simL_nil ?_)
 exact nrm_again (s := (s95v.1, s95v.2.1 ++ (([32] : List UInt8) ++ s135v), IntKind.i64.wrap (s95v.2.2 + 1))) () ⟨rfl, rfl, rfl, rfl, rfl, rfl, trivial⟩ (.sel 0 rfl (.sel 1 rfl (.sel 1 rfl (.nil _))))
 exact sim_none
 refine sim_seq ?_
 refine sim_if (fun hk140v => ?_) (fun hk140v => ?_)
 refine sim_region ?_
 refine vq (q_fa rfl rfl Tryd.underlying103 rfl rfl Tryd.sizeOf100 rfl) rfl ?_
 refine vq (rq_cast (congrArg fnV hk140v).symm (q_load rfl rfl Tryd.isAgg100 (.obj 0 rfl rfl))) rfl ?_
 refine simL_bind (fun s141v hs142v => ?_)
 refine simL_eff (re_call (vs := [.pointer (some ⟨b1v, 0, none⟩)]) (cap := []) (A := [obj b1v 34 [.int .i64 x0_0, .int .i64 x0_1, .int .i64 x0_2, .int .i64 x0_3, .int .i64 x0_4, .int .i64 x0_5, str x0_6, str x0_7, str x0_8]]) (rst := [obj b110v 103 [fnV ((s2v.2.2.2.2.2.2.2.2.2.2.1.getD s95v.2.2.toNat dz103).1), fnV ((s2v.2.2.2.2.2.2.2.2.2.2.1.getD s95v.2.2.toNat dz103).2.1), .bool ((s2v.2.2.2.2.2.2.2.2.2.2.1.getD s95v.2.2.toNat dz103).2.2)], y4v.2.2, F]) rfl rfl rfl rfl rfl rfl Tryd.call65 (.sel 1 rfl (.sel 0 rfl (.sel 0 rfl (.sel 0 rfl (.nil _))))) (text_lines_1.calls _ _ b1v x0_0 x0_1 x0_2 x0_3 x0_4 x0_5 x0_6 x0_7 x0_8 ) hs142v) rfl rfl rfl ?_
 intro y143v
 refine vn rfl rfl ?_
 refine vq (q_load rfl rfl Tryd.isAgg3 (.obj 0 rfl rfl)) rfl ?_
 refine simL_bind (fun s144v hs145v => ?_)
 refine simL_eff (re_call (vs := [.int .i64 x0_1]) (cap := []) (A := []) (rst := [obj b1v 34 [.int .i64 x0_0, .int .i64 x0_1, .int .i64 x0_2, .int .i64 x0_3, .int .i64 x0_4, .int .i64 x0_5, str x0_6, str x0_7, str x0_8], obj b110v 103 [fnV ((s2v.2.2.2.2.2.2.2.2.2.2.1.getD s95v.2.2.toNat dz103).1), fnV ((s2v.2.2.2.2.2.2.2.2.2.2.1.getD s95v.2.2.toNat dz103).2.1), .bool ((s2v.2.2.2.2.2.2.2.2.2.2.1.getD s95v.2.2.toNat dz103).2.2)], y4v.2.2, F]) rfl rfl rfl rfl rfl rfl Tryd.call49 (.sel 0 rfl (.sel 0 rfl (.sel 0 rfl (.sel 0 rfl (.nil _))))) (text_within.calls _ _ x0_1 ) hs145v) rfl rfl rfl ?_
 intro y146v
 refine vq (q_not rfl rfl) rfl ?_
 refine va rfl rfl (simL_nil (nrm_then ?_))
 refine sim_condb rfl (fun h147v => ?_) (fun h148v => ?_)
 refine sim_region ?_
 refine va rfl rfl (simL_nil (nrm_block (nrm_block (nrm_then (sim_region ?_)))))
 refine vq (q_add rfl rfl rfl) rfl ?_
 refine vm rfl rfl (simL_nil ?_)
 exact nrm_again (s := (1, s95v.2.1, IntKind.i64.wrap (s95v.2.2 + 1))) () ⟨rfl, rfl, rfl, rfl, rfl, rfl, trivial⟩ (.sel 0 rfl (.sel 1 rfl (.sel 1 rfl (.nil _))))
 refine sr ?_
 refine vq (q_fa rfl rfl Tryd.underlying103 rfl rfl Tryd.sizeOf4 rfl) rfl ?_
 refine vq (q_load rfl rfl Tryd.isAgg4 (.obj 1 rfl rfl)) rfl ?_
 refine va rfl rfl (simL_nil (nrm_then ?_))
 refine sim_condb rfl (fun h149v => ?_) (fun h150v => ?_)
 refine sim_bind (fun s151v hs152v => ?_)
 refine sim_ask (fun hi154v => ?_)
 refine sim_ask (fun hb155v => ?_)
 refine sim_ask (fun hb156v => ?_)
 refine sim_draw (Γ := (Option Addr × Nat)) (none, 0) [[], [], [], [2], [2, 3], [1, 2, 3, 4], [1, 2, 3, 4, 5], [1, 2, 3, 4, 5, 6], rL 8, rL 9] [1] [0, 2, 3, 4, 5, 6, 7, 8, 9] (fun i => [[0, 1], [], [0, 1], [0, 1], [0, 1], [1], [1], [1], [1], [1]].getD i []) (fun i => [[], [0, 2, 3, 4], [], [], [], [], [], [], [], []].getD i []) (fun γ i => [str s95v.2.1, .slice γ.1 s151v.length γ.2, .pointer (some ⟨b1v, 3, none⟩), .int .i64 x0_3, .int .i64 (IntKind.i64.wrap (x0_3 - 1)), atV γ.1 (IntKind.i64.wrap (x0_3 - 1)).toNat, str (s151v.getD (IntKind.i64.wrap (x0_3 - 1)).toNat ([] : List UInt8)), str (([32] : List UInt8) ++ (s151v.getD (IntKind.i64.wrap (x0_3 - 1)).toNat ([] : List UInt8))), str (s95v.2.1 ++ (([32] : List UInt8) ++ (s151v.getD (IntKind.i64.wrap (x0_3 - 1)).toNat ([] : List UInt8)))), str (s95v.2.1 ++ (([32] : List UInt8) ++ (s151v.getD (IntKind.i64.wrap (x0_3 - 1)).toNat ([] : List UInt8))))].getD i undef) (fun j γ => [[obj b1v 34 [.int .i64 x0_0, .int .i64 x0_1, .int .i64 x0_2, .int .i64 x0_3, .int .i64 x0_4, .int .i64 x0_5, str x0_6, str x0_7, str x0_8], obj b110v 103 [fnV ((s2v.2.2.2.2.2.2.2.2.2.2.1.getD s95v.2.2.toNat dz103).1), fnV ((s2v.2.2.2.2.2.2.2.2.2.2.1.getD s95v.2.2.toNat dz103).2.1), .bool ((s2v.2.2.2.2.2.2.2.2.2.2.1.getD s95v.2.2.toNat dz103).2.2)], y4v.2.2, F], [RowV 9 1 (V9 tt) γ.1 s151v γ.2, obj b1v 34 [.int .i64 x0_0, .int .i64 x0_1, .int .i64 x0_2, .int .i64 x0_3, .int .i64 x0_4, .int .i64 x0_5, str x0_6, str x0_7, str x0_8], obj b110v 103 [fnV ((s2v.2.2.2.2.2.2.2.2.2.2.1.getD s95v.2.2.toNat dz103).1), fnV ((s2v.2.2.2.2.2.2.2.2.2.2.1.getD s95v.2.2.toNat dz103).2.1), .bool ((s2v.2.2.2.2.2.2.2.2.2.2.1.getD s95v.2.2.toNat dz103).2.2)], y4v.2.2, F]].getD j []) (fun γ => [(1, .pointer (some ⟨b1v, 0, none⟩)), (5, .int .i64 s95v.1), (9, str (s95v.2.1 ++ (([32] : List UInt8) ++ (s151v.getD (IntKind.i64.wrap (x0_3 - 1)).toNat ([] : List UInt8))))), (82, .slice y4v.1 s2v.2.2.2.2.2.2.2.2.2.2.1.length y4v.2.1), (83, .int .i64 (s2v.2.2.2.2.2.2.2.2.2.2.1.length : Int)), (84, .int .i64 s95v.2.2)]) mixed (by decide) (by decide) (by decide) (by decide) (by decide) (by decide) (by decide) 142 rfl (by decide) (by decide) (by decide) (Ent.refl _) ?_ ?_ (fun _ => ⟨rfl, rfl, rfl, rfl, rfl, rfl, trivial⟩) ?_
 exact (ac (fun γ => (ac (qm rfl (.o (s := 9) rfl (by decide) .nil) rfl) (ac (qm rfl (.o (s := 9) rfl (by decide) .nil) rfl) zA))) (ac (fun γ => (ac (qp rfl rfl (.o (s := 1) rfl (by decide) .nil) (q_fa rfl rfl Tryd.underlying34 rfl rfl Tryd.sizeOf3 rfl) rfl) (ac (qp rfl rfl (.o (s := 1) rfl (by decide) .nil) (q_fa rfl rfl Tryd.underlying34 rfl rfl Tryd.sizeOf3 rfl) rfl) zA))) (ac (fun γ => (ac (qp rfl rfl (.v 2 rfl rfl .nil) (q_load rfl rfl Tryd.isAgg3 (.obj 0 rfl rfl)) rfl) (ac (qp rfl rfl (.v 2 rfl rfl .nil) (q_load rfl rfl Tryd.isAgg3 (.obj 1 rfl rfl)) rfl) zA))) (ac (fun γ => (ac (qp rfl rfl (.v 3 rfl rfl .nil) (q_sub rfl rfl rfl) rfl) (ac (qp rfl rfl (.v 3 rfl rfl .nil) (q_sub rfl rfl rfl) rfl) zA))) (aq rfl (fun γ => qp rfl rfl (.v 1 rfl rfl (.v 4 rfl rfl .nil)) (q_idxV 0 rfl ([] : List UInt8) rfl rfl rfl Tryd.underlying23 Tryd.sizeOf9 hi154v.1 hi154v.2) rfl) (aq rfl (fun γ => qp rfl rfl (.v 5 rfl rfl .nil) (q_loadV (fun z => str z) 0 rfl ([] : List UInt8) (fun _ _ h => h) rfl rfl Tryd.isAgg9 (by omega)) rfl) (aq rfl (fun γ => qp rfl rfl (.v 6 rfl rfl .nil) (q_cat rfl rfl rfl hb155v) rfl) (aq rfl (fun γ => qp rfl rfl (.v 0 rfl rfl (.v 7 rfl rfl .nil)) (q_cat rfl rfl rfl hb156v) rfl) (aq rfl (fun γ => qp rfl rfl (.v 8 rfl rfl .nil) (q_asg rfl rfl) rfl) zA)))))))))
 exact (ac (fun γ => eo (Z := Option Addr × Nat) (fun z => z) rfl rfl .nil (re_call (vs := []) (cap := []) (A := []) (rst := [obj b1v 34 [.int .i64 x0_0, .int .i64 x0_1, .int .i64 x0_2, .int .i64 x0_3, .int .i64 x0_4, .int .i64 x0_5, str x0_6, str x0_7, str x0_8], obj b110v 103 [fnV ((s2v.2.2.2.2.2.2.2.2.2.2.1.getD s95v.2.2.toNat dz103).1), fnV ((s2v.2.2.2.2.2.2.2.2.2.2.1.getD s95v.2.2.toNat dz103).2.1), .bool ((s2v.2.2.2.2.2.2.2.2.2.2.1.getD s95v.2.2.toNat dz103).2.2)], y4v.2.2, F]) rfl rfl rfl rfl rfl rfl Tryd.call50 (.sel 0 rfl (.sel 0 rfl (.sel 0 rfl (.sel 0 rfl (.nil _))))) (text_picks.calls _ _  ) hs152v) (fun _ => ⟨rfl, rfl, rfl, rfl, trivial⟩) (fun _ => .inr rfl) (fun z => Ent.refl _)) zA)
 intro g157v
 refine nrm_block (nrm_block (nrm_then (sim_region ?_)))
 refine vq (q_add rfl rfl rfl) rfl ?_
 refine vm rfl rfl (simL_nil ?_)
 exact nrm_again (s := (s95v.1, s95v.2.1 ++ (([32] : List UInt8) ++ (s151v.getD (IntKind.i64.wrap (x0_3 - 1)).toNat ([] : List UInt8))), IntKind.i64.wrap (s95v.2.2 + 1))) () ⟨rfl, rfl, rfl, rfl, rfl, rfl, trivial⟩ (.sel 1 rfl (.sel 2 rfl (.sel 2 rfl (.nil _))))
 refine sim_region ?_
 refine vm rfl rfl ?_
 refine vq (q_fa rfl rfl Tryd.underlying103 rfl rfl Tryd.sizeOf100 rfl) rfl ?_
 refine vq (rq_cast (congrArg fnV hk140v).symm (q_load rfl rfl Tryd.isAgg100 (.obj 1 rfl rfl))) rfl ?_
 refine simL_bind (fun s158v hs159v => ?_)
 refine simL_eff (re_call (vs := [.pointer (some ⟨b1v, 0, none⟩)]) (cap := []) (A := [obj b1v 34 [.int .i64 x0_0, .int .i64 x0_1, .int .i64 x0_2, .int .i64 x0_3, .int .i64 x0_4, .int .i64 x0_5, str x0_6, str x0_7, str x0_8]]) (rst := [obj b110v 103 [fnV ((s2v.2.2.2.2.2.2.2.2.2.2.1.getD s95v.2.2.toNat dz103).1), fnV ((s2v.2.2.2.2.2.2.2.2.2.2.1.getD s95v.2.2.toNat dz103).2.1), .bool ((s2v.2.2.2.2.2.2.2.2.2.2.1.getD s95v.2.2.toNat dz103).2.2)], y4v.2.2, F]) rfl rfl rfl rfl rfl rfl Tryd.call65 (.sel 0 rfl (.sel 0 rfl (.sel 0 rfl (.sel 0 rfl (.nil _))))) (text_lines_1.calls _ _ b1v x0_0 x0_1 x0_2 x0_3 x0_4 x0_5 x0_6 x0_7 x0_8 ) hs159v) rfl rfl rfl ?_
 intro y160v
 refine vn rfl rfl ?_
 refine vq (q_load rfl rfl Tryd.isAgg3 (.obj 0 rfl rfl)) rfl ?_
 refine simL_bind (fun s161v hs162v => ?_)
 refine simL_eff (re_call (vs := [.int .i64 x0_1]) (cap := []) (A := []) (rst := [obj b1v 34 [.int .i64 x0_0, .int .i64 x0_1, .int .i64 x0_2, .int .i64 x0_3, .int .i64 x0_4, .int .i64 x0_5, str x0_6, str x0_7, str x0_8], obj b110v 103 [fnV ((s2v.2.2.2.2.2.2.2.2.2.2.1.getD s95v.2.2.toNat dz103).1), fnV ((s2v.2.2.2.2.2.2.2.2.2.2.1.getD s95v.2.2.toNat dz103).2.1), .bool ((s2v.2.2.2.2.2.2.2.2.2.2.1.getD s95v.2.2.toNat dz103).2.2)], y4v.2.2, F]) rfl rfl rfl rfl rfl rfl Tryd.call51 (.sel 0 rfl (.sel 0 rfl (.sel 0 rfl (.sel 0 rfl (.nil _))))) (strconv_Itoa.calls _ _ x0_1 (hgl.lend 3 rfl)) hs162v) rfl rfl rfl ?_
 intro y163v
 refine simL_ask (fun hb164v => ?_)
 refine vq (q_cat rfl rfl rfl hb164v) rfl ?_
 refine simL_ask (fun hb165v => ?_)
 refine vq (q_cat rfl rfl rfl hb165v) rfl ?_
 refine va rfl rfl (simL_nil (nrm_block (nrm_block (nrm_then (sim_region ?_)))))
 refine vq (q_add rfl rfl rfl) rfl ?_
 refine vm rfl rfl (simL_nil ?_)
 exact nrm_again (s := (s95v.1, s95v.2.1 ++ (([32] : List UInt8) ++ s161v), IntKind.i64.wrap (s95v.2.2 + 1))) () ⟨rfl, rfl, rfl, rfl, rfl, rfl, trivial⟩ (.sel 0 rfl (.sel 1 rfl (.sel 1 rfl (.nil _))))
 refine sim_if (fun hk166v => ?_) (fun hk166v => ?_)
 refine sim_region ?_
 refine vq (q_fa rfl rfl Tryd.underlying103 rfl rfl Tryd.sizeOf100 rfl) rfl ?_
 refine vq (rq_cast (congrArg fnV hk166v).symm (q_load rfl rfl Tryd.isAgg100 (.obj 0 rfl rfl))) rfl ?_
 refine simL_bind (fun s167v hs168v => ?_)
 refine simL_eff (re_call (vs := [.pointer (some ⟨b1v, 0, none⟩)]) (cap := []) (A := [obj b1v 34 [.int .i64 x0_0, .int .i64 x0_1, .int .i64 x0_2, .int .i64 x0_3, .int .i64 x0_4, .int .i64 x0_5, str x0_6, str x0_7, str x0_8]]) (rst := [obj b110v 103 [fnV ((s2v.2.2.2.2.2.2.2.2.2.2.1.getD s95v.2.2.toNat dz103).1), fnV ((s2v.2.2.2.2.2.2.2.2.2.2.1.getD s95v.2.2.toNat dz103).2.1), .bool ((s2v.2.2.2.2.2.2.2.2.2.2.1.getD s95v.2.2.toNat dz103).2.2)], y4v.2.2, F]) rfl rfl rfl rfl rfl rfl Tryd.call66 (.sel 1 rfl (.sel 0 rfl (.sel 0 rfl (.sel 0 rfl (.nil _))))) (text_lines_2.calls _ _ b1v x0_0 x0_1 x0_2 x0_3 x0_4 x0_5 x0_6 x0_7 x0_8 ) hs168v) rfl rfl rfl ?_
 intro y169v
 refine vn rfl rfl ?_
 refine vq (q_load rfl rfl Tryd.isAgg3 (.obj 0 rfl rfl)) rfl ?_
 refine simL_bind (fun s170v hs171v => ?_)
 refine simL_eff (re_call (vs := [.int .i64 x0_2]) (cap := []) (A := []) (rst := [obj b1v 34 [.int .i64 x0_0, .int .i64 x0_1, .int .i64 x0_2, .int .i64 x0_3, .int .i64 x0_4, .int .i64 x0_5, str x0_6, str x0_7, str x0_8], obj b110v 103 [fnV ((s2v.2.2.2.2.2.2.2.2.2.2.1.getD s95v.2.2.toNat dz103).1), fnV ((s2v.2.2.2.2.2.2.2.2.2.2.1.getD s95v.2.2.toNat dz103).2.1), .bool ((s2v.2.2.2.2.2.2.2.2.2.2.1.getD s95v.2.2.toNat dz103).2.2)], y4v.2.2, F]) rfl rfl rfl rfl rfl rfl Tryd.call49 (.sel 0 rfl (.sel 0 rfl (.sel 0 rfl (.sel 0 rfl (.nil _))))) (text_within.calls _ _ x0_2 ) hs171v) rfl rfl rfl ?_
 intro y172v
 refine vq (q_not rfl rfl) rfl ?_
 refine va rfl rfl (simL_nil (nrm_then ?_))
 refine sim_condb rfl (fun h173v => ?_) (fun h174v => ?_)
 refine sim_region ?_
 refine va rfl rfl (simL_nil (nrm_block (nrm_block (nrm_then (sim_region ?_)))))
 refine vq (q_add rfl rfl rfl) rfl ?_
 refine vm rfl rfl (simL_nil ?_)
 exact nrm_again (s := (1, s95v.2.1, IntKind.i64.wrap (s95v.2.2 + 1))) () ⟨rfl, rfl, rfl, rfl, rfl, rfl, trivial⟩ (.sel 0 rfl (.sel 1 rfl (.sel 1 rfl (.nil _))))
 refine sr ?_
 refine vq (q_fa rfl rfl Tryd.underlying103 rfl rfl Tryd.sizeOf4 rfl) rfl ?_
 refine vq (q_load rfl rfl Tryd.isAgg4 (.obj 1 rfl rfl)) rfl ?_
 refine va rfl rfl (simL_nil (nrm_then ?_))
 refine sim_condb rfl (fun h175v => ?_) (fun h176v => ?_)
 refine sim_bind (fun s177v hs178v => ?_)
 refine sim_ask (fun hi180v => ?_)
 refine sim_ask (fun hb181v => ?_)
 refine sim_ask (fun hb182v => ?_)
 refine sim_draw (Γ := (Option Addr × Nat)) (none, 0) [[], [], [], [2], [2, 3], [1, 2, 3, 4], [1, 2, 3, 4, 5], [1, 2, 3, 4, 5, 6], rL 8, rL 9] [1] [0, 2, 3, 4, 5, 6, 7, 8, 9] (fun i => [[0, 1], [], [0, 1], [0, 1], [0, 1], [1], [1], [1], [1], [1]].getD i []) (fun i => [[], [0, 2, 3, 4], [], [], [], [], [], [], [], []].getD i []) (fun γ i => [str s95v.2.1, .slice γ.1 s177v.length γ.2, .pointer (some ⟨b1v, 3, none⟩), .int .i64 x0_3, .int .i64 (IntKind.i64.wrap (x0_3 - 1)), atV γ.1 (IntKind.i64.wrap (x0_3 - 1)).toNat, str (s177v.getD (IntKind.i64.wrap (x0_3 - 1)).toNat ([] : List UInt8)), str (([32] : List UInt8) ++ (s177v.getD (IntKind.i64.wrap (x0_3 - 1)).toNat ([] : List UInt8))), str (s95v.2.1 ++ (([32] : List UInt8) ++ (s177v.getD (IntKind.i64.wrap (x0_3 - 1)).toNat ([] : List UInt8)))), str (s95v.2.1 ++ (([32] : List UInt8) ++ (s177v.getD (IntKind.i64.wrap (x0_3 - 1)).toNat ([] : List UInt8))))].getD i undef) (fun j γ => [[obj b1v 34 [.int .i64 x0_0, .int .i64 x0_1, .int .i64 x0_2, .int .i64 x0_3, .int .i64 x0_4, .int .i64 x0_5, str x0_6, str x0_7, str x0_8], obj b110v 103 [fnV ((s2v.2.2.2.2.2.2.2.2.2.2.1.getD s95v.2.2.toNat dz103).1), fnV ((s2v.2.2.2.2.2.2.2.2.2.2.1.getD s95v.2.2.toNat dz103).2.1), .bool ((s2v.2.2.2.2.2.2.2.2.2.2.1.getD s95v.2.2.toNat dz103).2.2)], y4v.2.2, F], [RowV 9 1 (V9 tt) γ.1 s177v γ.2, obj b1v 34 [.int .i64 x0_0, .int .i64 x0_1, .int .i64 x0_2, .int .i64 x0_3, .int .i64 x0_4, .int .i64 x0_5, str x0_6, str x0_7, str x0_8], obj b110v 103 [fnV ((s2v.2.2.2.2.2.2.2.2.2.2.1.getD s95v.2.2.toNat dz103).1), fnV ((s2v.2.2.2.2.2.2.2.2.2.2.1.getD s95v.2.2.toNat dz103).2.1), .bool ((s2v.2.2.2.2.2.2.2.2.2.2.1.getD s95v.2.2.toNat dz103).2.2)], y4v.2.2, F]].getD j []) (fun γ => [(1, .pointer (some ⟨b1v, 0, none⟩)), (5, .int .i64 s95v.1), (9, str (s95v.2.1 ++ (([32] : List UInt8) ++ (s177v.getD (IntKind.i64.wrap (x0_3 - 1)).toNat ([] : List UInt8))))), (82, .slice y4v.1 s2v.2.2.2.2.2.2.2.2.2.2.1.length y4v.2.1), (83, .int .i64 (s2v.2.2.2.2.2.2.2.2.2.2.1.length : Int)), (84, .int .i64 s95v.2.2)]) mixed (by decide) (by decide) (by decide) (by decide) (by decide) (by decide) (by decide) 142 rfl (by decide) (by decide) (by decide) (Ent.refl _) ?_ ?_ (fun _ => ⟨rfl, rfl, rfl, rfl, rfl, rfl, trivial⟩) ?_
 exact (ac (fun γ => (ac (qm rfl (.o (s := 9) rfl (by decide) .nil) rfl) (ac (qm rfl (.o (s := 9) rfl (by decide) .nil) rfl) zA))) (ac (fun γ => (ac (qp rfl rfl (.o (s := 1) rfl (by decide) .nil) (q_fa rfl rfl Tryd.underlying34 rfl rfl Tryd.sizeOf3 rfl) rfl) (ac (qp rfl rfl (.o (s := 1) rfl (by decide) .nil) (q_fa rfl rfl Tryd.underlying34 rfl rfl Tryd.sizeOf3 rfl) rfl) zA))) (ac (fun γ => (ac (qp rfl rfl (.v 2 rfl rfl .nil) (q_load rfl rfl Tryd.isAgg3 (.obj 0 rfl rfl)) rfl) (ac (qp rfl rfl (.v 2 rfl rfl .nil) (q_load rfl rfl Tryd.isAgg3 (.obj 1 rfl rfl)) rfl) zA))) (ac (fun γ => (ac (qp rfl rfl (.v 3 rfl rfl .nil) (q_sub rfl rfl rfl) rfl) (ac (qp rfl rfl (.v 3 rfl rfl .nil) (q_sub rfl rfl rfl) rfl) zA))) (aq rfl (fun γ => qp rfl rfl (.v 1 rfl rfl (.v 4 rfl rfl .nil)) (q_idxV 0 rfl ([] : List UInt8) rfl rfl rfl Tryd.underlying23 Tryd.sizeOf9 hi180v.1 hi180v.2) rfl) (aq rfl (fun γ => qp rfl rfl (.v 5 rfl rfl .nil) (q_loadV (fun z => str z) 0 rfl ([] : List UInt8) (fun _ _ h => h) rfl rfl Tryd.isAgg9 (by omega)) rfl) (aq rfl (fun γ => qp rfl rfl (.v 6 rfl rfl .nil) (q_cat rfl rfl rfl hb181v) rfl) (aq rfl (fun γ => qp rfl rfl (.v 0 rfl rfl (.v 7 rfl rfl .nil)) (q_cat rfl rfl rfl hb182v) rfl) (aq rfl (fun γ => qp rfl rfl (.v 8 rfl rfl .nil) (q_asg rfl rfl) rfl) zA)))))))))
 exact (ac (fun γ => eo (Z := Option Addr × Nat) (fun z => z) rfl rfl .nil (re_call (vs := []) (cap := []) (A := []) (rst := [obj b1v 34 [.int .i64 x0_0, .int .i64 x0_1, .int .i64 x0_2, .int .i64 x0_3, .int .i64 x0_4, .int .i64 x0_5, str x0_6, str x0_7, str x0_8], obj b110v 103 [fnV ((s2v.2.2.2.2.2.2.2.2.2.2.1.getD s95v.2.2.toNat dz103).1), fnV ((s2v.2.2.2.2.2.2.2.2.2.2.1.getD s95v.2.2.toNat dz103).2.1), .bool ((s2v.2.2.2.2.2.2.2.2.2.2.1.getD s95v.2.2.toNat dz103).2.2)], y4v.2.2, F]) rfl rfl rfl rfl rfl rfl Tryd.call50 (.sel 0 rfl (.sel 0 rfl (.sel 0 rfl (.sel 0 rfl (.nil _))))) (text_picks.calls _ _  ) hs178v) (fun _ => ⟨rfl, rfl, rfl, rfl, trivial⟩) (fun _ => .inr rfl) (fun z => Ent.refl _)) zA)
 intro g183v
 refine nrm_block (nrm_block (nrm_then (sim_region ?_)))
 refine vq (q_add rfl rfl rfl) rfl ?_
 refine vm rfl rfl (simL_nil ?_)
 exact nrm_again (s := (s95v.1, s95v.2.1 ++ (([32] : List UInt8) ++ (s177v.getD (IntKind.i64.wrap (x0_3 - 1)).toNat ([] : List UInt8))), IntKind.i64.wrap (s95v.2.2 + 1))) () ⟨rfl, rfl, rfl, rfl, rfl, rfl, trivial⟩ (.sel 1 rfl (.sel 2 rfl (.sel 2 rfl (.nil _))))
 refine sim_region ?_
 refine vm rfl rfl ?_
 refine vq (q_fa rfl rfl Tryd.underlying103 rfl rfl Tryd.sizeOf100 rfl) rfl ?_
 refine vq (rq_cast (congrArg fnV hk166v).symm (q_load rfl rfl Tryd.isAgg100 (.obj 1 rfl rfl))) rfl ?_
 refine simL_bind (fun s184v hs185v => ?_)
 refine simL_eff (re_call (vs := [.pointer (some ⟨b1v, 0, none⟩)]) (cap := []) (A := [obj b1v 34 [.int .i64 x0_0, .int .i64 x0_1, .int .i64 x0_2, .int .i64 x0_3, .int .i64 x0_4, .int .i64 x0_5, str x0_6, str x0_7, str x0_8]]) (rst := [obj b110v 103 [fnV ((s2v.2.2.2.2.2.2.2.2.2.2.1.getD s95v.2.2.toNat dz103).1), fnV ((s2v.2.2.2.2.2.2.2.2.2.2.1.getD s95v.2.2.toNat dz103).2.1), .bool ((s2v.2.2.2.2.2.2.2.2.2.2.1.getD s95v.2.2.toNat dz103).2.2)], y4v.2.2, F]) rfl rfl rfl rfl rfl rfl Tryd.call66 (.sel 0 rfl (.sel 0 rfl (.sel 0 rfl (.sel 0 rfl (.nil _))))) (text_lines_2.calls _ _ b1v x0_0 x0_1 x0_2 x0_3 x0_4 x0_5 x0_6 x0_7 x0_8 ) hs185v) rfl rfl rfl ?_
 intro y186v
 refine vn rfl rfl ?_
 refine vq (q_load rfl rfl Tryd.isAgg3 (.obj 0 rfl rfl)) rfl ?_
 refine simL_bind (fun s187v hs188v => ?_)
 refine simL_eff (re_call (vs := [.int .i64 x0_2]) (cap := []) (A := []) (rst := [obj b1v 34 [.int .i64 x0_0, .int .i64 x0_1, .int .i64 x0_2, .int .i64 x0_3, .int .i64 x0_4, .int .i64 x0_5, str x0_6, str x0_7, str x0_8], obj b110v 103 [fnV ((s2v.2.2.2.2.2.2.2.2.2.2.1.getD s95v.2.2.toNat dz103).1), fnV ((s2v.2.2.2.2.2.2.2.2.2.2.1.getD s95v.2.2.toNat dz103).2.1), .bool ((s2v.2.2.2.2.2.2.2.2.2.2.1.getD s95v.2.2.toNat dz103).2.2)], y4v.2.2, F]) rfl rfl rfl rfl rfl rfl Tryd.call51 (.sel 0 rfl (.sel 0 rfl (.sel 0 rfl (.sel 0 rfl (.nil _))))) (strconv_Itoa.calls _ _ x0_2 (hgl.lend 3 rfl)) hs188v) rfl rfl rfl ?_
 intro y189v
 refine simL_ask (fun hb190v => ?_)
 refine vq (q_cat rfl rfl rfl hb190v) rfl ?_
 refine simL_ask (fun hb191v => ?_)
 refine vq (q_cat rfl rfl rfl hb191v) rfl ?_
 refine va rfl rfl (simL_nil (nrm_block (nrm_block (nrm_then (sim_region ?_)))))
 refine vq (q_add rfl rfl rfl) rfl ?_
 refine vm rfl rfl (simL_nil ?_)
 exact nrm_again (s := (s95v.1, s95v.2.1 ++ (([32] : List UInt8) ++ s187v), IntKind.i64.wrap (s95v.2.2 + 1))) () ⟨rfl, rfl, rfl, rfl, rfl, rfl, trivial⟩ (.sel 0 rfl (.sel 1 rfl (.sel 1 rfl (.nil _))))
 refine sim_if (fun hk192v => ?_) (fun hk192v => ?_)
 refine sim_region ?_
 refine vq (q_fa rfl rfl Tryd.underlying103 rfl rfl Tryd.sizeOf100 rfl) rfl ?_
 refine vq (rq_cast (congrArg fnV hk192v).symm (q_load rfl rfl Tryd.isAgg100 (.obj 0 rfl rfl))) rfl ?_
 refine simL_bind (fun s193v hs194v => ?_)
 refine simL_eff (re_call (vs := [.pointer (some ⟨b1v, 0, none⟩)]) (cap := []) (A := [obj b1v 34 [.int .i64 x0_0, .int .i64 x0_1, .int .i64 x0_2, .int .i64 x0_3, .int .i64 x0_4, .int .i64 x0_5, str x0_6, str x0_7, str x0_8]]) (rst := [obj b110v 103 [fnV ((s2v.2.2.2.2.2.2.2.2.2.2.1.getD s95v.2.2.toNat dz103).1), fnV ((s2v.2.2.2.2.2.2.2.2.2.2.1.getD s95v.2.2.toNat dz103).2.1), .bool ((s2v.2.2.2.2.2.2.2.2.2.2.1.getD s95v.2.2.toNat dz103).2.2)], y4v.2.2, F]) rfl rfl rfl rfl rfl rfl Tryd.call67 (.sel 1 rfl (.sel 0 rfl (.sel 0 rfl (.sel 0 rfl (.nil _))))) (text_lines_3.calls _ _ b1v x0_0 x0_1 x0_2 x0_3 x0_4 x0_5 x0_6 x0_7 x0_8 ) hs194v) rfl rfl rfl ?_
 intro y195v
 refine vn rfl rfl ?_
 refine vq (q_load rfl rfl Tryd.isAgg3 (.obj 0 rfl rfl)) rfl ?_
 refine simL_bind (fun s196v hs197v => ?_)
 refine simL_eff (re_call (vs := [.int .i64 x0_3]) (cap := []) (A := []) (rst := [obj b1v 34 [.int .i64 x0_0, .int .i64 x0_1, .int .i64 x0_2, .int .i64 x0_3, .int .i64 x0_4, .int .i64 x0_5, str x0_6, str x0_7, str x0_8], obj b110v 103 [fnV ((s2v.2.2.2.2.2.2.2.2.2.2.1.getD s95v.2.2.toNat dz103).1), fnV ((s2v.2.2.2.2.2.2.2.2.2.2.1.getD s95v.2.2.toNat dz103).2.1), .bool ((s2v.2.2.2.2.2.2.2.2.2.2.1.getD s95v.2.2.toNat dz103).2.2)], y4v.2.2, F]) rfl rfl rfl rfl rfl rfl Tryd.call49 (.sel 0 rfl (.sel 0 rfl (.sel 0 rfl (.sel 0 rfl (.nil _))))) (text_within.calls _ _ x0_3 ) hs197v) rfl rfl rfl ?_
 intro y198v
 refine vq (q_not rfl rfl) rfl ?_
 refine va rfl rfl (simL_nil (nrm_then ?_))
 refine sim_condb rfl (fun h199v => ?_) (fun h200v => ?_)
 refine sim_region ?_
 refine va rfl rfl (simL_nil (nrm_block (nrm_block (nrm_then (sim_region ?_)))))
 refine vq (q_add rfl rfl rfl) rfl ?_
 refine vm rfl rfl (simL_nil ?_)
 exact nrm_again (s := (1, s95v.2.1, IntKind.i64.wrap (s95v.2.2 + 1))) () ⟨rfl, rfl, rfl, rfl, rfl, rfl, trivial⟩ (.sel 0 rfl (.sel 1 rfl (.sel 1 rfl (.nil _))))
 refine sr ?_
 refine vq (q_fa rfl rfl Tryd.underlying103 rfl rfl Tryd.sizeOf4 rfl) rfl ?_
 refine vq (q_load rfl rfl Tryd.isAgg4 (.obj 1 rfl rfl)) rfl ?_
 refine va rfl rfl (simL_nil (nrm_then ?_))
 refine sim_condb rfl (fun h201v => ?_) (fun h202v => ?_)
 refine sim_bind (fun s203v hs204v => ?_)
 refine sim_ask (fun hi206v => ?_)
 refine sim_ask (fun hb207v => ?_)
 refine sim_ask (fun hb208v => ?_)
 refine sim_draw (Γ := (Option Addr × Nat)) (none, 0) [[], [], [], [2], [2, 3], [1, 2, 3, 4], [1, 2, 3, 4, 5], [1, 2, 3, 4, 5, 6], rL 8, rL 9] [1] [0, 2, 3, 4, 5, 6, 7, 8, 9] (fun i => [[0, 1], [], [0, 1], [0, 1], [0, 1], [1], [1], [1], [1], [1]].getD i []) (fun i => [[], [0, 2, 3, 4], [], [], [], [], [], [], [], []].getD i []) (fun γ i => [str s95v.2.1, .slice γ.1 s203v.length γ.2, .pointer (some ⟨b1v, 3, none⟩), .int .i64 x0_3, .int .i64 (IntKind.i64.wrap (x0_3 - 1)), atV γ.1 (IntKind.i64.wrap (x0_3 - 1)).toNat, str (s203v.getD (IntKind.i64.wrap (x0_3 - 1)).toNat ([] : List UInt8)), str (([32] : List UInt8) ++ (s203v.getD (IntKind.i64.wrap (x0_3 - 1)).toNat ([] : List UInt8))), str (s95v.2.1 ++ (([32] : List UInt8) ++ (s203v.getD (IntKind.i64.wrap (x0_3 - 1)).toNat ([] : List UInt8)))), str (s95v.2.1 ++ (([32] : List UInt8) ++ (s203v.getD (IntKind.i64.wrap (x0_3 - 1)).toNat ([] : List UInt8))))].getD i undef) (fun j γ => [[obj b1v 34 [.int .i64 x0_0, .int .i64 x0_1, .int .i64 x0_2, .int .i64 x0_3, .int .i64 x0_4, .int .i64 x0_5, str x0_6, str x0_7, str x0_8], obj b110v 103 [fnV ((s2v.2.2.2.2.2.2.2.2.2.2.1.getD s95v.2.2.toNat dz103).1), fnV ((s2v.2.2.2.2.2.2.2.2.2.2.1.getD s95v.2.2.toNat dz103).2.1), .bool ((s2v.2.2.2.2.2.2.2.2.2.2.1.getD s95v.2.2.toNat dz103).2.2)], y4v.2.2, F], [RowV 9 1 (V9 tt) γ.1 s203v γ.2, obj b1v 34 [.int .i64 x0_0, .int .i64 x0_1, .int .i64 x0_2, .int .i64 x0_3, .int .i64 x0_4, .int .i64 x0_5, str x0_6, str x0_7, str x0_8], obj b110v 103 [fnV ((s2v.2.2.2.2.2.2.2.2.2.2.1.getD s95v.2.2.toNat dz103).1), fnV ((s2v.2.2.2.2.2.2.2.2.2.2.1.getD s95v.2.2.toNat dz103).2.1), .bool ((s2v.2.2.2.2.2.2.2.2.2.2.1.getD s95v.2.2.toNat dz103).2.2)], y4v.2.2, F]].getD j []) (fun γ => [(1, .pointer (some ⟨b1v, 0, none⟩)), (5, .int .i64 s95v.1), (9, str (s95v.2.1 ++ (([32] : List UInt8) ++ (s203v.getD (IntKind.i64.wrap (x0_3 - 1)).toNat ([] : List UInt8))))), (82, .slice y4v.1 s2v.2.2.2.2.2.2.2.2.2.2.1.length y4v.2.1), (83, .int .i64 (s2v.2.2.2.2.2.2.2.2.2.2.1.length : Int)), (84, .int .i64 s95v.2.2)]) mixed (by decide) (by decide) (by decide) (by decide) (by decide) (by decide) (by decide) 142 rfl (by decide) (by decide) (by decide) (Ent.refl _) ?_ ?_ (fun _ => ⟨rfl, rfl, rfl, rfl, rfl, rfl, trivial⟩) ?_
 exact (ac (fun γ => (ac (qm rfl (.o (s := 9) rfl (by decide) .nil) rfl) (ac (qm rfl (.o (s := 9) rfl (by decide) .nil) rfl) zA))) (ac (fun γ => (ac (qp rfl rfl (.o (s := 1) rfl (by decide) .nil) (q_fa rfl rfl Tryd.underlying34 rfl rfl Tryd.sizeOf3 rfl) rfl) (ac (qp rfl rfl (.o (s := 1) rfl (by decide) .nil) (q_fa rfl rfl Tryd.underlying34 rfl rfl Tryd.sizeOf3 rfl) rfl) zA))) (ac (fun γ => (ac (qp rfl rfl (.v 2 rfl rfl .nil) (q_load rfl rfl Tryd.isAgg3 (.obj 0 rfl rfl)) rfl) (ac (qp rfl rfl (.v 2 rfl rfl .nil) (q_load rfl rfl Tryd.isAgg3 (.obj 1 rfl rfl)) rfl) zA))) (ac (fun γ => (ac (qp rfl rfl (.v 3 rfl rfl .nil) (q_sub rfl rfl rfl) rfl) (ac (qp rfl rfl (.v 3 rfl rfl .nil) (q_sub rfl rfl rfl) rfl) zA))) (aq rfl (fun γ => qp rfl rfl (.v 1 rfl rfl (.v 4 rfl rfl .nil)) (q_idxV 0 rfl ([] : List UInt8) rfl rfl rfl Tryd.underlying23 Tryd.sizeOf9 hi206v.1 hi206v.2) rfl) (aq rfl (fun γ => qp rfl rfl (.v 5 rfl rfl .nil) (q_loadV (fun z => str z) 0 rfl ([] : List UInt8) (fun _ _ h => h) rfl rfl Tryd.isAgg9 (by omega)) rfl) (aq rfl (fun γ => qp rfl rfl (.v 6 rfl rfl .nil) (q_cat rfl rfl rfl hb207v) rfl) (aq rfl (fun γ => qp rfl rfl (.v 0 rfl rfl (.v 7 rfl rfl .nil)) (q_cat rfl rfl rfl hb208v) rfl) (aq rfl (fun γ => qp rfl rfl (.v 8 rfl rfl .nil) (q_asg rfl rfl) rfl) zA)))))))))
 exact (ac (fun γ => eo (Z := Option Addr × Nat) (fun z => z) rfl rfl .nil (re_call (vs := []) (cap := []) (A := []) (rst := [obj b1v 34 [.int .i64 x0_0, .int .i64 x0_1, .int .i64 x0_2, .int .i64 x0_3, .int .i64 x0_4, .int .i64 x0_5, str x0_6, str x0_7, str x0_8], obj b110v 103 [fnV ((s2v.2.2.2.2.2.2.2.2.2.2.1.getD s95v.2.2.toNat dz103).1), fnV ((s2v.2.2.2.2.2.2.2.2.2.2.1.getD s95v.2.2.toNat dz103).2.1), .bool ((s2v.2.2.2.2.2.2.2.2.2.2.1.getD s95v.2.2.toNat dz103).2.2)], y4v.2.2, F]) rfl rfl rfl rfl rfl rfl Tryd.call50 (.sel 0 rfl (.sel 0 rfl (.sel 0 rfl (.sel 0 rfl (.nil _))))) (text_picks.calls _ _  ) hs204v) (fun _ => ⟨rfl, rfl, rfl, rfl, trivial⟩) (fun _ => .inr rfl) (fun z => Ent.refl _)) zA)
 intro g209v
 refine nrm_block (nrm_block (nrm_then (sim_region ?_)))
 refine vq (q_add rfl rfl rfl) rfl ?_
 refine vm rfl rfl (simL_nil ?_)
 exact nrm_again (s := (s95v.1, s95v.2.1 ++ (([32] : List UInt8) ++ (s203v.getD (IntKind.i64.wrap (x0_3 - 1)).toNat ([] : List UInt8))), IntKind.i64.wrap (s95v.2.2 + 1))) () ⟨rfl, rfl, rfl, rfl, rfl, rfl, trivial⟩ (.sel 1 rfl (.sel 2 rfl (.sel 2 rfl (.nil _))))
 refine sim_region ?_
 refine vm rfl rfl ?_
 refine vq (q_fa rfl rfl Tryd.underlying103 rfl rfl Tryd.sizeOf100 rfl) rfl ?_
 refine vq (rq_cast (congrArg fnV hk192v).symm (q_load rfl rfl Tryd.isAgg100 (.obj 1 rfl rfl))) rfl ?_
 refine simL_bind (fun s210v hs211v => ?_)
 refine simL_eff (re_call (vs := [.pointer (some ⟨b1v, 0, none⟩)]) (cap := []) (A := [obj b1v 34 [.int .i64 x0_0, .int .i64 x0_1, .int .i64 x0_2, .int .i64 x0_3, .int .i64 x0_4, .int .i64 x0_5, str x0_6, str x0_7, str x0_8]]) (rst := [obj b110v 103 [fnV ((s2v.2.2.2.2.2.2.2.2.2.2.1.getD s95v.2.2.toNat dz103).1), fnV ((s2v.2.2.2.2.2.2.2.2.2.2.1.getD s95v.2.2.toNat dz103).2.1), .bool ((s2v.2.2.2.2.2.2.2.2.2.2.1.getD s95v.2.2.toNat dz103).2.2)], y4v.2.2, F]) rfl rfl rfl rfl rfl rfl Tryd.call67 (.sel 0 rfl (.sel 0 rfl (.sel 0 rfl (.sel 0 rfl (.nil _))))) (text_lines_3.calls _ _ b1v x0_0 x0_1 x0_2 x0_3 x0_4 x0_5 x0_6 x0_7 x0_8 ) hs211v) rfl rfl rfl ?_
 intro y212v
 refine vn rfl rfl ?_
 refine vq (q_load rfl rfl Tryd.isAgg3 (.obj 0 rfl rfl)) rfl ?_
 refine simL_bind (fun s213v hs214v => ?_)
 refine simL_eff (re_call (vs := [.int .i64 x0_3]) (cap := []) (A := []) (rst := [obj b1v 34 [.int .i64 x0_0, .int .i64 x0_1, .int .i64 x0_2, .int .i64 x0_3, .int .i64 x0_4, .int .i64 x0_5, str x0_6, str x0_7, str x0_8], obj b110v 103 [fnV ((s2v.2.2.2.2.2.2.2.2.2.2.1.getD s95v.2.2.toNat dz103).1), fnV ((s2v.2.2.2.2.2.2.2.2.2.2.1.getD s95v.2.2.toNat dz103).2.1), .bool ((s2v.2.2.2.2.2.2.2.2.2.2.1.getD s95v.2.2.toNat dz103).2.2)], y4v.2.2, F]) rfl rfl rfl rfl rfl rfl Tryd.call51 (.sel 0 rfl (.sel 0 rfl (.sel 0 rfl (.sel 0 rfl (.nil _))))) (strconv_Itoa.calls _ _ x0_3 (hgl.lend 3 rfl)) hs214v) rfl rfl rfl ?_
 intro y215v
 refine simL_ask (fun hb216v => ?_)
 refine vq (q_cat rfl rfl rfl hb216v) rfl ?_
 refine simL_ask (fun hb217v => ?_)
 refine vq (q_cat rfl rfl rfl hb217v) rfl ?_
 refine va rfl rfl (simL_nil (nrm_block (nrm_block (nrm_then (sim_region ?_)))))
 refine vq (q_add rfl rfl rfl) rfl ?_
 refine vm rfl rfl (simL_nil ?_)
 exact nrm_again (s := (s95v.1, s95v.2.1 ++ (([32] : List UInt8) ++ s213v), IntKind.i64.wrap (s95v.2.2 + 1))) () ⟨rfl, rfl, rfl, rfl, rfl, rfl, trivial⟩ (.sel 0 rfl (.sel 1 rfl (.sel 1 rfl (.nil _))))
 refine sim_if (fun hk218v => ?_) (fun hk218v => ?_)
 refine sim_region ?_
 refine vq (q_fa rfl rfl Tryd.underlying103 rfl rfl Tryd.sizeOf100 rfl) rfl ?_
 refine vq (rq_cast (congrArg fnV hk218v).symm (q_load rfl rfl Tryd.isAgg100 (.obj 0 rfl rfl))) rfl ?_
 refine simL_bind (fun s219v hs220v => ?_)
 refine simL_eff (re_call (vs := [.pointer (some ⟨b1v, 0, none⟩)]) (cap := []) (A := [obj b1v 34 [.int .i64 x0_0, .int .i64 x0_1, .int .i64 x0_2, .int .i64 x0_3, .int .i64 x0_4, .int .i64 x0_5, str x0_6, str x0_7, str x0_8]]) (rst := [obj b110v 103 [fnV ((s2v.2.2.2.2.2.2.2.2.2.2.1.getD s95v.2.2.toNat dz103).1), fnV ((s2v.2.2.2.2.2.2.2.2.2.2.1.getD s95v.2.2.toNat dz103).2.1), .bool ((s2v.2.2.2.2.2.2.2.2.2.2.1.getD s95v.2.2.toNat dz103).2.2)], y4v.2.2, F]) rfl rfl rfl rfl rfl rfl Tryd.call68 (.sel 1 rfl (.sel 0 rfl (.sel 0 rfl (.sel 0 rfl (.nil _))))) (text_lines_4.calls _ _ b1v x0_0 x0_1 x0_2 x0_3 x0_4 x0_5 x0_6 x0_7 x0_8 ) hs220v) rfl rfl rfl ?_
 intro y221v
 refine vn rfl rfl ?_
 refine vq (q_load rfl rfl Tryd.isAgg3 (.obj 0 rfl rfl)) rfl ?_
 refine simL_bind (fun s222v hs223v => ?_)
 refine simL_eff (re_call (vs := [.int .i64 x0_4]) (cap := []) (A := []) (rst := [obj b1v 34 [.int .i64 x0_0, .int .i64 x0_1, .int .i64 x0_2, .int .i64 x0_3, .int .i64 x0_4, .int .i64 x0_5, str x0_6, str x0_7, str x0_8], obj b110v 103 [fnV ((s2v.2.2.2.2.2.2.2.2.2.2.1.getD s95v.2.2.toNat dz103).1), fnV ((s2v.2.2.2.2.2.2.2.2.2.2.1.getD s95v.2.2.toNat dz103).2.1), .bool ((s2v.2.2.2.2.2.2.2.2.2.2.1.getD s95v.2.2.toNat dz103).2.2)], y4v.2.2, F]) rfl rfl rfl rfl rfl rfl Tryd.call49 (.sel 0 rfl (.sel 0 rfl (.sel 0 rfl (.sel 0 rfl (.nil _))))) (text_within.calls _ _ x0_4 ) hs223v) rfl rfl rfl ?_
 intro y224v
 refine vq (q_not rfl rfl) rfl ?_
 refine va rfl rfl (simL_nil (nrm_then ?_))
 refine sim_condb rfl (fun h225v => ?_) (fun h226v => ?_)
 refine sim_region ?_
 refine va rfl rfl (simL_nil (nrm_block (nrm_block (nrm_then (sim_region ?_)))))
 refine vq (q_add rfl rfl rfl) rfl ?_
 refine vm rfl rfl (simL_nil ?_)
 exact nrm_again (s := (1, s95v.2.1, IntKind.i64.wrap (s95v.2.2 + 1))) () ⟨rfl, rfl, rfl, rfl, rfl, rfl, trivial⟩ (.sel 0 rfl (.sel 1 rfl (.sel 1 rfl (.nil _))))
 refine sr ?_
 refine vq (q_fa rfl rfl Tryd.underlying103 rfl rfl Tryd.sizeOf4 rfl) rfl ?_
 refine vq (q_load rfl rfl Tryd.isAgg4 (.obj 1 rfl rfl)) rfl ?_
 refine va rfl rfl (simL_nil (nrm_then ?_))
 refine sim_condb rfl (fun h227v => ?_) (fun h228v => ?_)
 refine sim_bind (fun s229v hs230v => ?_)
 refine sim_ask (fun hi232v => ?_)
 refine sim_ask (fun hb233v => ?_)
 refine sim_ask (fun hb234v => ?_)
 refine sim_draw (Γ := (Option Addr × Nat)) (none, 0) [[], [], [], [2], [2, 3], [1, 2, 3, 4], [1, 2, 3, 4, 5], [1, 2, 3, 4, 5, 6], rL 8, rL 9] [1] [0, 2, 3, 4, 5, 6, 7, 8, 9] (fun i => [[0, 1], [], [0, 1], [0, 1], [0, 1], [1], [1], [1], [1], [1]].getD i []) (fun i => [[], [0, 2, 3, 4], [], [], [], [], [], [], [], []].getD i []) (fun γ i => [str s95v.2.1, .slice γ.1 s229v.length γ.2, .pointer (some ⟨b1v, 3, none⟩), .int .i64 x0_3, .int .i64 (IntKind.i64.wrap (x0_3 - 1)), atV γ.1 (IntKind.i64.wrap (x0_3 - 1)).toNat, str (s229v.getD (IntKind.i64.wrap (x0_3 - 1)).toNat ([] : List UInt8)), str (([32] : List UInt8) ++ (s229v.getD (IntKind.i64.wrap (x0_3 - 1)).toNat ([] : List UInt8))), str (s95v.2.1 ++ (([32] : List UInt8) ++ (s229v.getD (IntKind.i64.wrap (x0_3 - 1)).toNat ([] : List UInt8)))), str (s95v.2.1 ++ (([32] : List UInt8) ++ (s229v.getD (IntKind.i64.wrap (x0_3 - 1)).toNat ([] : List UInt8))))].getD i undef) (fun j γ => [[obj b1v 34 [.int .i64 x0_0, .int .i64 x0_1, .int .i64 x0_2, .int .i64 x0_3, .int .i64 x0_4, .int .i64 x0_5, str x0_6, str x0_7, str x0_8], obj b110v 103 [fnV ((s2v.2.2.2.2.2.2.2.2.2.2.1.getD s95v.2.2.toNat dz103).1), fnV ((s2v.2.2.2.2.2.2.2.2.2.2.1.getD s95v.2.2.toNat dz103).2.1), .bool ((s2v.2.2.2.2.2.2.2.2.2.2.1.getD s95v.2.2.toNat dz103).2.2)], y4v.2.2, F], [RowV 9 1 (V9 tt) γ.1 s229v γ.2, obj b1v 34 [.int .i64 x0_0, .int .i64 x0_1, .int .i64 x0_2, .int .i64 x0_3, .int .i64 x0_4, .int .i64 x0_5, str x0_6, str x0_7, str x0_8], obj b110v 103 [fnV ((s2v.2.2.2.2.2.2.2.2.2.2.1.getD s95v.2.2.toNat dz103).1), fnV ((s2v.2.2.2.2.2.2.2.2.2.2.1.getD s95v.2.2.toNat dz103).2.1), .bool ((s2v.2.2.2.2.2.2.2.2.2.2.1.getD s95v.2.2.toNat dz103).2.2)], y4v.2.2, F]].getD j []) (fun γ => [(1, .pointer (some ⟨b1v, 0, none⟩)), (5, .int .i64 s95v.1), (9, str (s95v.2.1 ++ (([32] : List UInt8) ++ (s229v.getD (IntKind.i64.wrap (x0_3 - 1)).toNat ([] : List UInt8))))), (82, .slice y4v.1 s2v.2.2.2.2.2.2.2.2.2.2.1.length y4v.2.1), (83, .int .i64 (s2v.2.2.2.2.2.2.2.2.2.2.1.length : Int)), (84, .int .i64 s95v.2.2)]) mixed (by decide) (by decide) (by decide) (by decide) (by decide) (by decide) (by decide) 142 rfl (by decide) (by decide) (by decide) (Ent.refl _) ?_ ?_ (fun _ => ⟨rfl, rfl, rfl, rfl, rfl, rfl, trivial⟩) ?_
 exact (ac (fun γ => (ac (qm rfl (.o (s := 9) rfl (by decide) .nil) rfl) (ac (qm rfl (.o (s := 9) rfl (by decide) .nil) rfl) zA))) (ac (fun γ => (ac (qp rfl rfl (.o (s := 1) rfl (by decide) .nil) (q_fa rfl rfl Tryd.underlying34 rfl rfl Tryd.sizeOf3 rfl) rfl) (ac (qp rfl rfl (.o (s := 1) rfl (by decide) .nil) (q_fa rfl rfl Tryd.underlying34 rfl rfl Tryd.sizeOf3 rfl) rfl) zA))) (ac (fun γ => (ac (qp rfl rfl (.v 2 rfl rfl .nil) (q_load rfl rfl Tryd.isAgg3 (.obj 0 rfl rfl)) rfl) (ac (qp rfl rfl (.v 2 rfl rfl .nil) (q_load rfl rfl Tryd.isAgg3 (.obj 1 rfl rfl)) rfl) zA))) (ac (fun γ => (ac (qp rfl rfl (.v 3 rfl rfl .nil) (q_sub rfl rfl rfl) rfl) (ac (qp rfl rfl (.v 3 rfl rfl .nil) (q_sub rfl rfl rfl) rfl) zA))) (aq rfl (fun γ => qp rfl rfl (.v 1 rfl rfl (.v 4 rfl rfl .nil)) (q_idxV 0 rfl ([] : List UInt8) rfl rfl rfl Tryd.underlying23 Tryd.sizeOf9 hi232v.1 hi232v.2) rfl) (aq rfl (fun γ => qp rfl rfl (.v 5 rfl rfl .nil) (q_loadV (fun z => str z) 0 rfl ([] : List UInt8) (fun _ _ h => h) rfl rfl Tryd.isAgg9 (by omega)) rfl) (aq rfl (fun γ => qp rfl rfl (.v 6 rfl rfl .nil) (q_cat rfl rfl rfl hb233v) rfl) (aq rfl (fun γ => qp rfl rfl (.v 0 rfl rfl (.v 7 rfl rfl .nil)) (q_cat rfl rfl rfl hb234v) rfl) (aq rfl (fun γ => qp rfl rfl (.v 8 rfl rfl .nil) (q_asg rfl rfl) rfl) zA)))))))))
 exact (ac (fun γ => eo (Z := Option Addr × Nat) (fun z => z) rfl rfl .nil (re_call (vs := []) (cap := []) (A := []) (rst := [obj b1v 34 [.int .i64 x0_0, .int .i64 x0_1, .int .i64 x0_2, .int .i64 x0_3, .int .i64 x0_4, .int .i64 x0_5, str x0_6, str x0_7, str x0_8], obj b110v 103 [fnV ((s2v.2.2.2.2.2.2.2.2.2.2.1.getD s95v.2.2.toNat dz103).1), fnV ((s2v.2.2.2.2.2.2.2.2.2.2.1.getD s95v.2.2.toNat dz103).2.1), .bool ((s2v.2.2.2.2.2.2.2.2.2.2.1.getD s95v.2.2.toNat dz103).2.2)], y4v.2.2, F]) rfl rfl rfl rfl rfl rfl Tryd.call50 (.sel 0 rfl (.sel 0 rfl (.sel 0 rfl (.sel 0 rfl (.nil _))))) (text_picks.calls _ _  ) hs230v) (fun _ => ⟨rfl, rfl, rfl, rfl, trivial⟩) (fun _ => .inr rfl) (fun z => Ent.refl _)) zA)
 intro g235v
 refine nrm_block (nrm_block (nrm_then (sim_region ?_)))
 refine vq (q_add rfl rfl rfl) rfl ?_
 refine vm rfl rfl (simL_nil ?_)
 exact nrm_again (s := (s95v.1, s95v.2.1 ++ (([32] : List UInt8) ++ (s229v.getD (IntKind.i64.wrap (x0_3 - 1)).toNat ([] : List UInt8))), IntKind.i64.wrap (s95v.2.2 + 1))) () ⟨rfl, rfl, rfl, rfl, rfl, rfl, trivial⟩ (.sel 1 rfl (.sel 2 rfl (.sel 2 rfl (.nil _))))
 refine sim_region ?_
 refine vm rfl rfl ?_
 refine vq (q_fa rfl rfl Tryd.underlying103 rfl rfl Tryd.sizeOf100 rfl) rfl ?_
 refine vq (rq_cast (congrArg fnV hk218v).symm (q_load rfl rfl Tryd.isAgg100 (.obj 1 rfl rfl))) rfl ?_
 refine simL_bind (fun s236v hs237v => ?_)
 refine simL_eff (re_call (vs := [.pointer (some ⟨b1v, 0, none⟩)]) (cap := []) (A := [obj b1v 34 [.int .i64 x0_0, .int .i64 x0_1, .int .i64 x0_2, .int .i64 x0_3, .int .i64 x0_4, .int .i64 x0_5, str x0_6, str x0_7, str x0_8]]) (rst := [obj b110v 103 [fnV ((s2v.2.2.2.2.2.2.2.2.2.2.1.getD s95v.2.2.toNat dz103).1), fnV ((s2v.2.2.2.2.2.2.2.2.2.2.1.getD s95v.2.2.toNat dz103).2.1), .bool ((s2v.2.2.2.2.2.2.2.2.2.2.1.getD s95v.2.2.toNat dz103).2.2)], y4v.2.2, F]) rfl rfl rfl rfl rfl rfl Tryd.call68 (.sel 0 rfl (.sel 0 rfl (.sel 0 rfl (.sel 0 rfl (.nil _))))) (text_lines_4.calls _ _ b1v x0_0 x0_1 x0_2 x0_3 x0_4 x0_5 x0_6 x0_7 x0_8 ) hs237v) rfl rfl rfl ?_
 intro y238v
 refine vn rfl rfl ?_
 refine vq (q_load rfl rfl Tryd.isAgg3 (.obj 0 rfl rfl)) rfl ?_
 refine simL_bind (fun s239v hs240v => ?_)
 refine simL_eff (re_call (vs := [.int .i64 x0_4]) (cap := []) (A := []) (rst := [obj b1v 34 [.int .i64 x0_0, .int .i64 x0_1, .int .i64 x0_2, .int .i64 x0_3, .int .i64 x0_4, .int .i64 x0_5, str x0_6, str x0_7, str x0_8], obj b110v 103 [fnV ((s2v.2.2.2.2.2.2.2.2.2.2.1.getD s95v.2.2.toNat dz103).1), fnV ((s2v.2.2.2.2.2.2.2.2.2.2.1.getD s95v.2.2.toNat dz103).2.1), .bool ((s2v.2.2.2.2.2.2.2.2.2.2.1.getD s95v.2.2.toNat dz103).2.2)], y4v.2.2, F]) rfl rfl rfl rfl rfl rfl Tryd.call51 (.sel 0 rfl (.sel 0 rfl (.sel 0 rfl (.sel 0 rfl (.nil _))))) (strconv_Itoa.calls _ _ x0_4 (hgl.lend 3 rfl)) hs240v) rfl rfl rfl ?_
 intro y241v
 refine simL_ask (fun hb242v => ?_)
 refine vq (q_cat rfl rfl rfl hb242v) rfl ?_
 refine simL_ask (fun hb243v => ?_)
 refine vq (q_cat rfl rfl rfl hb243v) rfl ?_
 refine va rfl rfl (simL_nil (nrm_block (nrm_block (nrm_then (sim_region ?_)))))
 refine vq (q_add rfl rfl rfl) rfl ?_
 refine vm rfl rfl (simL_nil ?_)
 exact nrm_again (s := (s95v.1, s95v.2.1 ++ (([32] : List UInt8) ++ s239v), IntKind.i64.wrap (s95v.2.2 + 1))) () ⟨rfl, rfl, rfl, rfl, rfl, rfl, trivial⟩ (.sel 0 rfl (.sel 1 rfl (.sel 1 rfl (.nil _))))
 refine sim_if (fun hk244v => ?_) (fun hk244v => ?_)
 refine sim_region ?_
 refine vq (q_fa rfl rfl Tryd.underlying103 rfl rfl Tryd.sizeOf100 rfl) rfl ?_
 refine vq (rq_cast (congrArg fnV hk244v).symm (q_load rfl rfl Tryd.isAgg100 (.obj 0 rfl rfl))) rfl ?_
 refine simL_bind (fun s245v hs246v => ?_)
 refine simL_eff (re_call (vs := [.pointer (some ⟨b1v, 0, none⟩)]) (cap := []) (A := [obj b1v 34 [.int .i64 x0_0, .int .i64 x0_1, .int .i64 x0_2, .int .i64 x0_3, .int .i64 x0_4, .int .i64 x0_5, str x0_6, str x0_7, str x0_8]]) (rst := [obj b110v 103 [fnV ((s2v.2.2.2.2.2.2.2.2.2.2.1.getD s95v.2.2.toNat dz103).1), fnV ((s2v.2.2.2.2.2.2.2.2.2.2.1.getD s95v.2.2.toNat dz103).2.1), .bool ((s2v.2.2.2.2.2.2.2.2.2.2.1.getD s95v.2.2.toNat dz103).2.2)], y4v.2.2, F]) rfl rfl rfl rfl rfl rfl Tryd.call69 (.sel 1 rfl (.sel 0 rfl (.sel 0 rfl (.sel 0 rfl (.nil _))))) (text_lines_5.calls _ _ b1v x0_0 x0_1 x0_2 x0_3 x0_4 x0_5 x0_6 x0_7 x0_8 ) hs246v) rfl rfl rfl ?_
 intro y247v
 refine vn rfl rfl ?_
 refine vq (q_load rfl rfl Tryd.isAgg3 (.obj 0 rfl rfl)) rfl ?_
 refine simL_bind (fun s248v hs249v => ?_)
 refine simL_eff (re_call (vs := [.int .i64 x0_3]) (cap := []) (A := []) (rst := [obj b1v 34 [.int .i64 x0_0, .int .i64 x0_1, .int .i64 x0_2, .int .i64 x0_3, .int .i64 x0_4, .int .i64 x0_5, str x0_6, str x0_7, str x0_8], obj b110v 103 [fnV ((s2v.2.2.2.2.2.2.2.2.2.2.1.getD s95v.2.2.toNat dz103).1), fnV ((s2v.2.2.2.2.2.2.2.2.2.2.1.getD s95v.2.2.toNat dz103).2.1), .bool ((s2v.2.2.2.2.2.2.2.2.2.2.1.getD s95v.2.2.toNat dz103).2.2)], y4v.2.2, F]) rfl rfl rfl rfl rfl rfl Tryd.call49 (.sel 0 rfl (.sel 0 rfl (.sel 0 rfl (.sel 0 rfl (.nil _))))) (text_within.calls _ _ x0_3 ) hs249v) rfl rfl rfl ?_
 intro y250v
 refine vq (q_not rfl rfl) rfl ?_
 refine va rfl rfl (simL_nil (nrm_then ?_))
 refine sim_condb rfl (fun h251v => ?_) (fun h252v => ?_)
 refine sim_region ?_
 refine va rfl rfl (simL_nil (nrm_block (nrm_block (nrm_then (sim_region ?_)))))
 refine vq (q_add rfl rfl rfl) rfl ?_
 refine vm rfl rfl (simL_nil ?_)
 exact nrm_again (s := (1, s95v.2.1, IntKind.i64.wrap (s95v.2.2 + 1))) () ⟨rfl, rfl, rfl, rfl, rfl, rfl, trivial⟩ (.sel 0 rfl (.sel 1 rfl (.sel 1 rfl (.nil _))))
 refine sr ?_
 refine vq (q_fa rfl rfl Tryd.underlying103 rfl rfl Tryd.sizeOf4 rfl) rfl ?_
 refine vq (q_load rfl rfl Tryd.isAgg4 (.obj 1 rfl rfl)) rfl ?_
 refine va rfl rfl (simL_nil (nrm_then ?_))
 refine sim_condb rfl (fun h253v => ?_) (fun h254v => ?_)
 refine sim_bind (fun s255v hs256v => ?_)
 refine sim_ask (fun hi258v => ?_)
 refine sim_ask (fun hb259v => ?_)
 refine sim_ask (fun hb260v => ?_)
 refine sim_draw (Γ := (Option Addr × Nat)) (none, 0) [[], [], [], [2], [2, 3], [1, 2, 3, 4], [1, 2, 3, 4, 5], [1, 2, 3, 4, 5, 6], rL 8, rL 9] [1] [0, 2, 3, 4, 5, 6, 7, 8, 9] (fun i => [[0, 1], [], [0, 1], [0, 1], [0, 1], [1], [1], [1], [1], [1]].getD i []) (fun i => [[], [0, 2, 3, 4], [], [], [], [], [], [], [], []].getD i []) (fun γ i => [str s95v.2.1, .slice γ.1 s255v.length γ.2, .pointer (some ⟨b1v, 3, none⟩), .int .i64 x0_3, .int .i64 (IntKind.i64.wrap (x0_3 - 1)), atV γ.1 (IntKind.i64.wrap (x0_3 - 1)).toNat, str (s255v.getD (IntKind.i64.wrap (x0_3 - 1)).toNat ([] : List UInt8)), str (([32] : List UInt8) ++ (s255v.getD (IntKind.i64.wrap (x0_3 - 1)).toNat ([] : List UInt8))), str (s95v.2.1 ++ (([32] : List UInt8) ++ (s255v.getD (IntKind.i64.wrap (x0_3 - 1)).toNat ([] : List UInt8)))), str (s95v.2.1 ++ (([32] : List UInt8) ++ (s255v.getD (IntKind.i64.wrap (x0_3 - 1)).toNat ([] : List UInt8))))].getD i undef) (fun j γ => [[obj b1v 34 [.int .i64 x0_0, .int .i64 x0_1, .int .i64 x0_2, .int .i64 x0_3, .int .i64 x0_4, .int .i64 x0_5, str x0_6, str x0_7, str x0_8], obj b110v 103 [fnV ((s2v.2.2.2.2.2.2.2.2.2.2.1.getD s95v.2.2.toNat dz103).1), fnV ((s2v.2.2.2.2.2.2.2.2.2.2.1.getD s95v.2.2.toNat dz103).2.1), .bool ((s2v.2.2.2.2.2.2.2.2.2.2.1.getD s95v.2.2.toNat dz103).2.2)], y4v.2.2, F], [RowV 9 1 (V9 tt) γ.1 s255v γ.2, obj b1v 34 [.int .i64 x0_0, .int .i64 x0_1, .int .i64 x0_2, .int .i64 x0_3, .int .i64 x0_4, .int .i64 x0_5, str x0_6, str x0_7, str x0_8], obj b110v 103 [fnV ((s2v.2.2.2.2.2.2.2.2.2.2.1.getD s95v.2.2.toNat dz103).1), fnV ((s2v.2.2.2.2.2.2.2.2.2.2.1.getD s95v.2.2.toNat dz103).2.1), .bool ((s2v.2.2.2.2.2.2.2.2.2.2.1.getD s95v.2.2.toNat dz103).2.2)], y4v.2.2, F]].getD j []) (fun γ => [(1, .pointer (some ⟨b1v, 0, none⟩)), (5, .int .i64 s95v.1), (9, str (s95v.2.1 ++ (([32] : List UInt8) ++ (s255v.getD (IntKind.i64.wrap (x0_3 - 1)).toNat ([] : List UInt8))))), (82, .slice y4v.1 s2v.2.2.2.2.2.2.2.2.2.2.1.length y4v.2.1), (83, .int .i64 (s2v.2.2.2.2.2.2.2.2.2.2.1.length : Int)), (84, .int .i64 s95v.2.2)]) mixed (by decide) (by decide) (by decide) (by decide) (by decide) (by decide) (by decide) 142 rfl (by decide) (by decide) (by decide) (Ent.refl _) ?_ ?_ (fun _ => ⟨rfl, rfl, rfl, rfl, rfl, rfl, trivial⟩) ?_
 exact (ac (fun γ => (ac (qm rfl (.o (s := 9) rfl (by decide) .nil) rfl) (ac (qm rfl (.o (s := 9) rfl (by decide) .nil) rfl) zA))) (ac (fun γ => (ac (qp rfl rfl (.o (s := 1) rfl (by decide) .nil) (q_fa rfl rfl Tryd.underlying34 rfl rfl Tryd.sizeOf3 rfl) rfl) (ac (qp rfl rfl (.o (s := 1) rfl (by decide) .nil) (q_fa rfl rfl Tryd.underlying34 rfl rfl Tryd.sizeOf3 rfl) rfl) zA))) (ac (fun γ => (ac (qp rfl rfl (.v 2 rfl rfl .nil) (q_load rfl rfl Tryd.isAgg3 (.obj 0 rfl rfl)) rfl) (ac (qp rfl rfl (.v 2 rfl rfl .nil) (q_load rfl rfl Tryd.isAgg3 (.obj 1 rfl rfl)) rfl) zA))) (ac (fun γ => (ac (qp rfl rfl (.v 3 rfl rfl .nil) (q_sub rfl rfl rfl) rfl) (ac (qp rfl rfl (.v 3 rfl rfl .nil) (q_sub rfl rfl rfl) rfl) zA))) (aq rfl (fun γ => qp rfl rfl (.v 1 rfl rfl (.v 4 rfl rfl .nil)) (q_idxV 0 rfl ([] : List UInt8) rfl rfl rfl Tryd.underlying23 Tryd.sizeOf9 hi258v.1 hi258v.2) rfl) (aq rfl (fun γ => qp rfl rfl (.v 5 rfl rfl .nil) (q_loadV (fun z => str z) 0 rfl ([] : List UInt8) (fun _ _ h => h) rfl rfl Tryd.isAgg9 (by omega)) rfl) (aq rfl (fun γ => qp rfl rfl (.v 6 rfl rfl .nil) (q_cat rfl rfl rfl hb259v) rfl) (aq rfl (fun γ => qp rfl rfl (.v 0 rfl rfl (.v 7 rfl rfl .nil)) (q_cat rfl rfl rfl hb260v) rfl) (aq rfl (fun γ => qp rfl rfl (.v 8 rfl rfl .nil) (q_asg rfl rfl) rfl) zA)))))))))
 exact (ac (fun γ => eo (Z := Option Addr × Nat) (fun z => z) rfl rfl .nil (re_call (vs := []) (cap := []) (A := []) (rst := [obj b1v 34 [.int .i64 x0_0, .int .i64 x0_1, .int .i64 x0_2, .int .i64 x0_3, .int .i64 x0_4, .int .i64 x0_5, str x0_6, str x0_7, str x0_8], obj b110v 103 [fnV ((s2v.2.2.2.2.2.2.2.2.2.2.1.getD s95v.2.2.toNat dz103).1), fnV ((s2v.2.2.2.2.2.2.2.2.2.2.1.getD s95v.2.2.toNat dz103).2.1), .bool ((s2v.2.2.2.2.2.2.2.2.2.2.1.getD s95v.2.2.toNat dz103).2.2)], y4v.2.2, F]) rfl rfl rfl rfl rfl rfl Tryd.call50 (.sel 0 rfl (.sel 0 rfl (.sel 0 rfl (.sel 0 rfl (.nil _))))) (text_picks.calls _ _  ) hs256v) (fun _ => ⟨rfl, rfl, rfl, rfl, trivial⟩) (fun _ => .inr rfl) (fun z => Ent.refl _)) zA)
 intro g261v
 refine nrm_block (nrm_block (nrm_then (sim_region ?_)))
 refine vq (q_add rfl rfl rfl) rfl ?_
 refine vm rfl rfl (simL_nil ?_)
 exact nrm_again (s := (s95v.1, s95v.2.1 ++ (([32] : List UInt8) ++ (s255v.getD (IntKind.i64.wrap (x0_3 - 1)).toNat ([] : List UInt8))), IntKind.i64.wrap (s95v.2.2 + 1))) () ⟨rfl, rfl, rfl, rfl, rfl, rfl, trivial⟩ (.sel 1 rfl (.sel 2 rfl (.sel 2 rfl (.nil _))))
 refine sim_region ?_
 refine vm rfl rfl ?_
 refine vq (q_fa rfl rfl Tryd.underlying103 rfl rfl Tryd.sizeOf100 rfl) rfl ?_
 refine vq (rq_cast (congrArg fnV hk244v).symm (q_load rfl rfl Tryd.isAgg100 (.obj 1 rfl rfl))) rfl ?_
 refine simL_bind (fun s262v hs263v => ?_)
 refine simL_eff (re_call (vs := [.pointer (some ⟨b1v, 0, none⟩)]) (cap := []) (A := [obj b1v 34 [.int .i64 x0_0, .int .i64 x0_1, .int .i64 x0_2, .int .i64 x0_3, .int .i64 x0_4, .int .i64 x0_5, str x0_6, str x0_7, str x0_8]]) (rst := [obj b110v 103 [fnV ((s2v.2.2.2.2.2.2.2.2.2.2.1.getD s95v.2.2.toNat dz103).1), fnV ((s2v.2.2.2.2.2.2.2.2.2.2.1.getD s95v.2.2.toNat dz103).2.1), .bool ((s2v.2.2.2.2.2.2.2.2.2.2.1.getD s95v.2.2.toNat dz103).2.2)], y4v.2.2, F]) rfl rfl rfl rfl rfl rfl Tryd.call69 (.sel 0 rfl (.sel 0 rfl (.sel 0 rfl (.sel 0 rfl (.nil _))))) (text_lines_5.calls _ _ b1v x0_0 x0_1 x0_2 x0_3 x0_4 x0_5 x0_6 x0_7 x0_8 ) hs263v) rfl rfl rfl ?_
 intro y264v
 refine vn rfl rfl ?_
 refine vq (q_load rfl rfl Tryd.isAgg3 (.obj 0 rfl rfl)) rfl ?_
 refine simL_bind (fun s265v hs266v => ?_)
 refine simL_eff (re_call (vs := [.int .i64 x0_3]) (cap := []) (A := []) (rst := [obj b1v 34 [.int .i64 x0_0, .int .i64 x0_1, .int .i64 x0_2, .int .i64 x0_3, .int .i64 x0_4, .int .i64 x0_5, str x0_6, str x0_7, str x0_8], obj b110v 103 [fnV ((s2v.2.2.2.2.2.2.2.2.2.2.1.getD s95v.2.2.toNat dz103).1), fnV ((s2v.2.2.2.2.2.2.2.2.2.2.1.getD s95v.2.2.toNat dz103).2.1), .bool ((s2v.2.2.2.2.2.2.2.2.2.2.1.getD s95v.2.2.toNat dz103).2.2)], y4v.2.2, F]) rfl rfl rfl rfl rfl rfl Tryd.call51 (.sel 0 rfl (.sel 0 rfl (.sel 0 rfl (.sel 0 rfl (.nil _))))) (strconv_Itoa.calls _ _ x0_3 (hgl.lend 3 rfl)) hs266v) rfl rfl rfl ?_
 intro y267v
 refine simL_ask (fun hb268v => ?_)
 refine vq (q_cat rfl rfl rfl hb268v) rfl ?_
 refine simL_ask (fun hb269v => ?_)
 refine vq (q_cat rfl rfl rfl hb269v) rfl ?_
 refine va rfl rfl (simL_nil (nrm_block (nrm_block (nrm_then (sim_region ?_)))))
 refine vq (q_add rfl rfl rfl) rfl ?_
 refine vm rfl rfl (simL_nil ?_)
 exact nrm_again (s := (s95v.1, s95v.2.1 ++ (([32] : List UInt8) ++ s265v), IntKind.i64.wrap (s95v.2.2 + 1))) () ⟨rfl, rfl, rfl, rfl, rfl, rfl, trivial⟩ (.sel 0 rfl (.sel 1 rfl (.sel 1 rfl (.nil _))))
 exact sim_none
 refine sim_exi ?_
 refine exi_then ?_
 refine exi_loop ?_
 refine exi_here ?_
 exact nrm_cut (s := (s95v.1, s95v.2.1)) () ⟨rfl, rfl, trivial⟩ (.sel 2 rfl (.nil _))
 intro s93v y94v
 refine sim_cut (S := Int) (Unit) (fun s y => [(5, .int .i64 s), (9, str s93v.2)]) (fun s y => [F]) ?_ ?_
 refine sr ?_
 refine vm rfl rfl ?_
 refine vq (q_eql rfl rfl rfl) rfl ?_
 refine vm rfl rfl ?_
 refine simL_valc (b := decide (s93v.1 = (0 : Int))) (fun hb276v => RQ.sub (E' := [(9, str s93v.2)]) ⟨rfl, trivial⟩ (q_move rfl rfl)) rfl rfl rfl rfl rfl ?_
 refine simL_valc (b := decide (s93v.1 = (0 : Int))) (fun hb275v => RQ.sub (E' := [(134, str s93v.2)]) ⟨lk_cv rfl hb275v, trivial⟩ (q_lens rfl rfl rfl Tryd.underlying9)) rfl rfl rfl rfl rfl ?_
 refine simL_valc (b := decide (s93v.1 = (0 : Int))) (fun hb274v => RQ.sub (E' := [(135, .int .i64 (s93v.2.length : Int))]) ⟨lk_cv rfl hb274v, trivial⟩ (q_gtr rfl rfl rfl)) rfl rfl rfl rfl rfl ?_
 refine vq (q_and rfl rfl rfl) rfl (simL_nil (nrm_then ?_))
 refine sim_condb rfl (fun h272v => ?_) (fun h273v => ?_)
 refine sim_region ?_
 refine va rfl rfl (simL_nil ?_)
 exact nrm_cut (s := 3) () ⟨rfl, rfl, trivial⟩ (.sel 0 rfl (.nil _))
 refine sim_skip ?_
 exact nrm_cut (s := s93v.1) () ⟨rfl, rfl, trivial⟩ (.sel 0 rfl (.nil _))
 intro s270v y271v
 refine sim_seq (sr ?_)
 refine vm rfl rfl ?_
 refine vq (q_neq rfl rfl rfl) rfl (simL_nil (nrm_then ?_))
 refine sim_condn rfl (fun h277v => ?_) (fun h278v => ?_)
 refine sim_skip ?_
 refine nrm_then (sr ?_)
 refine vm rfl rfl ?_
 refine va rfl rfl ?_
 refine va rfl rfl (simL_nil (nrm_then (sim_rtn ?_)))
 exact rtn_fn () rfl rfl rfl (.sel 0 rfl (.nil _))
 refine sr ?_
 refine vm rfl rfl ?_
 refine va rfl rfl ?_
 refine va rfl rfl (simL_nil (nrm_then (sim_rtn ?_)))
 refine rtn_then ?_
 exact rtn_fn () rfl rfl rfl (.sel 0 rfl (.nil _))
 refine sr ?_
 refine vm rfl rfl ?_
 refine va rfl rfl ?_
 refine va rfl rfl (simL_nil (nrm_then (sim_rtn ?_)))
 refine rtn_then ?_
 exact rtn_fn () rfl rfl rfl (.sel 3 rfl (.nil _))

def synodref_SameTexts.l0 (x0 : List (List UInt8)) (x1 : List (List UInt8)) : Nat → Int → Option ((Unit) ⊕ (Bool))
  | 0, _ => none
  | k + 1, z7v => if z7v < (x0.length : Int) then (if 0 ≤ z7v ∧ z7v < (x0.length : Int) then (if 0 ≤ z7v ∧ z7v < (x1.length : Int) then (if (x0.getD z7v.toNat ([] : List UInt8)) = (x1.getD z7v.toNat ([] : List UInt8)) then (synodref_SameTexts.l0 x0 x1 k (IntKind.i64.wrap (z7v + 1))) else (some (.inr false))) else none) else none) else (some (.inl ()))
def synodref_SameTexts.f (k : Nat) (x0 : List (List UInt8)) (x1 : List (List UInt8)) : Option (Bool) := if (x0.length : Int) = (x1.length : Int) then (orR (synodref_SameTexts.l0 x0 x1 k 0) fun s3v => (some true)) else (some false)
theorem synodref_SameTexts.calls (W : World) (F : HA) (k : Nat) (a0 : Option Addr) (c0 : Nat) (x0 : List (List UInt8)) (a1 : Option Addr) (c1 : Nat) (x1 : List (List UInt8)) (h0 : RdV F 1 (V9 tt) a0 x0) (hc0 : x0.length ≤ c0) (hm0 : c0 ≤ maxLen) (h1 : RdV F 1 (V9 tt) a1 x1) (hc1 : x1.length ≤ c1) (hm1 : c1 ≤ maxLen) :
    Fn Tryd.prog W 14 [.slice a0 x0.length c0, .slice a1 x1.length c1] [] F (synodref_SameTexts.f k x0 x1) (fun (r : Bool) (y : Unit) => .bool r) (fun r y => []) := by
 unfold synodref_SameTexts.f
 refine fn_intro 26 Tryd.func14 rfl Tryd.ntmps14 rfl ?_
 refine sr ?_
 refine va rfl rfl (simL_nil (nrm_then (sim_seq (sr ?_))))
 refine vm rfl rfl ?_
 refine vq (q_len rfl rfl rfl Tryd.underlying23) rfl ?_
 refine vm rfl rfl ?_
 refine vq (q_len rfl rfl rfl Tryd.underlying23) rfl ?_
 refine vq (q_neq rfl rfl rfl) rfl (simL_nil (nrm_then ?_))
 refine sim_condn rfl (fun h1v => ?_) (fun h2v => ?_)
 refine sim_skip ?_
 refine nrm_then ?_
 refine sim_cutR (S := Unit) (Unit) (fun s y => []) (fun s y => [F]) ?_ ?_
 refine sr ?_
 refine va rfl rfl (simL_nil (nrm_then ?_))
 refine sim_block ?_
 refine sim_loop (S := Int) (Unit) (fun k s => synodref_SameTexts.l0 x0 x1 k s) (fun s y => [(0, .slice a0 x0.length c0), (1, .slice a1 x1.length c1), (5, .int .i64 s)]) (fun s y => [F]) (fun _ => by rw [synodref_SameTexts.l0]) ?_ k 0 () ⟨rfl, rfl, rfl, trivial⟩ (.sel 0 rfl (.nil _))
 intro k s5v y6v
 refine sim_eq (by rw [synodref_SameTexts.l0]) ?_
 refine sim_seq (sr ?_)
 refine vm rfl rfl ?_
 refine vm rfl rfl ?_
 refine vq (q_len rfl rfl rfl Tryd.underlying23) rfl ?_
 refine vq (q_lss rfl rfl rfl) rfl (simL_nil (nrm_then ?_))
 refine sim_cond rfl (fun h8v => ?_) (fun h9v => ?_)
 refine sim_skip ?_
 refine nrm_then (sim_seq ?_)
 refine sim_block ?_
 refine sim_seq ?_
 refine sim_ask (fun hi10v => ?_)
 obtain ⟨b11v, b11vo, r14v, ha12v, hV15v, hlr16v, hcell17v⟩ := RdV.pos h0 (Up.refl _) rfl (i := s5v.toNat) (by omega) ([] : List UInt8)
 obtain rfl := hV15v
 refine sim_ask (fun hi18v => ?_)
 obtain ⟨b19v, b19vo, r22v, ha20v, hV23v, hlr24v, hcell25v⟩ := RdV.pos h1 (Up.refl _) rfl (i := s5v.toNat) (by omega) ([] : List UInt8)
 obtain rfl := hV23v
 refine sim_draw (Γ := Unit) () [[], [], [0, 1], [0, 1, 2], [], [], [4, 5], [4, 5, 6], rL 8] [] [0, 1, 2, 3, 4, 5, 6, 7, 8] (fun i => [[0], [0], [0], [0], [0], [0], [0], [0], [0]].getD i []) (fun i => [[], [], [], [], [], [], [], [], []].getD i []) (fun γ i => [.slice a0 x0.length c0, .int .i64 s5v, .pointer (some ⟨b11v, b11vo + s5v.toNat * 1, none⟩), str (x0.getD s5v.toNat ([] : List UInt8)), .slice a1 x1.length c1, .int .i64 s5v, .pointer (some ⟨b19v, b19vo + s5v.toNat * 1, none⟩), str (x1.getD s5v.toNat ([] : List UInt8)), .bool (!decide ((x0.getD s5v.toNat ([] : List UInt8)) = (x1.getD s5v.toNat ([] : List UInt8))))].getD i undef) (fun j γ => [[F]].getD j []) (fun γ => [(0, .slice a0 x0.length c0), (1, .slice a1 x1.length c1), (5, .int .i64 s5v), (25, .bool (!decide ((x0.getD s5v.toNat ([] : List UInt8)) = (x1.getD s5v.toNat ([] : List UInt8)))))]) mixed (by decide) (by decide) (by decide) (by decide) (by decide) (by decide) (by decide) 26 rfl (by decide) (by decide) (by decide) (Ent.refl _) ?_ ?_ (fun _ => ⟨rfl, rfl, rfl, rfl, trivial⟩) ?_
 exact (aq rfl (fun γ => qm rfl (.o (s := 0) rfl (by decide) .nil) rfl) (aq rfl (fun γ => qm rfl (.o (s := 5) rfl (by decide) .nil) rfl) (aq rfl (fun γ => qp rfl rfl (.v 0 rfl rfl (.v 1 rfl rfl .nil)) (q_idx rfl rfl rfl ha12v Tryd.underlying23 Tryd.sizeOf9 hi10v.1 hi10v.2) rfl) (aq rfl (fun γ => qp rfl rfl (.v 2 rfl rfl .nil) (q_load rfl rfl Tryd.isAgg9 (hcell17v 0 rfl 0 _ rfl)) rfl) (aq rfl (fun γ => qm rfl (.o (s := 1) rfl (by decide) .nil) rfl) (aq rfl (fun γ => qm rfl (.o (s := 5) rfl (by decide) .nil) rfl) (aq rfl (fun γ => qp rfl rfl (.v 4 rfl rfl (.v 5 rfl rfl .nil)) (q_idx rfl rfl rfl ha20v Tryd.underlying23 Tryd.sizeOf9 hi18v.1 hi18v.2) rfl) (aq rfl (fun γ => qp rfl rfl (.v 6 rfl rfl .nil) (q_load rfl rfl Tryd.isAgg9 (hcell25v 0 rfl 0 _ rfl)) rfl) (aq rfl (fun γ => qp rfl rfl (.v 3 rfl rfl (.v 7 rfl rfl .nil)) (q_nes rfl rfl rfl) rfl) zA)))))))))
 exact zA
 intro g26v
 refine nrm_then ?_
 refine sim_condn rfl (fun h27v => ?_) (fun h28v => ?_)
 refine sim_skip ?_
 refine nrm_block (nrm_then (sim_region ?_))
 refine vm rfl rfl ?_
 refine vq (q_add rfl rfl rfl) rfl ?_
 refine va rfl rfl (simL_nil ?_)
 exact nrm_again (s := IntKind.i64.wrap (s5v + 1)) () ⟨rfl, rfl, rfl, trivial⟩ (.sel 0 rfl (.nil _))
 refine sr ?_
 refine va rfl rfl (simL_nil (nrm_then (sim_rtn ?_)))
 refine rtn_block ?_
 refine rtn_then ?_
 refine rtn_loop ?_
 refine rtn_block ?_
 refine rtn_cutR ?_
 exact rtn_fn () rfl rfl rfl (.sel 0 rfl (.nil _))
 refine sim_exi ?_
 refine exi_then ?_
 refine exi_loop ?_
 refine exi_here ?_
 exact nrm_cutR (s := ()) () trivial (.sel 0 rfl (.nil _))
 intro s3v y4v
 refine sr ?_
 refine va rfl rfl (simL_nil (nrm_then (sim_rtn ?_)))
 exact rtn_fn () rfl rfl rfl (.sel 0 rfl (.nil _))
 refine sr ?_
 refine va rfl rfl (simL_nil (nrm_then (sim_rtn ?_)))
 refine rtn_then ?_
 exact rtn_fn () rfl rfl rfl (.sel 0 rfl (.nil _))

def synodref_Num.f (x0 : Int) : Option (Int) := some x0
theorem synodref_Num.calls (W : World) (F : HA) (x0 : Int)  :
    Fn Tryd.prog W 15 [.int .i64 x0] [] F (synodref_Num.f x0) (fun (r : Int) (y : Unit) => .int .i64 r) (fun r y => []) := by
 unfold synodref_Num.f
 refine fn_intro 4 Tryd.func15 rfl Tryd.ntmps15 rfl ?_
 refine sr ?_
 refine va rfl rfl (nx ?_)
 refine vm rfl rfl ?_
 refine va rfl rfl (simL_nil (nrm_then (sim_rtn ?_)))
 exact rtn_fn () rfl rfl rfl (.sel 0 rfl (.nil _))
def synodref_Num.v (x0 : Int) : Int := (synodref_Num.f x0).getD 0
theorem synodref_Num.tot (x0 : Int) : synodref_Num.f x0 = some (synodref_Num.v x0) := by
  have h : ∃ r, synodref_Num.f x0 = some r := by
    unfold synodref_Num.f
    repeat' (first | exact ⟨_, rfl⟩ | split | simp only [Option.bind_some])
  obtain ⟨r, h⟩ := h
  unfold synodref_Num.v
  rw [h]; rfl
end Go.Proofs.YtbcnegennmpliaaDoor

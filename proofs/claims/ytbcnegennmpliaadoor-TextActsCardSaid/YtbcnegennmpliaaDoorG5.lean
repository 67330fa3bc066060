/- Printed by gen.py: pure functions and the proofs that the Go functions simulate them. Conditions: as each theorem says. -/
import Derived.Test.YtbcnegennmpliaaDoorG4
namespace Go.Proofs.YtbcnegennmpliaaDoor
open Go.RowKit
set_option linter.unusedVariables false
set_option linter.unusedSimpArgs false
set_option maxRecDepth 20000
set_option maxHeartbeats 20000000
def synodref17_take.f (k : Nat) (x0_0 : Int) (x0_1 : Int) (x0_2 : Int) (x0_3 : Int) (x0_4 : Int) (x0_5 : Int) (x0_6 : List UInt8) (x0_7 : List UInt8) (x0_8 : List UInt8) (x1 : Int) : Option (List UInt8 × Int × Int × Int × Int × Int × Int × List UInt8 × List UInt8 × List UInt8) := orR (if x1 = (107 : Int) then ((synodref17_Quote.f k x0_6).bind fun s5v => (some (.inr (s5v, x0_0, x0_1, x0_2, x0_3, x0_4, x0_5, ([] : List UInt8), x0_7, x0_8)))) else (if x1 = (118 : Int) then ((synodref17_Quote.f k x0_7).bind fun s10v => (some (.inr (s10v, x0_0, x0_1, x0_2, x0_3, x0_4, x0_5, x0_6, ([] : List UInt8), x0_8)))) else (if x1 = (111 : Int) then ((synodref17_Quote.f k x0_8).bind fun s15v => (some (.inr (s15v, x0_0, x0_1, x0_2, x0_3, x0_4, x0_5, x0_6, x0_7, ([] : List UInt8))))) else (if x1 = (112 : Int) then (if ((decide ((1 : Int) ≤ x0_3)) && (decide (x0_3 ≤ (9 : Int)))) = true then ((synodref17_Picks.f).bind fun s22v => (if 0 ≤ IntKind.i64.wrap (x0_3 - 1) ∧ IntKind.i64.wrap (x0_3 - 1) < (s22v.length : Int) then (some (.inr ((s22v.getD (IntKind.i64.wrap (x0_3 - 1)).toNat ([] : List UInt8)), x0_0, x0_1, x0_2, 0, x0_4, x0_5, x0_6, x0_7, x0_8))) else none)) else (some (.inr (([63] : List UInt8), x0_0, x0_1, x0_2, 0, x0_4, x0_5, x0_6, x0_7, x0_8)))) else (if x1 = (78 : Int) then (some (.inl (x0_1, 0, x0_2, x0_3, x0_4))) else (if x1 = (67 : Int) then (some (.inl (x0_2, x0_1, 0, x0_3, x0_4))) else (if x1 = (110 : Int) then (some (.inl (x0_3, x0_1, x0_2, 0, x0_4))) else (some (.inl (x0_4, x0_1, x0_2, x0_3, 0)))))))))) fun s1v => ((strconv_Itoa.f s1v.1).bind fun s43v => (some (s43v, x0_0, s1v.2.1, s1v.2.2.1, s1v.2.2.2.1, s1v.2.2.2.2, x0_5, x0_6, x0_7, x0_8)))
theorem synodref17_take.calls (W : World) (F : HA) (k : Nat) (b0 : Nat) (x0_0 : Int) (x0_1 : Int) (x0_2 : Int) (x0_3 : Int) (x0_4 : Int) (x0_5 : Int) (x0_6 : List UInt8) (x0_7 : List UInt8) (x0_8 : List UInt8) (x1 : Int) (hgl : Glb Tryd.prog F) :
    Fn Tryd.prog W 52 [.pointer (some ⟨b0, 0, none⟩), .int .u8 x1] [obj b0 37 [.int .i64 x0_0, .int .i64 x0_1, .int .i64 x0_2, .int .i64 x0_3, .int .i64 x0_4, .int .i64 x0_5, str x0_6, str x0_7, str x0_8]] F (synodref17_take.f k x0_0 x0_1 x0_2 x0_3 x0_4 x0_5 x0_6 x0_7 x0_8 x1) (fun (r : List UInt8 × Int × Int × Int × Int × Int × Int × List UInt8 × List UInt8 × List UInt8) (y : Unit) => str r.1) (fun r y => [obj b0 37 [.int .i64 r.2.1, .int .i64 r.2.2.1, .int .i64 r.2.2.2.1, .int .i64 r.2.2.2.2.1, .int .i64 r.2.2.2.2.2.1, .int .i64 r.2.2.2.2.2.2.1, str r.2.2.2.2.2.2.2.1, str r.2.2.2.2.2.2.2.2.1, str r.2.2.2.2.2.2.2.2.2]]) := by
 unfold synodref17_take.f
 refine fn_intro 99 Tryd.func52 rfl Tryd.ntmps52 rfl ?_
 refine sr ?_
 refine va rfl rfl (nx ?_)
 refine va rfl rfl (simL_nil (nrm_then ?_))
 refine sim_cutR (S := Int × Int × Int × Int × Int) (Unit) (fun s y => [(5, .int .i64 s.1)]) (fun s y => [obj b0 37 [.int .i64 x0_0, .int .i64 s.2.1, .int .i64 s.2.2.1, .int .i64 s.2.2.2.1, .int .i64 s.2.2.2.2, .int .i64 x0_5, str x0_6, str x0_7, str x0_8], F]) ?_ ?_
 refine sr ?_
 refine vm rfl rfl (simL_nil (nrm_then ?_))
 refine sim_block ?_
 refine sr ?_
 refine vq (q_eql rfl rfl rfl) rfl ?_
 refine va rfl rfl (simL_nil (nrm_then ?_))
 refine sim_cond rfl (fun h3v => ?_) (fun h4v => ?_)
 refine sr ?_
 refine vm rfl rfl ?_
 refine vn rfl rfl ?_
 refine vq (q_fa rfl rfl Tryd.underlying37 rfl rfl Tryd.sizeOf9 rfl) rfl ?_
 refine vq (q_load rfl rfl Tryd.isAgg9 (.obj 0 rfl rfl)) rfl ?_
 refine simL_bind (fun s5v hs6v => ?_)
 refine simL_eff (re_call (vs := [str x0_6]) (cap := []) (A := []) (rst := [obj b0 37 [.int .i64 x0_0, .int .i64 x0_1, .int .i64 x0_2, .int .i64 x0_3, .int .i64 x0_4, .int .i64 x0_5, str x0_6, str x0_7, str x0_8], F]) rfl rfl rfl rfl rfl rfl Tryd.call17 (.sel 0 rfl (.sel 0 rfl (.nil _))) (synodref17_Quote.calls _ _ k x0_6 ) hs6v) rfl rfl rfl ?_
 intro y7v
 refine va rfl rfl (nx ?_)
 refine vm rfl rfl ?_
 refine vn rfl rfl ?_
 refine vq (q_fa rfl rfl Tryd.underlying37 rfl rfl Tryd.sizeOf9 rfl) rfl ?_
 refine simL_do (re_store 0 rfl rfl rfl Tryd.sizeOf9 rfl rfl (one_of (by rfl)) rfl rfl) rfl rfl ?_
 intro _
 refine simL_ent (H' := [obj b0 37 [.int .i64 x0_0, .int .i64 x0_1, .int .i64 x0_2, .int .i64 x0_3, .int .i64 x0_4, .int .i64 x0_5, str ([] : List UInt8), str x0_7, str x0_8], F]) (Ent.refl _) ?_
 refine nx ?_
 refine vm rfl rfl ?_
 refine va rfl rfl (simL_nil (nrm_then (sim_rtn ?_)))
 refine rtn_block ?_
 refine rtn_cutR ?_
 exact rtn_fn () rfl rfl rfl (.sel 0 rfl (.sel 0 rfl (.nil _)))
 refine sr ?_
 refine vq (q_eql rfl rfl rfl) rfl ?_
 refine va rfl rfl (simL_nil (nrm_then ?_))
 refine sim_cond rfl (fun h8v => ?_) (fun h9v => ?_)
 refine sr ?_
 refine vm rfl rfl ?_
 refine vn rfl rfl ?_
 refine vq (q_fa rfl rfl Tryd.underlying37 rfl rfl Tryd.sizeOf9 rfl) rfl ?_
 refine vq (q_load rfl rfl Tryd.isAgg9 (.obj 0 rfl rfl)) rfl ?_
 refine simL_bind (fun s10v hs11v => ?_)
 refine simL_eff (re_call (vs := [str x0_7]) (cap := []) (A := []) (rst := [obj b0 37 [.int .i64 x0_0, .int .i64 x0_1, .int .i64 x0_2, .int .i64 x0_3, .int .i64 x0_4, .int .i64 x0_5, str x0_6, str x0_7, str x0_8], F]) rfl rfl rfl rfl rfl rfl Tryd.call17 (.sel 0 rfl (.sel 0 rfl (.nil _))) (synodref17_Quote.calls _ _ k x0_7 ) hs11v) rfl rfl rfl ?_
 intro y12v
 refine va rfl rfl (nx ?_)
 refine vm rfl rfl ?_
 refine vn rfl rfl ?_
 refine vq (q_fa rfl rfl Tryd.underlying37 rfl rfl Tryd.sizeOf9 rfl) rfl ?_
 refine simL_do (re_store 0 rfl rfl rfl Tryd.sizeOf9 rfl rfl (one_of (by rfl)) rfl rfl) rfl rfl ?_
 intro _
 refine simL_ent (H' := [obj b0 37 [.int .i64 x0_0, .int .i64 x0_1, .int .i64 x0_2, .int .i64 x0_3, .int .i64 x0_4, .int .i64 x0_5, str x0_6, str ([] : List UInt8), str x0_8], F]) (Ent.refl _) ?_
 refine nx ?_
 refine vm rfl rfl ?_
 refine va rfl rfl (simL_nil (nrm_then (sim_rtn ?_)))
 refine rtn_block ?_
 refine rtn_cutR ?_
 exact rtn_fn () rfl rfl rfl (.sel 0 rfl (.sel 0 rfl (.nil _)))
 refine sr ?_
 refine vq (q_eql rfl rfl rfl) rfl ?_
 refine va rfl rfl (simL_nil (nrm_then ?_))
 refine sim_cond rfl (fun h13v => ?_) (fun h14v => ?_)
 refine sr ?_
 refine vm rfl rfl ?_
 refine vn rfl rfl ?_
 refine vq (q_fa rfl rfl Tryd.underlying37 rfl rfl Tryd.sizeOf9 rfl) rfl ?_
 refine vq (q_load rfl rfl Tryd.isAgg9 (.obj 0 rfl rfl)) rfl ?_
 refine simL_bind (fun s15v hs16v => ?_)
 refine simL_eff (re_call (vs := [str x0_8]) (cap := []) (A := []) (rst := [obj b0 37 [.int .i64 x0_0, .int .i64 x0_1, .int .i64 x0_2, .int .i64 x0_3, .int .i64 x0_4, .int .i64 x0_5, str x0_6, str x0_7, str x0_8], F]) rfl rfl rfl rfl rfl rfl Tryd.call17 (.sel 0 rfl (.sel 0 rfl (.nil _))) (synodref17_Quote.calls _ _ k x0_8 ) hs16v) rfl rfl rfl ?_
 intro y17v
 refine va rfl rfl (nx ?_)
 refine vm rfl rfl ?_
 refine vn rfl rfl ?_
 refine vq (q_fa rfl rfl Tryd.underlying37 rfl rfl Tryd.sizeOf9 rfl) rfl ?_
 refine simL_do (re_store 0 rfl rfl rfl Tryd.sizeOf9 rfl rfl (one_of (by rfl)) rfl rfl) rfl rfl ?_
 intro _
 refine simL_ent (H' := [obj b0 37 [.int .i64 x0_0, .int .i64 x0_1, .int .i64 x0_2, .int .i64 x0_3, .int .i64 x0_4, .int .i64 x0_5, str x0_6, str x0_7, str ([] : List UInt8)], F]) (Ent.refl _) ?_
 refine nx ?_
 refine vm rfl rfl ?_
 refine va rfl rfl (simL_nil (nrm_then (sim_rtn ?_)))
 refine rtn_block ?_
 refine rtn_cutR ?_
 exact rtn_fn () rfl rfl rfl (.sel 0 rfl (.sel 0 rfl (.nil _)))
 refine sr ?_
 refine vq (q_eql rfl rfl rfl) rfl ?_
 refine va rfl rfl (simL_nil (nrm_then ?_))
 refine sim_cond rfl (fun h18v => ?_) (fun h19v => ?_)
 refine sr ?_
 refine vm rfl rfl ?_
 refine vn rfl rfl ?_
 refine vq (q_fa rfl rfl Tryd.underlying37 rfl rfl Tryd.sizeOf3 rfl) rfl ?_
 refine vq (q_load rfl rfl Tryd.isAgg3 (.obj 0 rfl rfl)) rfl ?_
 refine va rfl rfl (nx ?_)
 refine vm rfl rfl ?_
 refine vn rfl rfl ?_
 refine vq (q_fa rfl rfl Tryd.underlying37 rfl rfl Tryd.sizeOf3 rfl) rfl ?_
 refine simL_do (re_store 0 rfl rfl rfl Tryd.sizeOf3 rfl rfl (one_of (by rfl)) rfl rfl) rfl rfl ?_
 intro _
 refine simL_ent (H' := [obj b0 37 [.int .i64 x0_0, .int .i64 x0_1, .int .i64 x0_2, .int .i64 0, .int .i64 x0_4, .int .i64 x0_5, str x0_6, str x0_7, str x0_8], F]) (Ent.refl _) ?_
 refine simL_nil (nrm_then (sim_seq (sr ?_)))
 refine vm rfl rfl ?_
 refine vq (q_geq rfl rfl rfl) rfl ?_
 refine vm rfl rfl ?_
 refine simL_valc (b := decide ((1 : Int) ≤ x0_3)) (fun hb36v => RQ.sub (E' := [(5, .int .i64 x0_3)]) ⟨rfl, trivial⟩ (q_move rfl rfl)) rfl rfl rfl rfl rfl ?_
 refine simL_valc (b := decide ((1 : Int) ≤ x0_3)) (fun hb35v => RQ.sub (E' := [(62, .int .i64 x0_3)]) ⟨lk_cv rfl hb35v, trivial⟩ (q_leq rfl rfl rfl)) rfl rfl rfl rfl rfl ?_
 refine vq (q_and rfl rfl rfl) rfl (simL_nil (nrm_then ?_))
 refine sim_condb rfl (fun h20v => ?_) (fun h21v => ?_)
 refine sr ?_
 refine simL_bind (fun s22v hs23v => ?_)
 refine simL_eff (re_call (vs := []) (cap := []) (A := []) (rst := [obj b0 37 [.int .i64 x0_0, .int .i64 x0_1, .int .i64 x0_2, .int .i64 0, .int .i64 x0_4, .int .i64 x0_5, str x0_6, str x0_7, str x0_8], F]) rfl rfl rfl rfl rfl rfl Tryd.call75 (.sel 0 rfl (.sel 0 rfl (.nil _))) (synodref17_Picks.calls _ _  ) hs23v) rfl rfl rfl ?_
 intro y24v
 refine vm rfl rfl ?_
 refine vq (q_sub rfl rfl rfl) rfl ?_
 refine simL_openV 0 rfl (fun rs33v hl34v => ?_)
 refine simL_ask (fun hi25v => ?_)
 refine simL_posV 0 rfl hl34v rfl (i := (IntKind.i64.wrap (x0_3 - 1)).toNat) (by omega) ([] : List UInt8) (fun b26v b26vo r29v ha27v hV30v hlr31v hcell32v => ?_)
 obtain rfl := hV30v
 refine vq (q_idx rfl rfl rfl ha27v Tryd.underlying23 Tryd.sizeOf9 hi25v.1 hi25v.2) rfl ?_
 refine vq (q_load rfl rfl Tryd.isAgg9 (hcell32v 0 rfl 0 _ rfl)) rfl ?_
 refine va rfl rfl (simL_nil (nrm_then (sim_rtn ?_)))
 refine rtn_then ?_
 refine rtn_block ?_
 refine rtn_cutR ?_
 exact rtn_fn () rfl rfl rfl (.sel 1 rfl (.sel 1 rfl (.nil _)))
 refine sim_skip ?_
 refine nrm_then (sr ?_)
 refine va rfl rfl (simL_nil (nrm_then (sim_rtn ?_)))
 refine rtn_block ?_
 refine rtn_cutR ?_
 exact rtn_fn () rfl rfl rfl (.sel 0 rfl (.sel 0 rfl (.nil _)))
 refine sr ?_
 refine vq (q_eql rfl rfl rfl) rfl ?_
 refine va rfl rfl (simL_nil (nrm_then ?_))
 refine sim_cond rfl (fun h37v => ?_) (fun h38v => ?_)
 refine sr ?_
 refine vm rfl rfl ?_
 refine vn rfl rfl ?_
 refine vq (q_fa rfl rfl Tryd.underlying37 rfl rfl Tryd.sizeOf3 rfl) rfl ?_
 refine vq (q_load rfl rfl Tryd.isAgg3 (.obj 0 rfl rfl)) rfl ?_
 refine va rfl rfl (ny ?_)
 refine vm rfl rfl ?_
 refine vn rfl rfl ?_
 refine vq (q_fa rfl rfl Tryd.underlying37 rfl rfl Tryd.sizeOf3 rfl) rfl ?_
 refine simL_do (re_store 0 rfl rfl rfl Tryd.sizeOf3 rfl rfl (one_of (by rfl)) rfl rfl) rfl rfl ?_
 intro _
 refine simL_ent (H' := [obj b0 37 [.int .i64 x0_0, .int .i64 0, .int .i64 x0_2, .int .i64 x0_3, .int .i64 x0_4, .int .i64 x0_5, str x0_6, str x0_7, str x0_8], F]) (Ent.refl _) ?_
 refine simL_nil (nrm_block ?_)
 exact nrm_cutR (s := (x0_1, 0, x0_2, x0_3, x0_4)) () ⟨rfl, trivial⟩ (.sel 0 rfl (.sel 0 rfl (.nil _)))
 refine sr ?_
 refine vq (q_eql rfl rfl rfl) rfl ?_
 refine va rfl rfl (simL_nil (nrm_then ?_))
 refine sim_cond rfl (fun h39v => ?_) (fun h40v => ?_)
 refine sr ?_
 refine vm rfl rfl ?_
 refine vn rfl rfl ?_
 refine vq (q_fa rfl rfl Tryd.underlying37 rfl rfl Tryd.sizeOf3 rfl) rfl ?_
 refine vq (q_load rfl rfl Tryd.isAgg3 (.obj 0 rfl rfl)) rfl ?_
 refine va rfl rfl (ny ?_)
 refine vm rfl rfl ?_
 refine vn rfl rfl ?_
 refine vq (q_fa rfl rfl Tryd.underlying37 rfl rfl Tryd.sizeOf3 rfl) rfl ?_
 refine simL_do (re_store 0 rfl rfl rfl Tryd.sizeOf3 rfl rfl (one_of (by rfl)) rfl rfl) rfl rfl ?_
 intro _
 refine simL_ent (H' := [obj b0 37 [.int .i64 x0_0, .int .i64 x0_1, .int .i64 0, .int .i64 x0_3, .int .i64 x0_4, .int .i64 x0_5, str x0_6, str x0_7, str x0_8], F]) (Ent.refl _) ?_
 refine simL_nil (nrm_block ?_)
 exact nrm_cutR (s := (x0_2, x0_1, 0, x0_3, x0_4)) () ⟨rfl, trivial⟩ (.sel 0 rfl (.sel 0 rfl (.nil _)))
 refine sr ?_
 refine vq (q_eql rfl rfl rfl) rfl ?_
 refine va rfl rfl (simL_nil (nrm_then ?_))
 refine sim_cond rfl (fun h41v => ?_) (fun h42v => ?_)
 refine sr ?_
 refine vm rfl rfl ?_
 refine vn rfl rfl ?_
 refine vq (q_fa rfl rfl Tryd.underlying37 rfl rfl Tryd.sizeOf3 rfl) rfl ?_
 refine vq (q_load rfl rfl Tryd.isAgg3 (.obj 0 rfl rfl)) rfl ?_
 refine va rfl rfl (ny ?_)
 refine vm rfl rfl ?_
 refine vn rfl rfl ?_
 refine vq (q_fa rfl rfl Tryd.underlying37 rfl rfl Tryd.sizeOf3 rfl) rfl ?_
 refine simL_do (re_store 0 rfl rfl rfl Tryd.sizeOf3 rfl rfl (one_of (by rfl)) rfl rfl) rfl rfl ?_
 intro _
 refine simL_ent (H' := [obj b0 37 [.int .i64 x0_0, .int .i64 x0_1, .int .i64 x0_2, .int .i64 0, .int .i64 x0_4, .int .i64 x0_5, str x0_6, str x0_7, str x0_8], F]) (Ent.refl _) ?_
 refine simL_nil (nrm_block ?_)
 exact nrm_cutR (s := (x0_3, x0_1, x0_2, 0, x0_4)) () ⟨rfl, trivial⟩ (.sel 0 rfl (.sel 0 rfl (.nil _)))
 refine sr ?_
 refine vm rfl rfl ?_
 refine vn rfl rfl ?_
 refine vq (q_fa rfl rfl Tryd.underlying37 rfl rfl Tryd.sizeOf3 rfl) rfl ?_
 refine vq (q_load rfl rfl Tryd.isAgg3 (.obj 0 rfl rfl)) rfl ?_
 refine va rfl rfl (ny ?_)
 refine vm rfl rfl ?_
 refine vn rfl rfl ?_
 refine vq (q_fa rfl rfl Tryd.underlying37 rfl rfl Tryd.sizeOf3 rfl) rfl ?_
 refine simL_do (re_store 0 rfl rfl rfl Tryd.sizeOf3 rfl rfl (one_of (by rfl)) rfl rfl) rfl rfl ?_
 intro _
 refine simL_ent (H' := [obj b0 37 [.int .i64 x0_0, .int .i64 x0_1, .int .i64 x0_2, .int .i64 x0_3, .int .i64 0, .int .i64 x0_5, str x0_6, str x0_7, str x0_8], F]) (Ent.refl _) ?_
 refine simL_nil (nrm_block ?_)
 exact nrm_cutR (s := (x0_4, x0_1, x0_2, x0_3, 0)) () ⟨rfl, trivial⟩ (.sel 0 rfl (.sel 0 rfl (.nil _)))
 intro s1v y2v
 refine sr ?_
 refine vm rfl rfl ?_
 refine simL_bind (fun s43v hs44v => ?_)
 refine simL_eff (re_call (vs := [.int .i64 s1v.1]) (cap := []) (A := []) (rst := [obj b0 37 [.int .i64 x0_0, .int .i64 s1v.2.1, .int .i64 s1v.2.2.1, .int .i64 s1v.2.2.2.1, .int .i64 s1v.2.2.2.2, .int .i64 x0_5, str x0_6, str x0_7, str x0_8], F]) rfl rfl rfl rfl rfl rfl Tryd.call51 (.sel 0 rfl (.sel 0 rfl (.nil _))) (strconv_Itoa.calls _ _ s1v.1 (hgl.lend 1 rfl)) hs44v) rfl rfl rfl ?_
 intro y45v
 refine va rfl rfl (simL_nil (nrm_then (sim_rtn ?_)))
 exact rtn_fn () rfl rfl rfl (.sel 0 rfl (.sel 0 rfl (.nil _)))

def synodref17_far.f (x0 : Int) : Option (Bool) := some ((decide ((4611686018427387904 : Int) < x0)) || (decide (x0 < (-4611686018427387904))))
theorem synodref17_far.calls (W : World) (F : HA) (x0 : Int)  :
    Fn Tryd.prog W 53 [.int .i64 x0] [] F (synodref17_far.f x0) (fun (r : Bool) (y : Unit) => .bool r) (fun r y => []) := by
 unfold synodref17_far.f
 refine fn_intro 9 Tryd.func53 rfl Tryd.ntmps53 rfl ?_
 refine sr ?_
 refine va rfl rfl (nx ?_)
 refine vm rfl rfl ?_
 refine vq (q_gtr rfl rfl rfl) rfl ?_
 refine vm rfl rfl ?_
 refine simL_valc (b := decide ((4611686018427387904 : Int) < x0)) (fun hb2v => RQ.sub (E' := [(0, .int .i64 x0)]) ⟨rfl, trivial⟩ (q_move rfl rfl)) rfl rfl rfl rfl rfl ?_
 refine simL_valc (b := decide ((4611686018427387904 : Int) < x0)) (fun hb1v => RQ.sub (E' := [(6, .int .i64 x0)]) ⟨lk_cv rfl hb1v, trivial⟩ (q_lss rfl rfl rfl)) rfl rfl rfl rfl rfl ?_
 refine vq (q_or rfl rfl rfl) rfl ?_
 refine va rfl rfl (simL_nil (nrm_then (sim_rtn ?_)))
 exact rtn_fn () rfl rfl rfl (.sel 0 rfl (.nil _))

def synodref17_FormatAct.l1 (s17v : List UInt8 × Int × List UInt8 × Int × Int) : Nat → List UInt8 → Int → Int → Int → Int → Int → Int → Int → List UInt8 → List UInt8 → List UInt8 → Option (List UInt8 × Int × Int × Int × Int × Int × Int × List UInt8 × List UInt8 × List UInt8)
  | 0, _, _, _, _, _, _, _, _, _, _, _ => none
  | k + 1, z99v, z100v, z101v, z102v, z103v, z104v, z105v, z106v, z107v, z108v, z109v => if z100v < (s17v.2.2.1.length : Int) then (if z99v.length + ([32] : List UInt8).length ≤ 9223372036854775807 then (if 0 ≤ z100v ∧ z100v < (s17v.2.2.1.length : Int) then ((synodref17_take.f k z101v z102v z103v z104v z105v z106v z107v z108v z109v ((s17v.2.2.1.getD z100v.toNat 0).toNat : Int)).bind fun s114v => (if (z99v ++ ([32] : List UInt8)).length + s114v.1.length ≤ 9223372036854775807 then (synodref17_FormatAct.l1 s17v k ((z99v ++ ([32] : List UInt8)) ++ s114v.1) (IntKind.i64.wrap (z100v + 1)) s114v.2.1 s114v.2.2.1 s114v.2.2.2.1 s114v.2.2.2.2.1 s114v.2.2.2.2.2.1 s114v.2.2.2.2.2.2.1 s114v.2.2.2.2.2.2.2.1 s114v.2.2.2.2.2.2.2.2.1 s114v.2.2.2.2.2.2.2.2.2) else none)) else none) else none) else (some (z99v, z101v, z102v, z103v, z104v, z105v, z106v, z107v, z108v, z109v))
def synodref17_FormatAct.l0 (x0_0 : Int) (x0_4 : Int) (x0_5 : Int) (s13v : List (Ty109)) : Nat → Int → List UInt8 → Int → List UInt8 → Int → Int → Option (Ty109)
  | 0, _, _, _, _, _, _ => none
  | k + 1, z21v, z22v, z23v, z24v, z25v, z26v => if z21v < (s13v.length : Int) then ((if 0 ≤ z21v ∧ z21v < (s13v.length : Int) then (if (s13v.getD z21v.toNat dz109).2.1 = x0_0 then (if x0_0 = (13 : Int) then (if 0 ≤ z21v ∧ z21v < (s13v.length : Int) then (if (s13v.getD z21v.toNat dz109).2.2.2.2 = x0_5 then (if x0_0 = (8 : Int) then (if 0 ≤ z21v ∧ z21v < (s13v.length : Int) then (some ((decide ((s13v.getD z21v.toNat dz109).2.2.2.1 = x0_4)) || (decide (z22v = ([] : List UInt8))))) else none) else (some true)) else (some false)) else none) else (if x0_0 = (8 : Int) then (if 0 ≤ z21v ∧ z21v < (s13v.length : Int) then (some ((decide ((s13v.getD z21v.toNat dz109).2.2.2.1 = x0_4)) || (decide (z22v = ([] : List UInt8))))) else none) else (some true))) else (some false)) else none).bind fun s29v => (if s29v = true then (if 0 ≤ z21v ∧ z21v < (s13v.length : Int) then (synodref17_FormatAct.l0 x0_0 x0_4 x0_5 s13v k (IntKind.i64.wrap (z21v + 1)) ((s13v.getD z21v.toNat dz109).1) ((s13v.getD z21v.toNat dz109).2.1) ((s13v.getD z21v.toNat dz109).2.2.1) ((s13v.getD z21v.toNat dz109).2.2.2.1) ((s13v.getD z21v.toNat dz109).2.2.2.2)) else none) else (synodref17_FormatAct.l0 x0_0 x0_4 x0_5 s13v k (IntKind.i64.wrap (z21v + 1)) z22v z23v z24v z25v z26v))) else (some (z22v, z23v, z24v, z25v, z26v))
def synodref17_FormatAct.f (k : Nat) (x0_0 : Int) (x0_1 : Int) (x0_2 : Int) (x0_3 : Int) (x0_4 : Int) (x0_5 : Int) (x0_6 : List UInt8) (x0_7 : List UInt8) (x0_8 : List UInt8) : Option (List UInt8 × Int) := if ((decide (x0_0 < (1 : Int))) || (decide ((16 : Int) < x0_0))) = true then (some (([] : List UInt8), 6)) else ((if x0_0 = (13 : Int) then (some ((decide (x0_5 < (1 : Int))) || (decide ((4 : Int) < x0_5)))) else (some false)).bind fun s4v => (if s4v = true then (some (([] : List UInt8), 20)) else ((synodref17_Rows.f).bind fun s13v => ((synodref17_FormatAct.l0 x0_0 x0_4 x0_5 s13v k 0 ([] : List UInt8) 0 ([] : List UInt8) 0 0).bind fun s17v => ((synodref17_FormatAct.l1 s17v k s17v.1 0 x0_0 x0_1 x0_2 x0_3 x0_4 x0_5 x0_6 x0_7 x0_8).bind fun s95v => ((if x0_0 = (8 : Int) then (some 0) else (some s95v.2.2.2.2.2.1)).bind fun s118v => ((if x0_0 = (13 : Int) then (some 0) else (some s95v.2.2.2.2.2.2.1)).bind fun s122v => (if (!(decide ((0 : Int) = (0 : Int)) && (decide (s95v.2.2.1 = (0 : Int)) && (decide (s95v.2.2.2.1 = (0 : Int)) && (decide (s95v.2.2.2.2.1 = (0 : Int)) && (decide (s118v = (0 : Int)) && (decide (s122v = (0 : Int)) && (decide (s95v.2.2.2.2.2.2.2.1 = ([] : List UInt8)) && (decide (s95v.2.2.2.2.2.2.2.2.1 = ([] : List UInt8)) && (decide (s95v.2.2.2.2.2.2.2.2.2 = ([] : List UInt8)))))))))))) = true then (some (([] : List UInt8), 4)) else ((if x0_0 = (2 : Int) then (some ((decide (x0_3 < (1 : Int))) || (decide ((9 : Int) < x0_3)))) else (some false)).bind fun s128v => (if s128v = true then (some (([] : List UInt8), 20)) else ((synodref17_far.f x0_1).bind fun s137v => ((if s137v = true then (some true) else ((synodref17_far.f x0_2).bind fun s142v => (some s142v))).bind fun s140v => ((if s140v = true then (some true) else ((synodref17_far.f x0_3).bind fun s149v => (some s149v))).bind fun s147v => ((if s147v = true then (some true) else ((synodref17_far.f x0_4).bind fun s156v => (some s156v))).bind fun s154v => ((if s154v = true then (some true) else (some (((decide (x0_0 = (8 : Int))) && (!decide (x0_4 = (0 : Int)))) && (!decide (x0_4 = (1 : Int)))))).bind fun s161v => (if s161v = true then (some (([] : List UInt8), 1)) else (if (4096 : Int) < (s95v.1.length : Int) then (some (([] : List UInt8), 3)) else (some (s95v.1, 0)))))))))))))))))))
theorem synodref17_FormatAct.calls (W : World) (F : HA) (k : Nat) (x0_0 : Int) (x0_1 : Int) (x0_2 : Int) (x0_3 : Int) (x0_4 : Int) (x0_5 : Int) (x0_6 : List UInt8) (x0_7 : List UInt8) (x0_8 : List UInt8) (hgl : Glb Tryd.prog F) :
    Fn Tryd.prog W 21 [.agg #[.int .i64 x0_0, .int .i64 x0_1, .int .i64 x0_2, .int .i64 x0_3, .int .i64 x0_4, .int .i64 x0_5, str x0_6, str x0_7, str x0_8]] [] F (synodref17_FormatAct.f k x0_0 x0_1 x0_2 x0_3 x0_4 x0_5 x0_6 x0_7 x0_8) (fun (r : List UInt8 × Int) (y : Unit) => .tuple #[str r.1, .int .i64 r.2]) (fun r y => []) := by
 unfold synodref17_FormatAct.f
 refine fn_intro 166 Tryd.func21 rfl Tryd.ntmps21 rfl ?_
 refine sr ?_
 refine simL_eff (re_box rfl rfl rfl) rfl rfl rfl ?_
 intro b1v
 refine va rfl rfl ?_
 refine va rfl rfl (simL_nil (nrm_then (sim_seq (sr ?_))))
 refine vq (q_fa rfl rfl Tryd.underlying37 rfl rfl Tryd.sizeOf3 rfl) rfl ?_
 refine vq (q_load rfl rfl Tryd.isAgg3 (.obj 0 rfl rfl)) rfl ?_
 refine vq (q_lss rfl rfl rfl) rfl ?_
 refine vm rfl rfl ?_
 refine simL_valc (b := decide (x0_0 < (1 : Int))) (fun hb177v => RQ.sub (E' := [(1, .pointer (some ⟨b1v, 0, none⟩))]) ⟨rfl, trivial⟩ (q_fa rfl rfl Tryd.underlying37 rfl rfl Tryd.sizeOf3 rfl)) rfl rfl rfl rfl rfl ?_
 refine simL_valc (b := decide (x0_0 < (1 : Int))) (fun hb176v => RQ.sub (E' := [(14, .pointer (some ⟨b1v, 0, none⟩))]) ⟨lk_cv rfl hb176v, trivial⟩ (q_load rfl rfl Tryd.isAgg3 (.obj 0 rfl rfl))) rfl rfl rfl rfl rfl ?_
 refine simL_valc (b := decide (x0_0 < (1 : Int))) (fun hb175v => RQ.sub (E' := [(15, .int .i64 x0_0)]) ⟨lk_cv rfl hb175v, trivial⟩ (q_gtr rfl rfl rfl)) rfl rfl rfl rfl rfl ?_
 refine vq (q_or rfl rfl rfl) rfl (simL_nil (nrm_then ?_))
 refine sim_condb rfl (fun h2v => ?_) (fun h3v => ?_)
 refine sr ?_
 refine va rfl rfl ?_
 refine va rfl rfl (simL_nil (nrm_then (sim_rtn ?_)))
 refine rtn_then ?_
 exact rtn_fn () rfl rfl rfl (.sel 1 rfl (.nil _))
 refine sim_skip ?_
 refine nrm_then (sim_seq (sr ?_))
 refine vq (q_fa rfl rfl Tryd.underlying37 rfl rfl Tryd.sizeOf3 rfl) rfl ?_
 refine vq (q_load rfl rfl Tryd.isAgg3 (.obj 0 rfl rfl)) rfl ?_
 refine vq (q_eql rfl rfl rfl) rfl ?_
 refine vm rfl rfl ?_
 refine simL_cut' 9 (S := Bool) (Unit) (fun s y => [(1, .pointer (some ⟨b1v, 0, none⟩)), (30, .bool s)]) (fun s y => [obj b1v 37 [.int .i64 x0_0, .int .i64 x0_1, .int .i64 x0_2, .int .i64 x0_3, .int .i64 x0_4, .int .i64 x0_5, str x0_6, str x0_7, str x0_8], F]) ?_ ?_
 refine simL_casep (fun hb9v => ?_) (fun hb10v => ?_)
 rw [hb9v]
 refine simL_valg (q_fa rfl rfl Tryd.underlying37 rfl rfl Tryd.sizeOf3 rfl) rfl rfl rfl rfl rfl rfl ?_
 refine simL_valg (q_load rfl rfl Tryd.isAgg3 (.obj 0 rfl rfl)) rfl rfl rfl rfl rfl rfl ?_
 refine simL_valg (q_lss rfl rfl rfl) rfl rfl rfl rfl rfl rfl ?_
 refine simL_valg (q_move rfl rfl) rfl rfl rfl rfl rfl rfl ?_
 refine simL_valc (b := decide (x0_5 < (1 : Int))) (fun hb8v => RQ.sub (E' := [(1, .pointer (some ⟨b1v, 0, none⟩))]) ⟨rfl, trivial⟩ (q_fa rfl rfl Tryd.underlying37 rfl rfl Tryd.sizeOf3 rfl)) rfl rfl rfl rfl rfl ?_
 refine simL_valc (b := decide (x0_5 < (1 : Int))) (fun hb7v => RQ.sub (E' := [(26, .pointer (some ⟨b1v, 5, none⟩))]) ⟨lk_cv rfl hb7v, trivial⟩ (q_load rfl rfl Tryd.isAgg3 (.obj 0 rfl rfl))) rfl rfl rfl rfl rfl ?_
 refine simL_valc (b := decide (x0_5 < (1 : Int))) (fun hb6v => RQ.sub (E' := [(27, .int .i64 x0_5)]) ⟨lk_cv rfl hb6v, trivial⟩ (q_gtr rfl rfl rfl)) rfl rfl rfl rfl rfl ?_
 refine simL_valg (q_or rfl rfl rfl) rfl rfl rfl rfl rfl rfl ?_
 refine vq (q_pick rfl rfl rfl rfl rfl) rfl (simL_nil ?_)
 exact nrm_cut (s := (decide (x0_5 < (1 : Int))) || (decide ((4 : Int) < x0_5))) () ⟨rfl, rfl, trivial⟩ (.sel 0 rfl (.sel 0 rfl (.nil _)))
 rw [hb10v]
 refine simL_skipd rfl rfl rfl rfl rfl rfl ?_
 refine simL_skipd rfl rfl rfl rfl rfl rfl ?_
 refine simL_skipd rfl rfl rfl rfl rfl rfl ?_
 refine simL_skipd rfl rfl rfl rfl rfl rfl ?_
 refine simL_skipu rfl rfl rfl rfl rfl ?_
 refine simL_skipu rfl rfl rfl rfl rfl ?_
 refine simL_skipu rfl rfl rfl rfl rfl ?_
 refine simL_skipd rfl rfl rfl rfl rfl rfl ?_
 refine vq (q_pick rfl rfl rfl rfl rfl) rfl (simL_nil ?_)
 exact nrm_cut (s := false) () ⟨rfl, rfl, trivial⟩ (.sel 0 rfl (.sel 0 rfl (.nil _)))
 intro s4v y5v
 refine simL_nil (nrm_then ?_)
 refine sim_condb rfl (fun h11v => ?_) (fun h12v => ?_)
 refine sr ?_
 refine va rfl rfl ?_
 refine va rfl rfl (simL_nil (nrm_then (sim_rtn ?_)))
 refine rtn_then ?_
 exact rtn_fn () rfl rfl rfl (.sel 1 rfl (.nil _))
 refine sim_skip ?_
 refine nrm_then (sr ?_)
 refine simL_bind (fun s13v hs14v => ?_)
 refine simL_eff (re_call (vs := []) (cap := []) (A := []) (rst := [obj b1v 37 [.int .i64 x0_0, .int .i64 x0_1, .int .i64 x0_2, .int .i64 x0_3, .int .i64 x0_4, .int .i64 x0_5, str x0_6, str x0_7, str x0_8], F]) rfl rfl rfl rfl rfl rfl Tryd.call46 (.sel 0 rfl (.sel 0 rfl (.nil _))) (synodref17_Rows.calls _ _  ) hs14v) rfl rfl rfl ?_
 intro y15v
 refine va rfl rfl (nx ?_)
 refine vq (q_build (v := .agg #[str ([] : List UInt8), .int .i64 0, str ([] : List UInt8), .int .i64 0, .int .i64 0]) rfl rfl (fun _ => by kernel_rfl)) rfl ?_
 refine simL_eff (re_alloc rfl Tryd.zeroValue109 rfl) rfl rfl rfl ?_
 intro b16v
 refine simL_do (re_store 0 rfl rfl rfl Tryd.sizeOf109 rfl rfl (one_of (by rfl)) rfl rfl) rfl rfl ?_
 intro _
 refine simL_nil (nrm_then ?_)
 refine sim_cut (S := List UInt8 × Int × List UInt8 × Int × Int) (Unit) (fun s y => [(1, .pointer (some ⟨b1v, 0, none⟩)), (5, .pointer (some ⟨b16v, 0, none⟩))]) (fun s y => [obj b16v 109 [str s.1, .int .i64 s.2.1, str s.2.2.1, .int .i64 s.2.2.2.1, .int .i64 s.2.2.2.2], obj b1v 37 [.int .i64 x0_0, .int .i64 x0_1, .int .i64 x0_2, .int .i64 x0_3, .int .i64 x0_4, .int .i64 x0_5, str x0_6, str x0_7, str x0_8], F]) ?_ ?_
 refine sr ?_
 refine va rfl rfl (simL_nil (nrm_then ?_))
 refine sim_block ?_
 refine sim_loop (S := Int × List UInt8 × Int × List UInt8 × Int × Int) (Unit) (fun k s => synodref17_FormatAct.l0 x0_0 x0_4 x0_5 s13v k s.1 s.2.1 s.2.2.1 s.2.2.2.1 s.2.2.2.2.1 s.2.2.2.2.2) (fun s y => [(1, .pointer (some ⟨b1v, 0, none⟩)), (4, .slice y15v.1 s13v.length y15v.2), (5, .pointer (some ⟨b16v, 0, none⟩)), (6, .int .i64 s.1)]) (fun s y => [obj b16v 109 [str s.2.1, .int .i64 s.2.2.1, str s.2.2.2.1, .int .i64 s.2.2.2.2.1, .int .i64 s.2.2.2.2.2], obj b1v 37 [.int .i64 x0_0, .int .i64 x0_1, .int .i64 x0_2, .int .i64 x0_3, .int .i64 x0_4, .int .i64 x0_5, str x0_6, str x0_7, str x0_8], RowV 109 5 (V109 tt) y15v.1 s13v y15v.2, F]) (fun _ => by rw [synodref17_FormatAct.l0]) ?_ k (0, ([] : List UInt8), 0, ([] : List UInt8), 0, 0) () ⟨rfl, rfl, rfl, rfl, trivial⟩ (.sel 0 rfl (.sel 1 rfl (.sel 0 rfl (.sel 0 rfl (.nil _)))))
 intro k s19v y20v
 refine sim_eq (by rw [synodref17_FormatAct.l0]) ?_
 refine sim_seq (sr ?_)
 refine vm rfl rfl ?_
 refine vm rfl rfl ?_
 refine vq (q_len rfl rfl rfl Tryd.underlying106) rfl ?_
 refine vq (q_lss rfl rfl rfl) rfl (simL_nil (nrm_then ?_))
 refine sim_cond rfl (fun h27v => ?_) (fun h28v => ?_)
 refine sim_skip ?_
 refine nrm_then (sim_seq ?_)
 refine sim_block ?_
 refine sim_cut (S := Bool) (Unit) (fun s y => [(1, .pointer (some ⟨b1v, 0, none⟩)), (4, .slice y15v.1 s13v.length y15v.2), (5, .pointer (some ⟨b16v, 0, none⟩)), (6, .int .i64 s19v.1), (81, .bool s)]) (fun s y => [obj b16v 109 [str s19v.2.1, .int .i64 s19v.2.2.1, str s19v.2.2.2.1, .int .i64 s19v.2.2.2.2.1, .int .i64 s19v.2.2.2.2.2], obj b1v 37 [.int .i64 x0_0, .int .i64 x0_1, .int .i64 x0_2, .int .i64 x0_3, .int .i64 x0_4, .int .i64 x0_5, str x0_6, str x0_7, str x0_8], RowV 109 5 (V109 tt) y15v.1 s13v y15v.2, F]) ?_ ?_
 refine sim_openV 2 rfl (fun rs31v hl32v => ?_)
 refine sim_ask (fun hi33v => ?_)
 refine sim_posV 2 rfl hl32v rfl (i := s19v.1.toNat) (by omega) dz109 (fun b34v b34vo r37v ha35v hV38v hlr39v hcell40v => ?_)
 obtain rfl := hV38v
 refine sim_if (fun hk41v => ?_) (fun hk41v => ?_)
 refine sim_if (fun hk42v => ?_) (fun hk42v => ?_)
 refine sim_ask (fun hi57v => ?_)
 refine sim_posV 2 rfl hl32v rfl (i := s19v.1.toNat) (by omega) dz109 (fun b58v b58vo r61v ha59v hV62v hlr63v hcell64v => ?_)
 obtain rfl := hV62v
 refine sim_if (fun hk65v => ?_) (fun hk65v => ?_)
 refine sim_if (fun hk66v => ?_) (fun hk66v => ?_)
 refine sim_ask (fun hi68v => ?_)
 refine sim_posV 2 rfl hl32v rfl (i := s19v.1.toNat) (by omega) dz109 (fun b69v b69vo r72v ha70v hV73v hlr74v hcell75v => ?_)
 obtain rfl := hV73v
 refine sim_draw (Γ := Unit) () [[], [], [0, 1], [0, 1, 2], rL 4, [], [5], rL 7, rL 8, rL 9, rL 10, rL 11, rL 12, rL 13, rL 13, rL 15, rL 16, rL 17, rL 13, [0, 1, 2, 3, 4, 5, 6, 7, 8, 9, 10, 11, 12, 18], rL 20, rL 21, rL 22, rL 23, rL 24, rL 25, rL 26, rL 27, rL 28, rL 28, rL 30, rL 31, rL 32, rL 28, [0, 1, 2, 3, 4, 5, 6, 7, 8, 9, 10, 11, 12, 13, 14, 15, 16, 17, 18, 19, 20, 21, 22, 23, 24, 25, 26, 27, 33], rL 35, rL 36, rL 37, rL 38, rL 39, rL 40, rL 41, rL 42] [] [0, 1, 2, 3, 4, 5, 6, 7, 8, 9, 10, 11, 12, 13, 14, 15, 16, 17, 18, 19, 20, 21, 22, 23, 24, 25, 26, 27, 28, 29, 30, 31, 32, 33, 34, 35, 36, 37, 38, 39, 40, 41, 42] (fun i => [[0], [0], [0], [0], [0], [0], [0], [0], [0], [0], [0], [0], [0], [0], [0], [0], [0], [0], [0], [0], [0], [0], [0], [0], [0], [0], [0], [0], [0], [0], [0], [0], [0], [0], [0], [0], [0], [0], [0], [0], [0], [0], [0]].getD i []) (fun i => [[], [], [], [], [], [], [], [], [], [], [], [], [], [], [], [], [], [], [], [], [], [], [], [], [], [], [], [], [], [], [], [], [], [], [], [], [], [], [], [], [], [], []].getD i []) (fun γ i => [.slice y15v.1 s13v.length y15v.2, .int .i64 s19v.1, .pointer (some ⟨b34v, b34vo + s19v.1.toNat * 5, none⟩), .pointer (some ⟨b34v, b34vo + s19v.1.toNat * 5 + 1, none⟩), .int .i64 ((s13v.getD s19v.1.toNat dz109).2.1), .pointer (some ⟨b1v, 0, none⟩), .int .i64 x0_0, .bool (decide ((s13v.getD s19v.1.toNat dz109).2.1 = x0_0)), .bool (decide ((s13v.getD s19v.1.toNat dz109).2.1 = x0_0)), .pointer (some ⟨b1v, 0, none⟩), .int .i64 x0_0, .bool (!decide (x0_0 = (13 : Int))), .bool (!decide (x0_0 = (13 : Int))), .slice y15v.1 s13v.length y15v.2, .int .i64 s19v.1, .pointer (some ⟨b58v, b58vo + s19v.1.toNat * 5, none⟩), .pointer (some ⟨b58v, b58vo + s19v.1.toNat * 5 + 4, none⟩), .int .i64 ((s13v.getD s19v.1.toNat dz109).2.2.2.2), .pointer (some ⟨b1v, 5, none⟩), .int .i64 x0_5, .bool (decide ((s13v.getD s19v.1.toNat dz109).2.2.2.2 = x0_5)), .bool (decide ((s13v.getD s19v.1.toNat dz109).2.2.2.2 = x0_5)), .bool (decide ((s13v.getD s19v.1.toNat dz109).2.2.2.2 = x0_5)), .bool (decide ((s13v.getD s19v.1.toNat dz109).2.2.2.2 = x0_5)), .pointer (some ⟨b1v, 0, none⟩), .int .i64 x0_0, .bool (!decide (x0_0 = (8 : Int))), .bool (!decide (x0_0 = (8 : Int))), .slice y15v.1 s13v.length y15v.2, .int .i64 s19v.1, .pointer (some ⟨b69v, b69vo + s19v.1.toNat * 5, none⟩), .pointer (some ⟨b69v, b69vo + s19v.1.toNat * 5 + 3, none⟩), .int .i64 ((s13v.getD s19v.1.toNat dz109).2.2.2.1), .pointer (some ⟨b1v, 4, none⟩), .int .i64 x0_4, .bool (decide ((s13v.getD s19v.1.toNat dz109).2.2.2.1 = x0_4)), .bool (decide ((s13v.getD s19v.1.toNat dz109).2.2.2.1 = x0_4)), .bool (decide ((s13v.getD s19v.1.toNat dz109).2.2.2.1 = x0_4)), cv ((decide ((s13v.getD s19v.1.toNat dz109).2.2.2.1 = x0_4)) == false) (.pointer (some ⟨b16v, 0, none⟩)), cv ((decide ((s13v.getD s19v.1.toNat dz109).2.2.2.1 = x0_4)) == false) (str s19v.2.1), cv ((decide ((s13v.getD s19v.1.toNat dz109).2.2.2.1 = x0_4)) == false) (.bool (decide (s19v.2.1 = ([] : List UInt8)))), .bool ((decide ((s13v.getD s19v.1.toNat dz109).2.2.2.1 = x0_4)) || (decide (s19v.2.1 = ([] : List UInt8)))), .bool ((decide ((s13v.getD s19v.1.toNat dz109).2.2.2.1 = x0_4)) || (decide (s19v.2.1 = ([] : List UInt8))))].getD i undef) (fun j γ => [[obj b16v 109 [str s19v.2.1, .int .i64 s19v.2.2.1, str s19v.2.2.2.1, .int .i64 s19v.2.2.2.2.1, .int .i64 s19v.2.2.2.2.2], obj b1v 37 [.int .i64 x0_0, .int .i64 x0_1, .int .i64 x0_2, .int .i64 x0_3, .int .i64 x0_4, .int .i64 x0_5, str x0_6, str x0_7, str x0_8], Row 109 5 y15v.1 s13v.length y15v.2 rs31v.flatten, F]].getD j []) (fun γ => [(1, .pointer (some ⟨b1v, 0, none⟩)), (4, .slice y15v.1 s13v.length y15v.2), (5, .pointer (some ⟨b16v, 0, none⟩)), (6, .int .i64 s19v.1), (48, .pointer (some ⟨b1v, 0, none⟩)), (49, .int .i64 x0_0), (50, .bool (!decide (x0_0 = (13 : Int)))), (51, .bool (!decide (x0_0 = (13 : Int)))), (52, .slice y15v.1 s13v.length y15v.2), (53, .int .i64 s19v.1), (54, .pointer (some ⟨b58v, b58vo + s19v.1.toNat * 5, none⟩)), (55, .pointer (some ⟨b58v, b58vo + s19v.1.toNat * 5 + 4, none⟩)), (56, .int .i64 ((s13v.getD s19v.1.toNat dz109).2.2.2.2)), (57, .pointer (some ⟨b1v, 5, none⟩)), (58, .int .i64 x0_5), (59, .bool (decide ((s13v.getD s19v.1.toNat dz109).2.2.2.2 = x0_5))), (60, .bool (decide ((s13v.getD s19v.1.toNat dz109).2.2.2.2 = x0_5))), (63, .pointer (some ⟨b1v, 0, none⟩)), (64, .int .i64 x0_0), (65, .bool (!decide (x0_0 = (8 : Int)))), (66, .bool (!decide (x0_0 = (8 : Int)))), (67, .slice y15v.1 s13v.length y15v.2), (68, .int .i64 s19v.1), (69, .pointer (some ⟨b69v, b69vo + s19v.1.toNat * 5, none⟩)), (70, .pointer (some ⟨b69v, b69vo + s19v.1.toNat * 5 + 3, none⟩)), (71, .int .i64 ((s13v.getD s19v.1.toNat dz109).2.2.2.1)), (72, .pointer (some ⟨b1v, 4, none⟩)), (73, .int .i64 x0_4), (74, .bool (decide ((s13v.getD s19v.1.toNat dz109).2.2.2.1 = x0_4))), (75, .bool (decide ((s13v.getD s19v.1.toNat dz109).2.2.2.1 = x0_4))), (76, .bool (decide ((s13v.getD s19v.1.toNat dz109).2.2.2.1 = x0_4))), (77, cv ((decide ((s13v.getD s19v.1.toNat dz109).2.2.2.1 = x0_4)) == false) (.pointer (some ⟨b16v, 0, none⟩))), (78, cv ((decide ((s13v.getD s19v.1.toNat dz109).2.2.2.1 = x0_4)) == false) (str s19v.2.1)), (79, cv ((decide ((s13v.getD s19v.1.toNat dz109).2.2.2.1 = x0_4)) == false) (.bool (decide (s19v.2.1 = ([] : List UInt8))))), (80, .bool ((decide ((s13v.getD s19v.1.toNat dz109).2.2.2.1 = x0_4)) || (decide (s19v.2.1 = ([] : List UInt8))))), (81, .bool ((decide ((s13v.getD s19v.1.toNat dz109).2.2.2.1 = x0_4)) || (decide (s19v.2.1 = ([] : List UInt8)))))]) mixed (by decide) (by decide) (by decide) (by decide) (by decide) (by decide) (by decide) 166 rfl (by decide) (by decide) (by decide) (Ent.refl _) ?_ ?_ (fun _ => ⟨rfl, rfl, rfl, rfl, rfl, rfl, rfl, rfl, rfl, rfl, rfl, rfl, rfl, rfl, rfl, rfl, rfl, rfl, rfl, rfl, rfl, rfl, rfl, rfl, rfl, rfl, rfl, rfl, rfl, rfl, rfl, rfl, rfl, rfl, rfl, rfl, trivial⟩) ?_
 exact (aq rfl (fun γ => qm rfl (.o (s := 4) rfl (by decide) .nil) rfl) (aq rfl (fun γ => qm rfl (.o (s := 6) rfl (by decide) .nil) rfl) (aq rfl (fun γ => qp rfl rfl (.v 0 rfl rfl (.v 1 rfl rfl .nil)) (q_idx rfl rfl rfl ha35v Tryd.underlying106 Tryd.sizeOf109 hi33v.1 hi33v.2) rfl) (aq rfl (fun γ => qp rfl rfl (.v 2 rfl rfl .nil) (q_fa rfl rfl Tryd.underlying109 rfl rfl Tryd.sizeOf3 rfl) rfl) (aq rfl (fun γ => qp rfl rfl (.v 3 rfl rfl .nil) (q_load rfl rfl Tryd.isAgg3 (hcell40v 2 rfl 1 _ rfl)) rfl) (aq rfl (fun γ => qp rfl rfl (.o (s := 1) rfl (by decide) .nil) (q_fa rfl rfl Tryd.underlying37 rfl rfl Tryd.sizeOf3 rfl) rfl) (aq rfl (fun γ => qp rfl rfl (.v 5 rfl rfl .nil) (q_load rfl rfl Tryd.isAgg3 (.obj 1 rfl rfl)) rfl) (aq rfl (fun γ => qp rfl rfl (.v 4 rfl rfl (.v 6 rfl rfl .nil)) (q_eql rfl rfl rfl) rfl) (aq rfl (fun γ => qm rfl (.v 7 rfl rfl .nil) rfl) (aq rfl (fun γ => qy rfl rfl (.o (s := 1) rfl (by decide) (.v 8 rfl rfl .nil)) rfl rfl (beq_yes (decide_eq_true hk41v)) (q_fa rfl rfl Tryd.underlying37 rfl rfl Tryd.sizeOf3 rfl) rfl) (aq rfl (fun γ => qy rfl rfl (.v 8 rfl rfl (.v 9 rfl rfl .nil)) rfl rfl (beq_yes (decide_eq_true hk41v)) (q_load rfl rfl Tryd.isAgg3 (.obj 1 rfl rfl)) rfl) (aq rfl (fun γ => qy rfl rfl (.v 8 rfl rfl (.v 10 rfl rfl .nil)) rfl rfl (beq_yes (decide_eq_true hk41v)) (q_neq rfl rfl rfl) rfl) (aq rfl (fun γ => qy rfl rfl (.v 8 rfl rfl (.v 11 rfl rfl .nil)) rfl rfl (beq_yes (decide_eq_true hk41v)) (q_move rfl rfl) rfl) (aq rfl (fun γ => qy rfl rfl (.o (s := 4) rfl (by decide) (.v 12 rfl rfl .nil)) rfl rfl (beq_no (ndec_no hk42v)) (q_move rfl rfl) rfl) (aq rfl (fun γ => qy rfl rfl (.o (s := 6) rfl (by decide) (.v 12 rfl rfl .nil)) rfl rfl (beq_no (ndec_no hk42v)) (q_move rfl rfl) rfl) (aq rfl (fun γ => qy rfl rfl (.v 12 rfl rfl (.v 13 rfl rfl (.v 14 rfl rfl .nil))) rfl rfl (beq_no (ndec_no hk42v)) (q_idx rfl rfl rfl ha59v Tryd.underlying106 Tryd.sizeOf109 hi57v.1 hi57v.2) rfl) (aq rfl (fun γ => qy rfl rfl (.v 12 rfl rfl (.v 15 rfl rfl .nil)) rfl rfl (beq_no (ndec_no hk42v)) (q_fa rfl rfl Tryd.underlying109 rfl rfl Tryd.sizeOf3 rfl) rfl) (aq rfl (fun γ => qy rfl rfl (.v 12 rfl rfl (.v 16 rfl rfl .nil)) rfl rfl (beq_no (ndec_no hk42v)) (q_load rfl rfl Tryd.isAgg3 (hcell64v 2 rfl 4 _ rfl)) rfl) (aq rfl (fun γ => qy rfl rfl (.o (s := 1) rfl (by decide) (.v 12 rfl rfl .nil)) rfl rfl (beq_no (ndec_no hk42v)) (q_fa rfl rfl Tryd.underlying37 rfl rfl Tryd.sizeOf3 rfl) rfl) (aq rfl (fun γ => qy rfl rfl (.v 12 rfl rfl (.v 18 rfl rfl .nil)) rfl rfl (beq_no (ndec_no hk42v)) (q_load rfl rfl Tryd.isAgg3 (.obj 1 rfl rfl)) rfl) (aq rfl (fun γ => qy rfl rfl (.v 12 rfl rfl (.v 17 rfl rfl (.v 19 rfl rfl .nil))) rfl rfl (beq_no (ndec_no hk42v)) (q_eql rfl rfl rfl) rfl) (aq rfl (fun γ => qy rfl rfl (.v 8 rfl rfl (.v 12 rfl rfl (.v 20 rfl rfl .nil))) rfl rfl (beq_yes (decide_eq_true hk41v)) (q_pick rfl rfl rfl rfl (bif_no (ndec_no hk42v) _ _)) rfl) (aq rfl (fun γ => qp rfl rfl (.v 8 rfl rfl (.v 21 rfl rfl .nil)) (q_pick rfl rfl rfl rfl (bif_yes (decide_eq_true hk41v) _ _)) rfl) (aq rfl (fun γ => qm rfl (.v 22 rfl rfl .nil) rfl) (aq rfl (fun γ => qy rfl rfl (.o (s := 1) rfl (by decide) (.v 23 rfl rfl .nil)) rfl rfl (beq_yes (decide_eq_true hk65v)) (q_fa rfl rfl Tryd.underlying37 rfl rfl Tryd.sizeOf3 rfl) rfl) (aq rfl (fun γ => qy rfl rfl (.v 23 rfl rfl (.v 24 rfl rfl .nil)) rfl rfl (beq_yes (decide_eq_true hk65v)) (q_load rfl rfl Tryd.isAgg3 (.obj 1 rfl rfl)) rfl) (aq rfl (fun γ => qy rfl rfl (.v 23 rfl rfl (.v 25 rfl rfl .nil)) rfl rfl (beq_yes (decide_eq_true hk65v)) (q_neq rfl rfl rfl) rfl) (aq rfl (fun γ => qy rfl rfl (.v 23 rfl rfl (.v 26 rfl rfl .nil)) rfl rfl (beq_yes (decide_eq_true hk65v)) (q_move rfl rfl) rfl) (aq rfl (fun γ => qy rfl rfl (.o (s := 4) rfl (by decide) (.v 27 rfl rfl .nil)) rfl rfl (beq_no (ndec_no hk66v)) (q_move rfl rfl) rfl) (aq rfl (fun γ => qy rfl rfl (.o (s := 6) rfl (by decide) (.v 27 rfl rfl .nil)) rfl rfl (beq_no (ndec_no hk66v)) (q_move rfl rfl) rfl) (aq rfl (fun γ => qy rfl rfl (.v 27 rfl rfl (.v 28 rfl rfl (.v 29 rfl rfl .nil))) rfl rfl (beq_no (ndec_no hk66v)) (q_idx rfl rfl rfl ha70v Tryd.underlying106 Tryd.sizeOf109 hi68v.1 hi68v.2) rfl) (aq rfl (fun γ => qy rfl rfl (.v 27 rfl rfl (.v 30 rfl rfl .nil)) rfl rfl (beq_no (ndec_no hk66v)) (q_fa rfl rfl Tryd.underlying109 rfl rfl Tryd.sizeOf3 rfl) rfl) (aq rfl (fun γ => qy rfl rfl (.v 27 rfl rfl (.v 31 rfl rfl .nil)) rfl rfl (beq_no (ndec_no hk66v)) (q_load rfl rfl Tryd.isAgg3 (hcell75v 2 rfl 3 _ rfl)) rfl) (aq rfl (fun γ => qy rfl rfl (.o (s := 1) rfl (by decide) (.v 27 rfl rfl .nil)) rfl rfl (beq_no (ndec_no hk66v)) (q_fa rfl rfl Tryd.underlying37 rfl rfl Tryd.sizeOf3 rfl) rfl) (aq rfl (fun γ => qy rfl rfl (.v 27 rfl rfl (.v 33 rfl rfl .nil)) rfl rfl (beq_no (ndec_no hk66v)) (q_load rfl rfl Tryd.isAgg3 (.obj 1 rfl rfl)) rfl) (aq rfl (fun γ => qy rfl rfl (.v 27 rfl rfl (.v 32 rfl rfl (.v 34 rfl rfl .nil))) rfl rfl (beq_no (ndec_no hk66v)) (q_eql rfl rfl rfl) rfl) (aq rfl (fun γ => qy rfl rfl (.v 23 rfl rfl (.v 27 rfl rfl (.v 35 rfl rfl .nil))) rfl rfl (beq_yes (decide_eq_true hk65v)) (q_pick rfl rfl rfl rfl (bif_no (ndec_no hk66v) _ _)) rfl) (aq rfl (fun γ => qy rfl rfl (.v 23 rfl rfl (.v 36 rfl rfl .nil)) rfl rfl (beq_yes (decide_eq_true hk65v)) (q_move rfl rfl) rfl) (aq rfl (fun γ => QOb.grd (b := decide ((s13v.getD s19v.1.toNat dz109).2.2.2.1 = x0_4)) [(5, .pointer (some ⟨b16v, 0, none⟩)), (76, .bool (decide ((s13v.getD s19v.1.toNat dz109).2.2.2.1 = x0_4)))] rfl rfl rfl rfl (.o (s := 5) rfl (by decide) (.v 37 rfl rfl .nil)) (fun hb76v => RQ.sub (E' := [(5, .pointer (some ⟨b16v, 0, none⟩))]) ⟨rfl, trivial⟩ (q_fa rfl rfl Tryd.underlying109 rfl rfl Tryd.sizeOf9 rfl)) rfl) (aq rfl (fun γ => QOb.grd (b := decide ((s13v.getD s19v.1.toNat dz109).2.2.2.1 = x0_4)) [(76, .bool (decide ((s13v.getD s19v.1.toNat dz109).2.2.2.1 = x0_4))), (77, cv ((decide ((s13v.getD s19v.1.toNat dz109).2.2.2.1 = x0_4)) == false) (.pointer (some ⟨b16v, 0, none⟩)))] rfl rfl rfl rfl (.v 37 rfl rfl (.v 38 rfl rfl .nil)) (fun hb77v => RQ.sub (E' := [(77, .pointer (some ⟨b16v, 0, none⟩))]) ⟨lk_cv rfl hb77v, trivial⟩ (q_load rfl rfl Tryd.isAgg9 (.obj 0 rfl rfl))) rfl) (aq rfl (fun γ => QOb.grd (b := decide ((s13v.getD s19v.1.toNat dz109).2.2.2.1 = x0_4)) [(76, .bool (decide ((s13v.getD s19v.1.toNat dz109).2.2.2.1 = x0_4))), (78, cv ((decide ((s13v.getD s19v.1.toNat dz109).2.2.2.1 = x0_4)) == false) (str s19v.2.1))] rfl rfl rfl rfl (.v 37 rfl rfl (.v 39 rfl rfl .nil)) (fun hb78v => RQ.sub (E' := [(78, str s19v.2.1)]) ⟨lk_cv rfl hb78v, trivial⟩ (q_eqs rfl rfl rfl)) rfl) (aq rfl (fun γ => qy rfl rfl (.v 23 rfl rfl (.v 37 rfl rfl (.v 40 rfl rfl .nil))) rfl rfl (beq_yes (decide_eq_true hk65v)) (q_or rfl rfl rfl) rfl) (aq rfl (fun γ => qp rfl rfl (.v 23 rfl rfl (.v 41 rfl rfl .nil)) (q_pick rfl rfl rfl rfl (bif_yes (decide_eq_true hk65v) _ _)) rfl) zA)))))))))))))))))))))))))))))))))))))))))))
 exact zA
 intro g79v
 exact nrm_cut (s := (decide ((s13v.getD s19v.1.toNat dz109).2.2.2.1 = x0_4)) || (decide (s19v.2.1 = ([] : List UInt8)))) () ⟨rfl, rfl, rfl, rfl, rfl, trivial⟩ (.sel 0 rfl (.sel 0 rfl (.sel' 0 rfl (RowV.mk hl32v) (.sel 0 rfl (.nil _)))))
 refine sim_draw (Γ := Unit) () [[], [], [0, 1], [0, 1, 2], rL 4, [], [5], rL 7, rL 8, rL 9, rL 10, rL 11, rL 12, rL 13, rL 13, rL 15, rL 16, rL 17, rL 13, [0, 1, 2, 3, 4, 5, 6, 7, 8, 9, 10, 11, 12, 18], rL 20, rL 21, rL 22, rL 23, rL 24, rL 25, rL 26, rL 27, rL 28, rL 28, rL 30, rL 31, rL 32, rL 28, [0, 1, 2, 3, 4, 5, 6, 7, 8, 9, 10, 11, 12, 13, 14, 15, 16, 17, 18, 19, 20, 21, 22, 23, 24, 25, 26, 27, 33], rL 35, rL 36, rL 37, rL 38, rL 39, rL 40, rL 41, rL 42] [] [0, 1, 2, 3, 4, 5, 6, 7, 8, 9, 10, 11, 12, 13, 14, 15, 16, 17, 18, 19, 20, 21, 22, 23, 24, 25, 26, 27, 28, 29, 30, 31, 32, 33, 34, 35, 36, 37, 38, 39, 40, 41, 42] (fun i => [[0], [0], [0], [0], [0], [0], [0], [0], [0], [0], [0], [0], [0], [0], [0], [0], [0], [0], [0], [0], [0], [0], [0], [0], [0], [0], [0], [0], [0], [0], [0], [0], [0], [0], [0], [0], [0], [0], [0], [0], [0], [0], [0]].getD i []) (fun i => [[], [], [], [], [], [], [], [], [], [], [], [], [], [], [], [], [], [], [], [], [], [], [], [], [], [], [], [], [], [], [], [], [], [], [], [], [], [], [], [], [], [], []].getD i []) (fun γ i => [.slice y15v.1 s13v.length y15v.2, .int .i64 s19v.1, .pointer (some ⟨b34v, b34vo + s19v.1.toNat * 5, none⟩), .pointer (some ⟨b34v, b34vo + s19v.1.toNat * 5 + 1, none⟩), .int .i64 ((s13v.getD s19v.1.toNat dz109).2.1), .pointer (some ⟨b1v, 0, none⟩), .int .i64 x0_0, .bool (decide ((s13v.getD s19v.1.toNat dz109).2.1 = x0_0)), .bool (decide ((s13v.getD s19v.1.toNat dz109).2.1 = x0_0)), .pointer (some ⟨b1v, 0, none⟩), .int .i64 x0_0, .bool (!decide (x0_0 = (13 : Int))), .bool (!decide (x0_0 = (13 : Int))), .slice y15v.1 s13v.length y15v.2, .int .i64 s19v.1, .pointer (some ⟨b58v, b58vo + s19v.1.toNat * 5, none⟩), .pointer (some ⟨b58v, b58vo + s19v.1.toNat * 5 + 4, none⟩), .int .i64 ((s13v.getD s19v.1.toNat dz109).2.2.2.2), .pointer (some ⟨b1v, 5, none⟩), .int .i64 x0_5, .bool (decide ((s13v.getD s19v.1.toNat dz109).2.2.2.2 = x0_5)), .bool (decide ((s13v.getD s19v.1.toNat dz109).2.2.2.2 = x0_5)), .bool (decide ((s13v.getD s19v.1.toNat dz109).2.2.2.2 = x0_5)), .bool (decide ((s13v.getD s19v.1.toNat dz109).2.2.2.2 = x0_5)), .pointer (some ⟨b1v, 0, none⟩), .int .i64 x0_0, .bool (!decide (x0_0 = (8 : Int))), .bool (!decide (x0_0 = (8 : Int))), undef, undef, undef, undef, undef, undef, undef, undef, .bool true, .bool true, undef, undef, undef, .bool true, .bool true].getD i undef) (fun j γ => [[obj b16v 109 [str s19v.2.1, .int .i64 s19v.2.2.1, str s19v.2.2.2.1, .int .i64 s19v.2.2.2.2.1, .int .i64 s19v.2.2.2.2.2], obj b1v 37 [.int .i64 x0_0, .int .i64 x0_1, .int .i64 x0_2, .int .i64 x0_3, .int .i64 x0_4, .int .i64 x0_5, str x0_6, str x0_7, str x0_8], Row 109 5 y15v.1 s13v.length y15v.2 rs31v.flatten, F]].getD j []) (fun γ => [(1, .pointer (some ⟨b1v, 0, none⟩)), (4, .slice y15v.1 s13v.length y15v.2), (5, .pointer (some ⟨b16v, 0, none⟩)), (6, .int .i64 s19v.1), (48, .pointer (some ⟨b1v, 0, none⟩)), (49, .int .i64 x0_0), (50, .bool (!decide (x0_0 = (13 : Int)))), (51, .bool (!decide (x0_0 = (13 : Int)))), (52, .slice y15v.1 s13v.length y15v.2), (53, .int .i64 s19v.1), (54, .pointer (some ⟨b58v, b58vo + s19v.1.toNat * 5, none⟩)), (55, .pointer (some ⟨b58v, b58vo + s19v.1.toNat * 5 + 4, none⟩)), (56, .int .i64 ((s13v.getD s19v.1.toNat dz109).2.2.2.2)), (57, .pointer (some ⟨b1v, 5, none⟩)), (58, .int .i64 x0_5), (59, .bool (decide ((s13v.getD s19v.1.toNat dz109).2.2.2.2 = x0_5))), (60, .bool (decide ((s13v.getD s19v.1.toNat dz109).2.2.2.2 = x0_5))), (63, .pointer (some ⟨b1v, 0, none⟩)), (64, .int .i64 x0_0), (65, .bool (!decide (x0_0 = (8 : Int)))), (66, .bool (!decide (x0_0 = (8 : Int)))), (67, undef), (68, undef), (69, undef), (70, undef), (71, undef), (72, undef), (73, undef), (74, undef), (75, .bool true), (76, .bool true), (77, undef), (78, undef), (79, undef), (80, .bool true), (81, .bool true)]) mixed (by decide) (by decide) (by decide) (by decide) (by decide) (by decide) (by decide) 166 rfl (by decide) (by decide) (by decide) (Ent.refl _) ?_ ?_ (fun _ => ⟨rfl, rfl, rfl, rfl, rfl, rfl, rfl, rfl, rfl, rfl, rfl, rfl, rfl, rfl, rfl, rfl, rfl, rfl, rfl, rfl, rfl, rfl, rfl, rfl, rfl, rfl, rfl, rfl, rfl, rfl, rfl, rfl, rfl, rfl, rfl, rfl, trivial⟩) ?_
 exact (aq rfl (fun γ => qm rfl (.o (s := 4) rfl (by decide) .nil) rfl) (aq rfl (fun γ => qm rfl (.o (s := 6) rfl (by decide) .nil) rfl) (aq rfl (fun γ => qp rfl rfl (.v 0 rfl rfl (.v 1 rfl rfl .nil)) (q_idx rfl rfl rfl ha35v Tryd.underlying106 Tryd.sizeOf109 hi33v.1 hi33v.2) rfl) (aq rfl (fun γ => qp rfl rfl (.v 2 rfl rfl .nil) (q_fa rfl rfl Tryd.underlying109 rfl rfl Tryd.sizeOf3 rfl) rfl) (aq rfl (fun γ => qp rfl rfl (.v 3 rfl rfl .nil) (q_load rfl rfl Tryd.isAgg3 (hcell40v 2 rfl 1 _ rfl)) rfl) (aq rfl (fun γ => qp rfl rfl (.o (s := 1) rfl (by decide) .nil) (q_fa rfl rfl Tryd.underlying37 rfl rfl Tryd.sizeOf3 rfl) rfl) (aq rfl (fun γ => qp rfl rfl (.v 5 rfl rfl .nil) (q_load rfl rfl Tryd.isAgg3 (.obj 1 rfl rfl)) rfl) (aq rfl (fun γ => qp rfl rfl (.v 4 rfl rfl (.v 6 rfl rfl .nil)) (q_eql rfl rfl rfl) rfl) (aq rfl (fun γ => qm rfl (.v 7 rfl rfl .nil) rfl) (aq rfl (fun γ => qy rfl rfl (.o (s := 1) rfl (by decide) (.v 8 rfl rfl .nil)) rfl rfl (beq_yes (decide_eq_true hk41v)) (q_fa rfl rfl Tryd.underlying37 rfl rfl Tryd.sizeOf3 rfl) rfl) (aq rfl (fun γ => qy rfl rfl (.v 8 rfl rfl (.v 9 rfl rfl .nil)) rfl rfl (beq_yes (decide_eq_true hk41v)) (q_load rfl rfl Tryd.isAgg3 (.obj 1 rfl rfl)) rfl) (aq rfl (fun γ => qy rfl rfl (.v 8 rfl rfl (.v 10 rfl rfl .nil)) rfl rfl (beq_yes (decide_eq_true hk41v)) (q_neq rfl rfl rfl) rfl) (aq rfl (fun γ => qy rfl rfl (.v 8 rfl rfl (.v 11 rfl rfl .nil)) rfl rfl (beq_yes (decide_eq_true hk41v)) (q_move rfl rfl) rfl) (aq rfl (fun γ => qy rfl rfl (.o (s := 4) rfl (by decide) (.v 12 rfl rfl .nil)) rfl rfl (beq_no (ndec_no hk42v)) (q_move rfl rfl) rfl) (aq rfl (fun γ => qy rfl rfl (.o (s := 6) rfl (by decide) (.v 12 rfl rfl .nil)) rfl rfl (beq_no (ndec_no hk42v)) (q_move rfl rfl) rfl) (aq rfl (fun γ => qy rfl rfl (.v 12 rfl rfl (.v 13 rfl rfl (.v 14 rfl rfl .nil))) rfl rfl (beq_no (ndec_no hk42v)) (q_idx rfl rfl rfl ha59v Tryd.underlying106 Tryd.sizeOf109 hi57v.1 hi57v.2) rfl) (aq rfl (fun γ => qy rfl rfl (.v 12 rfl rfl (.v 15 rfl rfl .nil)) rfl rfl (beq_no (ndec_no hk42v)) (q_fa rfl rfl Tryd.underlying109 rfl rfl Tryd.sizeOf3 rfl) rfl) (aq rfl (fun γ => qy rfl rfl (.v 12 rfl rfl (.v 16 rfl rfl .nil)) rfl rfl (beq_no (ndec_no hk42v)) (q_load rfl rfl Tryd.isAgg3 (hcell64v 2 rfl 4 _ rfl)) rfl) (aq rfl (fun γ => qy rfl rfl (.o (s := 1) rfl (by decide) (.v 12 rfl rfl .nil)) rfl rfl (beq_no (ndec_no hk42v)) (q_fa rfl rfl Tryd.underlying37 rfl rfl Tryd.sizeOf3 rfl) rfl) (aq rfl (fun γ => qy rfl rfl (.v 12 rfl rfl (.v 18 rfl rfl .nil)) rfl rfl (beq_no (ndec_no hk42v)) (q_load rfl rfl Tryd.isAgg3 (.obj 1 rfl rfl)) rfl) (aq rfl (fun γ => qy rfl rfl (.v 12 rfl rfl (.v 17 rfl rfl (.v 19 rfl rfl .nil))) rfl rfl (beq_no (ndec_no hk42v)) (q_eql rfl rfl rfl) rfl) (aq rfl (fun γ => qy rfl rfl (.v 8 rfl rfl (.v 12 rfl rfl (.v 20 rfl rfl .nil))) rfl rfl (beq_yes (decide_eq_true hk41v)) (q_pick rfl rfl rfl rfl (bif_no (ndec_no hk42v) _ _)) rfl) (aq rfl (fun γ => qp rfl rfl (.v 8 rfl rfl (.v 21 rfl rfl .nil)) (q_pick rfl rfl rfl rfl (bif_yes (decide_eq_true hk41v) _ _)) rfl) (aq rfl (fun γ => qm rfl (.v 22 rfl rfl .nil) rfl) (aq rfl (fun γ => qy rfl rfl (.o (s := 1) rfl (by decide) (.v 23 rfl rfl .nil)) rfl rfl (beq_yes (decide_eq_true hk65v)) (q_fa rfl rfl Tryd.underlying37 rfl rfl Tryd.sizeOf3 rfl) rfl) (aq rfl (fun γ => qy rfl rfl (.v 23 rfl rfl (.v 24 rfl rfl .nil)) rfl rfl (beq_yes (decide_eq_true hk65v)) (q_load rfl rfl Tryd.isAgg3 (.obj 1 rfl rfl)) rfl) (aq rfl (fun γ => qy rfl rfl (.v 23 rfl rfl (.v 25 rfl rfl .nil)) rfl rfl (beq_yes (decide_eq_true hk65v)) (q_neq rfl rfl rfl) rfl) (aq rfl (fun γ => qy rfl rfl (.v 23 rfl rfl (.v 26 rfl rfl .nil)) rfl rfl (beq_yes (decide_eq_true hk65v)) (q_move rfl rfl) rfl) (aq rfl (fun γ => qn rfl rfl (.o (s := 4) rfl (by decide) (.v 27 rfl rfl .nil)) rfl rfl (beq_yes' (ndec_yes hk66v)) rfl) (aq rfl (fun γ => qn rfl rfl (.o (s := 6) rfl (by decide) (.v 27 rfl rfl .nil)) rfl rfl (beq_yes' (ndec_yes hk66v)) rfl) (aq rfl (fun γ => qn rfl rfl (.v 27 rfl rfl (.v 28 rfl rfl (.v 29 rfl rfl .nil))) rfl rfl (beq_yes' (ndec_yes hk66v)) rfl) (aq rfl (fun γ => qn rfl rfl (.v 27 rfl rfl (.v 30 rfl rfl .nil)) rfl rfl (beq_yes' (ndec_yes hk66v)) rfl) (aq rfl (fun γ => qn rfl rfl (.v 27 rfl rfl (.v 31 rfl rfl .nil)) rfl rfl (beq_yes' (ndec_yes hk66v)) rfl) (aq rfl (fun γ => qn rfl rfl (.o (s := 1) rfl (by decide) (.v 27 rfl rfl .nil)) rfl rfl (beq_yes' (ndec_yes hk66v)) rfl) (aq rfl (fun γ => qn rfl rfl (.v 27 rfl rfl (.v 33 rfl rfl .nil)) rfl rfl (beq_yes' (ndec_yes hk66v)) rfl) (aq rfl (fun γ => qn rfl rfl (.v 27 rfl rfl (.v 32 rfl rfl (.v 34 rfl rfl .nil))) rfl rfl (beq_yes' (ndec_yes hk66v)) rfl) (aq rfl (fun γ => qy rfl rfl (.v 23 rfl rfl (.v 27 rfl rfl (.v 35 rfl rfl .nil))) rfl rfl (beq_yes (decide_eq_true hk65v)) (q_pick rfl rfl rfl rfl (bif_yes (ndec_yes hk66v) _ _)) rfl) (aq rfl (fun γ => qy rfl rfl (.v 23 rfl rfl (.v 36 rfl rfl .nil)) rfl rfl (beq_yes (decide_eq_true hk65v)) (q_move rfl rfl) rfl) (aq rfl (fun γ => qn rfl rfl (.o (s := 5) rfl (by decide) (.v 37 rfl rfl .nil)) rfl rfl rfl rfl) (aq rfl (fun γ => qn rfl rfl (.v 37 rfl rfl (.v 38 rfl rfl .nil)) rfl rfl rfl rfl) (aq rfl (fun γ => qn rfl rfl (.v 37 rfl rfl (.v 39 rfl rfl .nil)) rfl rfl rfl rfl) (aq rfl (fun γ => qy rfl rfl (.v 23 rfl rfl (.v 37 rfl rfl (.v 40 rfl rfl .nil))) rfl rfl (beq_yes (decide_eq_true hk65v)) (q_pick rfl rfl rfl rfl rfl) rfl) (aq rfl (fun γ => qp rfl rfl (.v 23 rfl rfl (.v 41 rfl rfl .nil)) (q_pick rfl rfl rfl rfl (bif_yes (decide_eq_true hk65v) _ _)) rfl) zA)))))))))))))))))))))))))))))))))))))))))))
 exact zA
 intro g67v
 exact nrm_cut (s := true) () ⟨rfl, rfl, rfl, rfl, rfl, trivial⟩ (.sel 0 rfl (.sel 0 rfl (.sel' 0 rfl (RowV.mk hl32v) (.sel 0 rfl (.nil _)))))
 refine sim_draw (Γ := Unit) () [[], [], [0, 1], [0, 1, 2], rL 4, [], [5], rL 7, rL 8, rL 9, rL 10, rL 11, rL 12, rL 13, rL 13, rL 15, rL 16, rL 17, rL 13, [0, 1, 2, 3, 4, 5, 6, 7, 8, 9, 10, 11, 12, 18], rL 20, rL 21, rL 22, rL 23, rL 24, rL 25, rL 26, rL 27, rL 28, rL 28, rL 30, rL 31, rL 32, rL 28, [0, 1, 2, 3, 4, 5, 6, 7, 8, 9, 10, 11, 12, 13, 14, 15, 16, 17, 18, 19, 20, 21, 22, 23, 24, 25, 26, 27, 33], rL 35, rL 36, rL 37, rL 38, rL 39, rL 40, rL 41, rL 42] [] [0, 1, 2, 3, 4, 5, 6, 7, 8, 9, 10, 11, 12, 13, 14, 15, 16, 17, 18, 19, 20, 21, 22, 23, 24, 25, 26, 27, 28, 29, 30, 31, 32, 33, 34, 35, 36, 37, 38, 39, 40, 41, 42] (fun i => [[0], [0], [0], [0], [0], [0], [0], [0], [0], [0], [0], [0], [0], [0], [0], [0], [0], [0], [0], [0], [0], [0], [0], [0], [0], [0], [0], [0], [0], [0], [0], [0], [0], [0], [0], [0], [0], [0], [0], [0], [0], [0], [0]].getD i []) (fun i => [[], [], [], [], [], [], [], [], [], [], [], [], [], [], [], [], [], [], [], [], [], [], [], [], [], [], [], [], [], [], [], [], [], [], [], [], [], [], [], [], [], [], []].getD i []) (fun γ i => [.slice y15v.1 s13v.length y15v.2, .int .i64 s19v.1, .pointer (some ⟨b34v, b34vo + s19v.1.toNat * 5, none⟩), .pointer (some ⟨b34v, b34vo + s19v.1.toNat * 5 + 1, none⟩), .int .i64 ((s13v.getD s19v.1.toNat dz109).2.1), .pointer (some ⟨b1v, 0, none⟩), .int .i64 x0_0, .bool (decide ((s13v.getD s19v.1.toNat dz109).2.1 = x0_0)), .bool (decide ((s13v.getD s19v.1.toNat dz109).2.1 = x0_0)), .pointer (some ⟨b1v, 0, none⟩), .int .i64 x0_0, .bool (!decide (x0_0 = (13 : Int))), .bool (!decide (x0_0 = (13 : Int))), .slice y15v.1 s13v.length y15v.2, .int .i64 s19v.1, .pointer (some ⟨b58v, b58vo + s19v.1.toNat * 5, none⟩), .pointer (some ⟨b58v, b58vo + s19v.1.toNat * 5 + 4, none⟩), .int .i64 ((s13v.getD s19v.1.toNat dz109).2.2.2.2), .pointer (some ⟨b1v, 5, none⟩), .int .i64 x0_5, .bool (decide ((s13v.getD s19v.1.toNat dz109).2.2.2.2 = x0_5)), .bool (decide ((s13v.getD s19v.1.toNat dz109).2.2.2.2 = x0_5)), .bool (decide ((s13v.getD s19v.1.toNat dz109).2.2.2.2 = x0_5)), .bool (decide ((s13v.getD s19v.1.toNat dz109).2.2.2.2 = x0_5)), undef, undef, undef, undef, undef, undef, undef, undef, undef, undef, undef, undef, undef, undef, undef, undef, undef, undef, .bool false].getD i undef) (fun j γ => [[obj b16v 109 [str s19v.2.1, .int .i64 s19v.2.2.1, str s19v.2.2.2.1, .int .i64 s19v.2.2.2.2.1, .int .i64 s19v.2.2.2.2.2], obj b1v 37 [.int .i64 x0_0, .int .i64 x0_1, .int .i64 x0_2, .int .i64 x0_3, .int .i64 x0_4, .int .i64 x0_5, str x0_6, str x0_7, str x0_8], Row 109 5 y15v.1 s13v.length y15v.2 rs31v.flatten, F]].getD j []) (fun γ => [(1, .pointer (some ⟨b1v, 0, none⟩)), (4, .slice y15v.1 s13v.length y15v.2), (5, .pointer (some ⟨b16v, 0, none⟩)), (6, .int .i64 s19v.1), (48, .pointer (some ⟨b1v, 0, none⟩)), (49, .int .i64 x0_0), (50, .bool (!decide (x0_0 = (13 : Int)))), (51, .bool (!decide (x0_0 = (13 : Int)))), (52, .slice y15v.1 s13v.length y15v.2), (53, .int .i64 s19v.1), (54, .pointer (some ⟨b58v, b58vo + s19v.1.toNat * 5, none⟩)), (55, .pointer (some ⟨b58v, b58vo + s19v.1.toNat * 5 + 4, none⟩)), (56, .int .i64 ((s13v.getD s19v.1.toNat dz109).2.2.2.2)), (57, .pointer (some ⟨b1v, 5, none⟩)), (58, .int .i64 x0_5), (59, .bool (decide ((s13v.getD s19v.1.toNat dz109).2.2.2.2 = x0_5))), (60, .bool (decide ((s13v.getD s19v.1.toNat dz109).2.2.2.2 = x0_5))), (63, undef), (64, undef), (65, undef), (66, undef), (67, undef), (68, undef), (69, undef), (70, undef), (71, undef), (72, undef), (73, undef), (74, undef), (75, undef), (76, undef), (77, undef), (78, undef), (79, undef), (80, undef), (81, .bool false)]) mixed (by decide) (by decide) (by decide) (by decide) (by decide) (by decide) (by decide) 166 rfl (by decide) (by decide) (by decide) (Ent.refl _) ?_ ?_ (fun _ => ⟨rfl, rfl, rfl, rfl, rfl, rfl, rfl, rfl, rfl, rfl, rfl, rfl, rfl, rfl, rfl, rfl, rfl, rfl, rfl, rfl, rfl, rfl, rfl, rfl, rfl, rfl, rfl, rfl, rfl, rfl, rfl, rfl, rfl, rfl, rfl, rfl, trivial⟩) ?_
 exact (aq rfl (fun γ => qm rfl (.o (s := 4) rfl (by decide) .nil) rfl) (aq rfl (fun γ => qm rfl (.o (s := 6) rfl (by decide) .nil) rfl) (aq rfl (fun γ => qp rfl rfl (.v 0 rfl rfl (.v 1 rfl rfl .nil)) (q_idx rfl rfl rfl ha35v Tryd.underlying106 Tryd.sizeOf109 hi33v.1 hi33v.2) rfl) (aq rfl (fun γ => qp rfl rfl (.v 2 rfl rfl .nil) (q_fa rfl rfl Tryd.underlying109 rfl rfl Tryd.sizeOf3 rfl) rfl) (aq rfl (fun γ => qp rfl rfl (.v 3 rfl rfl .nil) (q_load rfl rfl Tryd.isAgg3 (hcell40v 2 rfl 1 _ rfl)) rfl) (aq rfl (fun γ => qp rfl rfl (.o (s := 1) rfl (by decide) .nil) (q_fa rfl rfl Tryd.underlying37 rfl rfl Tryd.sizeOf3 rfl) rfl) (aq rfl (fun γ => qp rfl rfl (.v 5 rfl rfl .nil) (q_load rfl rfl Tryd.isAgg3 (.obj 1 rfl rfl)) rfl) (aq rfl (fun γ => qp rfl rfl (.v 4 rfl rfl (.v 6 rfl rfl .nil)) (q_eql rfl rfl rfl) rfl) (aq rfl (fun γ => qm rfl (.v 7 rfl rfl .nil) rfl) (aq rfl (fun γ => qy rfl rfl (.o (s := 1) rfl (by decide) (.v 8 rfl rfl .nil)) rfl rfl (beq_yes (decide_eq_true hk41v)) (q_fa rfl rfl Tryd.underlying37 rfl rfl Tryd.sizeOf3 rfl) rfl) (aq rfl (fun γ => qy rfl rfl (.v 8 rfl rfl (.v 9 rfl rfl .nil)) rfl rfl (beq_yes (decide_eq_true hk41v)) (q_load rfl rfl Tryd.isAgg3 (.obj 1 rfl rfl)) rfl) (aq rfl (fun γ => qy rfl rfl (.v 8 rfl rfl (.v 10 rfl rfl .nil)) rfl rfl (beq_yes (decide_eq_true hk41v)) (q_neq rfl rfl rfl) rfl) (aq rfl (fun γ => qy rfl rfl (.v 8 rfl rfl (.v 11 rfl rfl .nil)) rfl rfl (beq_yes (decide_eq_true hk41v)) (q_move rfl rfl) rfl) (aq rfl (fun γ => qy rfl rfl (.o (s := 4) rfl (by decide) (.v 12 rfl rfl .nil)) rfl rfl (beq_no (ndec_no hk42v)) (q_move rfl rfl) rfl) (aq rfl (fun γ => qy rfl rfl (.o (s := 6) rfl (by decide) (.v 12 rfl rfl .nil)) rfl rfl (beq_no (ndec_no hk42v)) (q_move rfl rfl) rfl) (aq rfl (fun γ => qy rfl rfl (.v 12 rfl rfl (.v 13 rfl rfl (.v 14 rfl rfl .nil))) rfl rfl (beq_no (ndec_no hk42v)) (q_idx rfl rfl rfl ha59v Tryd.underlying106 Tryd.sizeOf109 hi57v.1 hi57v.2) rfl) (aq rfl (fun γ => qy rfl rfl (.v 12 rfl rfl (.v 15 rfl rfl .nil)) rfl rfl (beq_no (ndec_no hk42v)) (q_fa rfl rfl Tryd.underlying109 rfl rfl Tryd.sizeOf3 rfl) rfl) (aq rfl (fun γ => qy rfl rfl (.v 12 rfl rfl (.v 16 rfl rfl .nil)) rfl rfl (beq_no (ndec_no hk42v)) (q_load rfl rfl Tryd.isAgg3 (hcell64v 2 rfl 4 _ rfl)) rfl) (aq rfl (fun γ => qy rfl rfl (.o (s := 1) rfl (by decide) (.v 12 rfl rfl .nil)) rfl rfl (beq_no (ndec_no hk42v)) (q_fa rfl rfl Tryd.underlying37 rfl rfl Tryd.sizeOf3 rfl) rfl) (aq rfl (fun γ => qy rfl rfl (.v 12 rfl rfl (.v 18 rfl rfl .nil)) rfl rfl (beq_no (ndec_no hk42v)) (q_load rfl rfl Tryd.isAgg3 (.obj 1 rfl rfl)) rfl) (aq rfl (fun γ => qy rfl rfl (.v 12 rfl rfl (.v 17 rfl rfl (.v 19 rfl rfl .nil))) rfl rfl (beq_no (ndec_no hk42v)) (q_eql rfl rfl rfl) rfl) (aq rfl (fun γ => qy rfl rfl (.v 8 rfl rfl (.v 12 rfl rfl (.v 20 rfl rfl .nil))) rfl rfl (beq_yes (decide_eq_true hk41v)) (q_pick rfl rfl rfl rfl (bif_no (ndec_no hk42v) _ _)) rfl) (aq rfl (fun γ => qp rfl rfl (.v 8 rfl rfl (.v 21 rfl rfl .nil)) (q_pick rfl rfl rfl rfl (bif_yes (decide_eq_true hk41v) _ _)) rfl) (aq rfl (fun γ => qm rfl (.v 22 rfl rfl .nil) rfl) (aq rfl (fun γ => qn rfl rfl (.o (s := 1) rfl (by decide) (.v 23 rfl rfl .nil)) rfl rfl (beq_no' (decide_eq_false hk65v)) rfl) (aq rfl (fun γ => qn rfl rfl (.v 23 rfl rfl (.v 24 rfl rfl .nil)) rfl rfl (beq_no' (decide_eq_false hk65v)) rfl) (aq rfl (fun γ => qn rfl rfl (.v 23 rfl rfl (.v 25 rfl rfl .nil)) rfl rfl (beq_no' (decide_eq_false hk65v)) rfl) (aq rfl (fun γ => qn rfl rfl (.v 23 rfl rfl (.v 26 rfl rfl .nil)) rfl rfl (beq_no' (decide_eq_false hk65v)) rfl) (aq rfl (fun γ => qu rfl rfl (.o (s := 4) rfl (by decide) (.v 27 rfl rfl .nil)) rfl rfl rfl) (aq rfl (fun γ => qu rfl rfl (.o (s := 6) rfl (by decide) (.v 27 rfl rfl .nil)) rfl rfl rfl) (aq rfl (fun γ => qu rfl rfl (.v 27 rfl rfl (.v 28 rfl rfl (.v 29 rfl rfl .nil))) rfl rfl rfl) (aq rfl (fun γ => qu rfl rfl (.v 27 rfl rfl (.v 30 rfl rfl .nil)) rfl rfl rfl) (aq rfl (fun γ => qu rfl rfl (.v 27 rfl rfl (.v 31 rfl rfl .nil)) rfl rfl rfl) (aq rfl (fun γ => qu rfl rfl (.o (s := 1) rfl (by decide) (.v 27 rfl rfl .nil)) rfl rfl rfl) (aq rfl (fun γ => qu rfl rfl (.v 27 rfl rfl (.v 33 rfl rfl .nil)) rfl rfl rfl) (aq rfl (fun γ => qu rfl rfl (.v 27 rfl rfl (.v 32 rfl rfl (.v 34 rfl rfl .nil))) rfl rfl rfl) (aq rfl (fun γ => qn rfl rfl (.v 23 rfl rfl (.v 27 rfl rfl (.v 35 rfl rfl .nil))) rfl rfl (beq_no' (decide_eq_false hk65v)) rfl) (aq rfl (fun γ => qn rfl rfl (.v 23 rfl rfl (.v 36 rfl rfl .nil)) rfl rfl (beq_no' (decide_eq_false hk65v)) rfl) (aq rfl (fun γ => qu rfl rfl (.o (s := 5) rfl (by decide) (.v 37 rfl rfl .nil)) rfl rfl rfl) (aq rfl (fun γ => qu rfl rfl (.v 37 rfl rfl (.v 38 rfl rfl .nil)) rfl rfl rfl) (aq rfl (fun γ => qu rfl rfl (.v 37 rfl rfl (.v 39 rfl rfl .nil)) rfl rfl rfl) (aq rfl (fun γ => qn rfl rfl (.v 23 rfl rfl (.v 37 rfl rfl (.v 40 rfl rfl .nil))) rfl rfl (beq_no' (decide_eq_false hk65v)) rfl) (aq rfl (fun γ => qp rfl rfl (.v 23 rfl rfl (.v 41 rfl rfl .nil)) (q_pick rfl rfl rfl rfl (bif_no (decide_eq_false hk65v) _ _)) rfl) zA)))))))))))))))))))))))))))))))))))))))))))
 exact zA
 intro g80v
 exact nrm_cut (s := false) () ⟨rfl, rfl, rfl, rfl, rfl, trivial⟩ (.sel 0 rfl (.sel 0 rfl (.sel' 0 rfl (RowV.mk hl32v) (.sel 0 rfl (.nil _)))))
 refine sim_if (fun hk43v => ?_) (fun hk43v => ?_)
 refine sim_ask (fun hi45v => ?_)
 refine sim_posV 2 rfl hl32v rfl (i := s19v.1.toNat) (by omega) dz109 (fun b46v b46vo r49v ha47v hV50v hlr51v hcell52v => ?_)
 obtain rfl := hV50v
 refine sim_draw (Γ := Unit) () [[], [], [0, 1], [0, 1, 2], rL 4, [], [5], rL 7, rL 8, rL 9, rL 10, rL 11, rL 12, rL 13, rL 13, rL 15, rL 16, rL 17, rL 13, [0, 1, 2, 3, 4, 5, 6, 7, 8, 9, 10, 11, 12, 18], rL 20, rL 21, rL 22, rL 23, rL 24, rL 25, rL 26, rL 27, rL 28, rL 28, rL 30, rL 31, rL 32, rL 28, [0, 1, 2, 3, 4, 5, 6, 7, 8, 9, 10, 11, 12, 13, 14, 15, 16, 17, 18, 19, 20, 21, 22, 23, 24, 25, 26, 27, 33], rL 35, rL 36, rL 37, rL 38, rL 39, rL 40, rL 41, rL 42] [] [0, 1, 2, 3, 4, 5, 6, 7, 8, 9, 10, 11, 12, 13, 14, 15, 16, 17, 18, 19, 20, 21, 22, 23, 24, 25, 26, 27, 28, 29, 30, 31, 32, 33, 34, 35, 36, 37, 38, 39, 40, 41, 42] (fun i => [[0], [0], [0], [0], [0], [0], [0], [0], [0], [0], [0], [0], [0], [0], [0], [0], [0], [0], [0], [0], [0], [0], [0], [0], [0], [0], [0], [0], [0], [0], [0], [0], [0], [0], [0], [0], [0], [0], [0], [0], [0], [0], [0]].getD i []) (fun i => [[], [], [], [], [], [], [], [], [], [], [], [], [], [], [], [], [], [], [], [], [], [], [], [], [], [], [], [], [], [], [], [], [], [], [], [], [], [], [], [], [], [], []].getD i []) (fun γ i => [.slice y15v.1 s13v.length y15v.2, .int .i64 s19v.1, .pointer (some ⟨b34v, b34vo + s19v.1.toNat * 5, none⟩), .pointer (some ⟨b34v, b34vo + s19v.1.toNat * 5 + 1, none⟩), .int .i64 ((s13v.getD s19v.1.toNat dz109).2.1), .pointer (some ⟨b1v, 0, none⟩), .int .i64 x0_0, .bool (decide ((s13v.getD s19v.1.toNat dz109).2.1 = x0_0)), .bool (decide ((s13v.getD s19v.1.toNat dz109).2.1 = x0_0)), .pointer (some ⟨b1v, 0, none⟩), .int .i64 x0_0, .bool (!decide (x0_0 = (13 : Int))), .bool (!decide (x0_0 = (13 : Int))), undef, undef, undef, undef, undef, undef, undef, undef, .bool true, .bool true, .bool true, .pointer (some ⟨b1v, 0, none⟩), .int .i64 x0_0, .bool (!decide (x0_0 = (8 : Int))), .bool (!decide (x0_0 = (8 : Int))), .slice y15v.1 s13v.length y15v.2, .int .i64 s19v.1, .pointer (some ⟨b46v, b46vo + s19v.1.toNat * 5, none⟩), .pointer (some ⟨b46v, b46vo + s19v.1.toNat * 5 + 3, none⟩), .int .i64 ((s13v.getD s19v.1.toNat dz109).2.2.2.1), .pointer (some ⟨b1v, 4, none⟩), .int .i64 x0_4, .bool (decide ((s13v.getD s19v.1.toNat dz109).2.2.2.1 = x0_4)), .bool (decide ((s13v.getD s19v.1.toNat dz109).2.2.2.1 = x0_4)), .bool (decide ((s13v.getD s19v.1.toNat dz109).2.2.2.1 = x0_4)), cv ((decide ((s13v.getD s19v.1.toNat dz109).2.2.2.1 = x0_4)) == false) (.pointer (some ⟨b16v, 0, none⟩)), cv ((decide ((s13v.getD s19v.1.toNat dz109).2.2.2.1 = x0_4)) == false) (str s19v.2.1), cv ((decide ((s13v.getD s19v.1.toNat dz109).2.2.2.1 = x0_4)) == false) (.bool (decide (s19v.2.1 = ([] : List UInt8)))), .bool ((decide ((s13v.getD s19v.1.toNat dz109).2.2.2.1 = x0_4)) || (decide (s19v.2.1 = ([] : List UInt8)))), .bool ((decide ((s13v.getD s19v.1.toNat dz109).2.2.2.1 = x0_4)) || (decide (s19v.2.1 = ([] : List UInt8))))].getD i undef) (fun j γ => [[obj b16v 109 [str s19v.2.1, .int .i64 s19v.2.2.1, str s19v.2.2.2.1, .int .i64 s19v.2.2.2.2.1, .int .i64 s19v.2.2.2.2.2], obj b1v 37 [.int .i64 x0_0, .int .i64 x0_1, .int .i64 x0_2, .int .i64 x0_3, .int .i64 x0_4, .int .i64 x0_5, str x0_6, str x0_7, str x0_8], Row 109 5 y15v.1 s13v.length y15v.2 rs31v.flatten, F]].getD j []) (fun γ => [(1, .pointer (some ⟨b1v, 0, none⟩)), (4, .slice y15v.1 s13v.length y15v.2), (5, .pointer (some ⟨b16v, 0, none⟩)), (6, .int .i64 s19v.1), (48, .pointer (some ⟨b1v, 0, none⟩)), (49, .int .i64 x0_0), (50, .bool (!decide (x0_0 = (13 : Int)))), (51, .bool (!decide (x0_0 = (13 : Int)))), (52, undef), (53, undef), (54, undef), (55, undef), (56, undef), (57, undef), (58, undef), (59, undef), (60, .bool true), (63, .pointer (some ⟨b1v, 0, none⟩)), (64, .int .i64 x0_0), (65, .bool (!decide (x0_0 = (8 : Int)))), (66, .bool (!decide (x0_0 = (8 : Int)))), (67, .slice y15v.1 s13v.length y15v.2), (68, .int .i64 s19v.1), (69, .pointer (some ⟨b46v, b46vo + s19v.1.toNat * 5, none⟩)), (70, .pointer (some ⟨b46v, b46vo + s19v.1.toNat * 5 + 3, none⟩)), (71, .int .i64 ((s13v.getD s19v.1.toNat dz109).2.2.2.1)), (72, .pointer (some ⟨b1v, 4, none⟩)), (73, .int .i64 x0_4), (74, .bool (decide ((s13v.getD s19v.1.toNat dz109).2.2.2.1 = x0_4))), (75, .bool (decide ((s13v.getD s19v.1.toNat dz109).2.2.2.1 = x0_4))), (76, .bool (decide ((s13v.getD s19v.1.toNat dz109).2.2.2.1 = x0_4))), (77, cv ((decide ((s13v.getD s19v.1.toNat dz109).2.2.2.1 = x0_4)) == false) (.pointer (some ⟨b16v, 0, none⟩))), (78, cv ((decide ((s13v.getD s19v.1.toNat dz109).2.2.2.1 = x0_4)) == false) (str s19v.2.1)), (79, cv ((decide ((s13v.getD s19v.1.toNat dz109).2.2.2.1 = x0_4)) == false) (.bool (decide (s19v.2.1 = ([] : List UInt8))))), (80, .bool ((decide ((s13v.getD s19v.1.toNat dz109).2.2.2.1 = x0_4)) || (decide (s19v.2.1 = ([] : List UInt8))))), (81, .bool ((decide ((s13v.getD s19v.1.toNat dz109).2.2.2.1 = x0_4)) || (decide (s19v.2.1 = ([] : List UInt8)))))]) mixed (by decide) (by decide) (by decide) (by decide) (by decide) (by decide) (by decide) 166 rfl (by decide) (by decide) (by decide) (Ent.refl _) ?_ ?_ (fun _ => ⟨rfl, rfl, rfl, rfl, rfl, rfl, rfl, rfl, rfl, rfl, rfl, rfl, rfl, rfl, rfl, rfl, rfl, rfl, rfl, rfl, rfl, rfl, rfl, rfl, rfl, rfl, rfl, rfl, rfl, rfl, rfl, rfl, rfl, rfl, rfl, rfl, trivial⟩) ?_
 exact (aq rfl (fun γ => qm rfl (.o (s := 4) rfl (by decide) .nil) rfl) (aq rfl (fun γ => qm rfl (.o (s := 6) rfl (by decide) .nil) rfl) (aq rfl (fun γ => qp rfl rfl (.v 0 rfl rfl (.v 1 rfl rfl .nil)) (q_idx rfl rfl rfl ha35v Tryd.underlying106 Tryd.sizeOf109 hi33v.1 hi33v.2) rfl) (aq rfl (fun γ => qp rfl rfl (.v 2 rfl rfl .nil) (q_fa rfl rfl Tryd.underlying109 rfl rfl Tryd.sizeOf3 rfl) rfl) (aq rfl (fun γ => qp rfl rfl (.v 3 rfl rfl .nil) (q_load rfl rfl Tryd.isAgg3 (hcell40v 2 rfl 1 _ rfl)) rfl) (aq rfl (fun γ => qp rfl rfl (.o (s := 1) rfl (by decide) .nil) (q_fa rfl rfl Tryd.underlying37 rfl rfl Tryd.sizeOf3 rfl) rfl) (aq rfl (fun γ => qp rfl rfl (.v 5 rfl rfl .nil) (q_load rfl rfl Tryd.isAgg3 (.obj 1 rfl rfl)) rfl) (aq rfl (fun γ => qp rfl rfl (.v 4 rfl rfl (.v 6 rfl rfl .nil)) (q_eql rfl rfl rfl) rfl) (aq rfl (fun γ => qm rfl (.v 7 rfl rfl .nil) rfl) (aq rfl (fun γ => qy rfl rfl (.o (s := 1) rfl (by decide) (.v 8 rfl rfl .nil)) rfl rfl (beq_yes (decide_eq_true hk41v)) (q_fa rfl rfl Tryd.underlying37 rfl rfl Tryd.sizeOf3 rfl) rfl) (aq rfl (fun γ => qy rfl rfl (.v 8 rfl rfl (.v 9 rfl rfl .nil)) rfl rfl (beq_yes (decide_eq_true hk41v)) (q_load rfl rfl Tryd.isAgg3 (.obj 1 rfl rfl)) rfl) (aq rfl (fun γ => qy rfl rfl (.v 8 rfl rfl (.v 10 rfl rfl .nil)) rfl rfl (beq_yes (decide_eq_true hk41v)) (q_neq rfl rfl rfl) rfl) (aq rfl (fun γ => qy rfl rfl (.v 8 rfl rfl (.v 11 rfl rfl .nil)) rfl rfl (beq_yes (decide_eq_true hk41v)) (q_move rfl rfl) rfl) (aq rfl (fun γ => qn rfl rfl (.o (s := 4) rfl (by decide) (.v 12 rfl rfl .nil)) rfl rfl (beq_yes' (ndec_yes hk42v)) rfl) (aq rfl (fun γ => qn rfl rfl (.o (s := 6) rfl (by decide) (.v 12 rfl rfl .nil)) rfl rfl (beq_yes' (ndec_yes hk42v)) rfl) (aq rfl (fun γ => qn rfl rfl (.v 12 rfl rfl (.v 13 rfl rfl (.v 14 rfl rfl .nil))) rfl rfl (beq_yes' (ndec_yes hk42v)) rfl) (aq rfl (fun γ => qn rfl rfl (.v 12 rfl rfl (.v 15 rfl rfl .nil)) rfl rfl (beq_yes' (ndec_yes hk42v)) rfl) (aq rfl (fun γ => qn rfl rfl (.v 12 rfl rfl (.v 16 rfl rfl .nil)) rfl rfl (beq_yes' (ndec_yes hk42v)) rfl) (aq rfl (fun γ => qn rfl rfl (.o (s := 1) rfl (by decide) (.v 12 rfl rfl .nil)) rfl rfl (beq_yes' (ndec_yes hk42v)) rfl) (aq rfl (fun γ => qn rfl rfl (.v 12 rfl rfl (.v 18 rfl rfl .nil)) rfl rfl (beq_yes' (ndec_yes hk42v)) rfl) (aq rfl (fun γ => qn rfl rfl (.v 12 rfl rfl (.v 17 rfl rfl (.v 19 rfl rfl .nil))) rfl rfl (beq_yes' (ndec_yes hk42v)) rfl) (aq rfl (fun γ => qy rfl rfl (.v 8 rfl rfl (.v 12 rfl rfl (.v 20 rfl rfl .nil))) rfl rfl (beq_yes (decide_eq_true hk41v)) (q_pick rfl rfl rfl rfl (bif_yes (ndec_yes hk42v) _ _)) rfl) (aq rfl (fun γ => qp rfl rfl (.v 8 rfl rfl (.v 21 rfl rfl .nil)) (q_pick rfl rfl rfl rfl (bif_yes (decide_eq_true hk41v) _ _)) rfl) (aq rfl (fun γ => qm rfl (.v 22 rfl rfl .nil) rfl) (aq rfl (fun γ => qy rfl rfl (.o (s := 1) rfl (by decide) (.v 23 rfl rfl .nil)) rfl rfl rfl (q_fa rfl rfl Tryd.underlying37 rfl rfl Tryd.sizeOf3 rfl) rfl) (aq rfl (fun γ => qy rfl rfl (.v 23 rfl rfl (.v 24 rfl rfl .nil)) rfl rfl rfl (q_load rfl rfl Tryd.isAgg3 (.obj 1 rfl rfl)) rfl) (aq rfl (fun γ => qy rfl rfl (.v 23 rfl rfl (.v 25 rfl rfl .nil)) rfl rfl rfl (q_neq rfl rfl rfl) rfl) (aq rfl (fun γ => qy rfl rfl (.v 23 rfl rfl (.v 26 rfl rfl .nil)) rfl rfl rfl (q_move rfl rfl) rfl) (aq rfl (fun γ => qy rfl rfl (.o (s := 4) rfl (by decide) (.v 27 rfl rfl .nil)) rfl rfl (beq_no (ndec_no hk43v)) (q_move rfl rfl) rfl) (aq rfl (fun γ => qy rfl rfl (.o (s := 6) rfl (by decide) (.v 27 rfl rfl .nil)) rfl rfl (beq_no (ndec_no hk43v)) (q_move rfl rfl) rfl) (aq rfl (fun γ => qy rfl rfl (.v 27 rfl rfl (.v 28 rfl rfl (.v 29 rfl rfl .nil))) rfl rfl (beq_no (ndec_no hk43v)) (q_idx rfl rfl rfl ha47v Tryd.underlying106 Tryd.sizeOf109 hi45v.1 hi45v.2) rfl) (aq rfl (fun γ => qy rfl rfl (.v 27 rfl rfl (.v 30 rfl rfl .nil)) rfl rfl (beq_no (ndec_no hk43v)) (q_fa rfl rfl Tryd.underlying109 rfl rfl Tryd.sizeOf3 rfl) rfl) (aq rfl (fun γ => qy rfl rfl (.v 27 rfl rfl (.v 31 rfl rfl .nil)) rfl rfl (beq_no (ndec_no hk43v)) (q_load rfl rfl Tryd.isAgg3 (hcell52v 2 rfl 3 _ rfl)) rfl) (aq rfl (fun γ => qy rfl rfl (.o (s := 1) rfl (by decide) (.v 27 rfl rfl .nil)) rfl rfl (beq_no (ndec_no hk43v)) (q_fa rfl rfl Tryd.underlying37 rfl rfl Tryd.sizeOf3 rfl) rfl) (aq rfl (fun γ => qy rfl rfl (.v 27 rfl rfl (.v 33 rfl rfl .nil)) rfl rfl (beq_no (ndec_no hk43v)) (q_load rfl rfl Tryd.isAgg3 (.obj 1 rfl rfl)) rfl) (aq rfl (fun γ => qy rfl rfl (.v 27 rfl rfl (.v 32 rfl rfl (.v 34 rfl rfl .nil))) rfl rfl (beq_no (ndec_no hk43v)) (q_eql rfl rfl rfl) rfl) (aq rfl (fun γ => qy rfl rfl (.v 23 rfl rfl (.v 27 rfl rfl (.v 35 rfl rfl .nil))) rfl rfl rfl (q_pick rfl rfl rfl rfl (bif_no (ndec_no hk43v) _ _)) rfl) (aq rfl (fun γ => qy rfl rfl (.v 23 rfl rfl (.v 36 rfl rfl .nil)) rfl rfl rfl (q_move rfl rfl) rfl) (aq rfl (fun γ => QOb.grd (b := decide ((s13v.getD s19v.1.toNat dz109).2.2.2.1 = x0_4)) [(5, .pointer (some ⟨b16v, 0, none⟩)), (76, .bool (decide ((s13v.getD s19v.1.toNat dz109).2.2.2.1 = x0_4)))] rfl rfl rfl rfl (.o (s := 5) rfl (by decide) (.v 37 rfl rfl .nil)) (fun hb53v => RQ.sub (E' := [(5, .pointer (some ⟨b16v, 0, none⟩))]) ⟨rfl, trivial⟩ (q_fa rfl rfl Tryd.underlying109 rfl rfl Tryd.sizeOf9 rfl)) rfl) (aq rfl (fun γ => QOb.grd (b := decide ((s13v.getD s19v.1.toNat dz109).2.2.2.1 = x0_4)) [(76, .bool (decide ((s13v.getD s19v.1.toNat dz109).2.2.2.1 = x0_4))), (77, cv ((decide ((s13v.getD s19v.1.toNat dz109).2.2.2.1 = x0_4)) == false) (.pointer (some ⟨b16v, 0, none⟩)))] rfl rfl rfl rfl (.v 37 rfl rfl (.v 38 rfl rfl .nil)) (fun hb54v => RQ.sub (E' := [(77, .pointer (some ⟨b16v, 0, none⟩))]) ⟨lk_cv rfl hb54v, trivial⟩ (q_load rfl rfl Tryd.isAgg9 (.obj 0 rfl rfl))) rfl) (aq rfl (fun γ => QOb.grd (b := decide ((s13v.getD s19v.1.toNat dz109).2.2.2.1 = x0_4)) [(76, .bool (decide ((s13v.getD s19v.1.toNat dz109).2.2.2.1 = x0_4))), (78, cv ((decide ((s13v.getD s19v.1.toNat dz109).2.2.2.1 = x0_4)) == false) (str s19v.2.1))] rfl rfl rfl rfl (.v 37 rfl rfl (.v 39 rfl rfl .nil)) (fun hb55v => RQ.sub (E' := [(78, str s19v.2.1)]) ⟨lk_cv rfl hb55v, trivial⟩ (q_eqs rfl rfl rfl)) rfl) (aq rfl (fun γ => qy rfl rfl (.v 23 rfl rfl (.v 37 rfl rfl (.v 40 rfl rfl .nil))) rfl rfl rfl (q_or rfl rfl rfl) rfl) (aq rfl (fun γ => qp rfl rfl (.v 23 rfl rfl (.v 41 rfl rfl .nil)) (q_pick rfl rfl rfl rfl rfl) rfl) zA)))))))))))))))))))))))))))))))))))))))))))
 exact zA
 intro g56v
 exact nrm_cut (s := (decide ((s13v.getD s19v.1.toNat dz109).2.2.2.1 = x0_4)) || (decide (s19v.2.1 = ([] : List UInt8)))) () ⟨rfl, rfl, rfl, rfl, rfl, trivial⟩ (.sel 0 rfl (.sel 0 rfl (.sel' 0 rfl (RowV.mk hl32v) (.sel 0 rfl (.nil _)))))
 refine sim_draw (Γ := Unit) () [[], [], [0, 1], [0, 1, 2], rL 4, [], [5], rL 7, rL 8, rL 9, rL 10, rL 11, rL 12, rL 13, rL 13, rL 15, rL 16, rL 17, rL 13, [0, 1, 2, 3, 4, 5, 6, 7, 8, 9, 10, 11, 12, 18], rL 20, rL 21, rL 22, rL 23, rL 24, rL 25, rL 26, rL 27, rL 28, rL 28, rL 30, rL 31, rL 32, rL 28, [0, 1, 2, 3, 4, 5, 6, 7, 8, 9, 10, 11, 12, 13, 14, 15, 16, 17, 18, 19, 20, 21, 22, 23, 24, 25, 26, 27, 33], rL 35, rL 36, rL 37, rL 38, rL 39, rL 40, rL 41, rL 42] [] [0, 1, 2, 3, 4, 5, 6, 7, 8, 9, 10, 11, 12, 13, 14, 15, 16, 17, 18, 19, 20, 21, 22, 23, 24, 25, 26, 27, 28, 29, 30, 31, 32, 33, 34, 35, 36, 37, 38, 39, 40, 41, 42] (fun i => [[0], [0], [0], [0], [0], [0], [0], [0], [0], [0], [0], [0], [0], [0], [0], [0], [0], [0], [0], [0], [0], [0], [0], [0], [0], [0], [0], [0], [0], [0], [0], [0], [0], [0], [0], [0], [0], [0], [0], [0], [0], [0], [0]].getD i []) (fun i => [[], [], [], [], [], [], [], [], [], [], [], [], [], [], [], [], [], [], [], [], [], [], [], [], [], [], [], [], [], [], [], [], [], [], [], [], [], [], [], [], [], [], []].getD i []) (fun γ i => [.slice y15v.1 s13v.length y15v.2, .int .i64 s19v.1, .pointer (some ⟨b34v, b34vo + s19v.1.toNat * 5, none⟩), .pointer (some ⟨b34v, b34vo + s19v.1.toNat * 5 + 1, none⟩), .int .i64 ((s13v.getD s19v.1.toNat dz109).2.1), .pointer (some ⟨b1v, 0, none⟩), .int .i64 x0_0, .bool (decide ((s13v.getD s19v.1.toNat dz109).2.1 = x0_0)), .bool (decide ((s13v.getD s19v.1.toNat dz109).2.1 = x0_0)), .pointer (some ⟨b1v, 0, none⟩), .int .i64 x0_0, .bool (!decide (x0_0 = (13 : Int))), .bool (!decide (x0_0 = (13 : Int))), undef, undef, undef, undef, undef, undef, undef, undef, .bool true, .bool true, .bool true, .pointer (some ⟨b1v, 0, none⟩), .int .i64 x0_0, .bool (!decide (x0_0 = (8 : Int))), .bool (!decide (x0_0 = (8 : Int))), undef, undef, undef, undef, undef, undef, undef, undef, .bool true, .bool true, undef, undef, undef, .bool true, .bool true].getD i undef) (fun j γ => [[obj b16v 109 [str s19v.2.1, .int .i64 s19v.2.2.1, str s19v.2.2.2.1, .int .i64 s19v.2.2.2.2.1, .int .i64 s19v.2.2.2.2.2], obj b1v 37 [.int .i64 x0_0, .int .i64 x0_1, .int .i64 x0_2, .int .i64 x0_3, .int .i64 x0_4, .int .i64 x0_5, str x0_6, str x0_7, str x0_8], Row 109 5 y15v.1 s13v.length y15v.2 rs31v.flatten, F]].getD j []) (fun γ => [(1, .pointer (some ⟨b1v, 0, none⟩)), (4, .slice y15v.1 s13v.length y15v.2), (5, .pointer (some ⟨b16v, 0, none⟩)), (6, .int .i64 s19v.1), (48, .pointer (some ⟨b1v, 0, none⟩)), (49, .int .i64 x0_0), (50, .bool (!decide (x0_0 = (13 : Int)))), (51, .bool (!decide (x0_0 = (13 : Int)))), (52, undef), (53, undef), (54, undef), (55, undef), (56, undef), (57, undef), (58, undef), (59, undef), (60, .bool true), (63, .pointer (some ⟨b1v, 0, none⟩)), (64, .int .i64 x0_0), (65, .bool (!decide (x0_0 = (8 : Int)))), (66, .bool (!decide (x0_0 = (8 : Int)))), (67, undef), (68, undef), (69, undef), (70, undef), (71, undef), (72, undef), (73, undef), (74, undef), (75, .bool true), (76, .bool true), (77, undef), (78, undef), (79, undef), (80, .bool true), (81, .bool true)]) mixed (by decide) (by decide) (by decide) (by decide) (by decide) (by decide) (by decide) 166 rfl (by decide) (by decide) (by decide) (Ent.refl _) ?_ ?_ (fun _ => ⟨rfl, rfl, rfl, rfl, rfl, rfl, rfl, rfl, rfl, rfl, rfl, rfl, rfl, rfl, rfl, rfl, rfl, rfl, rfl, rfl, rfl, rfl, rfl, rfl, rfl, rfl, rfl, rfl, rfl, rfl, rfl, rfl, rfl, rfl, rfl, rfl, trivial⟩) ?_
 exact (aq rfl (fun γ => qm rfl (.o (s := 4) rfl (by decide) .nil) rfl) (aq rfl (fun γ => qm rfl (.o (s := 6) rfl (by decide) .nil) rfl) (aq rfl (fun γ => qp rfl rfl (.v 0 rfl rfl (.v 1 rfl rfl .nil)) (q_idx rfl rfl rfl ha35v Tryd.underlying106 Tryd.sizeOf109 hi33v.1 hi33v.2) rfl) (aq rfl (fun γ => qp rfl rfl (.v 2 rfl rfl .nil) (q_fa rfl rfl Tryd.underlying109 rfl rfl Tryd.sizeOf3 rfl) rfl) (aq rfl (fun γ => qp rfl rfl (.v 3 rfl rfl .nil) (q_load rfl rfl Tryd.isAgg3 (hcell40v 2 rfl 1 _ rfl)) rfl) (aq rfl (fun γ => qp rfl rfl (.o (s := 1) rfl (by decide) .nil) (q_fa rfl rfl Tryd.underlying37 rfl rfl Tryd.sizeOf3 rfl) rfl) (aq rfl (fun γ => qp rfl rfl (.v 5 rfl rfl .nil) (q_load rfl rfl Tryd.isAgg3 (.obj 1 rfl rfl)) rfl) (aq rfl (fun γ => qp rfl rfl (.v 4 rfl rfl (.v 6 rfl rfl .nil)) (q_eql rfl rfl rfl) rfl) (aq rfl (fun γ => qm rfl (.v 7 rfl rfl .nil) rfl) (aq rfl (fun γ => qy rfl rfl (.o (s := 1) rfl (by decide) (.v 8 rfl rfl .nil)) rfl rfl (beq_yes (decide_eq_true hk41v)) (q_fa rfl rfl Tryd.underlying37 rfl rfl Tryd.sizeOf3 rfl) rfl) (aq rfl (fun γ => qy rfl rfl (.v 8 rfl rfl (.v 9 rfl rfl .nil)) rfl rfl (beq_yes (decide_eq_true hk41v)) (q_load rfl rfl Tryd.isAgg3 (.obj 1 rfl rfl)) rfl) (aq rfl (fun γ => qy rfl rfl (.v 8 rfl rfl (.v 10 rfl rfl .nil)) rfl rfl (beq_yes (decide_eq_true hk41v)) (q_neq rfl rfl rfl) rfl) (aq rfl (fun γ => qy rfl rfl (.v 8 rfl rfl (.v 11 rfl rfl .nil)) rfl rfl (beq_yes (decide_eq_true hk41v)) (q_move rfl rfl) rfl) (aq rfl (fun γ => qn rfl rfl (.o (s := 4) rfl (by decide) (.v 12 rfl rfl .nil)) rfl rfl (beq_yes' (ndec_yes hk42v)) rfl) (aq rfl (fun γ => qn rfl rfl (.o (s := 6) rfl (by decide) (.v 12 rfl rfl .nil)) rfl rfl (beq_yes' (ndec_yes hk42v)) rfl) (aq rfl (fun γ => qn rfl rfl (.v 12 rfl rfl (.v 13 rfl rfl (.v 14 rfl rfl .nil))) rfl rfl (beq_yes' (ndec_yes hk42v)) rfl) (aq rfl (fun γ => qn rfl rfl (.v 12 rfl rfl (.v 15 rfl rfl .nil)) rfl rfl (beq_yes' (ndec_yes hk42v)) rfl) (aq rfl (fun γ => qn rfl rfl (.v 12 rfl rfl (.v 16 rfl rfl .nil)) rfl rfl (beq_yes' (ndec_yes hk42v)) rfl) (aq rfl (fun γ => qn rfl rfl (.o (s := 1) rfl (by decide) (.v 12 rfl rfl .nil)) rfl rfl (beq_yes' (ndec_yes hk42v)) rfl) (aq rfl (fun γ => qn rfl rfl (.v 12 rfl rfl (.v 18 rfl rfl .nil)) rfl rfl (beq_yes' (ndec_yes hk42v)) rfl) (aq rfl (fun γ => qn rfl rfl (.v 12 rfl rfl (.v 17 rfl rfl (.v 19 rfl rfl .nil))) rfl rfl (beq_yes' (ndec_yes hk42v)) rfl) (aq rfl (fun γ => qy rfl rfl (.v 8 rfl rfl (.v 12 rfl rfl (.v 20 rfl rfl .nil))) rfl rfl (beq_yes (decide_eq_true hk41v)) (q_pick rfl rfl rfl rfl (bif_yes (ndec_yes hk42v) _ _)) rfl) (aq rfl (fun γ => qp rfl rfl (.v 8 rfl rfl (.v 21 rfl rfl .nil)) (q_pick rfl rfl rfl rfl (bif_yes (decide_eq_true hk41v) _ _)) rfl) (aq rfl (fun γ => qm rfl (.v 22 rfl rfl .nil) rfl) (aq rfl (fun γ => qy rfl rfl (.o (s := 1) rfl (by decide) (.v 23 rfl rfl .nil)) rfl rfl rfl (q_fa rfl rfl Tryd.underlying37 rfl rfl Tryd.sizeOf3 rfl) rfl) (aq rfl (fun γ => qy rfl rfl (.v 23 rfl rfl (.v 24 rfl rfl .nil)) rfl rfl rfl (q_load rfl rfl Tryd.isAgg3 (.obj 1 rfl rfl)) rfl) (aq rfl (fun γ => qy rfl rfl (.v 23 rfl rfl (.v 25 rfl rfl .nil)) rfl rfl rfl (q_neq rfl rfl rfl) rfl) (aq rfl (fun γ => qy rfl rfl (.v 23 rfl rfl (.v 26 rfl rfl .nil)) rfl rfl rfl (q_move rfl rfl) rfl) (aq rfl (fun γ => qn rfl rfl (.o (s := 4) rfl (by decide) (.v 27 rfl rfl .nil)) rfl rfl (beq_yes' (ndec_yes hk43v)) rfl) (aq rfl (fun γ => qn rfl rfl (.o (s := 6) rfl (by decide) (.v 27 rfl rfl .nil)) rfl rfl (beq_yes' (ndec_yes hk43v)) rfl) (aq rfl (fun γ => qn rfl rfl (.v 27 rfl rfl (.v 28 rfl rfl (.v 29 rfl rfl .nil))) rfl rfl (beq_yes' (ndec_yes hk43v)) rfl) (aq rfl (fun γ => qn rfl rfl (.v 27 rfl rfl (.v 30 rfl rfl .nil)) rfl rfl (beq_yes' (ndec_yes hk43v)) rfl) (aq rfl (fun γ => qn rfl rfl (.v 27 rfl rfl (.v 31 rfl rfl .nil)) rfl rfl (beq_yes' (ndec_yes hk43v)) rfl) (aq rfl (fun γ => qn rfl rfl (.o (s := 1) rfl (by decide) (.v 27 rfl rfl .nil)) rfl rfl (beq_yes' (ndec_yes hk43v)) rfl) (aq rfl (fun γ => qn rfl rfl (.v 27 rfl rfl (.v 33 rfl rfl .nil)) rfl rfl (beq_yes' (ndec_yes hk43v)) rfl) (aq rfl (fun γ => qn rfl rfl (.v 27 rfl rfl (.v 32 rfl rfl (.v 34 rfl rfl .nil))) rfl rfl (beq_yes' (ndec_yes hk43v)) rfl) (aq rfl (fun γ => qy rfl rfl (.v 23 rfl rfl (.v 27 rfl rfl (.v 35 rfl rfl .nil))) rfl rfl rfl (q_pick rfl rfl rfl rfl (bif_yes (ndec_yes hk43v) _ _)) rfl) (aq rfl (fun γ => qy rfl rfl (.v 23 rfl rfl (.v 36 rfl rfl .nil)) rfl rfl rfl (q_move rfl rfl) rfl) (aq rfl (fun γ => qn rfl rfl (.o (s := 5) rfl (by decide) (.v 37 rfl rfl .nil)) rfl rfl rfl rfl) (aq rfl (fun γ => qn rfl rfl (.v 37 rfl rfl (.v 38 rfl rfl .nil)) rfl rfl rfl rfl) (aq rfl (fun γ => qn rfl rfl (.v 37 rfl rfl (.v 39 rfl rfl .nil)) rfl rfl rfl rfl) (aq rfl (fun γ => qy rfl rfl (.v 23 rfl rfl (.v 37 rfl rfl (.v 40 rfl rfl .nil))) rfl rfl rfl (q_pick rfl rfl rfl rfl rfl) rfl) (aq rfl (fun γ => qp rfl rfl (.v 23 rfl rfl (.v 41 rfl rfl .nil)) (q_pick rfl rfl rfl rfl rfl) rfl) zA)))))))))))))))))))))))))))))))))))))))))))
 exact zA
 intro g44v
 exact nrm_cut (s := true) () ⟨rfl, rfl, rfl, rfl, rfl, trivial⟩ (.sel 0 rfl (.sel 0 rfl (.sel' 0 rfl (RowV.mk hl32v) (.sel 0 rfl (.nil _)))))
 refine sim_draw (Γ := Unit) () [[], [], [0, 1], [0, 1, 2], rL 4, [], [5], rL 7, rL 8, rL 9, rL 10, rL 11, rL 12, rL 13, rL 13, rL 15, rL 16, rL 17, rL 13, [0, 1, 2, 3, 4, 5, 6, 7, 8, 9, 10, 11, 12, 18], rL 20, rL 21, rL 22, rL 23, rL 24, rL 25, rL 26, rL 27, rL 28, rL 28, rL 30, rL 31, rL 32, rL 28, [0, 1, 2, 3, 4, 5, 6, 7, 8, 9, 10, 11, 12, 13, 14, 15, 16, 17, 18, 19, 20, 21, 22, 23, 24, 25, 26, 27, 33], rL 35, rL 36, rL 37, rL 38, rL 39, rL 40, rL 41, rL 42] [] [0, 1, 2, 3, 4, 5, 6, 7, 8, 9, 10, 11, 12, 13, 14, 15, 16, 17, 18, 19, 20, 21, 22, 23, 24, 25, 26, 27, 28, 29, 30, 31, 32, 33, 34, 35, 36, 37, 38, 39, 40, 41, 42] (fun i => [[0], [0], [0], [0], [0], [0], [0], [0], [0], [0], [0], [0], [0], [0], [0], [0], [0], [0], [0], [0], [0], [0], [0], [0], [0], [0], [0], [0], [0], [0], [0], [0], [0], [0], [0], [0], [0], [0], [0], [0], [0], [0], [0]].getD i []) (fun i => [[], [], [], [], [], [], [], [], [], [], [], [], [], [], [], [], [], [], [], [], [], [], [], [], [], [], [], [], [], [], [], [], [], [], [], [], [], [], [], [], [], [], []].getD i []) (fun γ i => [.slice y15v.1 s13v.length y15v.2, .int .i64 s19v.1, .pointer (some ⟨b34v, b34vo + s19v.1.toNat * 5, none⟩), .pointer (some ⟨b34v, b34vo + s19v.1.toNat * 5 + 1, none⟩), .int .i64 ((s13v.getD s19v.1.toNat dz109).2.1), .pointer (some ⟨b1v, 0, none⟩), .int .i64 x0_0, .bool (decide ((s13v.getD s19v.1.toNat dz109).2.1 = x0_0)), .bool (decide ((s13v.getD s19v.1.toNat dz109).2.1 = x0_0)), undef, undef, undef, undef, undef, undef, undef, undef, undef, undef, undef, undef, undef, .bool false, .bool false, undef, undef, undef, undef, undef, undef, undef, undef, undef, undef, undef, undef, undef, undef, undef, undef, undef, undef, .bool false].getD i undef) (fun j γ => [[obj b16v 109 [str s19v.2.1, .int .i64 s19v.2.2.1, str s19v.2.2.2.1, .int .i64 s19v.2.2.2.2.1, .int .i64 s19v.2.2.2.2.2], obj b1v 37 [.int .i64 x0_0, .int .i64 x0_1, .int .i64 x0_2, .int .i64 x0_3, .int .i64 x0_4, .int .i64 x0_5, str x0_6, str x0_7, str x0_8], Row 109 5 y15v.1 s13v.length y15v.2 rs31v.flatten, F]].getD j []) (fun γ => [(1, .pointer (some ⟨b1v, 0, none⟩)), (4, .slice y15v.1 s13v.length y15v.2), (5, .pointer (some ⟨b16v, 0, none⟩)), (6, .int .i64 s19v.1), (48, undef), (49, undef), (50, undef), (51, undef), (52, undef), (53, undef), (54, undef), (55, undef), (56, undef), (57, undef), (58, undef), (59, undef), (60, undef), (63, undef), (64, undef), (65, undef), (66, undef), (67, undef), (68, undef), (69, undef), (70, undef), (71, undef), (72, undef), (73, undef), (74, undef), (75, undef), (76, undef), (77, undef), (78, undef), (79, undef), (80, undef), (81, .bool false)]) mixed (by decide) (by decide) (by decide) (by decide) (by decide) (by decide) (by decide) 166 rfl (by decide) (by decide) (by decide) (Ent.refl _) ?_ ?_ (fun _ => ⟨rfl, rfl, rfl, rfl, rfl, rfl, rfl, rfl, rfl, rfl, rfl, rfl, rfl, rfl, rfl, rfl, rfl, rfl, rfl, rfl, rfl, rfl, rfl, rfl, rfl, rfl, rfl, rfl, rfl, rfl, rfl, rfl, rfl, rfl, rfl, rfl, trivial⟩) ?_
 exact (aq rfl (fun γ => qm rfl (.o (s := 4) rfl (by decide) .nil) rfl) (aq rfl (fun γ => qm rfl (.o (s := 6) rfl (by decide) .nil) rfl) (aq rfl (fun γ => qp rfl rfl (.v 0 rfl rfl (.v 1 rfl rfl .nil)) (q_idx rfl rfl rfl ha35v Tryd.underlying106 Tryd.sizeOf109 hi33v.1 hi33v.2) rfl) (aq rfl (fun γ => qp rfl rfl (.v 2 rfl rfl .nil) (q_fa rfl rfl Tryd.underlying109 rfl rfl Tryd.sizeOf3 rfl) rfl) (aq rfl (fun γ => qp rfl rfl (.v 3 rfl rfl .nil) (q_load rfl rfl Tryd.isAgg3 (hcell40v 2 rfl 1 _ rfl)) rfl) (aq rfl (fun γ => qp rfl rfl (.o (s := 1) rfl (by decide) .nil) (q_fa rfl rfl Tryd.underlying37 rfl rfl Tryd.sizeOf3 rfl) rfl) (aq rfl (fun γ => qp rfl rfl (.v 5 rfl rfl .nil) (q_load rfl rfl Tryd.isAgg3 (.obj 1 rfl rfl)) rfl) (aq rfl (fun γ => qp rfl rfl (.v 4 rfl rfl (.v 6 rfl rfl .nil)) (q_eql rfl rfl rfl) rfl) (aq rfl (fun γ => qm rfl (.v 7 rfl rfl .nil) rfl) (aq rfl (fun γ => qn rfl rfl (.o (s := 1) rfl (by decide) (.v 8 rfl rfl .nil)) rfl rfl (beq_no' (decide_eq_false hk41v)) rfl) (aq rfl (fun γ => qn rfl rfl (.v 8 rfl rfl (.v 9 rfl rfl .nil)) rfl rfl (beq_no' (decide_eq_false hk41v)) rfl) (aq rfl (fun γ => qn rfl rfl (.v 8 rfl rfl (.v 10 rfl rfl .nil)) rfl rfl (beq_no' (decide_eq_false hk41v)) rfl) (aq rfl (fun γ => qn rfl rfl (.v 8 rfl rfl (.v 11 rfl rfl .nil)) rfl rfl (beq_no' (decide_eq_false hk41v)) rfl) (aq rfl (fun γ => qu rfl rfl (.o (s := 4) rfl (by decide) (.v 12 rfl rfl .nil)) rfl rfl rfl) (aq rfl (fun γ => qu rfl rfl (.o (s := 6) rfl (by decide) (.v 12 rfl rfl .nil)) rfl rfl rfl) (aq rfl (fun γ => qu rfl rfl (.v 12 rfl rfl (.v 13 rfl rfl (.v 14 rfl rfl .nil))) rfl rfl rfl) (aq rfl (fun γ => qu rfl rfl (.v 12 rfl rfl (.v 15 rfl rfl .nil)) rfl rfl rfl) (aq rfl (fun γ => qu rfl rfl (.v 12 rfl rfl (.v 16 rfl rfl .nil)) rfl rfl rfl) (aq rfl (fun γ => qu rfl rfl (.o (s := 1) rfl (by decide) (.v 12 rfl rfl .nil)) rfl rfl rfl) (aq rfl (fun γ => qu rfl rfl (.v 12 rfl rfl (.v 18 rfl rfl .nil)) rfl rfl rfl) (aq rfl (fun γ => qu rfl rfl (.v 12 rfl rfl (.v 17 rfl rfl (.v 19 rfl rfl .nil))) rfl rfl rfl) (aq rfl (fun γ => qn rfl rfl (.v 8 rfl rfl (.v 12 rfl rfl (.v 20 rfl rfl .nil))) rfl rfl (beq_no' (decide_eq_false hk41v)) rfl) (aq rfl (fun γ => qp rfl rfl (.v 8 rfl rfl (.v 21 rfl rfl .nil)) (q_pick rfl rfl rfl rfl (bif_no (decide_eq_false hk41v) _ _)) rfl) (aq rfl (fun γ => qm rfl (.v 22 rfl rfl .nil) rfl) (aq rfl (fun γ => qn rfl rfl (.o (s := 1) rfl (by decide) (.v 23 rfl rfl .nil)) rfl rfl rfl rfl) (aq rfl (fun γ => qn rfl rfl (.v 23 rfl rfl (.v 24 rfl rfl .nil)) rfl rfl rfl rfl) (aq rfl (fun γ => qn rfl rfl (.v 23 rfl rfl (.v 25 rfl rfl .nil)) rfl rfl rfl rfl) (aq rfl (fun γ => qn rfl rfl (.v 23 rfl rfl (.v 26 rfl rfl .nil)) rfl rfl rfl rfl) (aq rfl (fun γ => qu rfl rfl (.o (s := 4) rfl (by decide) (.v 27 rfl rfl .nil)) rfl rfl rfl) (aq rfl (fun γ => qu rfl rfl (.o (s := 6) rfl (by decide) (.v 27 rfl rfl .nil)) rfl rfl rfl) (aq rfl (fun γ => qu rfl rfl (.v 27 rfl rfl (.v 28 rfl rfl (.v 29 rfl rfl .nil))) rfl rfl rfl) (aq rfl (fun γ => qu rfl rfl (.v 27 rfl rfl (.v 30 rfl rfl .nil)) rfl rfl rfl) (aq rfl (fun γ => qu rfl rfl (.v 27 rfl rfl (.v 31 rfl rfl .nil)) rfl rfl rfl) (aq rfl (fun γ => qu rfl rfl (.o (s := 1) rfl (by decide) (.v 27 rfl rfl .nil)) rfl rfl rfl) (aq rfl (fun γ => qu rfl rfl (.v 27 rfl rfl (.v 33 rfl rfl .nil)) rfl rfl rfl) (aq rfl (fun γ => qu rfl rfl (.v 27 rfl rfl (.v 32 rfl rfl (.v 34 rfl rfl .nil))) rfl rfl rfl) (aq rfl (fun γ => qn rfl rfl (.v 23 rfl rfl (.v 27 rfl rfl (.v 35 rfl rfl .nil))) rfl rfl rfl rfl) (aq rfl (fun γ => qn rfl rfl (.v 23 rfl rfl (.v 36 rfl rfl .nil)) rfl rfl rfl rfl) (aq rfl (fun γ => qu rfl rfl (.o (s := 5) rfl (by decide) (.v 37 rfl rfl .nil)) rfl rfl rfl) (aq rfl (fun γ => qu rfl rfl (.v 37 rfl rfl (.v 38 rfl rfl .nil)) rfl rfl rfl) (aq rfl (fun γ => qu rfl rfl (.v 37 rfl rfl (.v 39 rfl rfl .nil)) rfl rfl rfl) (aq rfl (fun γ => qn rfl rfl (.v 23 rfl rfl (.v 37 rfl rfl (.v 40 rfl rfl .nil))) rfl rfl rfl rfl) (aq rfl (fun γ => qp rfl rfl (.v 23 rfl rfl (.v 41 rfl rfl .nil)) (q_pick rfl rfl rfl rfl rfl) rfl) zA)))))))))))))))))))))))))))))))))))))))))))
 exact zA
 intro g81v
 exact nrm_cut (s := false) () ⟨rfl, rfl, rfl, rfl, rfl, trivial⟩ (.sel 0 rfl (.sel 0 rfl (.sel' 0 rfl (RowV.mk hl32v) (.sel 0 rfl (.nil _)))))
 intro s29v y30v
 refine sim_condb rfl (fun h82v => ?_) (fun h83v => ?_)
 refine sim_region ?_
 refine vm rfl rfl ?_
 refine vm rfl rfl ?_
 refine simL_openV 2 rfl (fun rs92v hl93v => ?_)
 refine simL_ask (fun hi84v => ?_)
 refine simL_posV 2 rfl hl93v rfl (i := s19v.1.toNat) (by omega) dz109 (fun b85v b85vo r88v ha86v hV89v hlr90v hcell91v => ?_)
 obtain rfl := hV89v
 refine vq (q_idx rfl rfl rfl ha86v Tryd.underlying106 Tryd.sizeOf109 hi84v.1 hi84v.2) rfl ?_
 refine vq (q_loads rfl rfl Tryd.isAgg109 Tryd.sizeOf109 rfl (fun j v hj => hcell91v 2 rfl j v hj)) rfl ?_
 refine simL_do (re_store 0 rfl rfl rfl Tryd.sizeOf109 rfl rfl (one_of (by rfl)) rfl rfl) rfl rfl ?_
 intro _
 refine simL_nil (nrm_block (nrm_then (sim_region ?_)))
 refine vm rfl rfl ?_
 refine vq (q_add rfl rfl rfl) rfl ?_
 refine va rfl rfl (simL_nil ?_)
 exact nrm_again (s := (IntKind.i64.wrap (s19v.1 + 1), (s13v.getD s19v.1.toNat dz109).1, (s13v.getD s19v.1.toNat dz109).2.1, (s13v.getD s19v.1.toNat dz109).2.2.1, (s13v.getD s19v.1.toNat dz109).2.2.2.1, (s13v.getD s19v.1.toNat dz109).2.2.2.2)) () ⟨rfl, rfl, rfl, rfl, trivial⟩ (.sel 0 rfl (.sel 0 rfl (.sel' 0 rfl (RowV.mk hl93v) (.sel 0 rfl (.nil _)))))
 refine sim_skip ?_
 refine nrm_block (nrm_then (sim_region ?_))
 refine vm rfl rfl ?_
 refine vq (q_add rfl rfl rfl) rfl ?_
 refine va rfl rfl (simL_nil ?_)
 exact nrm_again (s := (IntKind.i64.wrap (s19v.1 + 1), s19v.2.1, s19v.2.2.1, s19v.2.2.2.1, s19v.2.2.2.2.1, s19v.2.2.2.2.2)) () ⟨rfl, rfl, rfl, rfl, trivial⟩ (.sel 0 rfl (.sel 0 rfl (.sel 0 rfl (.sel 0 rfl (.nil _)))))
 refine sim_exi ?_
 refine exi_then ?_
 refine exi_loop ?_
 refine exi_here ?_
 exact nrm_cut (s := (s19v.2.1, s19v.2.2.1, s19v.2.2.2.1, s19v.2.2.2.2.1, s19v.2.2.2.2.2)) () ⟨rfl, rfl, trivial⟩ (.sel 0 rfl (.sel 0 rfl (.sel 1 rfl (.nil _))))
 intro s17v y18v
 refine sr ?_
 refine vq (q_loado 1 rfl rfl Tryd.isAgg37 Tryd.sizeOf37 rfl rfl) rfl ?_
 refine simL_eff (re_alloc rfl Tryd.zeroValue37 rfl) rfl rfl rfl ?_
 intro b94v
 refine simL_do (re_store 0 rfl rfl rfl Tryd.sizeOf37 rfl rfl (one_of (by rfl)) rfl rfl) rfl rfl ?_
 intro _
 refine simL_ent (H' := [obj b94v 37 [.int .i64 x0_0, .int .i64 x0_1, .int .i64 x0_2, .int .i64 x0_3, .int .i64 x0_4, .int .i64 x0_5, str x0_6, str x0_7, str x0_8], obj b16v 109 [str s17v.1, .int .i64 s17v.2.1, str s17v.2.2.1, .int .i64 s17v.2.2.2.1, .int .i64 s17v.2.2.2.2], obj b1v 37 [.int .i64 x0_0, .int .i64 x0_1, .int .i64 x0_2, .int .i64 x0_3, .int .i64 x0_4, .int .i64 x0_5, str x0_6, str x0_7, str x0_8], F]) (Ent.refl _) ?_
 refine nx ?_
 refine vq (q_fa rfl rfl Tryd.underlying109 rfl rfl Tryd.sizeOf9 rfl) rfl ?_
 refine vq (q_load rfl rfl Tryd.isAgg9 (.obj 1 rfl rfl)) rfl ?_
 refine va rfl rfl (simL_nil (nrm_then ?_))
 refine sim_cut (S := List UInt8 × Int × Int × Int × Int × Int × Int × List UInt8 × List UInt8 × List UInt8) (Unit) (fun s y => [(1, .pointer (some ⟨b1v, 0, none⟩)), (7, .pointer (some ⟨b94v, 0, none⟩)), (8, str s.1)]) (fun s y => [obj b94v 37 [.int .i64 s.2.1, .int .i64 s.2.2.1, .int .i64 s.2.2.2.1, .int .i64 s.2.2.2.2.1, .int .i64 s.2.2.2.2.2.1, .int .i64 s.2.2.2.2.2.2.1, str s.2.2.2.2.2.2.2.1, str s.2.2.2.2.2.2.2.2.1, str s.2.2.2.2.2.2.2.2.2], obj b1v 37 [.int .i64 x0_0, .int .i64 x0_1, .int .i64 x0_2, .int .i64 x0_3, .int .i64 x0_4, .int .i64 x0_5, str x0_6, str x0_7, str x0_8], F]) ?_ ?_
 refine sr ?_
 refine va rfl rfl (simL_nil (nrm_then ?_))
 refine sim_block ?_
 refine sim_loop (S := List UInt8 × Int × Int × Int × Int × Int × Int × Int × List UInt8 × List UInt8 × List UInt8) (Unit) (fun k s => synodref17_FormatAct.l1 s17v k s.1 s.2.1 s.2.2.1 s.2.2.2.1 s.2.2.2.2.1 s.2.2.2.2.2.1 s.2.2.2.2.2.2.1 s.2.2.2.2.2.2.2.1 s.2.2.2.2.2.2.2.2.1 s.2.2.2.2.2.2.2.2.2.1 s.2.2.2.2.2.2.2.2.2.2) (fun s y => [(1, .pointer (some ⟨b1v, 0, none⟩)), (5, .pointer (some ⟨b16v, 0, none⟩)), (7, .pointer (some ⟨b94v, 0, none⟩)), (8, str s.1), (9, .int .i64 s.2.1)]) (fun s y => [obj b94v 37 [.int .i64 s.2.2.1, .int .i64 s.2.2.2.1, .int .i64 s.2.2.2.2.1, .int .i64 s.2.2.2.2.2.1, .int .i64 s.2.2.2.2.2.2.1, .int .i64 s.2.2.2.2.2.2.2.1, str s.2.2.2.2.2.2.2.2.1, str s.2.2.2.2.2.2.2.2.2.1, str s.2.2.2.2.2.2.2.2.2.2], obj b16v 109 [str s17v.1, .int .i64 s17v.2.1, str s17v.2.2.1, .int .i64 s17v.2.2.2.1, .int .i64 s17v.2.2.2.2], obj b1v 37 [.int .i64 x0_0, .int .i64 x0_1, .int .i64 x0_2, .int .i64 x0_3, .int .i64 x0_4, .int .i64 x0_5, str x0_6, str x0_7, str x0_8], F]) (fun _ => by rw [synodref17_FormatAct.l1]) ?_ k (s17v.1, 0, x0_0, x0_1, x0_2, x0_3, x0_4, x0_5, x0_6, x0_7, x0_8) () ⟨rfl, rfl, rfl, rfl, rfl, trivial⟩ (.sel 0 rfl (.sel 0 rfl (.sel 0 rfl (.sel 0 rfl (.nil _)))))
 intro k s97v y98v
 refine sim_eq (by rw [synodref17_FormatAct.l1]) ?_
 refine sim_seq (sr ?_)
 refine vm rfl rfl ?_
 refine vq (q_fa rfl rfl Tryd.underlying109 rfl rfl Tryd.sizeOf9 rfl) rfl ?_
 refine vq (q_load rfl rfl Tryd.isAgg9 (.obj 1 rfl rfl)) rfl ?_
 refine vq (q_lens rfl rfl rfl Tryd.underlying9) rfl ?_
 refine vq (q_lss rfl rfl rfl) rfl (simL_nil (nrm_then ?_))
 refine sim_cond rfl (fun h110v => ?_) (fun h111v => ?_)
 refine sim_skip ?_
 refine nrm_then (sim_seq ?_)
 refine sim_block ?_
 refine sim_region ?_
 refine vm rfl rfl ?_
 refine simL_ask (fun hb112v => ?_)
 refine vq (q_cat rfl rfl rfl hb112v) rfl ?_
 refine vq (q_fa rfl rfl Tryd.underlying109 rfl rfl Tryd.sizeOf9 rfl) rfl ?_
 refine vq (q_load rfl rfl Tryd.isAgg9 (.obj 1 rfl rfl)) rfl ?_
 refine vm rfl rfl ?_
 refine simL_ask (fun hi113v => ?_)
 refine vq (q_sidx rfl rfl rfl Tryd.underlying9 hi113v.1 hi113v.2) rfl ?_
 refine simL_bind (fun s114v hs115v => ?_)
 refine simL_eff (re_call (vs := [.pointer (some ⟨b94v, 0, none⟩), .int .u8 ((s17v.2.2.1.getD s97v.2.1.toNat 0).toNat : Int)]) (cap := []) (A := [obj b94v 37 [.int .i64 s97v.2.2.1, .int .i64 s97v.2.2.2.1, .int .i64 s97v.2.2.2.2.1, .int .i64 s97v.2.2.2.2.2.1, .int .i64 s97v.2.2.2.2.2.2.1, .int .i64 s97v.2.2.2.2.2.2.2.1, str s97v.2.2.2.2.2.2.2.2.1, str s97v.2.2.2.2.2.2.2.2.2.1, str s97v.2.2.2.2.2.2.2.2.2.2]]) (rst := [obj b16v 109 [str s17v.1, .int .i64 s17v.2.1, str s17v.2.2.1, .int .i64 s17v.2.2.2.1, .int .i64 s17v.2.2.2.2], obj b1v 37 [.int .i64 x0_0, .int .i64 x0_1, .int .i64 x0_2, .int .i64 x0_3, .int .i64 x0_4, .int .i64 x0_5, str x0_6, str x0_7, str x0_8], F]) rfl rfl rfl rfl rfl rfl Tryd.call52 (.sel 0 rfl (.sel 0 rfl (.sel 0 rfl (.sel 0 rfl (.nil _))))) (synodref17_take.calls _ _ k b94v s97v.2.2.1 s97v.2.2.2.1 s97v.2.2.2.2.1 s97v.2.2.2.2.2.1 s97v.2.2.2.2.2.2.1 s97v.2.2.2.2.2.2.2.1 s97v.2.2.2.2.2.2.2.2.1 s97v.2.2.2.2.2.2.2.2.2.1 s97v.2.2.2.2.2.2.2.2.2.2 ((s17v.2.2.1.getD s97v.2.1.toNat 0).toNat : Int) (hgl.lend 2 rfl)) hs115v) rfl rfl rfl ?_
 intro y116v
 refine simL_ask (fun hb117v => ?_)
 refine vq (q_cat rfl rfl rfl hb117v) rfl ?_
 refine va rfl rfl (simL_nil (nrm_block (nrm_then (sim_region ?_))))
 refine vm rfl rfl ?_
 refine vq (q_add rfl rfl rfl) rfl ?_
 refine va rfl rfl (simL_nil ?_)
 exact nrm_again (s := ((s97v.1 ++ ([32] : List UInt8)) ++ s114v.1, IntKind.i64.wrap (s97v.2.1 + 1), s114v.2.1, s114v.2.2.1, s114v.2.2.2.1, s114v.2.2.2.2.1, s114v.2.2.2.2.2.1, s114v.2.2.2.2.2.2.1, s114v.2.2.2.2.2.2.2.1, s114v.2.2.2.2.2.2.2.2.1, s114v.2.2.2.2.2.2.2.2.2)) () ⟨rfl, rfl, rfl, rfl, rfl, trivial⟩ (.sel 0 rfl (.sel 0 rfl (.sel 0 rfl (.sel 0 rfl (.nil _)))))
 refine sim_exi ?_
 refine exi_then ?_
 refine exi_loop ?_
 refine exi_here ?_
 exact nrm_cut (s := (s97v.1, s97v.2.2.1, s97v.2.2.2.1, s97v.2.2.2.2.1, s97v.2.2.2.2.2.1, s97v.2.2.2.2.2.2.1, s97v.2.2.2.2.2.2.2.1, s97v.2.2.2.2.2.2.2.2.1, s97v.2.2.2.2.2.2.2.2.2.1, s97v.2.2.2.2.2.2.2.2.2.2)) () ⟨rfl, rfl, rfl, trivial⟩ (.sel 0 rfl (.sel 1 rfl (.sel 1 rfl (.nil _))))
 intro s95v y96v
 refine sr ?_
 refine vq (q_fa rfl rfl Tryd.underlying37 rfl rfl Tryd.sizeOf3 rfl) rfl ?_
 refine simL_do (re_store 0 rfl rfl rfl Tryd.sizeOf3 rfl rfl (one_of (by rfl)) rfl rfl) rfl rfl ?_
 intro _
 refine simL_ent (H' := [obj b94v 37 [.int .i64 0, .int .i64 s95v.2.2.1, .int .i64 s95v.2.2.2.1, .int .i64 s95v.2.2.2.2.1, .int .i64 s95v.2.2.2.2.2.1, .int .i64 s95v.2.2.2.2.2.2.1, str s95v.2.2.2.2.2.2.2.1, str s95v.2.2.2.2.2.2.2.2.1, str s95v.2.2.2.2.2.2.2.2.2], obj b1v 37 [.int .i64 x0_0, .int .i64 x0_1, .int .i64 x0_2, .int .i64 x0_3, .int .i64 x0_4, .int .i64 x0_5, str x0_6, str x0_7, str x0_8], F]) (Ent.refl _) ?_
 refine simL_nil (nrm_then ?_)
 refine sim_cut (S := Int) (Unit) (fun s y => [(1, .pointer (some ⟨b1v, 0, none⟩)), (7, .pointer (some ⟨b94v, 0, none⟩)), (8, str s95v.1)]) (fun s y => [obj b94v 37 [.int .i64 0, .int .i64 s95v.2.2.1, .int .i64 s95v.2.2.2.1, .int .i64 s95v.2.2.2.2.1, .int .i64 s, .int .i64 s95v.2.2.2.2.2.2.1, str s95v.2.2.2.2.2.2.2.1, str s95v.2.2.2.2.2.2.2.2.1, str s95v.2.2.2.2.2.2.2.2.2], obj b1v 37 [.int .i64 x0_0, .int .i64 x0_1, .int .i64 x0_2, .int .i64 x0_3, .int .i64 x0_4, .int .i64 x0_5, str x0_6, str x0_7, str x0_8], F]) ?_ ?_
 refine sr ?_
 refine vq (q_fa rfl rfl Tryd.underlying37 rfl rfl Tryd.sizeOf3 rfl) rfl ?_
 refine vq (q_load rfl rfl Tryd.isAgg3 (.obj 1 rfl rfl)) rfl ?_
 refine vq (q_eql rfl rfl rfl) rfl (simL_nil (nrm_then ?_))
 refine sim_cond rfl (fun h120v => ?_) (fun h121v => ?_)
 refine sim_region ?_
 refine vq (q_fa rfl rfl Tryd.underlying37 rfl rfl Tryd.sizeOf3 rfl) rfl ?_
 refine simL_do (re_store 0 rfl rfl rfl Tryd.sizeOf3 rfl rfl (one_of (by rfl)) rfl rfl) rfl rfl ?_
 intro _
 refine simL_ent (H' := [obj b94v 37 [.int .i64 0, .int .i64 s95v.2.2.1, .int .i64 s95v.2.2.2.1, .int .i64 s95v.2.2.2.2.1, .int .i64 0, .int .i64 s95v.2.2.2.2.2.2.1, str s95v.2.2.2.2.2.2.2.1, str s95v.2.2.2.2.2.2.2.2.1, str s95v.2.2.2.2.2.2.2.2.2], obj b1v 37 [.int .i64 x0_0, .int .i64 x0_1, .int .i64 x0_2, .int .i64 x0_3, .int .i64 x0_4, .int .i64 x0_5, str x0_6, str x0_7, str x0_8], F]) (Ent.refl _) ?_
 refine simL_nil ?_
 exact nrm_cut (s := 0) () ⟨rfl, rfl, rfl, trivial⟩ (.sel 0 rfl (.sel 0 rfl (.sel 0 rfl (.nil _))))
 refine sim_skip ?_
 exact nrm_cut (s := s95v.2.2.2.2.2.1) () ⟨rfl, rfl, rfl, trivial⟩ (.sel 0 rfl (.sel 0 rfl (.sel 0 rfl (.nil _))))
 intro s118v y119v
 refine sim_cut (S := Int) (Unit) (fun s y => [(1, .pointer (some ⟨b1v, 0, none⟩)), (7, .pointer (some ⟨b94v, 0, none⟩)), (8, str s95v.1)]) (fun s y => [obj b94v 37 [.int .i64 0, .int .i64 s95v.2.2.1, .int .i64 s95v.2.2.2.1, .int .i64 s95v.2.2.2.2.1, .int .i64 s118v, .int .i64 s, str s95v.2.2.2.2.2.2.2.1, str s95v.2.2.2.2.2.2.2.2.1, str s95v.2.2.2.2.2.2.2.2.2], obj b1v 37 [.int .i64 x0_0, .int .i64 x0_1, .int .i64 x0_2, .int .i64 x0_3, .int .i64 x0_4, .int .i64 x0_5, str x0_6, str x0_7, str x0_8], F]) ?_ ?_
 refine sr ?_
 refine vq (q_fa rfl rfl Tryd.underlying37 rfl rfl Tryd.sizeOf3 rfl) rfl ?_
 refine vq (q_load rfl rfl Tryd.isAgg3 (.obj 1 rfl rfl)) rfl ?_
 refine vq (q_eql rfl rfl rfl) rfl (simL_nil (nrm_then ?_))
 refine sim_cond rfl (fun h124v => ?_) (fun h125v => ?_)
 refine sim_region ?_
 refine vq (q_fa rfl rfl Tryd.underlying37 rfl rfl Tryd.sizeOf3 rfl) rfl ?_
 refine simL_do (re_store 0 rfl rfl rfl Tryd.sizeOf3 rfl rfl (one_of (by rfl)) rfl rfl) rfl rfl ?_
 intro _
 refine simL_ent (H' := [obj b94v 37 [.int .i64 0, .int .i64 s95v.2.2.1, .int .i64 s95v.2.2.2.1, .int .i64 s95v.2.2.2.2.1, .int .i64 s118v, .int .i64 0, str s95v.2.2.2.2.2.2.2.1, str s95v.2.2.2.2.2.2.2.2.1, str s95v.2.2.2.2.2.2.2.2.2], obj b1v 37 [.int .i64 x0_0, .int .i64 x0_1, .int .i64 x0_2, .int .i64 x0_3, .int .i64 x0_4, .int .i64 x0_5, str x0_6, str x0_7, str x0_8], F]) (Ent.refl _) ?_
 refine simL_nil ?_
 exact nrm_cut (s := 0) () ⟨rfl, rfl, rfl, trivial⟩ (.sel 0 rfl (.sel 0 rfl (.sel 0 rfl (.nil _))))
 refine sim_skip ?_
 exact nrm_cut (s := s95v.2.2.2.2.2.2.1) () ⟨rfl, rfl, rfl, trivial⟩ (.sel 0 rfl (.sel 0 rfl (.sel 0 rfl (.nil _))))
 intro s122v y123v
 refine sim_seq (sr ?_)
 refine vq (q_loado 0 rfl rfl Tryd.isAgg37 Tryd.sizeOf37 rfl rfl) rfl ?_
 refine vq (q_build (v := .agg #[.int .i64 0, .int .i64 0, .int .i64 0, .int .i64 0, .int .i64 0, .int .i64 0, str ([] : List UInt8), str ([] : List UInt8), str ([] : List UInt8)]) rfl rfl (fun _ => by kernel_rfl)) rfl ?_
 refine vq (q_neagg rfl rfl rfl (by kernel_rfl) (fun d w => eqi_struct Tryd.underlying37 (by kernel_rfl) (eqf_cons (by rfl) (part_of Tryd.isAgg3 rfl) (part_of Tryd.isAgg3 rfl) (eqi_int Tryd.underlying3) (eqf_cons (by rfl) (part_of Tryd.isAgg3 rfl) (part_of Tryd.isAgg3 rfl) (eqi_int Tryd.underlying3) (eqf_cons (by rfl) (part_of Tryd.isAgg3 rfl) (part_of Tryd.isAgg3 rfl) (eqi_int Tryd.underlying3) (eqf_cons (by rfl) (part_of Tryd.isAgg3 rfl) (part_of Tryd.isAgg3 rfl) (eqi_int Tryd.underlying3) (eqf_cons (by rfl) (part_of Tryd.isAgg3 rfl) (part_of Tryd.isAgg3 rfl) (eqi_int Tryd.underlying3) (eqf_cons (by rfl) (part_of Tryd.isAgg3 rfl) (part_of Tryd.isAgg3 rfl) (eqi_int Tryd.underlying3) (eqf_cons (by rfl) (part_of Tryd.isAgg9 rfl) (part_of Tryd.isAgg9 rfl) (eqi_str Tryd.underlying9) (eqf_cons (by rfl) (part_of Tryd.isAgg9 rfl) (part_of Tryd.isAgg9 rfl) (eqi_str Tryd.underlying9) (eqf_last (by rfl) (part_of Tryd.isAgg9 rfl) (part_of Tryd.isAgg9 rfl) (eqi_str Tryd.underlying9)))))))))))) rfl ?_
 refine simL_nil (nrm_then ?_)
 refine sim_condb rfl (fun h126v => ?_) (fun h127v => ?_)
 refine sr ?_
 refine va rfl rfl ?_
 refine va rfl rfl (simL_nil (nrm_then (sim_rtn ?_)))
 refine rtn_then ?_
 exact rtn_fn () rfl rfl rfl (.sel 2 rfl (.nil _))
 refine sim_skip ?_
 refine nrm_then (sim_seq (sr ?_))
 refine vq (q_fa rfl rfl Tryd.underlying37 rfl rfl Tryd.sizeOf3 rfl) rfl ?_
 refine vq (q_load rfl rfl Tryd.isAgg3 (.obj 1 rfl rfl)) rfl ?_
 refine vq (q_eql rfl rfl rfl) rfl ?_
 refine vm rfl rfl ?_
 refine simL_cut' 9 (S := Bool) (Unit) (fun s y => [(1, .pointer (some ⟨b1v, 0, none⟩)), (8, str s95v.1), (128, .bool s)]) (fun s y => [obj b1v 37 [.int .i64 x0_0, .int .i64 x0_1, .int .i64 x0_2, .int .i64 x0_3, .int .i64 x0_4, .int .i64 x0_5, str x0_6, str x0_7, str x0_8], F]) ?_ ?_
 refine simL_casep (fun hb133v => ?_) (fun hb134v => ?_)
 rw [hb133v]
 refine simL_valg (q_fa rfl rfl Tryd.underlying37 rfl rfl Tryd.sizeOf3 rfl) rfl rfl rfl rfl rfl rfl ?_
 refine simL_valg (q_load rfl rfl Tryd.isAgg3 (.obj 1 rfl rfl)) rfl rfl rfl rfl rfl rfl ?_
 refine simL_valg (q_lss rfl rfl rfl) rfl rfl rfl rfl rfl rfl ?_
 refine simL_valg (q_move rfl rfl) rfl rfl rfl rfl rfl rfl ?_
 refine simL_valc (b := decide (x0_3 < (1 : Int))) (fun hb132v => RQ.sub (E' := [(1, .pointer (some ⟨b1v, 0, none⟩))]) ⟨rfl, trivial⟩ (q_fa rfl rfl Tryd.underlying37 rfl rfl Tryd.sizeOf3 rfl)) rfl rfl rfl rfl rfl ?_
 refine simL_valc (b := decide (x0_3 < (1 : Int))) (fun hb131v => RQ.sub (E' := [(124, .pointer (some ⟨b1v, 3, none⟩))]) ⟨lk_cv rfl hb131v, trivial⟩ (q_load rfl rfl Tryd.isAgg3 (.obj 1 rfl rfl))) rfl rfl rfl rfl rfl ?_
 refine simL_valc (b := decide (x0_3 < (1 : Int))) (fun hb130v => RQ.sub (E' := [(125, .int .i64 x0_3)]) ⟨lk_cv rfl hb130v, trivial⟩ (q_gtr rfl rfl rfl)) rfl rfl rfl rfl rfl ?_
 refine simL_valg (q_or rfl rfl rfl) rfl rfl rfl rfl rfl rfl ?_
 refine vq (q_pick rfl rfl rfl rfl rfl) rfl (simL_nil ?_)
 exact nrm_cut (s := (decide (x0_3 < (1 : Int))) || (decide ((9 : Int) < x0_3))) () ⟨rfl, rfl, rfl, trivial⟩ (.sel 1 rfl (.sel 1 rfl (.nil _)))
 rw [hb134v]
 refine simL_skipd rfl rfl rfl rfl rfl rfl ?_
 refine simL_skipd rfl rfl rfl rfl rfl rfl ?_
 refine simL_skipd rfl rfl rfl rfl rfl rfl ?_
 refine simL_skipd rfl rfl rfl rfl rfl rfl ?_
 refine simL_skipu rfl rfl rfl rfl rfl ?_
 refine simL_skipu rfl rfl rfl rfl rfl ?_
 refine simL_skipu rfl rfl rfl rfl rfl ?_
 refine simL_skipd rfl rfl rfl rfl rfl rfl ?_
 refine vq (q_pick rfl rfl rfl rfl rfl) rfl (simL_nil ?_)
 exact nrm_cut (s := false) () ⟨rfl, rfl, rfl, trivial⟩ (.sel 1 rfl (.sel 1 rfl (.nil _)))
 intro s128v y129v
 refine simL_nil (nrm_then ?_)
 refine sim_condb rfl (fun h135v => ?_) (fun h136v => ?_)
 refine sr ?_
 refine va rfl rfl ?_
 refine va rfl rfl (simL_nil (nrm_then (sim_rtn ?_)))
 refine rtn_then ?_
 exact rtn_fn () rfl rfl rfl (.sel 1 rfl (.nil _))
 refine sim_skip ?_
 refine nrm_then (sim_seq (sr ?_))
 refine vq (q_fa rfl rfl Tryd.underlying37 rfl rfl Tryd.sizeOf3 rfl) rfl ?_
 refine vq (q_load rfl rfl Tryd.isAgg3 (.obj 0 rfl rfl)) rfl ?_
 refine simL_bind (fun s137v hs138v => ?_)
 refine simL_eff (re_call (vs := [.int .i64 x0_1]) (cap := []) (A := []) (rst := [obj b1v 37 [.int .i64 x0_0, .int .i64 x0_1, .int .i64 x0_2, .int .i64 x0_3, .int .i64 x0_4, .int .i64 x0_5, str x0_6, str x0_7, str x0_8], F]) rfl rfl rfl rfl rfl rfl Tryd.call53 (.sel 0 rfl (.sel 0 rfl (.nil _))) (synodref17_far.calls _ _ x0_1 ) hs138v) rfl rfl rfl ?_
 intro y139v
 refine vm rfl rfl ?_
 refine simL_cut' 4 (S := Bool) (Unit) (fun s y => [(1, .pointer (some ⟨b1v, 0, none⟩)), (8, str s95v.1), (136, .bool s)]) (fun s y => [obj b1v 37 [.int .i64 x0_0, .int .i64 x0_1, .int .i64 x0_2, .int .i64 x0_3, .int .i64 x0_4, .int .i64 x0_5, str x0_6, str x0_7, str x0_8], F]) ?_ ?_
 refine simL_caseb (fun hb145v => ?_) (fun hb146v => ?_)
 rw [hb145v]
 refine simL_skipd rfl rfl rfl rfl rfl rfl ?_
 refine simL_skipd rfl rfl rfl rfl rfl rfl ?_
 refine simL_skipd rfl rfl rfl rfl rfl rfl ?_
 refine vq (q_pick rfl rfl rfl rfl rfl) rfl (simL_nil ?_)
 exact nrm_cut (s := true) () ⟨rfl, rfl, rfl, trivial⟩ (.sel 0 rfl (.sel 0 rfl (.nil _)))
 rw [hb146v]
 refine simL_valg (q_fa rfl rfl Tryd.underlying37 rfl rfl Tryd.sizeOf3 rfl) rfl rfl rfl rfl rfl rfl ?_
 refine simL_valg (q_load rfl rfl Tryd.isAgg3 (.obj 0 rfl rfl)) rfl rfl rfl rfl rfl rfl ?_
 refine simL_bind (fun s142v hs143v => ?_)
 refine simL_effg (re_call (vs := [.int .i64 x0_2]) (cap := []) (A := []) (rst := [obj b1v 37 [.int .i64 x0_0, .int .i64 x0_1, .int .i64 x0_2, .int .i64 x0_3, .int .i64 x0_4, .int .i64 x0_5, str x0_6, str x0_7, str x0_8], F]) rfl rfl rfl rfl rfl rfl Tryd.call53 (.sel 0 rfl (.sel 0 rfl (.nil _))) (synodref17_far.calls _ _ x0_2 ) hs143v) rfl rfl rfl rfl rfl rfl ?_
 intro y144v
 refine vq (q_pick rfl rfl rfl rfl rfl) rfl (simL_nil ?_)
 exact nrm_cut (s := s142v) () ⟨rfl, rfl, rfl, trivial⟩ (.sel 0 rfl (.sel 0 rfl (.nil _)))
 intro s140v y141v
 refine vm rfl rfl ?_
 refine simL_cut' 4 (S := Bool) (Unit) (fun s y => [(1, .pointer (some ⟨b1v, 0, none⟩)), (8, str s95v.1), (141, .bool s)]) (fun s y => [obj b1v 37 [.int .i64 x0_0, .int .i64 x0_1, .int .i64 x0_2, .int .i64 x0_3, .int .i64 x0_4, .int .i64 x0_5, str x0_6, str x0_7, str x0_8], F]) ?_ ?_
 refine simL_caseb (fun hb152v => ?_) (fun hb153v => ?_)
 rw [hb152v]
 refine simL_skipd rfl rfl rfl rfl rfl rfl ?_
 refine simL_skipd rfl rfl rfl rfl rfl rfl ?_
 refine simL_skipd rfl rfl rfl rfl rfl rfl ?_
 refine vq (q_pick rfl rfl rfl rfl rfl) rfl (simL_nil ?_)
 exact nrm_cut (s := true) () ⟨rfl, rfl, rfl, trivial⟩ (.sel 0 rfl (.sel 0 rfl (.nil _)))
 rw [hb153v]
 refine simL_valg (q_fa rfl rfl Tryd.underlying37 rfl rfl Tryd.sizeOf3 rfl) rfl rfl rfl rfl rfl rfl ?_
 refine simL_valg (q_load rfl rfl Tryd.isAgg3 (.obj 0 rfl rfl)) rfl rfl rfl rfl rfl rfl ?_
 refine simL_bind (fun s149v hs150v => ?_)
 refine simL_effg (re_call (vs := [.int .i64 x0_3]) (cap := []) (A := []) (rst := [obj b1v 37 [.int .i64 x0_0, .int .i64 x0_1, .int .i64 x0_2, .int .i64 x0_3, .int .i64 x0_4, .int .i64 x0_5, str x0_6, str x0_7, str x0_8], F]) rfl rfl rfl rfl rfl rfl Tryd.call53 (.sel 0 rfl (.sel 0 rfl (.nil _))) (synodref17_far.calls _ _ x0_3 ) hs150v) rfl rfl rfl rfl rfl rfl ?_
 intro y151v
 refine vq (q_pick rfl rfl rfl rfl rfl) rfl (simL_nil ?_)
 exact nrm_cut (s := s149v) () ⟨rfl, rfl, rfl, trivial⟩ (.sel 0 rfl (.sel 0 rfl (.nil _)))
 intro s147v y148v
 refine vm rfl rfl ?_
 refine simL_cut' 4 (S := Bool) (Unit) (fun s y => [(1, .pointer (some ⟨b1v, 0, none⟩)), (8, str s95v.1), (146, .bool s)]) (fun s y => [obj b1v 37 [.int .i64 x0_0, .int .i64 x0_1, .int .i64 x0_2, .int .i64 x0_3, .int .i64 x0_4, .int .i64 x0_5, str x0_6, str x0_7, str x0_8], F]) ?_ ?_
 refine simL_caseb (fun hb159v => ?_) (fun hb160v => ?_)
 rw [hb159v]
 refine simL_skipd rfl rfl rfl rfl rfl rfl ?_
 refine simL_skipd rfl rfl rfl rfl rfl rfl ?_
 refine simL_skipd rfl rfl rfl rfl rfl rfl ?_
 refine vq (q_pick rfl rfl rfl rfl rfl) rfl (simL_nil ?_)
 exact nrm_cut (s := true) () ⟨rfl, rfl, rfl, trivial⟩ (.sel 0 rfl (.sel 0 rfl (.nil _)))
 rw [hb160v]
 refine simL_valg (q_fa rfl rfl Tryd.underlying37 rfl rfl Tryd.sizeOf3 rfl) rfl rfl rfl rfl rfl rfl ?_
 refine simL_valg (q_load rfl rfl Tryd.isAgg3 (.obj 0 rfl rfl)) rfl rfl rfl rfl rfl rfl ?_
 refine simL_bind (fun s156v hs157v => ?_)
 refine simL_effg (re_call (vs := [.int .i64 x0_4]) (cap := []) (A := []) (rst := [obj b1v 37 [.int .i64 x0_0, .int .i64 x0_1, .int .i64 x0_2, .int .i64 x0_3, .int .i64 x0_4, .int .i64 x0_5, str x0_6, str x0_7, str x0_8], F]) rfl rfl rfl rfl rfl rfl Tryd.call53 (.sel 0 rfl (.sel 0 rfl (.nil _))) (synodref17_far.calls _ _ x0_4 ) hs157v) rfl rfl rfl rfl rfl rfl ?_
 intro y158v
 refine vq (q_pick rfl rfl rfl rfl rfl) rfl (simL_nil ?_)
 exact nrm_cut (s := s156v) () ⟨rfl, rfl, rfl, trivial⟩ (.sel 0 rfl (.sel 0 rfl (.nil _)))
 intro s154v y155v
 refine vm rfl rfl ?_
 refine simL_cut' 14 (S := Bool) (Unit) (fun s y => [(8, str s95v.1), (161, .bool s)]) (fun s y => [F]) ?_ ?_
 refine simL_caseb (fun hb169v => ?_) (fun hb170v => ?_)
 rw [hb169v]
 refine simL_skipd rfl rfl rfl rfl rfl rfl ?_
 refine simL_skipd rfl rfl rfl rfl rfl rfl ?_
 refine simL_skipd rfl rfl rfl rfl rfl rfl ?_
 refine simL_skipd rfl rfl rfl rfl rfl rfl ?_
 refine simL_skipu rfl rfl rfl rfl rfl ?_
 refine simL_skipu rfl rfl rfl rfl rfl ?_
 refine simL_skipu rfl rfl rfl rfl rfl ?_
 refine simL_skipd rfl rfl rfl rfl rfl rfl ?_
 refine simL_skipd rfl rfl rfl rfl rfl rfl ?_
 refine simL_skipu rfl rfl rfl rfl rfl ?_
 refine simL_skipu rfl rfl rfl rfl rfl ?_
 refine simL_skipu rfl rfl rfl rfl rfl ?_
 refine simL_skipd rfl rfl rfl rfl rfl rfl ?_
 refine vq (q_pick rfl rfl rfl rfl rfl) rfl (simL_nil ?_)
 exact nrm_cut (s := true) () ⟨rfl, rfl, trivial⟩ (.sel 1 rfl (.nil _))
 rw [hb170v]
 refine simL_valg (q_fa rfl rfl Tryd.underlying37 rfl rfl Tryd.sizeOf3 rfl) rfl rfl rfl rfl rfl rfl ?_
 refine simL_valg (q_load rfl rfl Tryd.isAgg3 (.obj 0 rfl rfl)) rfl rfl rfl rfl rfl rfl ?_
 refine simL_valg (q_eql rfl rfl rfl) rfl rfl rfl rfl rfl rfl ?_
 refine simL_valg (q_move rfl rfl) rfl rfl rfl rfl rfl rfl ?_
 refine simL_valc (b := decide (x0_0 = (8 : Int))) (fun hb168v => RQ.sub (E' := [(1, .pointer (some ⟨b1v, 0, none⟩))]) ⟨rfl, trivial⟩ (q_fa rfl rfl Tryd.underlying37 rfl rfl Tryd.sizeOf3 rfl)) rfl rfl rfl rfl rfl ?_
 refine simL_valc (b := decide (x0_0 = (8 : Int))) (fun hb167v => RQ.sub (E' := [(152, .pointer (some ⟨b1v, 4, none⟩))]) ⟨lk_cv rfl hb167v, trivial⟩ (q_load rfl rfl Tryd.isAgg3 (.obj 0 rfl rfl))) rfl rfl rfl rfl rfl ?_
 refine simL_valc (b := decide (x0_0 = (8 : Int))) (fun hb166v => RQ.sub (E' := [(153, .int .i64 x0_4)]) ⟨lk_cv rfl hb166v, trivial⟩ (q_neq rfl rfl rfl)) rfl rfl rfl rfl rfl ?_
 refine simL_valg (q_and rfl rfl rfl) rfl rfl rfl rfl rfl rfl ?_
 refine simL_valg (q_move rfl rfl) rfl rfl rfl rfl rfl rfl ?_
 refine simL_valc (b := (decide (x0_0 = (8 : Int))) && (!decide (x0_4 = (0 : Int)))) (fun hb165v => RQ.sub (E' := [(1, .pointer (some ⟨b1v, 0, none⟩))]) ⟨rfl, trivial⟩ (q_fa rfl rfl Tryd.underlying37 rfl rfl Tryd.sizeOf3 rfl)) rfl rfl rfl rfl rfl ?_
 refine simL_valc (b := (decide (x0_0 = (8 : Int))) && (!decide (x0_4 = (0 : Int)))) (fun hb164v => RQ.sub (E' := [(157, .pointer (some ⟨b1v, 4, none⟩))]) ⟨lk_cv rfl hb164v, trivial⟩ (q_load rfl rfl Tryd.isAgg3 (.obj 0 rfl rfl))) rfl rfl rfl rfl rfl ?_
 refine simL_valc (b := (decide (x0_0 = (8 : Int))) && (!decide (x0_4 = (0 : Int)))) (fun hb163v => RQ.sub (E' := [(158, .int .i64 x0_4)]) ⟨lk_cv rfl hb163v, trivial⟩ (q_neq rfl rfl rfl)) rfl rfl rfl rfl rfl ?_
 refine simL_valg (q_and rfl rfl rfl) rfl rfl rfl rfl rfl rfl ?_
 refine vq (q_pick rfl rfl rfl rfl rfl) rfl (simL_nil ?_)
 exact nrm_cut (s := ((decide (x0_0 = (8 : Int))) && (!decide (x0_4 = (0 : Int)))) && (!decide (x0_4 = (1 : Int)))) () ⟨rfl, rfl, trivial⟩ (.sel 1 rfl (.nil _))
 intro s161v y162v
 refine simL_nil (nrm_then ?_)
 refine sim_condb rfl (fun h171v => ?_) (fun h172v => ?_)
 refine sr ?_
 refine va rfl rfl ?_
 refine va rfl rfl (simL_nil (nrm_then (sim_rtn ?_)))
 refine rtn_then ?_
 exact rtn_fn () rfl rfl rfl (.sel 0 rfl (.nil _))
 refine sim_skip ?_
 refine nrm_then (sim_seq (sr ?_))
 refine vm rfl rfl ?_
 refine vq (q_lens rfl rfl rfl Tryd.underlying9) rfl ?_
 refine vq (q_gtr rfl rfl rfl) rfl (simL_nil (nrm_then ?_))
 refine sim_cond rfl (fun h173v => ?_) (fun h174v => ?_)
 refine sr ?_
 refine va rfl rfl ?_
 refine va rfl rfl (simL_nil (nrm_then (sim_rtn ?_)))
 refine rtn_then ?_
 exact rtn_fn () rfl rfl rfl (.sel 0 rfl (.nil _))
 refine sim_skip ?_
 refine nrm_then (sr ?_)
 refine vm rfl rfl ?_
 refine va rfl rfl ?_
 refine va rfl rfl (simL_nil (nrm_then (sim_rtn ?_)))
 exact rtn_fn () rfl rfl rfl (.sel 0 rfl (.nil _))

def synodlaw17_back.f (x0_0 : Int) (x0_1 : Int) (x0_2 : Int) (x0_3 : Int) (x0_4 : Int) (x0_5 : Int) (x0_6 : List UInt8) (x0_7 : List UInt8) (x0_8 : List UInt8) : Option (Int × Int × Int × Int × Int × Int × List UInt8 × List UInt8 × List UInt8) := some (x0_0, x0_1, x0_2, x0_3, x0_4, x0_5, x0_6, x0_7, x0_8)
theorem synodlaw17_back.calls (W : World) (F : HA) (x0_0 : Int) (x0_1 : Int) (x0_2 : Int) (x0_3 : Int) (x0_4 : Int) (x0_5 : Int) (x0_6 : List UInt8) (x0_7 : List UInt8) (x0_8 : List UInt8)  :
    Fn Tryd.prog W 23 [.agg #[.int .i64 x0_0, .int .i64 x0_1, .int .i64 x0_2, .int .i64 x0_3, .int .i64 x0_4, .int .i64 x0_5, str x0_6, str x0_7, str x0_8]] [] F (synodlaw17_back.f x0_0 x0_1 x0_2 x0_3 x0_4 x0_5 x0_6 x0_7 x0_8) (fun (r : Int × Int × Int × Int × Int × Int × List UInt8 × List UInt8 × List UInt8) (y : Unit) => .agg #[.int .i64 r.1, .int .i64 r.2.1, .int .i64 r.2.2.1, .int .i64 r.2.2.2.1, .int .i64 r.2.2.2.2.1, .int .i64 r.2.2.2.2.2.1, str r.2.2.2.2.2.2.1, str r.2.2.2.2.2.2.2.1, str r.2.2.2.2.2.2.2.2]) (fun r y => []) := by
 unfold synodlaw17_back.f
 refine fn_intro 22 Tryd.func23 rfl Tryd.ntmps23 rfl ?_
 refine sr ?_
 refine simL_eff (re_box rfl rfl rfl) rfl rfl rfl ?_
 intro b1v
 refine simL_eff (re_alloc rfl Tryd.zeroValue34 rfl) rfl rfl rfl ?_
 intro b2v
 refine nx ?_
 refine vq (q_fa rfl rfl Tryd.underlying37 rfl rfl Tryd.sizeOf3 rfl) rfl ?_
 refine vq (q_load rfl rfl Tryd.isAgg3 (.obj 1 rfl rfl)) rfl ?_
 refine vq (q_fa rfl rfl Tryd.underlying37 rfl rfl Tryd.sizeOf3 rfl) rfl ?_
 refine vq (q_load rfl rfl Tryd.isAgg3 (.obj 1 rfl rfl)) rfl ?_
 refine vq (q_fa rfl rfl Tryd.underlying37 rfl rfl Tryd.sizeOf3 rfl) rfl ?_
 refine vq (q_load rfl rfl Tryd.isAgg3 (.obj 1 rfl rfl)) rfl ?_
 refine vq (q_fa rfl rfl Tryd.underlying37 rfl rfl Tryd.sizeOf3 rfl) rfl ?_
 refine vq (q_load rfl rfl Tryd.isAgg3 (.obj 1 rfl rfl)) rfl ?_
 refine vq (q_fa rfl rfl Tryd.underlying37 rfl rfl Tryd.sizeOf3 rfl) rfl ?_
 refine vq (q_load rfl rfl Tryd.isAgg3 (.obj 1 rfl rfl)) rfl ?_
 refine vq (q_fa rfl rfl Tryd.underlying37 rfl rfl Tryd.sizeOf3 rfl) rfl ?_
 refine vq (q_load rfl rfl Tryd.isAgg3 (.obj 1 rfl rfl)) rfl ?_
 refine vq (q_fa rfl rfl Tryd.underlying37 rfl rfl Tryd.sizeOf9 rfl) rfl ?_
 refine vq (q_load rfl rfl Tryd.isAgg9 (.obj 1 rfl rfl)) rfl ?_
 refine vq (q_fa rfl rfl Tryd.underlying37 rfl rfl Tryd.sizeOf9 rfl) rfl ?_
 refine vq (q_load rfl rfl Tryd.isAgg9 (.obj 1 rfl rfl)) rfl ?_
 refine vq (q_fa rfl rfl Tryd.underlying37 rfl rfl Tryd.sizeOf9 rfl) rfl ?_
 refine vq (q_load rfl rfl Tryd.isAgg9 (.obj 1 rfl rfl)) rfl ?_
 refine vq (q_build (v := .agg #[.int .i64 x0_0, .int .i64 x0_1, .int .i64 x0_2, .int .i64 x0_3, .int .i64 x0_4, .int .i64 x0_5, str x0_6, str x0_7, str x0_8]) rfl rfl (fun _ => by kernel_rfl)) rfl ?_
 refine simL_do (re_store 0 rfl rfl rfl Tryd.sizeOf34 rfl rfl (one_of (by rfl)) rfl rfl) rfl rfl ?_
 intro _
 refine simL_ent (H' := [obj b2v 34 [.int .i64 x0_0, .int .i64 x0_1, .int .i64 x0_2, .int .i64 x0_3, .int .i64 x0_4, .int .i64 x0_5, str x0_6, str x0_7, str x0_8], obj b1v 37 [.int .i64 x0_0, .int .i64 x0_1, .int .i64 x0_2, .int .i64 x0_3, .int .i64 x0_4, .int .i64 x0_5, str x0_6, str x0_7, str x0_8], F]) (Ent.refl _) ?_
 refine simL_nil (nrm_then (sim_rtn ?_))
 exact rtn_fnC (vs := [.agg #[.int .i64 x0_0, .int .i64 x0_1, .int .i64 x0_2, .int .i64 x0_3, .int .i64 x0_4, .int .i64 x0_5, str x0_6, str x0_7, str x0_8]]) () rfl ⟨⟨b2v, rfl, load_agg 0 Tryd.isAgg34 Tryd.sizeOf34 rfl rfl⟩, trivial⟩ rfl (.sel 2 rfl (.nil _))
def synodlaw17_back.v (x0_0 : Int) (x0_1 : Int) (x0_2 : Int) (x0_3 : Int) (x0_4 : Int) (x0_5 : Int) (x0_6 : List UInt8) (x0_7 : List UInt8) (x0_8 : List UInt8) : Int × Int × Int × Int × Int × Int × List UInt8 × List UInt8 × List UInt8 := (synodlaw17_back.f x0_0 x0_1 x0_2 x0_3 x0_4 x0_5 x0_6 x0_7 x0_8).getD (0, 0, 0, 0, 0, 0, [], [], [])
theorem synodlaw17_back.tot (x0_0 : Int) (x0_1 : Int) (x0_2 : Int) (x0_3 : Int) (x0_4 : Int) (x0_5 : Int) (x0_6 : List UInt8) (x0_7 : List UInt8) (x0_8 : List UInt8) : synodlaw17_back.f x0_0 x0_1 x0_2 x0_3 x0_4 x0_5 x0_6 x0_7 x0_8 = some (synodlaw17_back.v x0_0 x0_1 x0_2 x0_3 x0_4 x0_5 x0_6 x0_7 x0_8) := by
  have h : ∃ r, synodlaw17_back.f x0_0 x0_1 x0_2 x0_3 x0_4 x0_5 x0_6 x0_7 x0_8 = some r := by
    unfold synodlaw17_back.f
    repeat' (first | exact ⟨_, rfl⟩ | split | simp only [Option.bind_some])
  obtain ⟨r, h⟩ := h
  unfold synodlaw17_back.v
  rw [h]; rfl
end Go.Proofs.YtbcnegennmpliaaDoor

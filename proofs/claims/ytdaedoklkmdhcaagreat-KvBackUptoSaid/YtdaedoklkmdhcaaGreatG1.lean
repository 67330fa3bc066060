/- Printed by gen.py: pure functions and the proofs that the Go functions simulate them. Conditions: as each theorem says. -/
import Derived.Test.YtdaedoklkmdhcaaGreatSh
import Derived.Test.YtdaedoklkmdhcaaGreatProg
namespace Go.Proofs.YtdaedoklkmdhcaaGreat
open Go.RowKit
set_option linter.unusedVariables false
set_option linter.unusedSimpArgs false
set_option maxRecDepth 20000
set_option maxHeartbeats 20000000
theorem elt5 : Elt Tryz.prog 5 1 1 [.int .u8 0] := .of (.int .u8 0) (by kernel_rfl) rfl rfl rfl rfl
abbrev Ty49 : Type := Int × Int × Int × List UInt8 × List UInt8 × List UInt8
abbrev dz49 : Ty49 := ((0 : Int), (0 : Int), (0 : Int), ([] : List UInt8), ([] : List UInt8), ([] : List UInt8))
abbrev Ty45 : Type := Int × List UInt8
abbrev dz45 : Ty45 := ((0 : Int), ([] : List UInt8))
abbrev Ty69 : Type := Int × Int × Int × List UInt8
abbrev dz69 : Ty69 := ((0 : Int), (0 : Int), (0 : Int), ([] : List UInt8))
abbrev enc9 (x : List UInt8) : Value := str x
abbrev enc3 (x : Int) : Value := .int .i64 x
abbrev enc69 (x : Int × Int × Int × List UInt8) : Value := .agg #[.int .i64 x.1, .int .i64 x.2.1, .int .i64 x.2.2.1, str x.2.2.2]
abbrev enc101 (x : Option Nat) : Value := match x with
  | none => .nilFunc
  | some f => .func (.func f) #[] #[]
theorem key9 : KeyT Tryz.prog 9 enc9 := keyT_str Tryz.underlying9
theorem key3 : KeyT Tryz.prog 3 enc3 := keyT_int Tryz.underlying3
theorem elt49 : Elt Tryz.prog 49 6 72 [.int .i64 0, .int .i64 0, .int .i64 0, str ([] : List UInt8), str ([] : List UInt8), str ([] : List UInt8)] := .of (.agg #[.int .i64 0, .int .i64 0, .int .i64 0, str ([] : List UInt8), str ([] : List UInt8), str ([] : List UInt8)]) (by kernel_rfl) rfl rfl rfl rfl
theorem elt45 : Elt Tryz.prog 45 2 24 [.int .i64 0, str ([] : List UInt8)] := .of (.agg #[.int .i64 0, str ([] : List UInt8)]) (by kernel_rfl) rfl rfl rfl rfl
theorem elt3 : Elt Tryz.prog 3 1 8 [.int .i64 0] := .of (.int .i64 0) (by kernel_rfl) rfl rfl rfl rfl
theorem elt69 : Elt Tryz.prog 69 4 40 [.int .i64 0, .int .i64 0, .int .i64 0, str ([] : List UInt8)] := .of (.agg #[.int .i64 0, .int .i64 0, .int .i64 0, str ([] : List UInt8)]) (by kernel_rfl) rfl rfl rfl rfl
theorem elt9 : Elt Tryz.prog 9 1 16 [str ([] : List UInt8)] := .of (str ([] : List UInt8)) (by kernel_rfl) rfl rfl rfl rfl
def V49 (_ : HA) (x : Int × Int × Int × List UInt8 × List UInt8 × List UInt8) (r : List Value) : Prop := r = [.int .i64 x.1, .int .i64 x.2.1, .int .i64 x.2.2.1, str x.2.2.2.1, str x.2.2.2.2.1, str x.2.2.2.2.2]
theorem V49.up {G F : HA} (_ : Up G F) : ∀ x r, V49 G x r → V49 F x r := fun _ _ h => h
def Ok49 (x : Int × Int × Int × List UInt8 × List UInt8 × List UInt8) : Prop := okI .i64 x.1 ∧ okI .i64 x.2.1 ∧ okI .i64 x.2.2.1 ∧ x.2.2.2.1.length ≤ 140737488351232 ∧ x.2.2.2.2.1.length ≤ 140737488351232 ∧ x.2.2.2.2.2.length ≤ 140737488351232
def V45 (_ : HA) (x : Int × List UInt8) (r : List Value) : Prop := r = [.int .i64 x.1, str x.2]
theorem V45.up {G F : HA} (_ : Up G F) : ∀ x r, V45 G x r → V45 F x r := fun _ _ h => h
def Ok45 (x : Int × List UInt8) : Prop := okI .i64 x.1 ∧ x.2.length ≤ 140737488351232
def V3 (_ : HA) (x : Int) (r : List Value) : Prop := r = [.int .i64 x]
theorem V3.up {G F : HA} (_ : Up G F) : ∀ x r, V3 G x r → V3 F x r := fun _ _ h => h
def Ok3 (x : Int) : Prop := okI .i64 x
def V69 (_ : HA) (x : Int × Int × Int × List UInt8) (r : List Value) : Prop := r = [.int .i64 x.1, .int .i64 x.2.1, .int .i64 x.2.2.1, str x.2.2.2]
theorem V69.up {G F : HA} (_ : Up G F) : ∀ x r, V69 G x r → V69 F x r := fun _ _ h => h
def Ok69 (x : Int × Int × Int × List UInt8) : Prop := okI .i64 x.1 ∧ okI .i64 x.2.1 ∧ okI .i64 x.2.2.1 ∧ x.2.2.2.length ≤ 140737488351232
def V9 (_ : HA) (x : List UInt8) (r : List Value) : Prop := r = [str x]
theorem V9.up {G F : HA} (_ : Up G F) : ∀ x r, V9 G x r → V9 F x r := fun _ _ h => h
def Ok9 (x : List UInt8) : Prop := x.length ≤ 140737488351232
theorem mixed : Tryz.prog.follows .mixedOrders = true := by kernel_rfl
def kv_New.f  : Option ((List ((List UInt8) × (List UInt8))) × (List ((Int) × (Ty69)))) := some (([] : List ((List UInt8) × (List UInt8))), ([] : List ((Int) × (Ty69))))
theorem kv_New.calls (W : World) (F : HA)   :
    Fn Tryz.prog W 7 [] [] F (kv_New.f ) (fun (r : (List ((List UInt8) × (List UInt8))) × (List ((Int) × (Ty69)))) (y : Nat × Nat × Nat) => .pointer (some ⟨y.1, 0, none⟩)) (fun r y => [obj y.1 58 [.map (some y.2.1), .map (some y.2.2)], mapO y.2.1 enc9 enc9 r.1, mapO y.2.2 enc3 enc69 r.2]) := by
 unfold kv_New.f
 refine fn_intro 5 Tryz.func7 rfl Tryz.ntmps7 rfl ?_
 refine sr ?_
 refine va rfl rfl (nx ?_)
 refine simL_eff (re_mkmap (ek := enc9) (ev := enc9) rfl) rfl rfl rfl ?_
 intro b1v
 refine simL_eff (re_mkmap (ek := enc3) (ev := enc69) rfl) rfl rfl rfl ?_
 intro b2v
 refine vq (q_build (v := .agg #[.map (some b1v), .map (some b2v)]) rfl rfl (fun _ => by kernel_rfl)) rfl ?_
 refine simL_eff (re_box rfl rfl rfl) rfl rfl rfl ?_
 intro b3v
 refine va rfl rfl (simL_nil (nrm_then (sim_rtn ?_)))
 exact rtn_fn (b3v, b1v, b2v) rfl rfl rfl (.sel 0 rfl (.sel 1 rfl (.sel 0 rfl (.sel 0 rfl (.nil _)))))

def codec_within.f (x0 : Int) (x1 : Int) : Option (Bool) := some ((decide (x1 ≤ x0)) && (decide (x0 ≤ (4611686018427387904 : Int))))
theorem codec_within.calls (W : World) (F : HA) (x0 : Int) (x1 : Int)  :
    Fn Tryz.prog W 81 [.int .i64 x0, .int .i64 x1] [] F (codec_within.f x0 x1) (fun (r : Bool) (y : Unit) => .bool r) (fun r y => []) := by
 unfold codec_within.f
 refine fn_intro 12 Tryz.func81 rfl Tryz.ntmps81 rfl ?_
 refine sr ?_
 refine va rfl rfl (nx ?_)
 refine vm rfl rfl ?_
 refine vm rfl rfl ?_
 refine vq (q_geq rfl rfl rfl) rfl ?_
 refine vm rfl rfl ?_
 refine simL_valc (b := decide (x1 ≤ x0)) (fun hb2v => RQ.sub (E' := [(0, .int .i64 x0)]) ⟨rfl, trivial⟩ (q_move rfl rfl)) rfl rfl rfl rfl rfl ?_
 refine simL_valc (b := decide (x1 ≤ x0)) (fun hb1v => RQ.sub (E' := [(9, .int .i64 x0)]) ⟨lk_cv rfl hb1v, trivial⟩ (q_leq rfl rfl rfl)) rfl rfl rfl rfl rfl ?_
 refine vq (q_and rfl rfl rfl) rfl ?_
 refine va rfl rfl (simL_nil (nrm_then (sim_rtn ?_)))
 exact rtn_fn () rfl rfl rfl (.sel 0 rfl (.nil _))
def codec_within.v (x0 : Int) (x1 : Int) : Bool := (codec_within.f x0 x1).getD false
theorem codec_within.tot (x0 : Int) (x1 : Int) : codec_within.f x0 x1 = some (codec_within.v x0 x1) := by
  have h : ∃ r, codec_within.f x0 x1 = some r := by
    unfold codec_within.f
    repeat' (first | exact ⟨_, rfl⟩ | split | simp only [Option.bind_some])
  obtain ⟨r, h⟩ := h
  unfold codec_within.v
  rw [h]; rfl

def codec_Commands_Check.f (x1_0 : Int) (x1_1 : Int) (x1_2 : Int) (x1_3 : List UInt8) (x1_4 : List UInt8) (x1_5 : List UInt8) : Option (Int) := if (((!decide (x1_0 = (2 : Int))) && (!decide (x1_0 = (3 : Int)))) && (!decide (x1_0 = (4 : Int)))) = true then (some 6) else ((codec_within.f x1_1 (1 : Int)).bind fun s5v => ((if (!s5v) = true then (some true) else ((codec_within.f x1_2 (1 : Int)).bind fun s10v => (some (!s10v)))).bind fun s8v => (if s8v = true then (some 1) else (if (((decide ((64 : Int) < (x1_3.length : Int))) || (decide ((1024 : Int) < (x1_4.length : Int)))) || (decide ((1024 : Int) < (x1_5.length : Int)))) = true then (some 3) else ((if x1_3 = ([] : List UInt8) then (some true) else (some ((decide (x1_0 = (3 : Int))) && (!decide (x1_4 = ([] : List UInt8)))))).bind fun s19v => ((if s19v = true then (some true) else (some ((!decide (x1_0 = (4 : Int))) && (!decide (x1_5 = ([] : List UInt8)))))).bind fun s26v => (if s26v = true then (some 4) else (some 0))))))))
theorem codec_Commands_Check.calls (W : World) (F : HA) (x1_0 : Int) (x1_1 : Int) (x1_2 : Int) (x1_3 : List UInt8) (x1_4 : List UInt8) (x1_5 : List UInt8)  :
    Fn Tryz.prog W 45 [.agg #[], .agg #[.int .i64 x1_0, .int .i64 x1_1, .int .i64 x1_2, str x1_3, str x1_4, str x1_5]] [] F (codec_Commands_Check.f x1_0 x1_1 x1_2 x1_3 x1_4 x1_5) (fun (r : Int) (y : Unit) => .int .i64 r) (fun r y => []) := by
 unfold codec_Commands_Check.f
 refine fn_intro 71 Tryz.func45 rfl Tryz.ntmps45 rfl ?_
 refine sr ?_
 refine simL_eff (re_box rfl rfl rfl) rfl rfl rfl ?_
 intro b1v
 refine simL_eff (re_box rfl rfl rfl) rfl rfl rfl ?_
 intro b2v
 refine va rfl rfl (simL_nil (nrm_then (sim_seq ?_)))
 refine sim_block ?_
 refine sr ?_
 refine vq (q_fa rfl rfl Tryz.underlying49 rfl rfl Tryz.sizeOf3 rfl) rfl ?_
 refine vq (q_load rfl rfl Tryz.isAgg3 (.obj 0 rfl rfl)) rfl ?_
 refine vq (q_neq rfl rfl rfl) rfl ?_
 refine vm rfl rfl ?_
 refine simL_valc (b := !decide (x1_0 = (2 : Int))) (fun hb48v => RQ.sub (E' := [(3, .pointer (some ⟨b2v, 0, none⟩))]) ⟨rfl, trivial⟩ (q_fa rfl rfl Tryz.underlying49 rfl rfl Tryz.sizeOf3 rfl)) rfl rfl rfl rfl rfl ?_
 refine simL_valc (b := !decide (x1_0 = (2 : Int))) (fun hb47v => RQ.sub (E' := [(10, .pointer (some ⟨b2v, 0, none⟩))]) ⟨lk_cv rfl hb47v, trivial⟩ (q_load rfl rfl Tryz.isAgg3 (.obj 0 rfl rfl))) rfl rfl rfl rfl rfl ?_
 refine simL_valc (b := !decide (x1_0 = (2 : Int))) (fun hb46v => RQ.sub (E' := [(11, .int .i64 x1_0)]) ⟨lk_cv rfl hb46v, trivial⟩ (q_neq rfl rfl rfl)) rfl rfl rfl rfl rfl ?_
 refine vq (q_and rfl rfl rfl) rfl ?_
 refine vm rfl rfl ?_
 refine simL_valc (b := (!decide (x1_0 = (2 : Int))) && (!decide (x1_0 = (3 : Int)))) (fun hb45v => RQ.sub (E' := [(3, .pointer (some ⟨b2v, 0, none⟩))]) ⟨rfl, trivial⟩ (q_fa rfl rfl Tryz.underlying49 rfl rfl Tryz.sizeOf3 rfl)) rfl rfl rfl rfl rfl ?_
 refine simL_valc (b := (!decide (x1_0 = (2 : Int))) && (!decide (x1_0 = (3 : Int)))) (fun hb44v => RQ.sub (E' := [(15, .pointer (some ⟨b2v, 0, none⟩))]) ⟨lk_cv rfl hb44v, trivial⟩ (q_load rfl rfl Tryz.isAgg3 (.obj 0 rfl rfl))) rfl rfl rfl rfl rfl ?_
 refine simL_valc (b := (!decide (x1_0 = (2 : Int))) && (!decide (x1_0 = (3 : Int)))) (fun hb43v => RQ.sub (E' := [(16, .int .i64 x1_0)]) ⟨lk_cv rfl hb43v, trivial⟩ (q_neq rfl rfl rfl)) rfl rfl rfl rfl rfl ?_
 refine vq (q_and rfl rfl rfl) rfl ?_
 refine va rfl rfl (simL_nil (nrm_then ?_))
 refine sim_condb rfl (fun h3v => ?_) (fun h4v => ?_)
 refine sr ?_
 refine va rfl rfl (simL_nil (nrm_then (sim_rtn ?_)))
 refine rtn_block ?_
 refine rtn_then ?_
 exact rtn_fn () rfl rfl rfl (.sel 2 rfl (.nil _))
 refine sr ?_
 refine vq (q_fa rfl rfl Tryz.underlying49 rfl rfl Tryz.sizeOf3 rfl) rfl ?_
 refine vq (q_load rfl rfl Tryz.isAgg3 (.obj 0 rfl rfl)) rfl ?_
 refine simL_bind (fun s5v hs6v => ?_)
 refine simL_eff (re_call (vs := [.int .i64 x1_1, .int .i64 1]) (cap := []) (A := []) (rst := [obj b2v 49 [.int .i64 x1_0, .int .i64 x1_1, .int .i64 x1_2, str x1_3, str x1_4, str x1_5], obj b1v 98 [], F]) rfl rfl rfl rfl rfl rfl Tryz.call81 (.sel 0 rfl (.sel 0 rfl (.sel 0 rfl (.nil _)))) (codec_within.calls _ _ x1_1 (1 : Int) ) hs6v) rfl rfl rfl ?_
 intro y7v
 refine vq (q_not rfl rfl) rfl ?_
 refine vm rfl rfl ?_
 refine simL_cut' 5 (S := Bool) (Unit) (fun s y => [(3, .pointer (some ⟨b2v, 0, none⟩)), (29, .bool s)]) (fun s y => [obj b2v 49 [.int .i64 x1_0, .int .i64 x1_1, .int .i64 x1_2, str x1_3, str x1_4, str x1_5], F]) ?_ ?_
 refine simL_caseb (fun hb13v => ?_) (fun hb14v => ?_)
 rw [hb13v]
 refine simL_skipd rfl rfl rfl rfl rfl rfl ?_
 refine simL_skipd rfl rfl rfl rfl rfl rfl ?_
 refine simL_skipd rfl rfl rfl rfl rfl rfl ?_
 refine simL_skipd rfl rfl rfl rfl rfl rfl ?_
 refine vq (q_pick rfl rfl rfl rfl rfl) rfl (simL_nil ?_)
 exact nrm_cut (s := true) () ⟨rfl, rfl, trivial⟩ (.sel 0 rfl (.sel 1 rfl (.nil _)))
 rw [hb14v]
 refine simL_valg (q_fa rfl rfl Tryz.underlying49 rfl rfl Tryz.sizeOf3 rfl) rfl rfl rfl rfl rfl rfl ?_
 refine simL_valg (q_load rfl rfl Tryz.isAgg3 (.obj 0 rfl rfl)) rfl rfl rfl rfl rfl rfl ?_
 refine simL_bind (fun s10v hs11v => ?_)
 refine simL_effg (re_call (vs := [.int .i64 x1_2, .int .i64 1]) (cap := []) (A := []) (rst := [obj b2v 49 [.int .i64 x1_0, .int .i64 x1_1, .int .i64 x1_2, str x1_3, str x1_4, str x1_5], obj b1v 98 [], F]) rfl rfl rfl rfl rfl rfl Tryz.call81 (.sel 0 rfl (.sel 0 rfl (.sel 0 rfl (.nil _)))) (codec_within.calls _ _ x1_2 (1 : Int) ) hs11v) rfl rfl rfl rfl rfl rfl ?_
 intro y12v
 refine simL_valg (q_not rfl rfl) rfl rfl rfl rfl rfl rfl ?_
 refine vq (q_pick rfl rfl rfl rfl rfl) rfl (simL_nil ?_)
 exact nrm_cut (s := !s10v) () ⟨rfl, rfl, trivial⟩ (.sel 0 rfl (.sel 1 rfl (.nil _)))
 intro s8v y9v
 refine va rfl rfl (simL_nil (nrm_then ?_))
 refine sim_condb rfl (fun h15v => ?_) (fun h16v => ?_)
 refine sr ?_
 refine va rfl rfl (simL_nil (nrm_then (sim_rtn ?_)))
 refine rtn_block ?_
 refine rtn_then ?_
 exact rtn_fn () rfl rfl rfl (.sel 1 rfl (.nil _))
 refine sr ?_
 refine vq (q_fa rfl rfl Tryz.underlying49 rfl rfl Tryz.sizeOf9 rfl) rfl ?_
 refine vq (q_load rfl rfl Tryz.isAgg9 (.obj 0 rfl rfl)) rfl ?_
 refine vq (q_lens rfl rfl rfl Tryz.underlying9) rfl ?_
 refine vq (q_gtr rfl rfl rfl) rfl ?_
 refine vm rfl rfl ?_
 refine simL_valc (b := decide ((64 : Int) < (x1_3.length : Int))) (fun hb42v => RQ.sub (E' := [(3, .pointer (some ⟨b2v, 0, none⟩))]) ⟨rfl, trivial⟩ (q_fa rfl rfl Tryz.underlying49 rfl rfl Tryz.sizeOf9 rfl)) rfl rfl rfl rfl rfl ?_
 refine simL_valc (b := decide ((64 : Int) < (x1_3.length : Int))) (fun hb41v => RQ.sub (E' := [(36, .pointer (some ⟨b2v, 4, none⟩))]) ⟨lk_cv rfl hb41v, trivial⟩ (q_load rfl rfl Tryz.isAgg9 (.obj 0 rfl rfl))) rfl rfl rfl rfl rfl ?_
 refine simL_valc (b := decide ((64 : Int) < (x1_3.length : Int))) (fun hb40v => RQ.sub (E' := [(37, str x1_4)]) ⟨lk_cv rfl hb40v, trivial⟩ (q_lens rfl rfl rfl Tryz.underlying9)) rfl rfl rfl rfl rfl ?_
 refine simL_valc (b := decide ((64 : Int) < (x1_3.length : Int))) (fun hb39v => RQ.sub (E' := [(38, .int .i64 (x1_4.length : Int))]) ⟨lk_cv rfl hb39v, trivial⟩ (q_gtr rfl rfl rfl)) rfl rfl rfl rfl rfl ?_
 refine vq (q_or rfl rfl rfl) rfl ?_
 refine vm rfl rfl ?_
 refine simL_valc (b := (decide ((64 : Int) < (x1_3.length : Int))) || (decide ((1024 : Int) < (x1_4.length : Int)))) (fun hb38v => RQ.sub (E' := [(3, .pointer (some ⟨b2v, 0, none⟩))]) ⟨rfl, trivial⟩ (q_fa rfl rfl Tryz.underlying49 rfl rfl Tryz.sizeOf9 rfl)) rfl rfl rfl rfl rfl ?_
 refine simL_valc (b := (decide ((64 : Int) < (x1_3.length : Int))) || (decide ((1024 : Int) < (x1_4.length : Int)))) (fun hb37v => RQ.sub (E' := [(42, .pointer (some ⟨b2v, 5, none⟩))]) ⟨lk_cv rfl hb37v, trivial⟩ (q_load rfl rfl Tryz.isAgg9 (.obj 0 rfl rfl))) rfl rfl rfl rfl rfl ?_
 refine simL_valc (b := (decide ((64 : Int) < (x1_3.length : Int))) || (decide ((1024 : Int) < (x1_4.length : Int)))) (fun hb36v => RQ.sub (E' := [(43, str x1_5)]) ⟨lk_cv rfl hb36v, trivial⟩ (q_lens rfl rfl rfl Tryz.underlying9)) rfl rfl rfl rfl rfl ?_
 refine simL_valc (b := (decide ((64 : Int) < (x1_3.length : Int))) || (decide ((1024 : Int) < (x1_4.length : Int)))) (fun hb35v => RQ.sub (E' := [(44, .int .i64 (x1_5.length : Int))]) ⟨lk_cv rfl hb35v, trivial⟩ (q_gtr rfl rfl rfl)) rfl rfl rfl rfl rfl ?_
 refine vq (q_or rfl rfl rfl) rfl ?_
 refine va rfl rfl (simL_nil (nrm_then ?_))
 refine sim_condb rfl (fun h17v => ?_) (fun h18v => ?_)
 refine sr ?_
 refine va rfl rfl (simL_nil (nrm_then (sim_rtn ?_)))
 refine rtn_block ?_
 refine rtn_then ?_
 exact rtn_fn () rfl rfl rfl (.sel 1 rfl (.nil _))
 refine sr ?_
 refine vq (q_fa rfl rfl Tryz.underlying49 rfl rfl Tryz.sizeOf9 rfl) rfl ?_
 refine vq (q_load rfl rfl Tryz.isAgg9 (.obj 0 rfl rfl)) rfl ?_
 refine vq (q_eqs rfl rfl rfl) rfl ?_
 refine vm rfl rfl ?_
 refine simL_cut' 9 (S := Bool) (Unit) (fun s y => [(3, .pointer (some ⟨b2v, 0, none⟩)), (60, .bool s)]) (fun s y => [obj b2v 49 [.int .i64 x1_0, .int .i64 x1_1, .int .i64 x1_2, str x1_3, str x1_4, str x1_5], F]) ?_ ?_
 refine simL_casep (fun hb24v => ?_) (fun hb25v => ?_)
 rw [hb24v]
 refine simL_skipd rfl rfl rfl rfl rfl rfl ?_
 refine simL_skipd rfl rfl rfl rfl rfl rfl ?_
 refine simL_skipd rfl rfl rfl rfl rfl rfl ?_
 refine simL_skipd rfl rfl rfl rfl rfl rfl ?_
 refine simL_skipu rfl rfl rfl rfl rfl ?_
 refine simL_skipu rfl rfl rfl rfl rfl ?_
 refine simL_skipu rfl rfl rfl rfl rfl ?_
 refine simL_skipd rfl rfl rfl rfl rfl rfl ?_
 refine vq (q_pick rfl rfl rfl rfl rfl) rfl (simL_nil ?_)
 exact nrm_cut (s := true) () ⟨rfl, rfl, trivial⟩ (.sel 0 rfl (.sel 0 rfl (.nil _)))
 rw [hb25v]
 refine simL_valg (q_fa rfl rfl Tryz.underlying49 rfl rfl Tryz.sizeOf3 rfl) rfl rfl rfl rfl rfl rfl ?_
 refine simL_valg (q_load rfl rfl Tryz.isAgg3 (.obj 0 rfl rfl)) rfl rfl rfl rfl rfl rfl ?_
 refine simL_valg (q_eql rfl rfl rfl) rfl rfl rfl rfl rfl rfl ?_
 refine simL_valg (q_move rfl rfl) rfl rfl rfl rfl rfl rfl ?_
 refine simL_valc (b := decide (x1_0 = (3 : Int))) (fun hb23v => RQ.sub (E' := [(3, .pointer (some ⟨b2v, 0, none⟩))]) ⟨rfl, trivial⟩ (q_fa rfl rfl Tryz.underlying49 rfl rfl Tryz.sizeOf9 rfl)) rfl rfl rfl rfl rfl ?_
 refine simL_valc (b := decide (x1_0 = (3 : Int))) (fun hb22v => RQ.sub (E' := [(56, .pointer (some ⟨b2v, 4, none⟩))]) ⟨lk_cv rfl hb22v, trivial⟩ (q_load rfl rfl Tryz.isAgg9 (.obj 0 rfl rfl))) rfl rfl rfl rfl rfl ?_
 refine simL_valc (b := decide (x1_0 = (3 : Int))) (fun hb21v => RQ.sub (E' := [(57, str x1_4)]) ⟨lk_cv rfl hb21v, trivial⟩ (q_nes rfl rfl rfl)) rfl rfl rfl rfl rfl ?_
 refine simL_valg (q_and rfl rfl rfl) rfl rfl rfl rfl rfl rfl ?_
 refine vq (q_pick rfl rfl rfl rfl rfl) rfl (simL_nil ?_)
 exact nrm_cut (s := (decide (x1_0 = (3 : Int))) && (!decide (x1_4 = ([] : List UInt8)))) () ⟨rfl, rfl, trivial⟩ (.sel 0 rfl (.sel 0 rfl (.nil _)))
 intro s19v y20v
 refine vm rfl rfl ?_
 refine simL_cut' 9 (S := Bool) (Unit) (fun s y => [(70, .bool s)]) (fun s y => [F]) ?_ ?_
 refine simL_caseb (fun hb31v => ?_) (fun hb32v => ?_)
 rw [hb31v]
 refine simL_skipd rfl rfl rfl rfl rfl rfl ?_
 refine simL_skipd rfl rfl rfl rfl rfl rfl ?_
 refine simL_skipd rfl rfl rfl rfl rfl rfl ?_
 refine simL_skipd rfl rfl rfl rfl rfl rfl ?_
 refine simL_skipu rfl rfl rfl rfl rfl ?_
 refine simL_skipu rfl rfl rfl rfl rfl ?_
 refine simL_skipu rfl rfl rfl rfl rfl ?_
 refine simL_skipd rfl rfl rfl rfl rfl rfl ?_
 refine vq (q_pick rfl rfl rfl rfl rfl) rfl (simL_nil ?_)
 exact nrm_cut (s := true) () ⟨rfl, trivial⟩ (.sel 1 rfl (.nil _))
 rw [hb32v]
 refine simL_valg (q_fa rfl rfl Tryz.underlying49 rfl rfl Tryz.sizeOf3 rfl) rfl rfl rfl rfl rfl rfl ?_
 refine simL_valg (q_load rfl rfl Tryz.isAgg3 (.obj 0 rfl rfl)) rfl rfl rfl rfl rfl rfl ?_
 refine simL_valg (q_neq rfl rfl rfl) rfl rfl rfl rfl rfl rfl ?_
 refine simL_valg (q_move rfl rfl) rfl rfl rfl rfl rfl rfl ?_
 refine simL_valc (b := !decide (x1_0 = (4 : Int))) (fun hb30v => RQ.sub (E' := [(3, .pointer (some ⟨b2v, 0, none⟩))]) ⟨rfl, trivial⟩ (q_fa rfl rfl Tryz.underlying49 rfl rfl Tryz.sizeOf9 rfl)) rfl rfl rfl rfl rfl ?_
 refine simL_valc (b := !decide (x1_0 = (4 : Int))) (fun hb29v => RQ.sub (E' := [(66, .pointer (some ⟨b2v, 5, none⟩))]) ⟨lk_cv rfl hb29v, trivial⟩ (q_load rfl rfl Tryz.isAgg9 (.obj 0 rfl rfl))) rfl rfl rfl rfl rfl ?_
 refine simL_valc (b := !decide (x1_0 = (4 : Int))) (fun hb28v => RQ.sub (E' := [(67, str x1_5)]) ⟨lk_cv rfl hb28v, trivial⟩ (q_nes rfl rfl rfl)) rfl rfl rfl rfl rfl ?_
 refine simL_valg (q_and rfl rfl rfl) rfl rfl rfl rfl rfl rfl ?_
 refine vq (q_pick rfl rfl rfl rfl rfl) rfl (simL_nil ?_)
 exact nrm_cut (s := (!decide (x1_0 = (4 : Int))) && (!decide (x1_5 = ([] : List UInt8)))) () ⟨rfl, trivial⟩ (.sel 1 rfl (.nil _))
 intro s26v y27v
 refine va rfl rfl (simL_nil (nrm_then ?_))
 refine sim_condb rfl (fun h33v => ?_) (fun h34v => ?_)
 refine sr ?_
 refine va rfl rfl (simL_nil (nrm_then (sim_rtn ?_)))
 refine rtn_block ?_
 refine rtn_then ?_
 exact rtn_fn () rfl rfl rfl (.sel 0 rfl (.nil _))
 refine sim_skip ?_
 refine nrm_block (nrm_then (sr ?_))
 refine va rfl rfl (simL_nil (nrm_then (sim_rtn ?_)))
 exact rtn_fn () rfl rfl rfl (.sel 0 rfl (.nil _))

def kv_operations_1.f (x0_0 : List ((List UInt8) × (List UInt8))) (x0_1 : List ((Int) × (Ty69))) (x1_0 : Int) (x1_1 : Int) (x1_2 : Int) (x1_3 : List UInt8) (x1_4 : List UInt8) (x1_5 : List UInt8) : Option (Int × List UInt8 × (List ((List UInt8) × (List UInt8))) × (List ((Int) × (Ty69)))) := if ((!((mget x0_0 x1_3).isSome)) && (decide ((128 : Int) ≤ (x0_0.length : Int)))) = true then (some (5, ([] : List UInt8), x0_0, x0_1)) else (some (1, ([] : List UInt8), mput x0_0 x1_3 x1_4, x0_1))
theorem kv_operations_1.calls (W : World) (F : HA) (b0 : Nat) (m0_0 : Nat) (x0_0 : List ((List UInt8) × (List UInt8))) (m0_1 : Nat) (x0_1 : List ((Int) × (Ty69))) (x1_0 : Int) (x1_1 : Int) (x1_2 : Int) (x1_3 : List UInt8) (x1_4 : List UInt8) (x1_5 : List UInt8)  :
    Fn Tryz.prog W 82 [.pointer (some ⟨b0, 0, none⟩), .agg #[.int .i64 x1_0, .int .i64 x1_1, .int .i64 x1_2, str x1_3, str x1_4, str x1_5]] [obj b0 58 [.map (some m0_0), .map (some m0_1)], mapO m0_0 enc9 enc9 x0_0, mapO m0_1 enc3 enc69 x0_1] F (kv_operations_1.f x0_0 x0_1 x1_0 x1_1 x1_2 x1_3 x1_4 x1_5) (fun (r : Int × List UInt8 × (List ((List UInt8) × (List UInt8))) × (List ((Int) × (Ty69)))) (y : Nat × Nat) => .agg #[.int .i64 r.1, str r.2.1]) (fun r y => [obj b0 58 [.map (some y.1), .map (some y.2)], mapO y.1 enc9 enc9 r.2.2.1, mapO y.2 enc3 enc69 r.2.2.2]) := by
 unfold kv_operations_1.f
 refine fn_intro 37 Tryz.func82 rfl Tryz.ntmps82 rfl ?_
 refine sr ?_
 refine simL_eff (re_box rfl rfl rfl) rfl rfl rfl ?_
 intro b1v
 refine simL_eff (re_alloc rfl Tryz.zeroValue45 rfl) rfl rfl rfl ?_
 intro b2v
 refine simL_nil (nrm_then (sim_seq (sim_seq ?_)))
 refine sim_draw (Γ := Unit) () [[], [0], [0, 1], [0, 1, 2], [], [4], rL 6, rL 7, rL 8, rL 8, rL 9, rL 11] [] [0, 1, 2, 3, 4, 5, 6, 7, 8, 9, 10, 11] (fun i => [[0], [0], [0], [0], [0], [0], [0], [0], [0], [0], [0], [0]].getD i []) (fun i => [[], [], [], [], [], [], [], [], [], [], [], []].getD i []) (fun γ i => [.pointer (some ⟨b0, 0, none⟩), .pointer (some ⟨b0, 0, none⟩), .pointer (some ⟨b0, 0, none⟩), .map (some m0_0), .pointer (some ⟨b1v, 3, none⟩), str x1_3, .tuple #[str ((mget x0_0 x1_3).getD ([] : List UInt8)), .bool ((mget x0_0 x1_3).isSome)], .tuple #[str ((mget x0_0 x1_3).getD ([] : List UInt8)), .bool ((mget x0_0 x1_3).isSome)], str ((mget x0_0 x1_3).getD ([] : List UInt8)), .bool ((mget x0_0 x1_3).isSome), str ((mget x0_0 x1_3).getD ([] : List UInt8)), .bool ((mget x0_0 x1_3).isSome)].getD i undef) (fun j γ => [[obj b2v 45 [.int .i64 0, str ([] : List UInt8)], obj b1v 49 [.int .i64 x1_0, .int .i64 x1_1, .int .i64 x1_2, str x1_3, str x1_4, str x1_5], obj b0 58 [.map (some m0_0), .map (some m0_1)], mapO m0_0 enc9 enc9 x0_0, mapO m0_1 enc3 enc69 x0_1, F]].getD j []) (fun γ => [(0, .pointer (some ⟨b0, 0, none⟩)), (3, .pointer (some ⟨b1v, 0, none⟩)), (4, .pointer (some ⟨b2v, 0, none⟩)), (6, .bool ((mget x0_0 x1_3).isSome))]) mixed (by decide) (by decide) (by decide) (by decide) (by decide) (by decide) (by decide) 37 rfl (by decide) (by decide) (by decide) (Ent.refl _) ?_ ?_ (fun _ => ⟨rfl, rfl, rfl, rfl, trivial⟩) ?_
 exact (aq rfl (fun γ => qm rfl (.o (s := 0) rfl (by decide) .nil) rfl) (aq rfl (fun γ => qp rfl rfl (.v 0 rfl rfl .nil) (q_nil rfl rfl) rfl) (aq rfl (fun γ => qp rfl rfl (.v 1 rfl rfl .nil) (q_fa rfl rfl Tryz.underlying58 rfl rfl Tryz.sizeOf55 rfl) rfl) (aq rfl (fun γ => qp rfl rfl (.v 2 rfl rfl .nil) (q_load rfl rfl Tryz.isAgg55 (.obj 2 rfl rfl)) rfl) (aq rfl (fun γ => qp rfl rfl (.o (s := 3) rfl (by decide) .nil) (q_fa rfl rfl Tryz.underlying49 rfl rfl Tryz.sizeOf9 rfl) rfl) (aq rfl (fun γ => qp rfl rfl (.v 4 rfl rfl .nil) (q_load rfl rfl Tryz.isAgg9 (.obj 1 rfl rfl)) rfl) (aq rfl (fun γ => qp rfl rfl (.v 3 rfl rfl (.v 5 rfl rfl .nil)) ((q_mlook2 (ek := enc9) (ev := enc9) (z := ([] : List UInt8)) 3 x1_3 rfl rfl rfl Tryz.underlying55 key9 Tryz.zeroValue9 rfl : RQ _ _ _ _ (.tuple #[str ((mget x0_0 x1_3).getD ([] : List UInt8)), .bool ((mget x0_0 x1_3).isSome)]))) rfl) (aq rfl (fun γ => qm rfl (.v 6 rfl rfl .nil) rfl) (aq rfl (fun γ => qp rfl rfl (.v 7 rfl rfl .nil) (q_ext rfl rfl rfl) rfl) (aq rfl (fun γ => qp rfl rfl (.v 7 rfl rfl .nil) (q_ext rfl rfl rfl) rfl) (aq rfl (fun γ => qp rfl rfl (.v 8 rfl rfl .nil) (q_asg rfl rfl) rfl) (aq rfl (fun γ => qp rfl rfl (.v 9 rfl rfl .nil) (q_asg rfl rfl) rfl) zA))))))))))))
 exact zA
 intro g3v
 refine nrm_then (sr ?_)
 refine vm rfl rfl ?_
 refine vq (q_not rfl rfl) rfl ?_
 refine vm rfl rfl ?_
 refine simL_valc (b := !((mget x0_0 x1_3).isSome)) (fun hb12v => RQ.sub (E' := [(0, .pointer (some ⟨b0, 0, none⟩))]) ⟨rfl, trivial⟩ (q_move rfl rfl)) rfl rfl rfl rfl rfl ?_
 refine simL_valc (b := !((mget x0_0 x1_3).isSome)) (fun hb11v => RQ.sub (E' := [(20, .pointer (some ⟨b0, 0, none⟩))]) ⟨lk_cv rfl hb11v, trivial⟩ (q_nil rfl rfl)) rfl rfl rfl rfl rfl ?_
 refine simL_valc (b := !((mget x0_0 x1_3).isSome)) (fun hb10v => RQ.sub (E' := [(21, .pointer (some ⟨b0, 0, none⟩))]) ⟨lk_cv rfl hb10v, trivial⟩ (q_fa rfl rfl Tryz.underlying58 rfl rfl Tryz.sizeOf55 rfl)) rfl rfl rfl rfl rfl ?_
 refine simL_valc (b := !((mget x0_0 x1_3).isSome)) (fun hb9v => RQ.sub (E' := [(22, .pointer (some ⟨b0, 0, none⟩))]) ⟨lk_cv rfl hb9v, trivial⟩ (q_load rfl rfl Tryz.isAgg55 (.obj 2 rfl rfl))) rfl rfl rfl rfl rfl ?_
 refine simL_valc (b := !((mget x0_0 x1_3).isSome)) (fun hb8v => RQ.sub (E' := [(23, .map (some m0_0))]) ⟨lk_cv rfl hb8v, trivial⟩ (q_mlen 3 rfl rfl rfl Tryz.underlying55 rfl)) rfl rfl rfl rfl rfl ?_
 refine simL_valc (b := !((mget x0_0 x1_3).isSome)) (fun hb7v => RQ.sub (E' := [(24, .int .i64 (x0_0.length : Int))]) ⟨lk_cv rfl hb7v, trivial⟩ (q_geq rfl rfl rfl)) rfl rfl rfl rfl rfl ?_
 refine vq (q_and rfl rfl rfl) rfl (simL_nil (nrm_then ?_))
 refine sim_condb rfl (fun h4v => ?_) (fun h5v => ?_)
 refine sr ?_
 refine vq (q_build (v := .agg #[.int .i64 5, str ([] : List UInt8)]) rfl rfl (fun _ => by kernel_rfl)) rfl ?_
 refine simL_do (re_store 0 rfl rfl rfl Tryz.sizeOf45 rfl rfl (one_of (by rfl)) rfl rfl) rfl rfl ?_
 intro _
 refine simL_nil (nrm_then (sim_rtn ?_))
 refine rtn_then ?_
 exact rtn_fnC (vs := [.agg #[.int .i64 5, str ([] : List UInt8)]]) (m0_0, m0_1) rfl ⟨⟨b2v, rfl, load_agg 0 Tryz.isAgg45 Tryz.sizeOf45 rfl rfl⟩, trivial⟩ rfl (.sel 2 rfl (.sel 2 rfl (.sel 2 rfl (.sel 2 rfl (.nil _)))))
 refine sim_skip ?_
 refine nrm_then (sim_seq ?_)
 refine sim_draw (Γ := Unit) () [[], [0], [0, 1], [0, 1, 2], [], [4], [], [6], rL 8] [8] [0, 1, 2, 3, 4, 5, 6, 7] (fun i => [[0], [0], [0], [0], [0], [0], [0], [0], []].getD i []) (fun i => [[], [], [], [], [], [], [], [], rL 8].getD i []) (fun γ i => [.pointer (some ⟨b0, 0, none⟩), .pointer (some ⟨b0, 0, none⟩), .pointer (some ⟨b0, 0, none⟩), .map (some m0_0), .pointer (some ⟨b1v, 3, none⟩), str x1_3, .pointer (some ⟨b1v, 4, none⟩), str x1_4, undef].getD i undef) (fun j γ => [[obj b2v 45 [.int .i64 0, str ([] : List UInt8)], obj b1v 49 [.int .i64 x1_0, .int .i64 x1_1, .int .i64 x1_2, str x1_3, str x1_4, str x1_5], obj b0 58 [.map (some m0_0), .map (some m0_1)], mapO m0_0 enc9 enc9 x0_0, mapO m0_1 enc3 enc69 x0_1, F], [obj b2v 45 [.int .i64 0, str ([] : List UInt8)], obj b1v 49 [.int .i64 x1_0, .int .i64 x1_1, .int .i64 x1_2, str x1_3, str x1_4, str x1_5], obj b0 58 [.map (some m0_0), .map (some m0_1)], mapO m0_0 enc9 enc9 (mput x0_0 x1_3 x1_4), mapO m0_1 enc3 enc69 x0_1, F]].getD j []) (fun γ => [(4, .pointer (some ⟨b2v, 0, none⟩))]) mixed (by decide) (by decide) (by decide) (by decide) (by decide) (by decide) (by decide) 37 rfl (by decide) (by decide) (by decide) (Ent.refl _) ?_ ?_ (fun _ => ⟨rfl, trivial⟩) ?_
 exact (aq rfl (fun γ => qm rfl (.o (s := 0) rfl (by decide) .nil) rfl) (aq rfl (fun γ => qp rfl rfl (.v 0 rfl rfl .nil) (q_nil rfl rfl) rfl) (aq rfl (fun γ => qp rfl rfl (.v 1 rfl rfl .nil) (q_fa rfl rfl Tryz.underlying58 rfl rfl Tryz.sizeOf55 rfl) rfl) (aq rfl (fun γ => qp rfl rfl (.v 2 rfl rfl .nil) (q_load rfl rfl Tryz.isAgg55 (.obj 2 rfl rfl)) rfl) (aq rfl (fun γ => qp rfl rfl (.o (s := 3) rfl (by decide) .nil) (q_fa rfl rfl Tryz.underlying49 rfl rfl Tryz.sizeOf9 rfl) rfl) (aq rfl (fun γ => qp rfl rfl (.v 4 rfl rfl .nil) (q_load rfl rfl Tryz.isAgg9 (.obj 1 rfl rfl)) rfl) (aq rfl (fun γ => qp rfl rfl (.o (s := 3) rfl (by decide) .nil) (q_fa rfl rfl Tryz.underlying49 rfl rfl Tryz.sizeOf9 rfl) rfl) (aq rfl (fun γ => qp rfl rfl (.v 6 rfl rfl .nil) (q_load rfl rfl Tryz.isAgg9 (.obj 1 rfl rfl)) rfl) zA))))))))
 exact (ac (fun γ => eo (Z := Unit) (fun z => ()) rfl rfl (.v 3 rfl rfl (.v 5 rfl rfl (.v 7 rfl rfl .nil))) (re_mput (ek := enc9) (ev := enc9) 3 x1_3 x1_4 rfl rfl rfl rfl Tryz.underlying55 key9 rfl) (fun _ => ⟨rfl, rfl, rfl, rfl, rfl, rfl, rfl, rfl, trivial⟩) (fun _ => .inl rfl) (fun z => Ent.refl _)) zA)
 intro g6v
 refine nrm_then (sr ?_)
 refine vq (q_build (v := .agg #[.int .i64 1, str ([] : List UInt8)]) rfl rfl (fun _ => by kernel_rfl)) rfl ?_
 refine simL_do (re_store 0 rfl rfl rfl Tryz.sizeOf45 rfl rfl (one_of (by rfl)) rfl rfl) rfl rfl ?_
 intro _
 refine simL_nil (nrm_then (sim_rtn ?_))
 exact rtn_fnC (vs := [.agg #[.int .i64 1, str ([] : List UInt8)]]) (m0_0, m0_1) rfl ⟨⟨b2v, rfl, load_agg 0 Tryz.isAgg45 Tryz.sizeOf45 rfl rfl⟩, trivial⟩ rfl (.sel 2 rfl (.sel 2 rfl (.sel 2 rfl (.sel 2 rfl (.nil _)))))

def kv_operations_2.f (x0_0 : List ((List UInt8) × (List UInt8))) (x0_1 : List ((Int) × (Ty69))) (x1_0 : Int) (x1_1 : Int) (x1_2 : Int) (x1_3 : List UInt8) (x1_4 : List UInt8) (x1_5 : List UInt8) : Option (Int × List UInt8 × (List ((List UInt8) × (List UInt8))) × (List ((Int) × (Ty69)))) := if (!((mget x0_0 x1_3).isSome)) = true then (some (2, ([] : List UInt8), x0_0, x0_1)) else (some (1, ([] : List UInt8), mdel x0_0 x1_3, x0_1))
theorem kv_operations_2.calls (W : World) (F : HA) (b0 : Nat) (m0_0 : Nat) (x0_0 : List ((List UInt8) × (List UInt8))) (m0_1 : Nat) (x0_1 : List ((Int) × (Ty69))) (x1_0 : Int) (x1_1 : Int) (x1_2 : Int) (x1_3 : List UInt8) (x1_4 : List UInt8) (x1_5 : List UInt8)  :
    Fn Tryz.prog W 83 [.pointer (some ⟨b0, 0, none⟩), .agg #[.int .i64 x1_0, .int .i64 x1_1, .int .i64 x1_2, str x1_3, str x1_4, str x1_5]] [obj b0 58 [.map (some m0_0), .map (some m0_1)], mapO m0_0 enc9 enc9 x0_0, mapO m0_1 enc3 enc69 x0_1] F (kv_operations_2.f x0_0 x0_1 x1_0 x1_1 x1_2 x1_3 x1_4 x1_5) (fun (r : Int × List UInt8 × (List ((List UInt8) × (List UInt8))) × (List ((Int) × (Ty69)))) (y : Nat × Nat) => .agg #[.int .i64 r.1, str r.2.1]) (fun r y => [obj b0 58 [.map (some y.1), .map (some y.2)], mapO y.1 enc9 enc9 r.2.2.1, mapO y.2 enc3 enc69 r.2.2.2]) := by
 unfold kv_operations_2.f
 refine fn_intro 27 Tryz.func83 rfl Tryz.ntmps83 rfl ?_
 refine sr ?_
 refine simL_eff (re_box rfl rfl rfl) rfl rfl rfl ?_
 intro b1v
 refine simL_eff (re_alloc rfl Tryz.zeroValue45 rfl) rfl rfl rfl ?_
 intro b2v
 refine simL_nil (nrm_then (sim_seq (sim_seq ?_)))
 refine sim_draw (Γ := Unit) () [[], [0], [0, 1], [0, 1, 2], [], [4], rL 6, rL 7, rL 8, rL 8, rL 9, rL 11] [] [0, 1, 2, 3, 4, 5, 6, 7, 8, 9, 10, 11] (fun i => [[0], [0], [0], [0], [0], [0], [0], [0], [0], [0], [0], [0]].getD i []) (fun i => [[], [], [], [], [], [], [], [], [], [], [], []].getD i []) (fun γ i => [.pointer (some ⟨b0, 0, none⟩), .pointer (some ⟨b0, 0, none⟩), .pointer (some ⟨b0, 0, none⟩), .map (some m0_0), .pointer (some ⟨b1v, 3, none⟩), str x1_3, .tuple #[str ((mget x0_0 x1_3).getD ([] : List UInt8)), .bool ((mget x0_0 x1_3).isSome)], .tuple #[str ((mget x0_0 x1_3).getD ([] : List UInt8)), .bool ((mget x0_0 x1_3).isSome)], str ((mget x0_0 x1_3).getD ([] : List UInt8)), .bool ((mget x0_0 x1_3).isSome), str ((mget x0_0 x1_3).getD ([] : List UInt8)), .bool ((mget x0_0 x1_3).isSome)].getD i undef) (fun j γ => [[obj b2v 45 [.int .i64 0, str ([] : List UInt8)], obj b1v 49 [.int .i64 x1_0, .int .i64 x1_1, .int .i64 x1_2, str x1_3, str x1_4, str x1_5], obj b0 58 [.map (some m0_0), .map (some m0_1)], mapO m0_0 enc9 enc9 x0_0, mapO m0_1 enc3 enc69 x0_1, F]].getD j []) (fun γ => [(0, .pointer (some ⟨b0, 0, none⟩)), (3, .pointer (some ⟨b1v, 0, none⟩)), (4, .pointer (some ⟨b2v, 0, none⟩)), (6, .bool ((mget x0_0 x1_3).isSome))]) mixed (by decide) (by decide) (by decide) (by decide) (by decide) (by decide) (by decide) 27 rfl (by decide) (by decide) (by decide) (Ent.refl _) ?_ ?_ (fun _ => ⟨rfl, rfl, rfl, rfl, trivial⟩) ?_
 exact (aq rfl (fun γ => qm rfl (.o (s := 0) rfl (by decide) .nil) rfl) (aq rfl (fun γ => qp rfl rfl (.v 0 rfl rfl .nil) (q_nil rfl rfl) rfl) (aq rfl (fun γ => qp rfl rfl (.v 1 rfl rfl .nil) (q_fa rfl rfl Tryz.underlying58 rfl rfl Tryz.sizeOf55 rfl) rfl) (aq rfl (fun γ => qp rfl rfl (.v 2 rfl rfl .nil) (q_load rfl rfl Tryz.isAgg55 (.obj 2 rfl rfl)) rfl) (aq rfl (fun γ => qp rfl rfl (.o (s := 3) rfl (by decide) .nil) (q_fa rfl rfl Tryz.underlying49 rfl rfl Tryz.sizeOf9 rfl) rfl) (aq rfl (fun γ => qp rfl rfl (.v 4 rfl rfl .nil) (q_load rfl rfl Tryz.isAgg9 (.obj 1 rfl rfl)) rfl) (aq rfl (fun γ => qp rfl rfl (.v 3 rfl rfl (.v 5 rfl rfl .nil)) ((q_mlook2 (ek := enc9) (ev := enc9) (z := ([] : List UInt8)) 3 x1_3 rfl rfl rfl Tryz.underlying55 key9 Tryz.zeroValue9 rfl : RQ _ _ _ _ (.tuple #[str ((mget x0_0 x1_3).getD ([] : List UInt8)), .bool ((mget x0_0 x1_3).isSome)]))) rfl) (aq rfl (fun γ => qm rfl (.v 6 rfl rfl .nil) rfl) (aq rfl (fun γ => qp rfl rfl (.v 7 rfl rfl .nil) (q_ext rfl rfl rfl) rfl) (aq rfl (fun γ => qp rfl rfl (.v 7 rfl rfl .nil) (q_ext rfl rfl rfl) rfl) (aq rfl (fun γ => qp rfl rfl (.v 8 rfl rfl .nil) (q_asg rfl rfl) rfl) (aq rfl (fun γ => qp rfl rfl (.v 9 rfl rfl .nil) (q_asg rfl rfl) rfl) zA))))))))))))
 exact zA
 intro g3v
 refine nrm_then (sr ?_)
 refine vm rfl rfl ?_
 refine vq (q_not rfl rfl) rfl (simL_nil (nrm_then ?_))
 refine sim_condb rfl (fun h4v => ?_) (fun h5v => ?_)
 refine sr ?_
 refine vq (q_build (v := .agg #[.int .i64 2, str ([] : List UInt8)]) rfl rfl (fun _ => by kernel_rfl)) rfl ?_
 refine simL_do (re_store 0 rfl rfl rfl Tryz.sizeOf45 rfl rfl (one_of (by rfl)) rfl rfl) rfl rfl ?_
 intro _
 refine simL_nil (nrm_then (sim_rtn ?_))
 refine rtn_then ?_
 exact rtn_fnC (vs := [.agg #[.int .i64 2, str ([] : List UInt8)]]) (m0_0, m0_1) rfl ⟨⟨b2v, rfl, load_agg 0 Tryz.isAgg45 Tryz.sizeOf45 rfl rfl⟩, trivial⟩ rfl (.sel 2 rfl (.sel 2 rfl (.sel 2 rfl (.sel 2 rfl (.nil _)))))
 refine sim_skip ?_
 refine nrm_then (sim_seq ?_)
 refine sim_draw (Γ := Unit) () [[], [0], [0, 1], [0, 1, 2], [], [4], rL 6] [6] [0, 1, 2, 3, 4, 5] (fun i => [[0], [0], [0], [0], [0], [0], []].getD i []) (fun i => [[], [], [], [], [], [], rL 6].getD i []) (fun γ i => [.pointer (some ⟨b0, 0, none⟩), .pointer (some ⟨b0, 0, none⟩), .pointer (some ⟨b0, 0, none⟩), .map (some m0_0), .pointer (some ⟨b1v, 3, none⟩), str x1_3, undef].getD i undef) (fun j γ => [[obj b2v 45 [.int .i64 0, str ([] : List UInt8)], obj b1v 49 [.int .i64 x1_0, .int .i64 x1_1, .int .i64 x1_2, str x1_3, str x1_4, str x1_5], obj b0 58 [.map (some m0_0), .map (some m0_1)], mapO m0_0 enc9 enc9 x0_0, mapO m0_1 enc3 enc69 x0_1, F], [obj b2v 45 [.int .i64 0, str ([] : List UInt8)], obj b1v 49 [.int .i64 x1_0, .int .i64 x1_1, .int .i64 x1_2, str x1_3, str x1_4, str x1_5], obj b0 58 [.map (some m0_0), .map (some m0_1)], mapO m0_0 enc9 enc9 (mdel x0_0 x1_3), mapO m0_1 enc3 enc69 x0_1, F]].getD j []) (fun γ => [(4, .pointer (some ⟨b2v, 0, none⟩))]) mixed (by decide) (by decide) (by decide) (by decide) (by decide) (by decide) (by decide) 27 rfl (by decide) (by decide) (by decide) (Ent.refl _) ?_ ?_ (fun _ => ⟨rfl, trivial⟩) ?_
 exact (aq rfl (fun γ => qm rfl (.o (s := 0) rfl (by decide) .nil) rfl) (aq rfl (fun γ => qp rfl rfl (.v 0 rfl rfl .nil) (q_nil rfl rfl) rfl) (aq rfl (fun γ => qp rfl rfl (.v 1 rfl rfl .nil) (q_fa rfl rfl Tryz.underlying58 rfl rfl Tryz.sizeOf55 rfl) rfl) (aq rfl (fun γ => qp rfl rfl (.v 2 rfl rfl .nil) (q_load rfl rfl Tryz.isAgg55 (.obj 2 rfl rfl)) rfl) (aq rfl (fun γ => qp rfl rfl (.o (s := 3) rfl (by decide) .nil) (q_fa rfl rfl Tryz.underlying49 rfl rfl Tryz.sizeOf9 rfl) rfl) (aq rfl (fun γ => qp rfl rfl (.v 4 rfl rfl .nil) (q_load rfl rfl Tryz.isAgg9 (.obj 1 rfl rfl)) rfl) zA))))))
 exact (ac (fun γ => eo (Z := Unit) (fun z => ()) rfl rfl (.v 3 rfl rfl (.v 5 rfl rfl .nil)) (re_mdel (ek := enc9) (ev := enc9) 3 x1_3 rfl rfl rfl rfl Tryz.underlying55 key9 rfl) (fun _ => ⟨rfl, rfl, rfl, rfl, rfl, rfl, trivial⟩) (fun _ => .inl rfl) (fun z => Ent.refl _)) zA)
 intro g6v
 refine nrm_then (sr ?_)
 refine vq (q_build (v := .agg #[.int .i64 1, str ([] : List UInt8)]) rfl rfl (fun _ => by kernel_rfl)) rfl ?_
 refine simL_do (re_store 0 rfl rfl rfl Tryz.sizeOf45 rfl rfl (one_of (by rfl)) rfl rfl) rfl rfl ?_
 intro _
 refine simL_nil (nrm_then (sim_rtn ?_))
 exact rtn_fnC (vs := [.agg #[.int .i64 1, str ([] : List UInt8)]]) (m0_0, m0_1) rfl ⟨⟨b2v, rfl, load_agg 0 Tryz.isAgg45 Tryz.sizeOf45 rfl rfl⟩, trivial⟩ rfl (.sel 2 rfl (.sel 2 rfl (.sel 2 rfl (.sel 2 rfl (.nil _)))))

def kv_operations_3.f (x0_0 : List ((List UInt8) × (List UInt8))) (x0_1 : List ((Int) × (Ty69))) (x1_0 : Int) (x1_1 : Int) (x1_2 : Int) (x1_3 : List UInt8) (x1_4 : List UInt8) (x1_5 : List UInt8) : Option (Int × List UInt8 × (List ((List UInt8) × (List UInt8))) × (List ((Int) × (Ty69)))) := if (!((mget x0_0 x1_3).isSome)) = true then (some (2, ([] : List UInt8), x0_0, x0_1)) else (if ((mget x0_0 x1_3).getD ([] : List UInt8)) = x1_5 then (some (1, ([] : List UInt8), mput x0_0 x1_3 x1_4, x0_1)) else (some (3, ((mget x0_0 x1_3).getD ([] : List UInt8)), x0_0, x0_1)))
theorem kv_operations_3.calls (W : World) (F : HA) (b0 : Nat) (m0_0 : Nat) (x0_0 : List ((List UInt8) × (List UInt8))) (m0_1 : Nat) (x0_1 : List ((Int) × (Ty69))) (x1_0 : Int) (x1_1 : Int) (x1_2 : Int) (x1_3 : List UInt8) (x1_4 : List UInt8) (x1_5 : List UInt8)  :
    Fn Tryz.prog W 84 [.pointer (some ⟨b0, 0, none⟩), .agg #[.int .i64 x1_0, .int .i64 x1_1, .int .i64 x1_2, str x1_3, str x1_4, str x1_5]] [obj b0 58 [.map (some m0_0), .map (some m0_1)], mapO m0_0 enc9 enc9 x0_0, mapO m0_1 enc3 enc69 x0_1] F (kv_operations_3.f x0_0 x0_1 x1_0 x1_1 x1_2 x1_3 x1_4 x1_5) (fun (r : Int × List UInt8 × (List ((List UInt8) × (List UInt8))) × (List ((Int) × (Ty69)))) (y : Nat × Nat) => .agg #[.int .i64 r.1, str r.2.1]) (fun r y => [obj b0 58 [.map (some y.1), .map (some y.2)], mapO y.1 enc9 enc9 r.2.2.1, mapO y.2 enc3 enc69 r.2.2.2]) := by
 unfold kv_operations_3.f
 refine fn_intro 35 Tryz.func84 rfl Tryz.ntmps84 rfl ?_
 refine sr ?_
 refine simL_eff (re_box rfl rfl rfl) rfl rfl rfl ?_
 intro b1v
 refine simL_eff (re_alloc rfl Tryz.zeroValue45 rfl) rfl rfl rfl ?_
 intro b2v
 refine simL_nil (nrm_then (sim_seq ?_))
 refine sim_draw (Γ := Unit) () [[], [0], [0, 1], [0, 1, 2], [], [4], rL 6, rL 7, rL 8, rL 8, rL 9, rL 11] [] [0, 1, 2, 3, 4, 5, 6, 7, 8, 9, 10, 11] (fun i => [[0], [0], [0], [0], [0], [0], [0], [0], [0], [0], [0], [0]].getD i []) (fun i => [[], [], [], [], [], [], [], [], [], [], [], []].getD i []) (fun γ i => [.pointer (some ⟨b0, 0, none⟩), .pointer (some ⟨b0, 0, none⟩), .pointer (some ⟨b0, 0, none⟩), .map (some m0_0), .pointer (some ⟨b1v, 3, none⟩), str x1_3, .tuple #[str ((mget x0_0 x1_3).getD ([] : List UInt8)), .bool ((mget x0_0 x1_3).isSome)], .tuple #[str ((mget x0_0 x1_3).getD ([] : List UInt8)), .bool ((mget x0_0 x1_3).isSome)], str ((mget x0_0 x1_3).getD ([] : List UInt8)), .bool ((mget x0_0 x1_3).isSome), str ((mget x0_0 x1_3).getD ([] : List UInt8)), .bool ((mget x0_0 x1_3).isSome)].getD i undef) (fun j γ => [[obj b2v 45 [.int .i64 0, str ([] : List UInt8)], obj b1v 49 [.int .i64 x1_0, .int .i64 x1_1, .int .i64 x1_2, str x1_3, str x1_4, str x1_5], obj b0 58 [.map (some m0_0), .map (some m0_1)], mapO m0_0 enc9 enc9 x0_0, mapO m0_1 enc3 enc69 x0_1, F]].getD j []) (fun γ => [(0, .pointer (some ⟨b0, 0, none⟩)), (3, .pointer (some ⟨b1v, 0, none⟩)), (4, .pointer (some ⟨b2v, 0, none⟩)), (5, str ((mget x0_0 x1_3).getD ([] : List UInt8))), (6, .bool ((mget x0_0 x1_3).isSome))]) mixed (by decide) (by decide) (by decide) (by decide) (by decide) (by decide) (by decide) 35 rfl (by decide) (by decide) (by decide) (Ent.refl _) ?_ ?_ (fun _ => ⟨rfl, rfl, rfl, rfl, rfl, trivial⟩) ?_
 exact (aq rfl (fun γ => qm rfl (.o (s := 0) rfl (by decide) .nil) rfl) (aq rfl (fun γ => qp rfl rfl (.v 0 rfl rfl .nil) (q_nil rfl rfl) rfl) (aq rfl (fun γ => qp rfl rfl (.v 1 rfl rfl .nil) (q_fa rfl rfl Tryz.underlying58 rfl rfl Tryz.sizeOf55 rfl) rfl) (aq rfl (fun γ => qp rfl rfl (.v 2 rfl rfl .nil) (q_load rfl rfl Tryz.isAgg55 (.obj 2 rfl rfl)) rfl) (aq rfl (fun γ => qp rfl rfl (.o (s := 3) rfl (by decide) .nil) (q_fa rfl rfl Tryz.underlying49 rfl rfl Tryz.sizeOf9 rfl) rfl) (aq rfl (fun γ => qp rfl rfl (.v 4 rfl rfl .nil) (q_load rfl rfl Tryz.isAgg9 (.obj 1 rfl rfl)) rfl) (aq rfl (fun γ => qp rfl rfl (.v 3 rfl rfl (.v 5 rfl rfl .nil)) ((q_mlook2 (ek := enc9) (ev := enc9) (z := ([] : List UInt8)) 3 x1_3 rfl rfl rfl Tryz.underlying55 key9 Tryz.zeroValue9 rfl : RQ _ _ _ _ (.tuple #[str ((mget x0_0 x1_3).getD ([] : List UInt8)), .bool ((mget x0_0 x1_3).isSome)]))) rfl) (aq rfl (fun γ => qm rfl (.v 6 rfl rfl .nil) rfl) (aq rfl (fun γ => qp rfl rfl (.v 7 rfl rfl .nil) (q_ext rfl rfl rfl) rfl) (aq rfl (fun γ => qp rfl rfl (.v 7 rfl rfl .nil) (q_ext rfl rfl rfl) rfl) (aq rfl (fun γ => qp rfl rfl (.v 8 rfl rfl .nil) (q_asg rfl rfl) rfl) (aq rfl (fun γ => qp rfl rfl (.v 9 rfl rfl .nil) (q_asg rfl rfl) rfl) zA))))))))))))
 exact zA
 intro g3v
 refine nrm_then (sim_seq (sr ?_))
 refine vm rfl rfl ?_
 refine vq (q_not rfl rfl) rfl (simL_nil (nrm_then ?_))
 refine sim_condb rfl (fun h4v => ?_) (fun h5v => ?_)
 refine sr ?_
 refine vq (q_build (v := .agg #[.int .i64 2, str ([] : List UInt8)]) rfl rfl (fun _ => by kernel_rfl)) rfl ?_
 refine simL_do (re_store 0 rfl rfl rfl Tryz.sizeOf45 rfl rfl (one_of (by rfl)) rfl rfl) rfl rfl ?_
 intro _
 refine simL_nil (nrm_then (sim_rtn ?_))
 refine rtn_then ?_
 exact rtn_fnC (vs := [.agg #[.int .i64 2, str ([] : List UInt8)]]) (m0_0, m0_1) rfl ⟨⟨b2v, rfl, load_agg 0 Tryz.isAgg45 Tryz.sizeOf45 rfl rfl⟩, trivial⟩ rfl (.sel 2 rfl (.sel 2 rfl (.sel 2 rfl (.sel 2 rfl (.nil _)))))
 refine sim_skip ?_
 refine nrm_then (sim_seq (sr ?_))
 refine vm rfl rfl ?_
 refine vq (q_fa rfl rfl Tryz.underlying49 rfl rfl Tryz.sizeOf9 rfl) rfl ?_
 refine vq (q_load rfl rfl Tryz.isAgg9 (.obj 1 rfl rfl)) rfl ?_
 refine vq (q_nes rfl rfl rfl) rfl (simL_nil (nrm_then ?_))
 refine sim_condn rfl (fun h6v => ?_) (fun h7v => ?_)
 refine sim_skip ?_
 refine nrm_then (sim_seq ?_)
 refine sim_draw (Γ := Unit) () [[], [0], [0, 1], [0, 1, 2], [], [4], [], [6], rL 8] [8] [0, 1, 2, 3, 4, 5, 6, 7] (fun i => [[0], [0], [0], [0], [0], [0], [0], [0], []].getD i []) (fun i => [[], [], [], [], [], [], [], [], rL 8].getD i []) (fun γ i => [.pointer (some ⟨b0, 0, none⟩), .pointer (some ⟨b0, 0, none⟩), .pointer (some ⟨b0, 0, none⟩), .map (some m0_0), .pointer (some ⟨b1v, 3, none⟩), str x1_3, .pointer (some ⟨b1v, 4, none⟩), str x1_4, undef].getD i undef) (fun j γ => [[obj b2v 45 [.int .i64 0, str ([] : List UInt8)], obj b1v 49 [.int .i64 x1_0, .int .i64 x1_1, .int .i64 x1_2, str x1_3, str x1_4, str x1_5], obj b0 58 [.map (some m0_0), .map (some m0_1)], mapO m0_0 enc9 enc9 x0_0, mapO m0_1 enc3 enc69 x0_1, F], [obj b2v 45 [.int .i64 0, str ([] : List UInt8)], obj b1v 49 [.int .i64 x1_0, .int .i64 x1_1, .int .i64 x1_2, str x1_3, str x1_4, str x1_5], obj b0 58 [.map (some m0_0), .map (some m0_1)], mapO m0_0 enc9 enc9 (mput x0_0 x1_3 x1_4), mapO m0_1 enc3 enc69 x0_1, F]].getD j []) (fun γ => [(4, .pointer (some ⟨b2v, 0, none⟩))]) mixed (by decide) (by decide) (by decide) (by decide) (by decide) (by decide) (by decide) 35 rfl (by decide) (by decide) (by decide) (Ent.refl _) ?_ ?_ (fun _ => ⟨rfl, trivial⟩) ?_
 exact (aq rfl (fun γ => qm rfl (.o (s := 0) rfl (by decide) .nil) rfl) (aq rfl (fun γ => qp rfl rfl (.v 0 rfl rfl .nil) (q_nil rfl rfl) rfl) (aq rfl (fun γ => qp rfl rfl (.v 1 rfl rfl .nil) (q_fa rfl rfl Tryz.underlying58 rfl rfl Tryz.sizeOf55 rfl) rfl) (aq rfl (fun γ => qp rfl rfl (.v 2 rfl rfl .nil) (q_load rfl rfl Tryz.isAgg55 (.obj 2 rfl rfl)) rfl) (aq rfl (fun γ => qp rfl rfl (.o (s := 3) rfl (by decide) .nil) (q_fa rfl rfl Tryz.underlying49 rfl rfl Tryz.sizeOf9 rfl) rfl) (aq rfl (fun γ => qp rfl rfl (.v 4 rfl rfl .nil) (q_load rfl rfl Tryz.isAgg9 (.obj 1 rfl rfl)) rfl) (aq rfl (fun γ => qp rfl rfl (.o (s := 3) rfl (by decide) .nil) (q_fa rfl rfl Tryz.underlying49 rfl rfl Tryz.sizeOf9 rfl) rfl) (aq rfl (fun γ => qp rfl rfl (.v 6 rfl rfl .nil) (q_load rfl rfl Tryz.isAgg9 (.obj 1 rfl rfl)) rfl) zA))))))))
 exact (ac (fun γ => eo (Z := Unit) (fun z => ()) rfl rfl (.v 3 rfl rfl (.v 5 rfl rfl (.v 7 rfl rfl .nil))) (re_mput (ek := enc9) (ev := enc9) 3 x1_3 x1_4 rfl rfl rfl rfl Tryz.underlying55 key9 rfl) (fun _ => ⟨rfl, rfl, rfl, rfl, rfl, rfl, rfl, rfl, trivial⟩) (fun _ => .inl rfl) (fun z => Ent.refl _)) zA)
 intro g8v
 refine nrm_then (sr ?_)
 refine vq (q_build (v := .agg #[.int .i64 1, str ([] : List UInt8)]) rfl rfl (fun _ => by kernel_rfl)) rfl ?_
 refine simL_do (re_store 0 rfl rfl rfl Tryz.sizeOf45 rfl rfl (one_of (by rfl)) rfl rfl) rfl rfl ?_
 intro _
 refine simL_nil (nrm_then (sim_rtn ?_))
 exact rtn_fnC (vs := [.agg #[.int .i64 1, str ([] : List UInt8)]]) (m0_0, m0_1) rfl ⟨⟨b2v, rfl, load_agg 0 Tryz.isAgg45 Tryz.sizeOf45 rfl rfl⟩, trivial⟩ rfl (.sel 2 rfl (.sel 2 rfl (.sel 2 rfl (.sel 2 rfl (.nil _)))))
 refine sr ?_
 refine vm rfl rfl ?_
 refine vq (q_build (v := .agg #[.int .i64 3, str ((mget x0_0 x1_3).getD ([] : List UInt8))]) rfl rfl (fun _ => by kernel_rfl)) rfl ?_
 refine simL_do (re_store 0 rfl rfl rfl Tryz.sizeOf45 rfl rfl (one_of (by rfl)) rfl rfl) rfl rfl ?_
 intro _
 refine simL_nil (nrm_then (sim_rtn ?_))
 refine rtn_then ?_
 exact rtn_fnC (vs := [.agg #[.int .i64 3, str ((mget x0_0 x1_3).getD ([] : List UInt8))]]) (m0_0, m0_1) rfl ⟨⟨b2v, rfl, load_agg 0 Tryz.isAgg45 Tryz.sizeOf45 rfl rfl⟩, trivial⟩ rfl (.sel 2 rfl (.sel 2 rfl (.sel 2 rfl (.sel 2 rfl (.nil _)))))

def kv_operations.f  : Option (Unit) := some ()
theorem kv_operations.calls (W : World) (F : HA)   :
    Fn Tryz.prog W 46 [] [] F (kv_operations.f ) (fun (r : Unit) (y : Nat) => .map (some y)) (fun r y => [mapO y enc3 enc101 (mput (mput (mput ([] : List ((Int) × (Option Nat))) (2 : Int) (some 82)) (3 : Int) (some 83)) (4 : Int) (some 84))]) := by
 unfold kv_operations.f
 refine fn_intro 3 Tryz.func46 rfl Tryz.ntmps46 rfl ?_
 refine sr ?_
 refine va rfl rfl (nx ?_)
 refine simL_eff (re_mkmap (ek := enc3) (ev := enc101) rfl) rfl rfl rfl ?_
 intro b1v
 refine simL_do (re_mins (ek := enc3) (ev := enc101) 0 (2 : Int) (some 82) rfl rfl rfl rfl Tryz.underlying102 key3 rfl) rfl rfl ?_
 intro _
 refine simL_do (re_mins (ek := enc3) (ev := enc101) 0 (3 : Int) (some 83) rfl rfl rfl rfl Tryz.underlying102 key3 rfl) rfl rfl ?_
 intro _
 refine simL_do (re_mins (ek := enc3) (ev := enc101) 0 (4 : Int) (some 84) rfl rfl rfl rfl Tryz.underlying102 key3 rfl) rfl rfl ?_
 intro _
 refine vm rfl rfl ?_
 refine va rfl rfl (simL_nil (nrm_then (sim_rtn ?_)))
 exact rtn_fn b1v rfl rfl rfl (.sel 0 rfl (.sel 0 rfl (.nil _)))

def kv_Store_Do.f (x0_0 : List ((List UInt8) × (List UInt8))) (x0_1 : List ((Int) × (Ty69))) (x1_0 : Int) (x1_1 : Int) (x1_2 : Int) (x1_3 : List UInt8) (x1_4 : List UInt8) (x1_5 : List UInt8) : Option (Int × List UInt8 × Int × (List ((List UInt8) × (List UInt8))) × (List ((Int) × (Ty69)))) := (codec_Commands_Check.f x1_0 x1_1 x1_2 x1_3 x1_4 x1_5).bind fun s3v => (if s3v = (0 : Int) then (if (((mget x0_1 x1_1).isSome) && (decide (x1_2 = ((mget x0_1 x1_1).getD dz69).2.1))) = true then (some (((mget x0_1 x1_1).getD dz69).2.2.1, ((mget x0_1 x1_1).getD dz69).2.2.2, 0, x0_0, x0_1)) else (if (((mget x0_1 x1_1).isSome) && (decide (x1_2 < ((mget x0_1 x1_1).getD dz69).2.1))) = true then (some (4, ([] : List UInt8), 0, x0_0, x0_1)) else (if ((!((mget x0_1 x1_1).isSome)) && (decide ((32 : Int) ≤ (x0_1.length : Int)))) = true then (some (5, ([] : List UInt8), 0, x0_0, x0_1)) else ((if x1_0 = (2 : Int) then ((kv_operations.f).bind fun s19v => ((kv_operations_1.f x0_0 x0_1 x1_0 x1_1 x1_2 x1_3 x1_4 x1_5).bind fun s22v => (some (s22v.1, s22v.2.1, s22v.2.2.1, s22v.2.2.2)))) else (if x1_0 = (3 : Int) then ((kv_operations.f).bind fun s28v => ((kv_operations_2.f x0_0 x0_1 x1_0 x1_1 x1_2 x1_3 x1_4 x1_5).bind fun s31v => (some (s31v.1, s31v.2.1, s31v.2.2.1, s31v.2.2.2)))) else (if x1_0 = (4 : Int) then ((kv_operations.f).bind fun s37v => ((kv_operations_3.f x0_0 x0_1 x1_0 x1_1 x1_2 x1_3 x1_4 x1_5).bind fun s40v => (some (s40v.1, s40v.2.1, s40v.2.2.1, s40v.2.2.2)))) else (none)))).bind fun s16v => (some (s16v.1, s16v.2.1, 0, s16v.2.2.1, mput s16v.2.2.2 x1_1 (x1_1, x1_2, s16v.1, s16v.2.1))))))) else (some (0, ([] : List UInt8), s3v, x0_0, x0_1)))
theorem kv_Store_Do.calls (W : World) (F : HA) (b0 : Nat) (m0_0 : Nat) (x0_0 : List ((List UInt8) × (List UInt8))) (m0_1 : Nat) (x0_1 : List ((Int) × (Ty69))) (x1_0 : Int) (x1_1 : Int) (x1_2 : Int) (x1_3 : List UInt8) (x1_4 : List UInt8) (x1_5 : List UInt8)  :
    Fn Tryz.prog W 20 [.pointer (some ⟨b0, 0, none⟩), .agg #[.int .i64 x1_0, .int .i64 x1_1, .int .i64 x1_2, str x1_3, str x1_4, str x1_5]] [obj b0 58 [.map (some m0_0), .map (some m0_1)], mapO m0_0 enc9 enc9 x0_0, mapO m0_1 enc3 enc69 x0_1] F (kv_Store_Do.f x0_0 x0_1 x1_0 x1_1 x1_2 x1_3 x1_4 x1_5) (fun (r : Int × List UInt8 × Int × (List ((List UInt8) × (List UInt8))) × (List ((Int) × (Ty69)))) (y : Nat × Nat) => .tuple #[.agg #[.int .i64 r.1, str r.2.1], .int .i64 r.2.2.1]) (fun r y => [obj b0 58 [.map (some y.1), .map (some y.2)], mapO y.1 enc9 enc9 r.2.2.2.1, mapO y.2 enc3 enc69 r.2.2.2.2]) := by
 unfold kv_Store_Do.f
 refine fn_intro 80 Tryz.func20 rfl Tryz.ntmps20 rfl ?_
 refine sr ?_
 refine simL_eff (re_box rfl rfl rfl) rfl rfl rfl ?_
 intro b1v
 refine simL_eff (re_alloc rfl Tryz.zeroValue45 rfl) rfl rfl rfl ?_
 intro b2v
 refine va rfl rfl (simL_nil (nrm_then (sim_seq (sr ?_))))
 refine vq (q_build (v := .agg #[]) rfl rfl (fun _ => by kernel_rfl)) rfl ?_
 refine vq (q_loado 1 rfl rfl Tryz.isAgg49 Tryz.sizeOf49 rfl rfl) rfl ?_
 refine simL_bind (fun s3v hs4v => ?_)
 refine simL_eff (re_call (vs := [.agg #[], .agg #[.int .i64 x1_0, .int .i64 x1_1, .int .i64 x1_2, str x1_3, str x1_4, str x1_5]]) (cap := []) (A := []) (rst := [obj b2v 45 [.int .i64 0, str ([] : List UInt8)], obj b1v 49 [.int .i64 x1_0, .int .i64 x1_1, .int .i64 x1_2, str x1_3, str x1_4, str x1_5], obj b0 58 [.map (some m0_0), .map (some m0_1)], mapO m0_0 enc9 enc9 x0_0, mapO m0_1 enc3 enc69 x0_1, F]) rfl rfl rfl rfl rfl rfl Tryz.call45 (.sel 0 rfl (.sel 0 rfl (.sel 0 rfl (.sel 0 rfl (.sel 0 rfl (.sel 0 rfl (.nil _))))))) (codec_Commands_Check.calls _ _ x1_0 x1_1 x1_2 x1_3 x1_4 x1_5 ) hs4v) rfl rfl rfl ?_
 intro y5v
 refine va rfl rfl (nx ?_)
 refine vm rfl rfl ?_
 refine vq (q_neq rfl rfl rfl) rfl (simL_nil (nrm_then ?_))
 refine sim_condn rfl (fun h6v => ?_) (fun h7v => ?_)
 refine sim_skip ?_
 refine nrm_then (sim_seq ?_)
 refine sim_draw (Γ := Nat) 0 [[], [0], [0, 1], [0, 1, 2], [], [4], rL 6, rL 7, rL 8, rL 8, [], [0, 1, 2, 3, 4, 5, 6, 7, 8, 10], rL 12] [10, 11] [0, 1, 2, 3, 4, 5, 6, 7, 8, 9, 12] (fun i => [[0, 1], [0, 1], [0, 1], [0, 1], [0, 1], [0, 1], [0, 1], [0, 1], [0, 1], [0, 1, 2], [], [], [2]].getD i []) (fun i => [[], [], [], [], [], [], [], [], [], [], rL 10, rL 11, []].getD i []) (fun γ i => [.pointer (some ⟨b0, 0, none⟩), .pointer (some ⟨b0, 0, none⟩), .pointer (some ⟨b0, 1, none⟩), .map (some m0_1), .pointer (some ⟨b1v, 1, none⟩), .int .i64 x1_1, .tuple #[.agg #[.int .i64 (((mget x0_1 x1_1).getD dz69).1), .int .i64 (((mget x0_1 x1_1).getD dz69).2.1), .int .i64 (((mget x0_1 x1_1).getD dz69).2.2.1), str (((mget x0_1 x1_1).getD dz69).2.2.2)], .bool ((mget x0_1 x1_1).isSome)], .tuple #[.agg #[.int .i64 (((mget x0_1 x1_1).getD dz69).1), .int .i64 (((mget x0_1 x1_1).getD dz69).2.1), .int .i64 (((mget x0_1 x1_1).getD dz69).2.2.1), str (((mget x0_1 x1_1).getD dz69).2.2.2)], .bool ((mget x0_1 x1_1).isSome)], .agg #[.int .i64 (((mget x0_1 x1_1).getD dz69).1), .int .i64 (((mget x0_1 x1_1).getD dz69).2.1), .int .i64 (((mget x0_1 x1_1).getD dz69).2.2.1), str (((mget x0_1 x1_1).getD dz69).2.2.2)], .bool ((mget x0_1 x1_1).isSome), .pointer (some ⟨γ, 0, none⟩), undef, .bool ((mget x0_1 x1_1).isSome)].getD i undef) (fun j γ => [[obj b2v 45 [.int .i64 0, str ([] : List UInt8)], obj b1v 49 [.int .i64 x1_0, .int .i64 x1_1, .int .i64 x1_2, str x1_3, str x1_4, str x1_5], obj b0 58 [.map (some m0_0), .map (some m0_1)], mapO m0_0 enc9 enc9 x0_0, mapO m0_1 enc3 enc69 x0_1, F], [obj γ 69 [.int .i64 0, .int .i64 0, .int .i64 0, str ([] : List UInt8)], obj b2v 45 [.int .i64 0, str ([] : List UInt8)], obj b1v 49 [.int .i64 x1_0, .int .i64 x1_1, .int .i64 x1_2, str x1_3, str x1_4, str x1_5], obj b0 58 [.map (some m0_0), .map (some m0_1)], mapO m0_0 enc9 enc9 x0_0, mapO m0_1 enc3 enc69 x0_1, F], [obj γ 69 [.int .i64 (((mget x0_1 x1_1).getD dz69).1), .int .i64 (((mget x0_1 x1_1).getD dz69).2.1), .int .i64 (((mget x0_1 x1_1).getD dz69).2.2.1), str (((mget x0_1 x1_1).getD dz69).2.2.2)], obj b2v 45 [.int .i64 0, str ([] : List UInt8)], obj b1v 49 [.int .i64 x1_0, .int .i64 x1_1, .int .i64 x1_2, str x1_3, str x1_4, str x1_5], obj b0 58 [.map (some m0_0), .map (some m0_1)], mapO m0_0 enc9 enc9 x0_0, mapO m0_1 enc3 enc69 x0_1, F]].getD j []) (fun γ => [(0, .pointer (some ⟨b0, 0, none⟩)), (3, .pointer (some ⟨b1v, 0, none⟩)), (4, .pointer (some ⟨b2v, 0, none⟩)), (7, .pointer (some ⟨γ, 0, none⟩)), (8, .bool ((mget x0_1 x1_1).isSome))]) mixed (by decide) (by decide) (by decide) (by decide) (by decide) (by decide) (by decide) 80 rfl (by decide) (by decide) (by decide) (Ent.refl _) ?_ ?_ (fun _ => ⟨rfl, rfl, rfl, rfl, rfl, trivial⟩) ?_
 exact (ac (fun γ => (ac (qm rfl (.o (s := 0) rfl (by decide) .nil) rfl) (ac (qm rfl (.o (s := 0) rfl (by decide) .nil) rfl) zA))) (ac (fun γ => (ac (qp rfl rfl (.v 0 rfl rfl .nil) (q_nil rfl rfl) rfl) (ac (qp rfl rfl (.v 0 rfl rfl .nil) (q_nil rfl rfl) rfl) zA))) (ac (fun γ => (ac (qp rfl rfl (.v 1 rfl rfl .nil) (q_fa rfl rfl Tryz.underlying58 rfl rfl Tryz.sizeOf56 rfl) rfl) (ac (qp rfl rfl (.v 1 rfl rfl .nil) (q_fa rfl rfl Tryz.underlying58 rfl rfl Tryz.sizeOf56 rfl) rfl) zA))) (ac (fun γ => (ac (qp rfl rfl (.v 2 rfl rfl .nil) (q_load rfl rfl Tryz.isAgg56 (.obj 2 rfl rfl)) rfl) (ac (qp rfl rfl (.v 2 rfl rfl .nil) (q_load rfl rfl Tryz.isAgg56 (.obj 3 rfl rfl)) rfl) zA))) (ac (fun γ => (ac (qp rfl rfl (.o (s := 3) rfl (by decide) .nil) (q_fa rfl rfl Tryz.underlying49 rfl rfl Tryz.sizeOf3 rfl) rfl) (ac (qp rfl rfl (.o (s := 3) rfl (by decide) .nil) (q_fa rfl rfl Tryz.underlying49 rfl rfl Tryz.sizeOf3 rfl) rfl) zA))) (ac (fun γ => (ac (qp rfl rfl (.v 4 rfl rfl .nil) (q_load rfl rfl Tryz.isAgg3 (.obj 1 rfl rfl)) rfl) (ac (qp rfl rfl (.v 4 rfl rfl .nil) (q_load rfl rfl Tryz.isAgg3 (.obj 2 rfl rfl)) rfl) zA))) (ac (fun γ => (ac (qp rfl rfl (.v 3 rfl rfl (.v 5 rfl rfl .nil)) ((q_mlook2 (ek := enc3) (ev := enc69) (z := dz69) 4 x1_1 rfl rfl rfl Tryz.underlying56 key3 Tryz.zeroValue69 rfl : RQ _ _ _ _ (.tuple #[.agg #[.int .i64 (((mget x0_1 x1_1).getD dz69).1), .int .i64 (((mget x0_1 x1_1).getD dz69).2.1), .int .i64 (((mget x0_1 x1_1).getD dz69).2.2.1), str (((mget x0_1 x1_1).getD dz69).2.2.2)], .bool ((mget x0_1 x1_1).isSome)]))) rfl) (ac (qp rfl rfl (.v 3 rfl rfl (.v 5 rfl rfl .nil)) ((q_mlook2 (ek := enc3) (ev := enc69) (z := dz69) 5 x1_1 rfl rfl rfl Tryz.underlying56 key3 Tryz.zeroValue69 rfl : RQ _ _ _ _ (.tuple #[.agg #[.int .i64 (((mget x0_1 x1_1).getD dz69).1), .int .i64 (((mget x0_1 x1_1).getD dz69).2.1), .int .i64 (((mget x0_1 x1_1).getD dz69).2.2.1), str (((mget x0_1 x1_1).getD dz69).2.2.2)], .bool ((mget x0_1 x1_1).isSome)]))) rfl) zA))) (ac (fun γ => (ac (qm rfl (.v 6 rfl rfl .nil) rfl) (ac (qm rfl (.v 6 rfl rfl .nil) rfl) zA))) (ac (fun γ => (ac (qp rfl rfl (.v 7 rfl rfl .nil) (q_ext rfl rfl rfl) rfl) (ac (qp rfl rfl (.v 7 rfl rfl .nil) (q_ext rfl rfl rfl) rfl) zA))) (ac (fun γ => (ac (qp rfl rfl (.v 7 rfl rfl .nil) (q_ext rfl rfl rfl) rfl) (ac (qp rfl rfl (.v 7 rfl rfl .nil) (q_ext rfl rfl rfl) rfl) (ac (qp rfl rfl (.v 7 rfl rfl .nil) (q_ext rfl rfl rfl) rfl) zA)))) (aq rfl (fun γ => qp rfl rfl (.v 9 rfl rfl .nil) (q_asg rfl rfl) rfl) zA)))))))))))
 exact (ac (fun γ => eo (Z := Nat) (fun z => z) rfl rfl .nil (re_alloc rfl Tryz.zeroValue69 rfl) (fun _ => ⟨rfl, rfl, rfl, rfl, rfl, rfl, rfl, rfl, rfl, rfl, trivial⟩) (fun _ => .inr rfl) (fun z => Ent.refl _)) (ac (fun γ => eo (Z := Unit) (fun z => γ) rfl rfl (.v 10 rfl rfl (.v 8 rfl rfl .nil)) (re_store 0 rfl rfl rfl Tryz.sizeOf69 rfl rfl (one_of (by rfl)) rfl rfl) (fun _ => ⟨rfl, rfl, rfl, rfl, rfl, rfl, rfl, rfl, rfl, rfl, rfl, trivial⟩) (fun _ => .inl rfl) (fun z => Ent.refl _)) zA))
 intro g9v
 refine nrm_then (sim_seq ?_)
 refine sim_block ?_
 refine sr ?_
 refine vm rfl rfl ?_
 refine vm rfl rfl ?_
 refine simL_valc (b := (mget x0_1 x1_1).isSome) (fun hb61v => RQ.sub (E' := [(3, .pointer (some ⟨b1v, 0, none⟩))]) ⟨rfl, trivial⟩ (q_fa rfl rfl Tryz.underlying49 rfl rfl Tryz.sizeOf3 rfl)) rfl rfl rfl rfl rfl ?_
 refine simL_valc (b := (mget x0_1 x1_1).isSome) (fun hb60v => RQ.sub (E' := [(30, .pointer (some ⟨b1v, 2, none⟩))]) ⟨lk_cv rfl hb60v, trivial⟩ (q_load rfl rfl Tryz.isAgg3 (.obj 2 rfl rfl))) rfl rfl rfl rfl rfl ?_
 refine simL_valc (b := (mget x0_1 x1_1).isSome) (fun hb59v => RQ.sub (E' := [(7, .pointer (some ⟨g9v, 0, none⟩))]) ⟨rfl, trivial⟩ (q_fa rfl rfl Tryz.underlying69 rfl rfl Tryz.sizeOf3 rfl)) rfl rfl rfl rfl rfl ?_
 refine simL_valc (b := (mget x0_1 x1_1).isSome) (fun hb58v => RQ.sub (E' := [(32, .pointer (some ⟨g9v, 1, none⟩))]) ⟨lk_cv rfl hb58v, trivial⟩ (q_load rfl rfl Tryz.isAgg3 (.obj 0 rfl rfl))) rfl rfl rfl rfl rfl ?_
 refine simL_valc (b := (mget x0_1 x1_1).isSome) (fun hb57v => RQ.sub (E' := [(31, .int .i64 x1_2), (33, .int .i64 (((mget x0_1 x1_1).getD dz69).2.1))]) ⟨lk_cv rfl hb57v, lk_cv rfl hb57v, trivial⟩ (q_eql rfl rfl rfl)) rfl rfl rfl rfl rfl ?_
 refine vq (q_and rfl rfl rfl) rfl ?_
 refine va rfl rfl (simL_nil (nrm_then ?_))
 refine sim_condb rfl (fun h10v => ?_) (fun h11v => ?_)
 refine sr ?_
 refine vq (q_fa rfl rfl Tryz.underlying69 rfl rfl Tryz.sizeOf45 rfl) rfl ?_
 refine vq (q_loads (vs := [.int .i64 (((mget x0_1 x1_1).getD dz69).2.2.1), str (((mget x0_1 x1_1).getD dz69).2.2.2)]) rfl rfl Tryz.isAgg45 Tryz.sizeOf45 rfl (cells_obj 0 rfl (cells_lit rfl))) rfl ?_
 refine simL_do (re_store 1 rfl rfl rfl Tryz.sizeOf45 rfl rfl (one_of (by rfl)) rfl rfl) rfl rfl ?_
 intro _
 refine va rfl rfl (simL_nil (nrm_then (sim_rtn ?_)))
 refine rtn_block ?_
 refine rtn_then ?_
 exact rtn_fnC (vs := [.agg #[.int .i64 (((mget x0_1 x1_1).getD dz69).2.2.1), str (((mget x0_1 x1_1).getD dz69).2.2.2)], .int .i64 0]) (m0_0, m0_1) rfl ⟨⟨b2v, rfl, load_agg 1 Tryz.isAgg45 Tryz.sizeOf45 rfl rfl⟩, rfl, trivial⟩ rfl (.sel 3 rfl (.sel 3 rfl (.sel 3 rfl (.sel 3 rfl (.nil _)))))
 refine sr ?_
 refine vm rfl rfl ?_
 refine vm rfl rfl ?_
 refine simL_valc (b := (mget x0_1 x1_1).isSome) (fun hb56v => RQ.sub (E' := [(3, .pointer (some ⟨b1v, 0, none⟩))]) ⟨rfl, trivial⟩ (q_fa rfl rfl Tryz.underlying49 rfl rfl Tryz.sizeOf3 rfl)) rfl rfl rfl rfl rfl ?_
 refine simL_valc (b := (mget x0_1 x1_1).isSome) (fun hb55v => RQ.sub (E' := [(41, .pointer (some ⟨b1v, 2, none⟩))]) ⟨lk_cv rfl hb55v, trivial⟩ (q_load rfl rfl Tryz.isAgg3 (.obj 2 rfl rfl))) rfl rfl rfl rfl rfl ?_
 refine simL_valc (b := (mget x0_1 x1_1).isSome) (fun hb54v => RQ.sub (E' := [(7, .pointer (some ⟨g9v, 0, none⟩))]) ⟨rfl, trivial⟩ (q_fa rfl rfl Tryz.underlying69 rfl rfl Tryz.sizeOf3 rfl)) rfl rfl rfl rfl rfl ?_
 refine simL_valc (b := (mget x0_1 x1_1).isSome) (fun hb53v => RQ.sub (E' := [(43, .pointer (some ⟨g9v, 1, none⟩))]) ⟨lk_cv rfl hb53v, trivial⟩ (q_load rfl rfl Tryz.isAgg3 (.obj 0 rfl rfl))) rfl rfl rfl rfl rfl ?_
 refine simL_valc (b := (mget x0_1 x1_1).isSome) (fun hb52v => RQ.sub (E' := [(42, .int .i64 x1_2), (44, .int .i64 (((mget x0_1 x1_1).getD dz69).2.1))]) ⟨lk_cv rfl hb52v, lk_cv rfl hb52v, trivial⟩ (q_lss rfl rfl rfl)) rfl rfl rfl rfl rfl ?_
 refine vq (q_and rfl rfl rfl) rfl ?_
 refine va rfl rfl (simL_nil (nrm_then ?_))
 refine sim_condb rfl (fun h12v => ?_) (fun h13v => ?_)
 refine sr ?_
 refine vq (q_build (v := .agg #[.int .i64 4, str ([] : List UInt8)]) rfl rfl (fun _ => by kernel_rfl)) rfl ?_
 refine simL_do (re_store 1 rfl rfl rfl Tryz.sizeOf45 rfl rfl (one_of (by rfl)) rfl rfl) rfl rfl ?_
 intro _
 refine va rfl rfl (simL_nil (nrm_then (sim_rtn ?_)))
 refine rtn_block ?_
 refine rtn_then ?_
 exact rtn_fnC (vs := [.agg #[.int .i64 4, str ([] : List UInt8)], .int .i64 0]) (m0_0, m0_1) rfl ⟨⟨b2v, rfl, load_agg 1 Tryz.isAgg45 Tryz.sizeOf45 rfl rfl⟩, rfl, trivial⟩ rfl (.sel 3 rfl (.sel 3 rfl (.sel 3 rfl (.sel 3 rfl (.nil _)))))
 refine sr ?_
 refine vm rfl rfl ?_
 refine vq (q_not rfl rfl) rfl ?_
 refine vm rfl rfl ?_
 refine simL_valc (b := !((mget x0_1 x1_1).isSome)) (fun hb51v => RQ.sub (E' := [(0, .pointer (some ⟨b0, 0, none⟩))]) ⟨rfl, trivial⟩ (q_move rfl rfl)) rfl rfl rfl rfl rfl ?_
 refine simL_valc (b := !((mget x0_1 x1_1).isSome)) (fun hb50v => RQ.sub (E' := [(52, .pointer (some ⟨b0, 0, none⟩))]) ⟨lk_cv rfl hb50v, trivial⟩ (q_nil rfl rfl)) rfl rfl rfl rfl rfl ?_
 refine simL_valc (b := !((mget x0_1 x1_1).isSome)) (fun hb49v => RQ.sub (E' := [(53, .pointer (some ⟨b0, 0, none⟩))]) ⟨lk_cv rfl hb49v, trivial⟩ (q_fa rfl rfl Tryz.underlying58 rfl rfl Tryz.sizeOf56 rfl)) rfl rfl rfl rfl rfl ?_
 refine simL_valc (b := !((mget x0_1 x1_1).isSome)) (fun hb48v => RQ.sub (E' := [(54, .pointer (some ⟨b0, 1, none⟩))]) ⟨lk_cv rfl hb48v, trivial⟩ (q_load rfl rfl Tryz.isAgg56 (.obj 3 rfl rfl))) rfl rfl rfl rfl rfl ?_
 refine simL_valc (b := !((mget x0_1 x1_1).isSome)) (fun hb47v => RQ.sub (E' := [(55, .map (some m0_1))]) ⟨lk_cv rfl hb47v, trivial⟩ (q_mlen 5 rfl rfl rfl Tryz.underlying56 rfl)) rfl rfl rfl rfl rfl ?_
 refine simL_valc (b := !((mget x0_1 x1_1).isSome)) (fun hb46v => RQ.sub (E' := [(56, .int .i64 (x0_1.length : Int))]) ⟨lk_cv rfl hb46v, trivial⟩ (q_geq rfl rfl rfl)) rfl rfl rfl rfl rfl ?_
 refine vq (q_and rfl rfl rfl) rfl ?_
 refine va rfl rfl (simL_nil (nrm_then ?_))
 refine sim_condb rfl (fun h14v => ?_) (fun h15v => ?_)
 refine sr ?_
 refine vq (q_build (v := .agg #[.int .i64 5, str ([] : List UInt8)]) rfl rfl (fun _ => by kernel_rfl)) rfl ?_
 refine simL_do (re_store 1 rfl rfl rfl Tryz.sizeOf45 rfl rfl (one_of (by rfl)) rfl rfl) rfl rfl ?_
 intro _
 refine va rfl rfl (simL_nil (nrm_then (sim_rtn ?_)))
 refine rtn_block ?_
 refine rtn_then ?_
 exact rtn_fnC (vs := [.agg #[.int .i64 5, str ([] : List UInt8)], .int .i64 0]) (m0_0, m0_1) rfl ⟨⟨b2v, rfl, load_agg 1 Tryz.isAgg45 Tryz.sizeOf45 rfl rfl⟩, rfl, trivial⟩ rfl (.sel 3 rfl (.sel 3 rfl (.sel 3 rfl (.sel 3 rfl (.nil _)))))
 refine sim_skip ?_
 refine nrm_block (nrm_then ?_)
 refine sim_cut (S := Int × List UInt8 × (List ((List UInt8) × (List UInt8))) × (List ((Int) × (Ty69)))) (Nat × Nat × Nat) (fun s y => [(0, .pointer (some ⟨b0, 0, none⟩)), (3, .pointer (some ⟨b1v, 0, none⟩)), (4, .pointer (some ⟨b2v, 0, none⟩)), (9, .pointer (some ⟨y.1, 0, none⟩))]) (fun s y => [obj b0 58 [.map (some y.2.1), .map (some y.2.2)], obj b2v 45 [.int .i64 0, str ([] : List UInt8)], obj b1v 49 [.int .i64 x1_0, .int .i64 x1_1, .int .i64 x1_2, str x1_3, str x1_4, str x1_5], obj y.1 45 [.int .i64 s.1, str s.2.1], mapO y.2.1 enc9 enc9 s.2.2.1, mapO y.2.2 enc3 enc69 s.2.2.2, F]) ?_ ?_
 refine sim_if (fun hk18v => ?_) (fun hk18v => ?_)
 refine sim_bind (fun s19v hs20v => ?_)
 refine sim_bind (fun s22v hs23v => ?_)
 refine sim_drawI (Γ := Nat × (Nat × Nat) × Nat) (0, (0, 0), 0) [[], [], [1], [0, 1, 2], [], [], rL 6, [], rL 8] [0, 6, 7, 8] [1, 2, 3, 4, 5] [[], [0], [0, 6], [7], [0, 7], [0, 6, 7], [0, 6, 7, 8]] 6 (fun i => [[0, 3], [0, 1, 3, 4], [0, 1, 3, 4], [1, 4], [0, 1, 3, 4], [0, 1, 3, 4], [1, 4], [0, 1, 2], [5]].getD i []) (fun i s => ([[1, 0, 0, 4, 0, 0, 0], [], [], [], [], [], [0, 2, 0, 0, 5, 0, 0], [3, 4, 5, 0, 0, 0, 0], [0, 0, 0, 0, 0, 6, 0]].getD i []).getD s 0) (fun i => [[1, 2, 4, 5, 7], [], [], [], [], [], [0, 1, 2, 3, 4, 5, 7], rL 7, rL 8].getD i []) (fun γ i => [.map (some γ.1), .pointer (some ⟨b1v, 0, none⟩), .int .i64 x1_0, .func (.func 82) #[] #[], .pointer (some ⟨b0, 0, none⟩), .agg #[.int .i64 x1_0, .int .i64 x1_1, .int .i64 x1_2, str x1_3, str x1_4, str x1_5], .agg #[.int .i64 s22v.1, str s22v.2.1], .pointer (some ⟨γ.2.2, 0, none⟩), undef].getD i undef) (fun j γ => [[obj g9v 69 [.int .i64 (((mget x0_1 x1_1).getD dz69).1), .int .i64 (((mget x0_1 x1_1).getD dz69).2.1), .int .i64 (((mget x0_1 x1_1).getD dz69).2.2.1), str (((mget x0_1 x1_1).getD dz69).2.2.2)], obj b2v 45 [.int .i64 0, str ([] : List UInt8)], obj b1v 49 [.int .i64 x1_0, .int .i64 x1_1, .int .i64 x1_2, str x1_3, str x1_4, str x1_5], obj b0 58 [.map (some m0_0), .map (some m0_1)], mapO m0_0 enc9 enc9 x0_0, mapO m0_1 enc3 enc69 x0_1, F], [mapO γ.1 enc3 enc101 (mput (mput (mput ([] : List ((Int) × (Option Nat))) (2 : Int) (some 82)) (3 : Int) (some 83)) (4 : Int) (some 84)), obj g9v 69 [.int .i64 (((mget x0_1 x1_1).getD dz69).1), .int .i64 (((mget x0_1 x1_1).getD dz69).2.1), .int .i64 (((mget x0_1 x1_1).getD dz69).2.2.1), str (((mget x0_1 x1_1).getD dz69).2.2.2)], obj b2v 45 [.int .i64 0, str ([] : List UInt8)], obj b1v 49 [.int .i64 x1_0, .int .i64 x1_1, .int .i64 x1_2, str x1_3, str x1_4, str x1_5], obj b0 58 [.map (some m0_0), .map (some m0_1)], mapO m0_0 enc9 enc9 x0_0, mapO m0_1 enc3 enc69 x0_1, F], [obj b0 58 [.map (some γ.2.1.1), .map (some γ.2.1.2)], mapO γ.2.1.1 enc9 enc9 s22v.2.2.1, mapO γ.2.1.2 enc3 enc69 s22v.2.2.2, mapO γ.1 enc3 enc101 (mput (mput (mput ([] : List ((Int) × (Option Nat))) (2 : Int) (some 82)) (3 : Int) (some 83)) (4 : Int) (some 84)), obj g9v 69 [.int .i64 (((mget x0_1 x1_1).getD dz69).1), .int .i64 (((mget x0_1 x1_1).getD dz69).2.1), .int .i64 (((mget x0_1 x1_1).getD dz69).2.2.1), str (((mget x0_1 x1_1).getD dz69).2.2.2)], obj b2v 45 [.int .i64 0, str ([] : List UInt8)], obj b1v 49 [.int .i64 x1_0, .int .i64 x1_1, .int .i64 x1_2, str x1_3, str x1_4, str x1_5], F], [obj γ.2.2 45 [.int .i64 0, str ([] : List UInt8)], obj g9v 69 [.int .i64 (((mget x0_1 x1_1).getD dz69).1), .int .i64 (((mget x0_1 x1_1).getD dz69).2.1), .int .i64 (((mget x0_1 x1_1).getD dz69).2.2.1), str (((mget x0_1 x1_1).getD dz69).2.2.2)], obj b2v 45 [.int .i64 0, str ([] : List UInt8)], obj b1v 49 [.int .i64 x1_0, .int .i64 x1_1, .int .i64 x1_2, str x1_3, str x1_4, str x1_5], obj b0 58 [.map (some m0_0), .map (some m0_1)], mapO m0_0 enc9 enc9 x0_0, mapO m0_1 enc3 enc69 x0_1, F], [obj γ.2.2 45 [.int .i64 0, str ([] : List UInt8)], mapO γ.1 enc3 enc101 (mput (mput (mput ([] : List ((Int) × (Option Nat))) (2 : Int) (some 82)) (3 : Int) (some 83)) (4 : Int) (some 84)), obj g9v 69 [.int .i64 (((mget x0_1 x1_1).getD dz69).1), .int .i64 (((mget x0_1 x1_1).getD dz69).2.1), .int .i64 (((mget x0_1 x1_1).getD dz69).2.2.1), str (((mget x0_1 x1_1).getD dz69).2.2.2)], obj b2v 45 [.int .i64 0, str ([] : List UInt8)], obj b1v 49 [.int .i64 x1_0, .int .i64 x1_1, .int .i64 x1_2, str x1_3, str x1_4, str x1_5], obj b0 58 [.map (some m0_0), .map (some m0_1)], mapO m0_0 enc9 enc9 x0_0, mapO m0_1 enc3 enc69 x0_1, F], [obj γ.2.2 45 [.int .i64 0, str ([] : List UInt8)], obj b0 58 [.map (some γ.2.1.1), .map (some γ.2.1.2)], mapO γ.2.1.1 enc9 enc9 s22v.2.2.1, mapO γ.2.1.2 enc3 enc69 s22v.2.2.2, mapO γ.1 enc3 enc101 (mput (mput (mput ([] : List ((Int) × (Option Nat))) (2 : Int) (some 82)) (3 : Int) (some 83)) (4 : Int) (some 84)), obj g9v 69 [.int .i64 (((mget x0_1 x1_1).getD dz69).1), .int .i64 (((mget x0_1 x1_1).getD dz69).2.1), .int .i64 (((mget x0_1 x1_1).getD dz69).2.2.1), str (((mget x0_1 x1_1).getD dz69).2.2.2)], obj b2v 45 [.int .i64 0, str ([] : List UInt8)], obj b1v 49 [.int .i64 x1_0, .int .i64 x1_1, .int .i64 x1_2, str x1_3, str x1_4, str x1_5], F], [obj γ.2.2 45 [.int .i64 s22v.1, str s22v.2.1], obj b0 58 [.map (some γ.2.1.1), .map (some γ.2.1.2)], mapO γ.2.1.1 enc9 enc9 s22v.2.2.1, mapO γ.2.1.2 enc3 enc69 s22v.2.2.2, mapO γ.1 enc3 enc101 (mput (mput (mput ([] : List ((Int) × (Option Nat))) (2 : Int) (some 82)) (3 : Int) (some 83)) (4 : Int) (some 84)), obj g9v 69 [.int .i64 (((mget x0_1 x1_1).getD dz69).1), .int .i64 (((mget x0_1 x1_1).getD dz69).2.1), .int .i64 (((mget x0_1 x1_1).getD dz69).2.2.1), str (((mget x0_1 x1_1).getD dz69).2.2.2)], obj b2v 45 [.int .i64 0, str ([] : List UInt8)], obj b1v 49 [.int .i64 x1_0, .int .i64 x1_1, .int .i64 x1_2, str x1_3, str x1_4, str x1_5], F]].getD j []) (fun γ => [(0, .pointer (some ⟨b0, 0, none⟩)), (3, .pointer (some ⟨b1v, 0, none⟩)), (4, .pointer (some ⟨b2v, 0, none⟩)), (9, .pointer (some ⟨γ.2.2, 0, none⟩))]) mixed (by decide) (by decide) (by decide) (by decide) (by decide) (by decide) 80 rfl (by decide) (by decide) (by decide) (by decide) (by decide) (by decide) (Ent.refl _) ?_ ?_ (fun _ => ⟨rfl, rfl, rfl, rfl, trivial⟩) ?_
 exact (ac (fun γ => (ac (qp rfl rfl (.o (s := 3) rfl (by decide) .nil) (q_fa rfl rfl Tryz.underlying49 rfl rfl Tryz.sizeOf3 rfl) rfl) (ac (qp rfl rfl (.o (s := 3) rfl (by decide) .nil) (q_fa rfl rfl Tryz.underlying49 rfl rfl Tryz.sizeOf3 rfl) rfl) (ac (qp rfl rfl (.o (s := 3) rfl (by decide) .nil) (q_fa rfl rfl Tryz.underlying49 rfl rfl Tryz.sizeOf3 rfl) rfl) (ac (qp rfl rfl (.o (s := 3) rfl (by decide) .nil) (q_fa rfl rfl Tryz.underlying49 rfl rfl Tryz.sizeOf3 rfl) rfl) zA))))) (ac (fun γ => (ac (qp rfl rfl (.v 1 rfl rfl .nil) (q_load rfl rfl Tryz.isAgg3 (.obj 2 rfl rfl)) rfl) (ac (qp rfl rfl (.v 1 rfl rfl .nil) (q_load rfl rfl Tryz.isAgg3 (.obj 3 rfl rfl)) rfl) (ac (qp rfl rfl (.v 1 rfl rfl .nil) (q_load rfl rfl Tryz.isAgg3 (.obj 3 rfl rfl)) rfl) (ac (qp rfl rfl (.v 1 rfl rfl .nil) (q_load rfl rfl Tryz.isAgg3 (.obj 4 rfl rfl)) rfl) zA))))) (ac (fun γ => (ac (qp rfl rfl (.v 0 rfl rfl (.v 2 rfl rfl .nil)) ((RQ.eq (by rw [hk18v]; rfl) (q_mlook (ek := enc3) (ev := enc101) (z := none) 0 x1_0 rfl rfl rfl Tryz.underlying102 key3 Tryz.zeroValue101 rfl) : RQ _ _ _ _ (.func (.func 82) #[] #[]))) rfl) (ac (qp rfl rfl (.v 0 rfl rfl (.v 2 rfl rfl .nil)) ((RQ.eq (by rw [hk18v]; rfl) (q_mlook (ek := enc3) (ev := enc101) (z := none) 1 x1_0 rfl rfl rfl Tryz.underlying102 key3 Tryz.zeroValue101 rfl) : RQ _ _ _ _ (.func (.func 82) #[] #[]))) rfl) zA))) (ac (fun γ => (ac (qm rfl (.o (s := 0) rfl (by decide) .nil) rfl) (ac (qm rfl (.o (s := 0) rfl (by decide) .nil) rfl) (ac (qm rfl (.o (s := 0) rfl (by decide) .nil) rfl) (ac (qm rfl (.o (s := 0) rfl (by decide) .nil) rfl) zA))))) (ac (fun γ => (ac (qp rfl rfl (.o (s := 3) rfl (by decide) .nil) (q_loado 2 rfl rfl Tryz.isAgg49 Tryz.sizeOf49 rfl rfl) rfl) (ac (qp rfl rfl (.o (s := 3) rfl (by decide) .nil) (q_loado 3 rfl rfl Tryz.isAgg49 Tryz.sizeOf49 rfl rfl) rfl) (ac (qp rfl rfl (.o (s := 3) rfl (by decide) .nil) (q_loado 3 rfl rfl Tryz.isAgg49 Tryz.sizeOf49 rfl rfl) rfl) (ac (qp rfl rfl (.o (s := 3) rfl (by decide) .nil) (q_loado 4 rfl rfl Tryz.isAgg49 Tryz.sizeOf49 rfl rfl) rfl) zA))))) zA)))))
 exact (ac (fun γ => (ac (eoI (Z := Nat) (fun z => (z, γ.2.1, γ.2.2)) rfl rfl .nil (re_call (vs := []) (cap := []) (A := []) (rst := [obj g9v 69 [.int .i64 (((mget x0_1 x1_1).getD dz69).1), .int .i64 (((mget x0_1 x1_1).getD dz69).2.1), .int .i64 (((mget x0_1 x1_1).getD dz69).2.2.1), str (((mget x0_1 x1_1).getD dz69).2.2.2)], obj b2v 45 [.int .i64 0, str ([] : List UInt8)], obj b1v 49 [.int .i64 x1_0, .int .i64 x1_1, .int .i64 x1_2, str x1_3, str x1_4, str x1_5], obj b0 58 [.map (some m0_0), .map (some m0_1)], mapO m0_0 enc9 enc9 x0_0, mapO m0_1 enc3 enc69 x0_1, F]) rfl rfl rfl rfl rfl rfl Tryz.call46 (.sel 0 rfl (.sel 0 rfl (.sel 0 rfl (.sel 0 rfl (.sel 0 rfl (.sel 0 rfl (.sel 0 rfl (.nil _)))))))) (kv_operations.calls _ _  ) hs20v) (fun _ => ⟨rfl, rfl, rfl, rfl, rfl, trivial⟩) (fun _ => .inr rfl) (fun z => (.sel 0 rfl (.sel 0 rfl (.sel 0 rfl (.sel 0 rfl (.sel 0 rfl (.sel 0 rfl (.sel 0 rfl (.sel 0 rfl (.nil _))))))))))) (ac (eoI (Z := Nat) (fun z => (z, γ.2.1, γ.2.2)) rfl rfl .nil (re_call (vs := []) (cap := []) (A := []) (rst := [obj γ.2.2 45 [.int .i64 0, str ([] : List UInt8)], obj g9v 69 [.int .i64 (((mget x0_1 x1_1).getD dz69).1), .int .i64 (((mget x0_1 x1_1).getD dz69).2.1), .int .i64 (((mget x0_1 x1_1).getD dz69).2.2.1), str (((mget x0_1 x1_1).getD dz69).2.2.2)], obj b2v 45 [.int .i64 0, str ([] : List UInt8)], obj b1v 49 [.int .i64 x1_0, .int .i64 x1_1, .int .i64 x1_2, str x1_3, str x1_4, str x1_5], obj b0 58 [.map (some m0_0), .map (some m0_1)], mapO m0_0 enc9 enc9 x0_0, mapO m0_1 enc3 enc69 x0_1, F]) rfl rfl rfl rfl rfl rfl Tryz.call46 (.sel 0 rfl (.sel 0 rfl (.sel 0 rfl (.sel 0 rfl (.sel 0 rfl (.sel 0 rfl (.sel 0 rfl (.sel 0 rfl (.nil _))))))))) (kv_operations.calls _ _  ) hs20v) (fun _ => ⟨rfl, rfl, rfl, rfl, rfl, trivial⟩) (fun _ => .inr rfl) (fun z => (.sel 1 rfl (.sel 0 rfl (.sel 0 rfl (.sel 0 rfl (.sel 0 rfl (.sel 0 rfl (.sel 0 rfl (.sel 0 rfl (.sel 0 rfl (.nil _)))))))))))) zA))) (ac (fun γ => (ac (eoI (Z := Nat × Nat) (fun z => (γ.1, z, γ.2.2)) rfl rfl (.v 3 rfl rfl (.v 4 rfl rfl (.v 5 rfl rfl .nil))) (re_call (vs := [.pointer (some ⟨b0, 0, none⟩), .agg #[.int .i64 x1_0, .int .i64 x1_1, .int .i64 x1_2, str x1_3, str x1_4, str x1_5]]) (cap := []) (A := [obj b0 58 [.map (some m0_0), .map (some m0_1)], mapO m0_0 enc9 enc9 x0_0, mapO m0_1 enc3 enc69 x0_1]) (rst := [mapO γ.1 enc3 enc101 (mput (mput (mput ([] : List ((Int) × (Option Nat))) (2 : Int) (some 82)) (3 : Int) (some 83)) (4 : Int) (some 84)), obj g9v 69 [.int .i64 (((mget x0_1 x1_1).getD dz69).1), .int .i64 (((mget x0_1 x1_1).getD dz69).2.1), .int .i64 (((mget x0_1 x1_1).getD dz69).2.2.1), str (((mget x0_1 x1_1).getD dz69).2.2.2)], obj b2v 45 [.int .i64 0, str ([] : List UInt8)], obj b1v 49 [.int .i64 x1_0, .int .i64 x1_1, .int .i64 x1_2, str x1_3, str x1_4, str x1_5], F]) rfl rfl rfl rfl rfl rfl Tryz.call82 (.sel 4 rfl (.sel 4 rfl (.sel 4 rfl (.sel 0 rfl (.sel 0 rfl (.sel 0 rfl (.sel 0 rfl (.sel 0 rfl (.nil _))))))))) (kv_operations_1.calls _ _ b0 m0_0 x0_0 m0_1 x0_1 x1_0 x1_1 x1_2 x1_3 x1_4 x1_5 ) hs23v) (fun _ => ⟨rfl, rfl, rfl, rfl, rfl, rfl, rfl, trivial⟩) (fun _ => .inr rfl) (fun z => (.sel 0 rfl (.sel 0 rfl (.sel 0 rfl (.sel 0 rfl (.sel 0 rfl (.sel 0 rfl (.sel 0 rfl (.sel 0 rfl (.nil _))))))))))) (ac (eoI (Z := Nat × Nat) (fun z => (γ.1, z, γ.2.2)) rfl rfl (.v 3 rfl rfl (.v 4 rfl rfl (.v 5 rfl rfl .nil))) (re_call (vs := [.pointer (some ⟨b0, 0, none⟩), .agg #[.int .i64 x1_0, .int .i64 x1_1, .int .i64 x1_2, str x1_3, str x1_4, str x1_5]]) (cap := []) (A := [obj b0 58 [.map (some m0_0), .map (some m0_1)], mapO m0_0 enc9 enc9 x0_0, mapO m0_1 enc3 enc69 x0_1]) (rst := [obj γ.2.2 45 [.int .i64 0, str ([] : List UInt8)], mapO γ.1 enc3 enc101 (mput (mput (mput ([] : List ((Int) × (Option Nat))) (2 : Int) (some 82)) (3 : Int) (some 83)) (4 : Int) (some 84)), obj g9v 69 [.int .i64 (((mget x0_1 x1_1).getD dz69).1), .int .i64 (((mget x0_1 x1_1).getD dz69).2.1), .int .i64 (((mget x0_1 x1_1).getD dz69).2.2.1), str (((mget x0_1 x1_1).getD dz69).2.2.2)], obj b2v 45 [.int .i64 0, str ([] : List UInt8)], obj b1v 49 [.int .i64 x1_0, .int .i64 x1_1, .int .i64 x1_2, str x1_3, str x1_4, str x1_5], F]) rfl rfl rfl rfl rfl rfl Tryz.call82 (.sel 5 rfl (.sel 5 rfl (.sel 5 rfl (.sel 0 rfl (.sel 0 rfl (.sel 0 rfl (.sel 0 rfl (.sel 0 rfl (.sel 0 rfl (.nil _)))))))))) (kv_operations_1.calls _ _ b0 m0_0 x0_0 m0_1 x0_1 x1_0 x1_1 x1_2 x1_3 x1_4 x1_5 ) hs23v) (fun _ => ⟨rfl, rfl, rfl, rfl, rfl, rfl, rfl, trivial⟩) (fun _ => .inr rfl) (fun z => (.sel 3 rfl (.sel 0 rfl (.sel 0 rfl (.sel 0 rfl (.sel 0 rfl (.sel 0 rfl (.sel 0 rfl (.sel 0 rfl (.sel 0 rfl (.nil _)))))))))))) zA))) (ac (fun γ => (ac (eoI (Z := Nat) (fun z => (γ.1, γ.2.1, z)) rfl rfl .nil (re_alloc rfl Tryz.zeroValue45 rfl) (fun _ => ⟨rfl, rfl, rfl, rfl, rfl, rfl, rfl, trivial⟩) (fun _ => .inr rfl) (fun z => (.sel 0 rfl (.sel 0 rfl (.sel 0 rfl (.sel 0 rfl (.sel 0 rfl (.sel 0 rfl (.sel 0 rfl (.sel 0 rfl (.nil _))))))))))) (ac (eoI (Z := Nat) (fun z => (γ.1, γ.2.1, z)) rfl rfl .nil (re_alloc rfl Tryz.zeroValue45 rfl) (fun _ => ⟨rfl, rfl, rfl, rfl, rfl, rfl, rfl, trivial⟩) (fun _ => .inr rfl) (fun z => (.sel 0 rfl (.sel 0 rfl (.sel 0 rfl (.sel 0 rfl (.sel 0 rfl (.sel 0 rfl (.sel 0 rfl (.sel 0 rfl (.sel 0 rfl (.nil _)))))))))))) (ac (eoI (Z := Nat) (fun z => (γ.1, γ.2.1, z)) rfl rfl .nil (re_alloc rfl Tryz.zeroValue45 rfl) (fun _ => ⟨rfl, rfl, rfl, rfl, rfl, rfl, rfl, trivial⟩) (fun _ => .inr rfl) (fun z => (.sel 0 rfl (.sel 0 rfl (.sel 0 rfl (.sel 0 rfl (.sel 0 rfl (.sel 0 rfl (.sel 0 rfl (.sel 0 rfl (.sel 0 rfl (.nil _)))))))))))) zA)))) (aq rfl (fun γ => eoI (Z := Unit) (fun z => (γ.1, γ.2.1, γ.2.2)) rfl rfl (.v 7 rfl rfl (.v 6 rfl rfl .nil)) (re_store 0 rfl rfl rfl Tryz.sizeOf45 rfl rfl (one_of (by rfl)) rfl rfl) (fun _ => ⟨rfl, rfl, rfl, rfl, rfl, rfl, rfl, rfl, trivial⟩) (fun _ => .inl rfl) (fun z => (.sel 0 rfl (.sel 0 rfl (.sel 0 rfl (.sel 0 rfl (.sel 0 rfl (.sel 0 rfl (.sel 0 rfl (.sel 0 rfl (.sel 0 rfl (.nil _)))))))))))) zA))))
 intro g26v
 exact nrm_cut (s := (s22v.1, s22v.2.1, s22v.2.2.1, s22v.2.2.2)) (g26v.2.2, g26v.2.1.1, g26v.2.1.2) ⟨rfl, rfl, rfl, rfl, trivial⟩ (.sel 1 rfl (.sel 5 rfl (.sel 5 rfl (.sel 0 rfl (.sel 0 rfl (.sel 0 rfl (.sel 2 rfl (.nil _))))))))
 refine sim_if (fun hk27v => ?_) (fun hk27v => ?_)
 refine sim_bind (fun s28v hs29v => ?_)
 refine sim_bind (fun s31v hs32v => ?_)
 refine sim_drawI (Γ := Nat × (Nat × Nat) × Nat) (0, (0, 0), 0) [[], [], [1], [0, 1, 2], [], [], rL 6, [], rL 8] [0, 6, 7, 8] [1, 2, 3, 4, 5] [[], [0], [0, 6], [7], [0, 7], [0, 6, 7], [0, 6, 7, 8]] 6 (fun i => [[0, 3], [0, 1, 3, 4], [0, 1, 3, 4], [1, 4], [0, 1, 3, 4], [0, 1, 3, 4], [1, 4], [0, 1, 2], [5]].getD i []) (fun i s => ([[1, 0, 0, 4, 0, 0, 0], [], [], [], [], [], [0, 2, 0, 0, 5, 0, 0], [3, 4, 5, 0, 0, 0, 0], [0, 0, 0, 0, 0, 6, 0]].getD i []).getD s 0) (fun i => [[1, 2, 4, 5, 7], [], [], [], [], [], [0, 1, 2, 3, 4, 5, 7], rL 7, rL 8].getD i []) (fun γ i => [.map (some γ.1), .pointer (some ⟨b1v, 0, none⟩), .int .i64 x1_0, .func (.func 83) #[] #[], .pointer (some ⟨b0, 0, none⟩), .agg #[.int .i64 x1_0, .int .i64 x1_1, .int .i64 x1_2, str x1_3, str x1_4, str x1_5], .agg #[.int .i64 s31v.1, str s31v.2.1], .pointer (some ⟨γ.2.2, 0, none⟩), undef].getD i undef) (fun j γ => [[obj g9v 69 [.int .i64 (((mget x0_1 x1_1).getD dz69).1), .int .i64 (((mget x0_1 x1_1).getD dz69).2.1), .int .i64 (((mget x0_1 x1_1).getD dz69).2.2.1), str (((mget x0_1 x1_1).getD dz69).2.2.2)], obj b2v 45 [.int .i64 0, str ([] : List UInt8)], obj b1v 49 [.int .i64 x1_0, .int .i64 x1_1, .int .i64 x1_2, str x1_3, str x1_4, str x1_5], obj b0 58 [.map (some m0_0), .map (some m0_1)], mapO m0_0 enc9 enc9 x0_0, mapO m0_1 enc3 enc69 x0_1, F], [mapO γ.1 enc3 enc101 (mput (mput (mput ([] : List ((Int) × (Option Nat))) (2 : Int) (some 82)) (3 : Int) (some 83)) (4 : Int) (some 84)), obj g9v 69 [.int .i64 (((mget x0_1 x1_1).getD dz69).1), .int .i64 (((mget x0_1 x1_1).getD dz69).2.1), .int .i64 (((mget x0_1 x1_1).getD dz69).2.2.1), str (((mget x0_1 x1_1).getD dz69).2.2.2)], obj b2v 45 [.int .i64 0, str ([] : List UInt8)], obj b1v 49 [.int .i64 x1_0, .int .i64 x1_1, .int .i64 x1_2, str x1_3, str x1_4, str x1_5], obj b0 58 [.map (some m0_0), .map (some m0_1)], mapO m0_0 enc9 enc9 x0_0, mapO m0_1 enc3 enc69 x0_1, F], [obj b0 58 [.map (some γ.2.1.1), .map (some γ.2.1.2)], mapO γ.2.1.1 enc9 enc9 s31v.2.2.1, mapO γ.2.1.2 enc3 enc69 s31v.2.2.2, mapO γ.1 enc3 enc101 (mput (mput (mput ([] : List ((Int) × (Option Nat))) (2 : Int) (some 82)) (3 : Int) (some 83)) (4 : Int) (some 84)), obj g9v 69 [.int .i64 (((mget x0_1 x1_1).getD dz69).1), .int .i64 (((mget x0_1 x1_1).getD dz69).2.1), .int .i64 (((mget x0_1 x1_1).getD dz69).2.2.1), str (((mget x0_1 x1_1).getD dz69).2.2.2)], obj b2v 45 [.int .i64 0, str ([] : List UInt8)], obj b1v 49 [.int .i64 x1_0, .int .i64 x1_1, .int .i64 x1_2, str x1_3, str x1_4, str x1_5], F], [obj γ.2.2 45 [.int .i64 0, str ([] : List UInt8)], obj g9v 69 [.int .i64 (((mget x0_1 x1_1).getD dz69).1), .int .i64 (((mget x0_1 x1_1).getD dz69).2.1), .int .i64 (((mget x0_1 x1_1).getD dz69).2.2.1), str (((mget x0_1 x1_1).getD dz69).2.2.2)], obj b2v 45 [.int .i64 0, str ([] : List UInt8)], obj b1v 49 [.int .i64 x1_0, .int .i64 x1_1, .int .i64 x1_2, str x1_3, str x1_4, str x1_5], obj b0 58 [.map (some m0_0), .map (some m0_1)], mapO m0_0 enc9 enc9 x0_0, mapO m0_1 enc3 enc69 x0_1, F], [obj γ.2.2 45 [.int .i64 0, str ([] : List UInt8)], mapO γ.1 enc3 enc101 (mput (mput (mput ([] : List ((Int) × (Option Nat))) (2 : Int) (some 82)) (3 : Int) (some 83)) (4 : Int) (some 84)), obj g9v 69 [.int .i64 (((mget x0_1 x1_1).getD dz69).1), .int .i64 (((mget x0_1 x1_1).getD dz69).2.1), .int .i64 (((mget x0_1 x1_1).getD dz69).2.2.1), str (((mget x0_1 x1_1).getD dz69).2.2.2)], obj b2v 45 [.int .i64 0, str ([] : List UInt8)], obj b1v 49 [.int .i64 x1_0, .int .i64 x1_1, .int .i64 x1_2, str x1_3, str x1_4, str x1_5], obj b0 58 [.map (some m0_0), .map (some m0_1)], mapO m0_0 enc9 enc9 x0_0, mapO m0_1 enc3 enc69 x0_1, F], [obj γ.2.2 45 [.int .i64 0, str ([] : List UInt8)], obj b0 58 [.map (some γ.2.1.1), .map (some γ.2.1.2)], mapO γ.2.1.1 enc9 enc9 s31v.2.2.1, mapO γ.2.1.2 enc3 enc69 s31v.2.2.2, mapO γ.1 enc3 enc101 (mput (mput (mput ([] : List ((Int) × (Option Nat))) (2 : Int) (some 82)) (3 : Int) (some 83)) (4 : Int) (some 84)), obj g9v 69 [.int .i64 (((mget x0_1 x1_1).getD dz69).1), .int .i64 (((mget x0_1 x1_1).getD dz69).2.1), .int .i64 (((mget x0_1 x1_1).getD dz69).2.2.1), str (((mget x0_1 x1_1).getD dz69).2.2.2)], obj b2v 45 [.int .i64 0, str ([] : List UInt8)], obj b1v 49 [.int .i64 x1_0, .int .i64 x1_1, .int .i64 x1_2, str x1_3, str x1_4, str x1_5], F], [obj γ.2.2 45 [.int .i64 s31v.1, str s31v.2.1], obj b0 58 [.map (some γ.2.1.1), .map (some γ.2.1.2)], mapO γ.2.1.1 enc9 enc9 s31v.2.2.1, mapO γ.2.1.2 enc3 enc69 s31v.2.2.2, mapO γ.1 enc3 enc101 (mput (mput (mput ([] : List ((Int) × (Option Nat))) (2 : Int) (some 82)) (3 : Int) (some 83)) (4 : Int) (some 84)), obj g9v 69 [.int .i64 (((mget x0_1 x1_1).getD dz69).1), .int .i64 (((mget x0_1 x1_1).getD dz69).2.1), .int .i64 (((mget x0_1 x1_1).getD dz69).2.2.1), str (((mget x0_1 x1_1).getD dz69).2.2.2)], obj b2v 45 [.int .i64 0, str ([] : List UInt8)], obj b1v 49 [.int .i64 x1_0, .int .i64 x1_1, .int .i64 x1_2, str x1_3, str x1_4, str x1_5], F]].getD j []) (fun γ => [(0, .pointer (some ⟨b0, 0, none⟩)), (3, .pointer (some ⟨b1v, 0, none⟩)), (4, .pointer (some ⟨b2v, 0, none⟩)), (9, .pointer (some ⟨γ.2.2, 0, none⟩))]) mixed (by decide) (by decide) (by decide) (by decide) (by decide) (by decide) 80 rfl (by decide) (by decide) (by decide) (by decide) (by decide) (by decide) (Ent.refl _) ?_ ?_ (fun _ => ⟨rfl, rfl, rfl, rfl, trivial⟩) ?_
 exact (ac (fun γ => (ac (qp rfl rfl (.o (s := 3) rfl (by decide) .nil) (q_fa rfl rfl Tryz.underlying49 rfl rfl Tryz.sizeOf3 rfl) rfl) (ac (qp rfl rfl (.o (s := 3) rfl (by decide) .nil) (q_fa rfl rfl Tryz.underlying49 rfl rfl Tryz.sizeOf3 rfl) rfl) (ac (qp rfl rfl (.o (s := 3) rfl (by decide) .nil) (q_fa rfl rfl Tryz.underlying49 rfl rfl Tryz.sizeOf3 rfl) rfl) (ac (qp rfl rfl (.o (s := 3) rfl (by decide) .nil) (q_fa rfl rfl Tryz.underlying49 rfl rfl Tryz.sizeOf3 rfl) rfl) zA))))) (ac (fun γ => (ac (qp rfl rfl (.v 1 rfl rfl .nil) (q_load rfl rfl Tryz.isAgg3 (.obj 2 rfl rfl)) rfl) (ac (qp rfl rfl (.v 1 rfl rfl .nil) (q_load rfl rfl Tryz.isAgg3 (.obj 3 rfl rfl)) rfl) (ac (qp rfl rfl (.v 1 rfl rfl .nil) (q_load rfl rfl Tryz.isAgg3 (.obj 3 rfl rfl)) rfl) (ac (qp rfl rfl (.v 1 rfl rfl .nil) (q_load rfl rfl Tryz.isAgg3 (.obj 4 rfl rfl)) rfl) zA))))) (ac (fun γ => (ac (qp rfl rfl (.v 0 rfl rfl (.v 2 rfl rfl .nil)) ((RQ.eq (by rw [hk27v]; rfl) (q_mlook (ek := enc3) (ev := enc101) (z := none) 0 x1_0 rfl rfl rfl Tryz.underlying102 key3 Tryz.zeroValue101 rfl) : RQ _ _ _ _ (.func (.func 83) #[] #[]))) rfl) (ac (qp rfl rfl (.v 0 rfl rfl (.v 2 rfl rfl .nil)) ((RQ.eq (by rw [hk27v]; rfl) (q_mlook (ek := enc3) (ev := enc101) (z := none) 1 x1_0 rfl rfl rfl Tryz.underlying102 key3 Tryz.zeroValue101 rfl) : RQ _ _ _ _ (.func (.func 83) #[] #[]))) rfl) zA))) (ac (fun γ => (ac (qm rfl (.o (s := 0) rfl (by decide) .nil) rfl) (ac (qm rfl (.o (s := 0) rfl (by decide) .nil) rfl) (ac (qm rfl (.o (s := 0) rfl (by decide) .nil) rfl) (ac (qm rfl (.o (s := 0) rfl (by decide) .nil) rfl) zA))))) (ac (fun γ => (ac (qp rfl rfl (.o (s := 3) rfl (by decide) .nil) (q_loado 2 rfl rfl Tryz.isAgg49 Tryz.sizeOf49 rfl rfl) rfl) (ac (qp rfl rfl (.o (s := 3) rfl (by decide) .nil) (q_loado 3 rfl rfl Tryz.isAgg49 Tryz.sizeOf49 rfl rfl) rfl) (ac (qp rfl rfl (.o (s := 3) rfl (by decide) .nil) (q_loado 3 rfl rfl Tryz.isAgg49 Tryz.sizeOf49 rfl rfl) rfl) (ac (qp rfl rfl (.o (s := 3) rfl (by decide) .nil) (q_loado 4 rfl rfl Tryz.isAgg49 Tryz.sizeOf49 rfl rfl) rfl) zA))))) zA)))))
 exact (ac (fun γ => (ac (eoI (Z := Nat) (fun z => (z, γ.2.1, γ.2.2)) rfl rfl .nil (re_call (vs := []) (cap := []) (A := []) (rst := [obj g9v 69 [.int .i64 (((mget x0_1 x1_1).getD dz69).1), .int .i64 (((mget x0_1 x1_1).getD dz69).2.1), .int .i64 (((mget x0_1 x1_1).getD dz69).2.2.1), str (((mget x0_1 x1_1).getD dz69).2.2.2)], obj b2v 45 [.int .i64 0, str ([] : List UInt8)], obj b1v 49 [.int .i64 x1_0, .int .i64 x1_1, .int .i64 x1_2, str x1_3, str x1_4, str x1_5], obj b0 58 [.map (some m0_0), .map (some m0_1)], mapO m0_0 enc9 enc9 x0_0, mapO m0_1 enc3 enc69 x0_1, F]) rfl rfl rfl rfl rfl rfl Tryz.call46 (.sel 0 rfl (.sel 0 rfl (.sel 0 rfl (.sel 0 rfl (.sel 0 rfl (.sel 0 rfl (.sel 0 rfl (.nil _)))))))) (kv_operations.calls _ _  ) hs29v) (fun _ => ⟨rfl, rfl, rfl, rfl, rfl, trivial⟩) (fun _ => .inr rfl) (fun z => (.sel 0 rfl (.sel 0 rfl (.sel 0 rfl (.sel 0 rfl (.sel 0 rfl (.sel 0 rfl (.sel 0 rfl (.sel 0 rfl (.nil _))))))))))) (ac (eoI (Z := Nat) (fun z => (z, γ.2.1, γ.2.2)) rfl rfl .nil (re_call (vs := []) (cap := []) (A := []) (rst := [obj γ.2.2 45 [.int .i64 0, str ([] : List UInt8)], obj g9v 69 [.int .i64 (((mget x0_1 x1_1).getD dz69).1), .int .i64 (((mget x0_1 x1_1).getD dz69).2.1), .int .i64 (((mget x0_1 x1_1).getD dz69).2.2.1), str (((mget x0_1 x1_1).getD dz69).2.2.2)], obj b2v 45 [.int .i64 0, str ([] : List UInt8)], obj b1v 49 [.int .i64 x1_0, .int .i64 x1_1, .int .i64 x1_2, str x1_3, str x1_4, str x1_5], obj b0 58 [.map (some m0_0), .map (some m0_1)], mapO m0_0 enc9 enc9 x0_0, mapO m0_1 enc3 enc69 x0_1, F]) rfl rfl rfl rfl rfl rfl Tryz.call46 (.sel 0 rfl (.sel 0 rfl (.sel 0 rfl (.sel 0 rfl (.sel 0 rfl (.sel 0 rfl (.sel 0 rfl (.sel 0 rfl (.nil _))))))))) (kv_operations.calls _ _  ) hs29v) (fun _ => ⟨rfl, rfl, rfl, rfl, rfl, trivial⟩) (fun _ => .inr rfl) (fun z => (.sel 1 rfl (.sel 0 rfl (.sel 0 rfl (.sel 0 rfl (.sel 0 rfl (.sel 0 rfl (.sel 0 rfl (.sel 0 rfl (.sel 0 rfl (.nil _)))))))))))) zA))) (ac (fun γ => (ac (eoI (Z := Nat × Nat) (fun z => (γ.1, z, γ.2.2)) rfl rfl (.v 3 rfl rfl (.v 4 rfl rfl (.v 5 rfl rfl .nil))) (re_call (vs := [.pointer (some ⟨b0, 0, none⟩), .agg #[.int .i64 x1_0, .int .i64 x1_1, .int .i64 x1_2, str x1_3, str x1_4, str x1_5]]) (cap := []) (A := [obj b0 58 [.map (some m0_0), .map (some m0_1)], mapO m0_0 enc9 enc9 x0_0, mapO m0_1 enc3 enc69 x0_1]) (rst := [mapO γ.1 enc3 enc101 (mput (mput (mput ([] : List ((Int) × (Option Nat))) (2 : Int) (some 82)) (3 : Int) (some 83)) (4 : Int) (some 84)), obj g9v 69 [.int .i64 (((mget x0_1 x1_1).getD dz69).1), .int .i64 (((mget x0_1 x1_1).getD dz69).2.1), .int .i64 (((mget x0_1 x1_1).getD dz69).2.2.1), str (((mget x0_1 x1_1).getD dz69).2.2.2)], obj b2v 45 [.int .i64 0, str ([] : List UInt8)], obj b1v 49 [.int .i64 x1_0, .int .i64 x1_1, .int .i64 x1_2, str x1_3, str x1_4, str x1_5], F]) rfl rfl rfl rfl rfl rfl Tryz.call83 (.sel 4 rfl (.sel 4 rfl (.sel 4 rfl (.sel 0 rfl (.sel 0 rfl (.sel 0 rfl (.sel 0 rfl (.sel 0 rfl (.nil _))))))))) (kv_operations_2.calls _ _ b0 m0_0 x0_0 m0_1 x0_1 x1_0 x1_1 x1_2 x1_3 x1_4 x1_5 ) hs32v) (fun _ => ⟨rfl, rfl, rfl, rfl, rfl, rfl, rfl, trivial⟩) (fun _ => .inr rfl) (fun z => (.sel 0 rfl (.sel 0 rfl (.sel 0 rfl (.sel 0 rfl (.sel 0 rfl (.sel 0 rfl (.sel 0 rfl (.sel 0 rfl (.nil _))))))))))) (ac (eoI (Z := Nat × Nat) (fun z => (γ.1, z, γ.2.2)) rfl rfl (.v 3 rfl rfl (.v 4 rfl rfl (.v 5 rfl rfl .nil))) (re_call (vs := [.pointer (some ⟨b0, 0, none⟩), .agg #[.int .i64 x1_0, .int .i64 x1_1, .int .i64 x1_2, str x1_3, str x1_4, str x1_5]]) (cap := []) (A := [obj b0 58 [.map (some m0_0), .map (some m0_1)], mapO m0_0 enc9 enc9 x0_0, mapO m0_1 enc3 enc69 x0_1]) (rst := [obj γ.2.2 45 [.int .i64 0, str ([] : List UInt8)], mapO γ.1 enc3 enc101 (mput (mput (mput ([] : List ((Int) × (Option Nat))) (2 : Int) (some 82)) (3 : Int) (some 83)) (4 : Int) (some 84)), obj g9v 69 [.int .i64 (((mget x0_1 x1_1).getD dz69).1), .int .i64 (((mget x0_1 x1_1).getD dz69).2.1), .int .i64 (((mget x0_1 x1_1).getD dz69).2.2.1), str (((mget x0_1 x1_1).getD dz69).2.2.2)], obj b2v 45 [.int .i64 0, str ([] : List UInt8)], obj b1v 49 [.int .i64 x1_0, .int .i64 x1_1, .int .i64 x1_2, str x1_3, str x1_4, str x1_5], F]) rfl rfl rfl rfl rfl rfl Tryz.call83 (.sel 5 rfl (.sel 5 rfl (.sel 5 rfl (.sel 0 rfl (.sel 0 rfl (.sel 0 rfl (.sel 0 rfl (.sel 0 rfl (.sel 0 rfl (.nil _)))))))))) (kv_operations_2.calls _ _ b0 m0_0 x0_0 m0_1 x0_1 x1_0 x1_1 x1_2 x1_3 x1_4 x1_5 ) hs32v) (fun _ => ⟨rfl, rfl, rfl, rfl, rfl, rfl, rfl, trivial⟩) (fun _ => .inr rfl) (fun z => (.sel 3 rfl (.sel 0 rfl (.sel 0 rfl (.sel 0 rfl (.sel 0 rfl (.sel 0 rfl (.sel 0 rfl (.sel 0 rfl (.sel 0 rfl (.nil _)))))))))))) zA))) (ac (fun γ => (ac (eoI (Z := Nat) (fun z => (γ.1, γ.2.1, z)) rfl rfl .nil (re_alloc rfl Tryz.zeroValue45 rfl) (fun _ => ⟨rfl, rfl, rfl, rfl, rfl, rfl, rfl, trivial⟩) (fun _ => .inr rfl) (fun z => (.sel 0 rfl (.sel 0 rfl (.sel 0 rfl (.sel 0 rfl (.sel 0 rfl (.sel 0 rfl (.sel 0 rfl (.sel 0 rfl (.nil _))))))))))) (ac (eoI (Z := Nat) (fun z => (γ.1, γ.2.1, z)) rfl rfl .nil (re_alloc rfl Tryz.zeroValue45 rfl) (fun _ => ⟨rfl, rfl, rfl, rfl, rfl, rfl, rfl, trivial⟩) (fun _ => .inr rfl) (fun z => (.sel 0 rfl (.sel 0 rfl (.sel 0 rfl (.sel 0 rfl (.sel 0 rfl (.sel 0 rfl (.sel 0 rfl (.sel 0 rfl (.sel 0 rfl (.nil _)))))))))))) (ac (eoI (Z := Nat) (fun z => (γ.1, γ.2.1, z)) rfl rfl .nil (re_alloc rfl Tryz.zeroValue45 rfl) (fun _ => ⟨rfl, rfl, rfl, rfl, rfl, rfl, rfl, trivial⟩) (fun _ => .inr rfl) (fun z => (.sel 0 rfl (.sel 0 rfl (.sel 0 rfl (.sel 0 rfl (.sel 0 rfl (.sel 0 rfl (.sel 0 rfl (.sel 0 rfl (.sel 0 rfl (.nil _)))))))))))) zA)))) (aq rfl (fun γ => eoI (Z := Unit) (fun z => (γ.1, γ.2.1, γ.2.2)) rfl rfl (.v 7 rfl rfl (.v 6 rfl rfl .nil)) (re_store 0 rfl rfl rfl Tryz.sizeOf45 rfl rfl (one_of (by rfl)) rfl rfl) (fun _ => ⟨rfl, rfl, rfl, rfl, rfl, rfl, rfl, rfl, trivial⟩) (fun _ => .inl rfl) (fun z => (.sel 0 rfl (.sel 0 rfl (.sel 0 rfl (.sel 0 rfl (.sel 0 rfl (.sel 0 rfl (.sel 0 rfl (.sel 0 rfl (.sel 0 rfl (.nil _)))))))))))) zA))))
 intro g35v
 exact nrm_cut (s := (s31v.1, s31v.2.1, s31v.2.2.1, s31v.2.2.2)) (g35v.2.2, g35v.2.1.1, g35v.2.1.2) ⟨rfl, rfl, rfl, rfl, trivial⟩ (.sel 1 rfl (.sel 5 rfl (.sel 5 rfl (.sel 0 rfl (.sel 0 rfl (.sel 0 rfl (.sel 2 rfl (.nil _))))))))
 refine sim_if (fun hk36v => ?_) (fun hk36v => ?_)
 refine sim_bind (fun s37v hs38v => ?_)
 refine sim_bind (fun s40v hs41v => ?_)
 refine sim_drawI (Γ := Nat × (Nat × Nat) × Nat) (0, (0, 0), 0) [[], [], [1], [0, 1, 2], [], [], rL 6, [], rL 8] [0, 6, 7, 8] [1, 2, 3, 4, 5] [[], [0], [0, 6], [7], [0, 7], [0, 6, 7], [0, 6, 7, 8]] 6 (fun i => [[0, 3], [0, 1, 3, 4], [0, 1, 3, 4], [1, 4], [0, 1, 3, 4], [0, 1, 3, 4], [1, 4], [0, 1, 2], [5]].getD i []) (fun i s => ([[1, 0, 0, 4, 0, 0, 0], [], [], [], [], [], [0, 2, 0, 0, 5, 0, 0], [3, 4, 5, 0, 0, 0, 0], [0, 0, 0, 0, 0, 6, 0]].getD i []).getD s 0) (fun i => [[1, 2, 4, 5, 7], [], [], [], [], [], [0, 1, 2, 3, 4, 5, 7], rL 7, rL 8].getD i []) (fun γ i => [.map (some γ.1), .pointer (some ⟨b1v, 0, none⟩), .int .i64 x1_0, .func (.func 84) #[] #[], .pointer (some ⟨b0, 0, none⟩), .agg #[.int .i64 x1_0, .int .i64 x1_1, .int .i64 x1_2, str x1_3, str x1_4, str x1_5], .agg #[.int .i64 s40v.1, str s40v.2.1], .pointer (some ⟨γ.2.2, 0, none⟩), undef].getD i undef) (fun j γ => [[obj g9v 69 [.int .i64 (((mget x0_1 x1_1).getD dz69).1), .int .i64 (((mget x0_1 x1_1).getD dz69).2.1), .int .i64 (((mget x0_1 x1_1).getD dz69).2.2.1), str (((mget x0_1 x1_1).getD dz69).2.2.2)], obj b2v 45 [.int .i64 0, str ([] : List UInt8)], obj b1v 49 [.int .i64 x1_0, .int .i64 x1_1, .int .i64 x1_2, str x1_3, str x1_4, str x1_5], obj b0 58 [.map (some m0_0), .map (some m0_1)], mapO m0_0 enc9 enc9 x0_0, mapO m0_1 enc3 enc69 x0_1, F], [mapO γ.1 enc3 enc101 (mput (mput (mput ([] : List ((Int) × (Option Nat))) (2 : Int) (some 82)) (3 : Int) (some 83)) (4 : Int) (some 84)), obj g9v 69 [.int .i64 (((mget x0_1 x1_1).getD dz69).1), .int .i64 (((mget x0_1 x1_1).getD dz69).2.1), .int .i64 (((mget x0_1 x1_1).getD dz69).2.2.1), str (((mget x0_1 x1_1).getD dz69).2.2.2)], obj b2v 45 [.int .i64 0, str ([] : List UInt8)], obj b1v 49 [.int .i64 x1_0, .int .i64 x1_1, .int .i64 x1_2, str x1_3, str x1_4, str x1_5], obj b0 58 [.map (some m0_0), .map (some m0_1)], mapO m0_0 enc9 enc9 x0_0, mapO m0_1 enc3 enc69 x0_1, F], [obj b0 58 [.map (some γ.2.1.1), .map (some γ.2.1.2)], mapO γ.2.1.1 enc9 enc9 s40v.2.2.1, mapO γ.2.1.2 enc3 enc69 s40v.2.2.2, mapO γ.1 enc3 enc101 (mput (mput (mput ([] : List ((Int) × (Option Nat))) (2 : Int) (some 82)) (3 : Int) (some 83)) (4 : Int) (some 84)), obj g9v 69 [.int .i64 (((mget x0_1 x1_1).getD dz69).1), .int .i64 (((mget x0_1 x1_1).getD dz69).2.1), .int .i64 (((mget x0_1 x1_1).getD dz69).2.2.1), str (((mget x0_1 x1_1).getD dz69).2.2.2)], obj b2v 45 [.int .i64 0, str ([] : List UInt8)], obj b1v 49 [.int .i64 x1_0, .int .i64 x1_1, .int .i64 x1_2, str x1_3, str x1_4, str x1_5], F], [obj γ.2.2 45 [.int .i64 0, str ([] : List UInt8)], obj g9v 69 [.int .i64 (((mget x0_1 x1_1).getD dz69).1), .int .i64 (((mget x0_1 x1_1).getD dz69).2.1), .int .i64 (((mget x0_1 x1_1).getD dz69).2.2.1), str (((mget x0_1 x1_1).getD dz69).2.2.2)], obj b2v 45 [.int .i64 0, str ([] : List UInt8)], obj b1v 49 [.int .i64 x1_0, .int .i64 x1_1, .int .i64 x1_2, str x1_3, str x1_4, str x1_5], obj b0 58 [.map (some m0_0), .map (some m0_1)], mapO m0_0 enc9 enc9 x0_0, mapO m0_1 enc3 enc69 x0_1, F], [obj γ.2.2 45 [.int .i64 0, str ([] : List UInt8)], mapO γ.1 enc3 enc101 (mput (mput (mput ([] : List ((Int) × (Option Nat))) (2 : Int) (some 82)) (3 : Int) (some 83)) (4 : Int) (some 84)), obj g9v 69 [.int .i64 (((mget x0_1 x1_1).getD dz69).1), .int .i64 (((mget x0_1 x1_1).getD dz69).2.1), .int .i64 (((mget x0_1 x1_1).getD dz69).2.2.1), str (((mget x0_1 x1_1).getD dz69).2.2.2)], obj b2v 45 [.int .i64 0, str ([] : List UInt8)], obj b1v 49 [.int .i64 x1_0, .int .i64 x1_1, .int .i64 x1_2, str x1_3, str x1_4, str x1_5], obj b0 58 [.map (some m0_0), .map (some m0_1)], mapO m0_0 enc9 enc9 x0_0, mapO m0_1 enc3 enc69 x0_1, F], [obj γ.2.2 45 [.int .i64 0, str ([] : List UInt8)], obj b0 58 [.map (some γ.2.1.1), .map (some γ.2.1.2)], mapO γ.2.1.1 enc9 enc9 s40v.2.2.1, mapO γ.2.1.2 enc3 enc69 s40v.2.2.2, mapO γ.1 enc3 enc101 (mput (mput (mput ([] : List ((Int) × (Option Nat))) (2 : Int) (some 82)) (3 : Int) (some 83)) (4 : Int) (some 84)), obj g9v 69 [.int .i64 (((mget x0_1 x1_1).getD dz69).1), .int .i64 (((mget x0_1 x1_1).getD dz69).2.1), .int .i64 (((mget x0_1 x1_1).getD dz69).2.2.1), str (((mget x0_1 x1_1).getD dz69).2.2.2)], obj b2v 45 [.int .i64 0, str ([] : List UInt8)], obj b1v 49 [.int .i64 x1_0, .int .i64 x1_1, .int .i64 x1_2, str x1_3, str x1_4, str x1_5], F], [obj γ.2.2 45 [.int .i64 s40v.1, str s40v.2.1], obj b0 58 [.map (some γ.2.1.1), .map (some γ.2.1.2)], mapO γ.2.1.1 enc9 enc9 s40v.2.2.1, mapO γ.2.1.2 enc3 enc69 s40v.2.2.2, mapO γ.1 enc3 enc101 (mput (mput (mput ([] : List ((Int) × (Option Nat))) (2 : Int) (some 82)) (3 : Int) (some 83)) (4 : Int) (some 84)), obj g9v 69 [.int .i64 (((mget x0_1 x1_1).getD dz69).1), .int .i64 (((mget x0_1 x1_1).getD dz69).2.1), .int .i64 (((mget x0_1 x1_1).getD dz69).2.2.1), str (((mget x0_1 x1_1).getD dz69).2.2.2)], obj b2v 45 [.int .i64 0, str ([] : List UInt8)], obj b1v 49 [.int .i64 x1_0, .int .i64 x1_1, .int .i64 x1_2, str x1_3, str x1_4, str x1_5], F]].getD j []) (fun γ => [(0, .pointer (some ⟨b0, 0, none⟩)), (3, .pointer (some ⟨b1v, 0, none⟩)), (4, .pointer (some ⟨b2v, 0, none⟩)), (9, .pointer (some ⟨γ.2.2, 0, none⟩))]) mixed (by decide) (by decide) (by decide) (by decide) (by decide) (by decide) 80 rfl (by decide) (by decide) (by decide) (by decide) (by decide) (by decide) (Ent.refl _) ?_ ?_ (fun _ => ⟨rfl, rfl, rfl, rfl, trivial⟩) ?_
 exact (ac (fun γ => (ac (qp rfl rfl (.o (s := 3) rfl (by decide) .nil) (q_fa rfl rfl Tryz.underlying49 rfl rfl Tryz.sizeOf3 rfl) rfl) (ac (qp rfl rfl (.o (s := 3) rfl (by decide) .nil) (q_fa rfl rfl Tryz.underlying49 rfl rfl Tryz.sizeOf3 rfl) rfl) (ac (qp rfl rfl (.o (s := 3) rfl (by decide) .nil) (q_fa rfl rfl Tryz.underlying49 rfl rfl Tryz.sizeOf3 rfl) rfl) (ac (qp rfl rfl (.o (s := 3) rfl (by decide) .nil) (q_fa rfl rfl Tryz.underlying49 rfl rfl Tryz.sizeOf3 rfl) rfl) zA))))) (ac (fun γ => (ac (qp rfl rfl (.v 1 rfl rfl .nil) (q_load rfl rfl Tryz.isAgg3 (.obj 2 rfl rfl)) rfl) (ac (qp rfl rfl (.v 1 rfl rfl .nil) (q_load rfl rfl Tryz.isAgg3 (.obj 3 rfl rfl)) rfl) (ac (qp rfl rfl (.v 1 rfl rfl .nil) (q_load rfl rfl Tryz.isAgg3 (.obj 3 rfl rfl)) rfl) (ac (qp rfl rfl (.v 1 rfl rfl .nil) (q_load rfl rfl Tryz.isAgg3 (.obj 4 rfl rfl)) rfl) zA))))) (ac (fun γ => (ac (qp rfl rfl (.v 0 rfl rfl (.v 2 rfl rfl .nil)) ((RQ.eq (by rw [hk36v]; rfl) (q_mlook (ek := enc3) (ev := enc101) (z := none) 0 x1_0 rfl rfl rfl Tryz.underlying102 key3 Tryz.zeroValue101 rfl) : RQ _ _ _ _ (.func (.func 84) #[] #[]))) rfl) (ac (qp rfl rfl (.v 0 rfl rfl (.v 2 rfl rfl .nil)) ((RQ.eq (by rw [hk36v]; rfl) (q_mlook (ek := enc3) (ev := enc101) (z := none) 1 x1_0 rfl rfl rfl Tryz.underlying102 key3 Tryz.zeroValue101 rfl) : RQ _ _ _ _ (.func (.func 84) #[] #[]))) rfl) zA))) (ac (fun γ => (ac (qm rfl (.o (s := 0) rfl (by decide) .nil) rfl) (ac (qm rfl (.o (s := 0) rfl (by decide) .nil) rfl) (ac (qm rfl (.o (s := 0) rfl (by decide) .nil) rfl) (ac (qm rfl (.o (s := 0) rfl (by decide) .nil) rfl) zA))))) (ac (fun γ => (ac (qp rfl rfl (.o (s := 3) rfl (by decide) .nil) (q_loado 2 rfl rfl Tryz.isAgg49 Tryz.sizeOf49 rfl rfl) rfl) (ac (qp rfl rfl (.o (s := 3) rfl (by decide) .nil) (q_loado 3 rfl rfl Tryz.isAgg49 Tryz.sizeOf49 rfl rfl) rfl) (ac (qp rfl rfl (.o (s := 3) rfl (by decide) .nil) (q_loado 3 rfl rfl Tryz.isAgg49 Tryz.sizeOf49 rfl rfl) rfl) (ac (qp rfl rfl (.o (s := 3) rfl (by decide) .nil) (q_loado 4 rfl rfl Tryz.isAgg49 Tryz.sizeOf49 rfl rfl) rfl) zA))))) zA)))))
 exact (ac (fun γ => (ac (eoI (Z := Nat) (fun z => (z, γ.2.1, γ.2.2)) rfl rfl .nil (re_call (vs := []) (cap := []) (A := []) (rst := [obj g9v 69 [.int .i64 (((mget x0_1 x1_1).getD dz69).1), .int .i64 (((mget x0_1 x1_1).getD dz69).2.1), .int .i64 (((mget x0_1 x1_1).getD dz69).2.2.1), str (((mget x0_1 x1_1).getD dz69).2.2.2)], obj b2v 45 [.int .i64 0, str ([] : List UInt8)], obj b1v 49 [.int .i64 x1_0, .int .i64 x1_1, .int .i64 x1_2, str x1_3, str x1_4, str x1_5], obj b0 58 [.map (some m0_0), .map (some m0_1)], mapO m0_0 enc9 enc9 x0_0, mapO m0_1 enc3 enc69 x0_1, F]) rfl rfl rfl rfl rfl rfl Tryz.call46 (.sel 0 rfl (.sel 0 rfl (.sel 0 rfl (.sel 0 rfl (.sel 0 rfl (.sel 0 rfl (.sel 0 rfl (.nil _)))))))) (kv_operations.calls _ _  ) hs38v) (fun _ => ⟨rfl, rfl, rfl, rfl, rfl, trivial⟩) (fun _ => .inr rfl) (fun z => (.sel 0 rfl (.sel 0 rfl (.sel 0 rfl (.sel 0 rfl (.sel 0 rfl (.sel 0 rfl (.sel 0 rfl (.sel 0 rfl (.nil _))))))))))) (ac (eoI (Z := Nat) (fun z => (z, γ.2.1, γ.2.2)) rfl rfl .nil (re_call (vs := []) (cap := []) (A := []) (rst := [obj γ.2.2 45 [.int .i64 0, str ([] : List UInt8)], obj g9v 69 [.int .i64 (((mget x0_1 x1_1).getD dz69).1), .int .i64 (((mget x0_1 x1_1).getD dz69).2.1), .int .i64 (((mget x0_1 x1_1).getD dz69).2.2.1), str (((mget x0_1 x1_1).getD dz69).2.2.2)], obj b2v 45 [.int .i64 0, str ([] : List UInt8)], obj b1v 49 [.int .i64 x1_0, .int .i64 x1_1, .int .i64 x1_2, str x1_3, str x1_4, str x1_5], obj b0 58 [.map (some m0_0), .map (some m0_1)], mapO m0_0 enc9 enc9 x0_0, mapO m0_1 enc3 enc69 x0_1, F]) rfl rfl rfl rfl rfl rfl Tryz.call46 (.sel 0 rfl (.sel 0 rfl (.sel 0 rfl (.sel 0 rfl (.sel 0 rfl (.sel 0 rfl (.sel 0 rfl (.sel 0 rfl (.nil _))))))))) (kv_operations.calls _ _  ) hs38v) (fun _ => ⟨rfl, rfl, rfl, rfl, rfl, trivial⟩) (fun _ => .inr rfl) (fun z => (.sel 1 rfl (.sel 0 rfl (.sel 0 rfl (.sel 0 rfl (.sel 0 rfl (.sel 0 rfl (.sel 0 rfl (.sel 0 rfl (.sel 0 rfl (.nil _)))))))))))) zA))) (ac (fun γ => (ac (eoI (Z := Nat × Nat) (fun z => (γ.1, z, γ.2.2)) rfl rfl (.v 3 rfl rfl (.v 4 rfl rfl (.v 5 rfl rfl .nil))) (re_call (vs := [.pointer (some ⟨b0, 0, none⟩), .agg #[.int .i64 x1_0, .int .i64 x1_1, .int .i64 x1_2, str x1_3, str x1_4, str x1_5]]) (cap := []) (A := [obj b0 58 [.map (some m0_0), .map (some m0_1)], mapO m0_0 enc9 enc9 x0_0, mapO m0_1 enc3 enc69 x0_1]) (rst := [mapO γ.1 enc3 enc101 (mput (mput (mput ([] : List ((Int) × (Option Nat))) (2 : Int) (some 82)) (3 : Int) (some 83)) (4 : Int) (some 84)), obj g9v 69 [.int .i64 (((mget x0_1 x1_1).getD dz69).1), .int .i64 (((mget x0_1 x1_1).getD dz69).2.1), .int .i64 (((mget x0_1 x1_1).getD dz69).2.2.1), str (((mget x0_1 x1_1).getD dz69).2.2.2)], obj b2v 45 [.int .i64 0, str ([] : List UInt8)], obj b1v 49 [.int .i64 x1_0, .int .i64 x1_1, .int .i64 x1_2, str x1_3, str x1_4, str x1_5], F]) rfl rfl rfl rfl rfl rfl Tryz.call84 (.sel 4 rfl (.sel 4 rfl (.sel 4 rfl (.sel 0 rfl (.sel 0 rfl (.sel 0 rfl (.sel 0 rfl (.sel 0 rfl (.nil _))))))))) (kv_operations_3.calls _ _ b0 m0_0 x0_0 m0_1 x0_1 x1_0 x1_1 x1_2 x1_3 x1_4 x1_5 ) hs41v) (fun _ => ⟨rfl, rfl, rfl, rfl, rfl, rfl, rfl, trivial⟩) (fun _ => .inr rfl) (fun z => (.sel 0 rfl (.sel 0 rfl (.sel 0 rfl (.sel 0 rfl (.sel 0 rfl (.sel 0 rfl (.sel 0 rfl (.sel 0 rfl (.nil _))))))))))) (ac (eoI (Z := Nat × Nat) (fun z => (γ.1, z, γ.2.2)) rfl rfl (.v 3 rfl rfl (.v 4 rfl rfl (.v 5 rfl rfl .nil))) (re_call (vs := [.pointer (some ⟨b0, 0, none⟩), .agg #[.int .i64 x1_0, .int .i64 x1_1, .int .i64 x1_2, str x1_3, str x1_4, str x1_5]]) (cap := []) (A := [obj b0 58 [.map (some m0_0), .map (some m0_1)], mapO m0_0 enc9 enc9 x0_0, mapO m0_1 enc3 enc69 x0_1]) (rst := [obj γ.2.2 45 [.int .i64 0, str ([] : List UInt8)], mapO γ.1 enc3 enc101 (mput (mput (mput ([] : List ((Int) × (Option Nat))) (2 : Int) (some 82)) (3 : Int) (some 83)) (4 : Int) (some 84)), obj g9v 69 [.int .i64 (((mget x0_1 x1_1).getD dz69).1), .int .i64 (((mget x0_1 x1_1).getD dz69).2.1), .int .i64 (((mget x0_1 x1_1).getD dz69).2.2.1), str (((mget x0_1 x1_1).getD dz69).2.2.2)], obj b2v 45 [.int .i64 0, str ([] : List UInt8)], obj b1v 49 [.int .i64 x1_0, .int .i64 x1_1, .int .i64 x1_2, str x1_3, str x1_4, str x1_5], F]) rfl rfl rfl rfl rfl rfl Tryz.call84 (.sel 5 rfl (.sel 5 rfl (.sel 5 rfl (.sel 0 rfl (.sel 0 rfl (.sel 0 rfl (.sel 0 rfl (.sel 0 rfl (.sel 0 rfl (.nil _)))))))))) (kv_operations_3.calls _ _ b0 m0_0 x0_0 m0_1 x0_1 x1_0 x1_1 x1_2 x1_3 x1_4 x1_5 ) hs41v) (fun _ => ⟨rfl, rfl, rfl, rfl, rfl, rfl, rfl, trivial⟩) (fun _ => .inr rfl) (fun z => (.sel 3 rfl (.sel 0 rfl (.sel 0 rfl (.sel 0 rfl (.sel 0 rfl (.sel 0 rfl (.sel 0 rfl (.sel 0 rfl (.sel 0 rfl (.nil _)))))))))))) zA))) (ac (fun γ => (ac (eoI (Z := Nat) (fun z => (γ.1, γ.2.1, z)) rfl rfl .nil (re_alloc rfl Tryz.zeroValue45 rfl) (fun _ => ⟨rfl, rfl, rfl, rfl, rfl, rfl, rfl, trivial⟩) (fun _ => .inr rfl) (fun z => (.sel 0 rfl (.sel 0 rfl (.sel 0 rfl (.sel 0 rfl (.sel 0 rfl (.sel 0 rfl (.sel 0 rfl (.sel 0 rfl (.nil _))))))))))) (ac (eoI (Z := Nat) (fun z => (γ.1, γ.2.1, z)) rfl rfl .nil (re_alloc rfl Tryz.zeroValue45 rfl) (fun _ => ⟨rfl, rfl, rfl, rfl, rfl, rfl, rfl, trivial⟩) (fun _ => .inr rfl) (fun z => (.sel 0 rfl (.sel 0 rfl (.sel 0 rfl (.sel 0 rfl (.sel 0 rfl (.sel 0 rfl (.sel 0 rfl (.sel 0 rfl (.sel 0 rfl (.nil _)))))))))))) (ac (eoI (Z := Nat) (fun z => (γ.1, γ.2.1, z)) rfl rfl .nil (re_alloc rfl Tryz.zeroValue45 rfl) (fun _ => ⟨rfl, rfl, rfl, rfl, rfl, rfl, rfl, trivial⟩) (fun _ => .inr rfl) (fun z => (.sel 0 rfl (.sel 0 rfl (.sel 0 rfl (.sel 0 rfl (.sel 0 rfl (.sel 0 rfl (.sel 0 rfl (.sel 0 rfl (.sel 0 rfl (.nil _)))))))))))) zA)))) (aq rfl (fun γ => eoI (Z := Unit) (fun z => (γ.1, γ.2.1, γ.2.2)) rfl rfl (.v 7 rfl rfl (.v 6 rfl rfl .nil)) (re_store 0 rfl rfl rfl Tryz.sizeOf45 rfl rfl (one_of (by rfl)) rfl rfl) (fun _ => ⟨rfl, rfl, rfl, rfl, rfl, rfl, rfl, rfl, trivial⟩) (fun _ => .inl rfl) (fun z => (.sel 0 rfl (.sel 0 rfl (.sel 0 rfl (.sel 0 rfl (.sel 0 rfl (.sel 0 rfl (.sel 0 rfl (.sel 0 rfl (.sel 0 rfl (.nil _)))))))))))) zA))))
 intro g44v
 exact nrm_cut (s := (s40v.1, s40v.2.1, s40v.2.2.1, s40v.2.2.2)) (g44v.2.2, g44v.2.1.1, g44v.2.1.2) ⟨rfl, rfl, rfl, rfl, trivial⟩ (.sel 1 rfl (.sel 5 rfl (.sel 5 rfl (.sel 0 rfl (.sel 0 rfl (.sel 0 rfl (.sel 2 rfl (.nil _))))))))
 exact sim_none
 intro s16v y17v
 refine sim_seq ?_
 refine sim_draw (Γ := Unit) () [[], [0], [0, 1], [0, 1, 2], [], [4], [], [6], [], [8], [], [6, 7, 8, 9, 10], rL 12] [12] [0, 1, 2, 3, 4, 5, 6, 7, 8, 9, 10, 11] (fun i => [[0], [0], [0], [0], [0], [0], [0], [0], [0], [0], [0], [0], []].getD i []) (fun i => [[], [], [], [], [], [], [], [], [], [], [], [], rL 12].getD i []) (fun γ i => [.pointer (some ⟨b0, 0, none⟩), .pointer (some ⟨b0, 0, none⟩), .pointer (some ⟨b0, 1, none⟩), .map (some y17v.2.2), .pointer (some ⟨b1v, 1, none⟩), .int .i64 x1_1, .pointer (some ⟨b1v, 1, none⟩), .int .i64 x1_1, .pointer (some ⟨b1v, 2, none⟩), .int .i64 x1_2, .agg #[.int .i64 s16v.1, str s16v.2.1], .agg #[.int .i64 x1_1, .int .i64 x1_2, .int .i64 s16v.1, str s16v.2.1], undef].getD i undef) (fun j γ => [[obj b0 58 [.map (some y17v.2.1), .map (some y17v.2.2)], obj b2v 45 [.int .i64 0, str ([] : List UInt8)], obj b1v 49 [.int .i64 x1_0, .int .i64 x1_1, .int .i64 x1_2, str x1_3, str x1_4, str x1_5], obj y17v.1 45 [.int .i64 s16v.1, str s16v.2.1], mapO y17v.2.1 enc9 enc9 s16v.2.2.1, mapO y17v.2.2 enc3 enc69 s16v.2.2.2, F], [obj b0 58 [.map (some y17v.2.1), .map (some y17v.2.2)], obj b2v 45 [.int .i64 0, str ([] : List UInt8)], obj b1v 49 [.int .i64 x1_0, .int .i64 x1_1, .int .i64 x1_2, str x1_3, str x1_4, str x1_5], obj y17v.1 45 [.int .i64 s16v.1, str s16v.2.1], mapO y17v.2.1 enc9 enc9 s16v.2.2.1, mapO y17v.2.2 enc3 enc69 (mput s16v.2.2.2 x1_1 (x1_1, x1_2, s16v.1, s16v.2.1)), F]].getD j []) (fun γ => [(4, .pointer (some ⟨b2v, 0, none⟩)), (9, .pointer (some ⟨y17v.1, 0, none⟩))]) mixed (by decide) (by decide) (by decide) (by decide) (by decide) (by decide) (by decide) 80 rfl (by decide) (by decide) (by decide) (Ent.refl _) ?_ ?_ (fun _ => ⟨rfl, rfl, trivial⟩) ?_
 exact (aq rfl (fun γ => qm rfl (.o (s := 0) rfl (by decide) .nil) rfl) (aq rfl (fun γ => qp rfl rfl (.v 0 rfl rfl .nil) (q_nil rfl rfl) rfl) (aq rfl (fun γ => qp rfl rfl (.v 1 rfl rfl .nil) (q_fa rfl rfl Tryz.underlying58 rfl rfl Tryz.sizeOf56 rfl) rfl) (aq rfl (fun γ => qp rfl rfl (.v 2 rfl rfl .nil) (q_load rfl rfl Tryz.isAgg56 (.obj 0 rfl rfl)) rfl) (aq rfl (fun γ => qp rfl rfl (.o (s := 3) rfl (by decide) .nil) (q_fa rfl rfl Tryz.underlying49 rfl rfl Tryz.sizeOf3 rfl) rfl) (aq rfl (fun γ => qp rfl rfl (.v 4 rfl rfl .nil) (q_load rfl rfl Tryz.isAgg3 (.obj 2 rfl rfl)) rfl) (aq rfl (fun γ => qp rfl rfl (.o (s := 3) rfl (by decide) .nil) (q_fa rfl rfl Tryz.underlying49 rfl rfl Tryz.sizeOf3 rfl) rfl) (aq rfl (fun γ => qp rfl rfl (.v 6 rfl rfl .nil) (q_load rfl rfl Tryz.isAgg3 (.obj 2 rfl rfl)) rfl) (aq rfl (fun γ => qp rfl rfl (.o (s := 3) rfl (by decide) .nil) (q_fa rfl rfl Tryz.underlying49 rfl rfl Tryz.sizeOf3 rfl) rfl) (aq rfl (fun γ => qp rfl rfl (.v 8 rfl rfl .nil) (q_load rfl rfl Tryz.isAgg3 (.obj 2 rfl rfl)) rfl) (aq rfl (fun γ => qp rfl rfl (.o (s := 9) rfl (by decide) .nil) (q_loado 3 rfl rfl Tryz.isAgg45 Tryz.sizeOf45 rfl rfl) rfl) (aq rfl (fun γ => qp rfl rfl (.v 7 rfl rfl (.v 9 rfl rfl (.v 10 rfl rfl .nil))) (q_build (v := .agg #[.int .i64 x1_1, .int .i64 x1_2, .int .i64 s16v.1, str s16v.2.1]) rfl rfl (fun _ => by kernel_rfl)) rfl) zA))))))))))))
 exact (ac (fun γ => eo (Z := Unit) (fun z => ()) rfl rfl (.v 3 rfl rfl (.v 5 rfl rfl (.v 11 rfl rfl .nil))) (re_mput (ek := enc3) (ev := enc69) 5 x1_1 (x1_1, x1_2, s16v.1, s16v.2.1) rfl rfl rfl rfl Tryz.underlying56 key3 rfl) (fun _ => ⟨rfl, rfl, rfl, rfl, rfl, rfl, rfl, rfl, rfl, rfl, rfl, rfl, trivial⟩) (fun _ => .inl rfl) (fun z => Ent.refl _)) zA)
 intro g45v
 refine nrm_then (sr ?_)
 refine vq (q_loado 3 rfl rfl Tryz.isAgg45 Tryz.sizeOf45 rfl rfl) rfl ?_
 refine simL_do (re_store 1 rfl rfl rfl Tryz.sizeOf45 rfl rfl (one_of (by rfl)) rfl rfl) rfl rfl ?_
 intro _
 refine va rfl rfl (simL_nil (nrm_then (sim_rtn ?_)))
 exact rtn_fnC (vs := [.agg #[.int .i64 s16v.1, str s16v.2.1], .int .i64 0]) (y17v.2.1, y17v.2.2) rfl ⟨⟨b2v, rfl, load_agg 1 Tryz.isAgg45 Tryz.sizeOf45 rfl rfl⟩, rfl, trivial⟩ rfl (.sel 0 rfl (.sel 3 rfl (.sel 3 rfl (.sel 3 rfl (.nil _)))))
 refine sr ?_
 refine vq (q_build (v := .agg #[.int .i64 0, str ([] : List UInt8)]) rfl rfl (fun _ => by kernel_rfl)) rfl ?_
 refine vm rfl rfl ?_
 refine simL_do (re_store 0 rfl rfl rfl Tryz.sizeOf45 rfl rfl (one_of (by rfl)) rfl rfl) rfl rfl ?_
 intro _
 refine va rfl rfl (simL_nil (nrm_then (sim_rtn ?_)))
 refine rtn_then ?_
 exact rtn_fnC (vs := [.agg #[.int .i64 0, str ([] : List UInt8)], .int .i64 s3v]) (m0_0, m0_1) rfl ⟨⟨b2v, rfl, load_agg 0 Tryz.isAgg45 Tryz.sizeOf45 rfl rfl⟩, rfl, trivial⟩ rfl (.sel 2 rfl (.sel 2 rfl (.sel 2 rfl (.sel 2 rfl (.nil _)))))

def kv_Store_Get.f (x0_0 : List ((List UInt8) × (List UInt8))) (x0_1 : List ((Int) × (Ty69))) (x1 : List UInt8) : Option (Ty45) := if (!((mget x0_0 x1).isSome)) = true then (some (2, ([] : List UInt8))) else (some (1, ((mget x0_0 x1).getD ([] : List UInt8))))
theorem kv_Store_Get.calls (W : World) (F : HA) (b0 : Nat) (m0_0 : Nat) (x0_0 : List ((List UInt8) × (List UInt8))) (m0_1 : Nat) (x0_1 : List ((Int) × (Ty69))) (x1 : List UInt8)  :
    Fn Tryz.prog W 22 [.pointer (some ⟨b0, 0, none⟩), str x1] [obj b0 58 [.map (some m0_0), .map (some m0_1)], mapO m0_0 enc9 enc9 x0_0, mapO m0_1 enc3 enc69 x0_1] F (kv_Store_Get.f x0_0 x0_1 x1) (fun (r : Int × List UInt8) (y : Unit) => .agg #[.int .i64 r.1, str r.2]) (fun r y => [obj b0 58 [.map (some m0_0), .map (some m0_1)], mapO m0_0 enc9 enc9 x0_0, mapO m0_1 enc3 enc69 x0_1]) := by
 unfold kv_Store_Get.f
 refine fn_intro 21 Tryz.func22 rfl Tryz.ntmps22 rfl ?_
 refine sr ?_
 refine simL_eff (re_alloc rfl Tryz.zeroValue45 rfl) rfl rfl rfl ?_
 intro b1v
 refine nx ?_
 refine vm rfl rfl ?_
 refine vn rfl rfl ?_
 refine vq (q_fa rfl rfl Tryz.underlying58 rfl rfl Tryz.sizeOf55 rfl) rfl ?_
 refine vq (q_load rfl rfl Tryz.isAgg55 (.obj 1 rfl rfl)) rfl ?_
 refine vm rfl rfl ?_
 refine vq ((q_mlook2 (ek := enc9) (ev := enc9) (z := ([] : List UInt8)) 2 x1 rfl rfl rfl Tryz.underlying55 key9 Tryz.zeroValue9 rfl : RQ _ _ _ _ (.tuple #[str ((mget x0_0 x1).getD ([] : List UInt8)), .bool ((mget x0_0 x1).isSome)]))) rfl ?_
 refine vm rfl rfl ?_
 refine vq (q_ext rfl rfl rfl) rfl ?_
 refine vq (q_ext rfl rfl rfl) rfl ?_
 refine va rfl rfl ?_
 refine va rfl rfl (simL_nil (nrm_then (sim_seq (sr ?_))))
 refine vm rfl rfl ?_
 refine vq (q_not rfl rfl) rfl (simL_nil (nrm_then ?_))
 refine sim_condb rfl (fun h2v => ?_) (fun h3v => ?_)
 refine sr ?_
 refine vq (q_build (v := .agg #[.int .i64 2, str ([] : List UInt8)]) rfl rfl (fun _ => by kernel_rfl)) rfl ?_
 refine simL_do (re_store 0 rfl rfl rfl Tryz.sizeOf45 rfl rfl (one_of (by rfl)) rfl rfl) rfl rfl ?_
 intro _
 refine simL_nil (nrm_then (sim_rtn ?_))
 refine rtn_then ?_
 exact rtn_fnC (vs := [.agg #[.int .i64 2, str ([] : List UInt8)]]) () rfl ⟨⟨b1v, rfl, load_agg 0 Tryz.isAgg45 Tryz.sizeOf45 rfl rfl⟩, trivial⟩ rfl (.sel 1 rfl (.sel 1 rfl (.sel 1 rfl (.sel 1 rfl (.nil _)))))
 refine sim_skip ?_
 refine nrm_then (sr ?_)
 refine vm rfl rfl ?_
 refine vq (q_build (v := .agg #[.int .i64 1, str ((mget x0_0 x1).getD ([] : List UInt8))]) rfl rfl (fun _ => by kernel_rfl)) rfl ?_
 refine simL_do (re_store 0 rfl rfl rfl Tryz.sizeOf45 rfl rfl (one_of (by rfl)) rfl rfl) rfl rfl ?_
 intro _
 refine simL_nil (nrm_then (sim_rtn ?_))
 exact rtn_fnC (vs := [.agg #[.int .i64 1, str ((mget x0_0 x1).getD ([] : List UInt8))]]) () rfl ⟨⟨b1v, rfl, load_agg 0 Tryz.isAgg45 Tryz.sizeOf45 rfl rfl⟩, trivial⟩ rfl (.sel 1 rfl (.sel 1 rfl (.sel 1 rfl (.sel 1 rfl (.nil _)))))

def synodref_Num.f (x0 : Int) : Option (Int) := some x0
theorem synodref_Num.calls (W : World) (F : HA) (x0 : Int)  :
    Fn Tryz.prog W 11 [.int .i64 x0] [] F (synodref_Num.f x0) (fun (r : Int) (y : Unit) => .int .i64 r) (fun r y => []) := by
 unfold synodref_Num.f
 refine fn_intro 4 Tryz.func11 rfl Tryz.ntmps11 rfl ?_
 refine sr ?_
 refine va rfl rfl (nx ?_)
 refine vm rfl rfl ?_
 refine va rfl rfl (simL_nil (nrm_then (sim_rtn ?_)))
 exact rtn_fn () rfl rfl rfl (.sel 0 rfl (.nil _))

def kv_Store_Len.f (x0_0 : List ((List UInt8) × (List UInt8))) (x0_1 : List ((Int) × (Ty69))) : Option (Int) := some (x0_0.length : Int)
theorem kv_Store_Len.calls (W : World) (F : HA) (b0 : Nat) (m0_0 : Nat) (x0_0 : List ((List UInt8) × (List UInt8))) (m0_1 : Nat) (x0_1 : List ((Int) × (Ty69)))  :
    Fn Tryz.prog W 23 [.pointer (some ⟨b0, 0, none⟩)] [obj b0 58 [.map (some m0_0), .map (some m0_1)], mapO m0_0 enc9 enc9 x0_0, mapO m0_1 enc3 enc69 x0_1] F (kv_Store_Len.f x0_0 x0_1) (fun (r : Int) (y : Unit) => .int .i64 r) (fun r y => [obj b0 58 [.map (some m0_0), .map (some m0_1)], mapO m0_0 enc9 enc9 x0_0, mapO m0_1 enc3 enc69 x0_1]) := by
 unfold kv_Store_Len.f
 refine fn_intro 8 Tryz.func23 rfl Tryz.ntmps23 rfl ?_
 refine sr ?_
 refine va rfl rfl (nx ?_)
 refine vm rfl rfl ?_
 refine vn rfl rfl ?_
 refine vq (q_fa rfl rfl Tryz.underlying58 rfl rfl Tryz.sizeOf55 rfl) rfl ?_
 refine vq (q_load rfl rfl Tryz.isAgg55 (.obj 0 rfl rfl)) rfl ?_
 refine vq (q_mlen 1 rfl rfl rfl Tryz.underlying55 rfl) rfl ?_
 refine va rfl rfl (simL_nil (nrm_then (sim_rtn ?_)))
 exact rtn_fn () rfl rfl rfl (.sel 0 rfl (.sel 0 rfl (.sel 0 rfl (.sel 0 rfl (.nil _)))))

def synodlaw11_first.f  : Option (Bool) := (kv_New.f).bind fun s1v => ((kv_Store_Do.f s1v.1 s1v.2 (2 : Int) (1 : Int) (1 : Int) ([97] : List UInt8) ([120] : List UInt8) ([] : List UInt8)).bind fun s4v => ((kv_Store_Do.f s4v.2.2.2.1 s4v.2.2.2.2 (2 : Int) (1 : Int) (1 : Int) ([97] : List UInt8) ([121] : List UInt8) ([] : List UInt8)).bind fun s8v => ((kv_Store_Do.f s8v.2.2.2.1 s8v.2.2.2.2 (4 : Int) (2 : Int) (1 : Int) ([97] : List UInt8) ([122] : List UInt8) ([121] : List UInt8)).bind fun s12v => ((kv_Store_Do.f s12v.2.2.2.1 s12v.2.2.2.2 (1 : Int) (0 : Int) (0 : Int) ([] : List UInt8) ([] : List UInt8) ([] : List UInt8)).bind fun s16v => ((if (((decide (s4v.1 = (1 : Int)) && (decide (s4v.2.1 = ([] : List UInt8)))) && (decide (s8v.1 = s4v.1) && (decide (s8v.2.1 = s4v.2.1)))) && (decide (s12v.1 = (3 : Int)) && (decide (s12v.2.1 = ([120] : List UInt8))))) = true then ((kv_Store_Get.f s16v.2.2.2.1 s16v.2.2.2.2 ([97] : List UInt8)).bind fun s22v => (some (decide (s22v.1 = (1 : Int)) && (decide (s22v.2 = ([120] : List UInt8)))))) else (some false)).bind fun s20v => ((if s20v = true then ((synodref_Num.f s4v.2.2.1).bind fun s29v => (some (decide (s29v = (0 : Int))))) else (some false)).bind fun s27v => ((if s27v = true then ((synodref_Num.f s16v.2.2.1).bind fun s36v => (some (decide (s36v = (6 : Int))))) else (some false)).bind fun s34v => ((if s34v = true then ((kv_Store_Len.f s16v.2.2.2.1 s16v.2.2.2.2).bind fun s43v => (some (decide (s43v = (1 : Int))))) else (some false)).bind fun s41v => (some s41v)))))))))
theorem synodlaw11_first.calls (W : World) (F : HA)   :
    Fn Tryz.prog W 5 [] [] F (synodlaw11_first.f ) (fun (r : Bool) (y : Unit) => .bool r) (fun r y => []) := by
 unfold synodlaw11_first.f
 refine fn_intro 71 Tryz.func5 rfl Tryz.ntmps5 rfl ?_
 refine sr ?_
 refine va rfl rfl (nx ?_)
 refine simL_bind (fun s1v hs2v => ?_)
 refine simL_eff (re_call (vs := []) (cap := []) (A := []) (rst := [F]) rfl rfl rfl rfl rfl rfl Tryz.call7 (.sel 0 rfl (.nil _)) (kv_New.calls _ _  ) hs2v) rfl rfl rfl ?_
 intro y3v
 refine va rfl rfl (simL_nil (nrm_then (sim_seq (sr ?_))))
 refine vm rfl rfl ?_
 refine vq (q_eqp rfl rfl rfl Tryz.underlying26) rfl (simL_nil (nrm_then ?_))
 refine sim_false rfl ?_
 refine sim_skip ?_
 refine nrm_then (sr ?_)
 refine vm rfl rfl ?_
 refine vq (q_build (v := .agg #[.int .i64 2, .int .i64 1, .int .i64 1, str ([97] : List UInt8), str ([120] : List UInt8), str ([] : List UInt8)]) rfl rfl (fun _ => by kernel_rfl)) rfl ?_
 refine simL_bind (fun s4v hs5v => ?_)
 refine simL_eff (re_call (vs := [.pointer (some ⟨y3v.1, 0, none⟩), .agg #[.int .i64 2, .int .i64 1, .int .i64 1, str ([97] : List UInt8), str ([120] : List UInt8), str ([] : List UInt8)]]) (cap := []) (A := [obj y3v.1 58 [.map (some y3v.2.1), .map (some y3v.2.2)], mapO y3v.2.1 enc9 enc9 s1v.1, mapO y3v.2.2 enc3 enc69 s1v.2]) (rst := [F]) rfl rfl rfl rfl rfl rfl Tryz.call20 (.sel 0 rfl (.sel 0 rfl (.sel 0 rfl (.sel 0 rfl (.nil _))))) (kv_Store_Do.calls _ _ y3v.1 y3v.2.1 s1v.1 y3v.2.2 s1v.2 (2 : Int) (1 : Int) (1 : Int) ([97] : List UInt8) ([120] : List UInt8) ([] : List UInt8) ) hs5v) rfl rfl rfl ?_
 intro y6v
 refine vm rfl rfl ?_
 refine vq (q_ext rfl rfl rfl) rfl ?_
 refine vq (q_ext rfl rfl rfl) rfl ?_
 refine simL_eff (re_alloc rfl Tryz.zeroValue45 rfl) rfl rfl rfl ?_
 intro b7v
 refine simL_do (re_store 0 rfl rfl rfl Tryz.sizeOf45 rfl rfl (one_of (by rfl)) rfl rfl) rfl rfl ?_
 intro _
 refine va rfl rfl (nx ?_)
 refine vm rfl rfl ?_
 refine vq (q_build (v := .agg #[.int .i64 2, .int .i64 1, .int .i64 1, str ([97] : List UInt8), str ([121] : List UInt8), str ([] : List UInt8)]) rfl rfl (fun _ => by kernel_rfl)) rfl ?_
 refine simL_bind (fun s8v hs9v => ?_)
 refine simL_eff (re_call (vs := [.pointer (some ⟨y3v.1, 0, none⟩), .agg #[.int .i64 2, .int .i64 1, .int .i64 1, str ([97] : List UInt8), str ([121] : List UInt8), str ([] : List UInt8)]]) (cap := []) (A := [obj y3v.1 58 [.map (some y6v.1), .map (some y6v.2)], mapO y6v.1 enc9 enc9 s4v.2.2.2.1, mapO y6v.2 enc3 enc69 s4v.2.2.2.2]) (rst := [obj b7v 45 [.int .i64 s4v.1, str s4v.2.1], F]) rfl rfl rfl rfl rfl rfl Tryz.call20 (.sel 1 rfl (.sel 1 rfl (.sel 1 rfl (.sel 0 rfl (.sel 0 rfl (.nil _)))))) (kv_Store_Do.calls _ _ y3v.1 y6v.1 s4v.2.2.2.1 y6v.2 s4v.2.2.2.2 (2 : Int) (1 : Int) (1 : Int) ([97] : List UInt8) ([121] : List UInt8) ([] : List UInt8) ) hs9v) rfl rfl rfl ?_
 intro y10v
 refine vm rfl rfl ?_
 refine vq (q_ext rfl rfl rfl) rfl ?_
 refine vq (q_ext rfl rfl rfl) rfl ?_
 refine simL_eff (re_alloc rfl Tryz.zeroValue45 rfl) rfl rfl rfl ?_
 intro b11v
 refine simL_do (re_store 0 rfl rfl rfl Tryz.sizeOf45 rfl rfl (one_of (by rfl)) rfl rfl) rfl rfl ?_
 intro _
 refine va rfl rfl (nx ?_)
 refine vm rfl rfl ?_
 refine vq (q_build (v := .agg #[.int .i64 4, .int .i64 2, .int .i64 1, str ([97] : List UInt8), str ([122] : List UInt8), str ([121] : List UInt8)]) rfl rfl (fun _ => by kernel_rfl)) rfl ?_
 refine simL_bind (fun s12v hs13v => ?_)
 refine simL_eff (re_call (vs := [.pointer (some ⟨y3v.1, 0, none⟩), .agg #[.int .i64 4, .int .i64 2, .int .i64 1, str ([97] : List UInt8), str ([122] : List UInt8), str ([121] : List UInt8)]]) (cap := []) (A := [obj y3v.1 58 [.map (some y10v.1), .map (some y10v.2)], mapO y10v.1 enc9 enc9 s8v.2.2.2.1, mapO y10v.2 enc3 enc69 s8v.2.2.2.2]) (rst := [obj b11v 45 [.int .i64 s8v.1, str s8v.2.1], obj b7v 45 [.int .i64 s4v.1, str s4v.2.1], F]) rfl rfl rfl rfl rfl rfl Tryz.call20 (.sel 1 rfl (.sel 1 rfl (.sel 1 rfl (.sel 0 rfl (.sel 0 rfl (.sel 0 rfl (.nil _))))))) (kv_Store_Do.calls _ _ y3v.1 y10v.1 s8v.2.2.2.1 y10v.2 s8v.2.2.2.2 (4 : Int) (2 : Int) (1 : Int) ([97] : List UInt8) ([122] : List UInt8) ([121] : List UInt8) ) hs13v) rfl rfl rfl ?_
 intro y14v
 refine vm rfl rfl ?_
 refine vq (q_ext rfl rfl rfl) rfl ?_
 refine vq (q_ext rfl rfl rfl) rfl ?_
 refine simL_eff (re_alloc rfl Tryz.zeroValue45 rfl) rfl rfl rfl ?_
 intro b15v
 refine simL_do (re_store 0 rfl rfl rfl Tryz.sizeOf45 rfl rfl (one_of (by rfl)) rfl rfl) rfl rfl ?_
 intro _
 refine va rfl rfl (nx ?_)
 refine vm rfl rfl ?_
 refine vq (q_build (v := .agg #[.int .i64 1, .int .i64 0, .int .i64 0, str ([] : List UInt8), str ([] : List UInt8), str ([] : List UInt8)]) rfl rfl (fun _ => by kernel_rfl)) rfl ?_
 refine simL_bind (fun s16v hs17v => ?_)
 refine simL_eff (re_call (vs := [.pointer (some ⟨y3v.1, 0, none⟩), .agg #[.int .i64 1, .int .i64 0, .int .i64 0, str ([] : List UInt8), str ([] : List UInt8), str ([] : List UInt8)]]) (cap := []) (A := [obj y3v.1 58 [.map (some y14v.1), .map (some y14v.2)], mapO y14v.1 enc9 enc9 s12v.2.2.2.1, mapO y14v.2 enc3 enc69 s12v.2.2.2.2]) (rst := [obj b15v 45 [.int .i64 s12v.1, str s12v.2.1], obj b11v 45 [.int .i64 s8v.1, str s8v.2.1], obj b7v 45 [.int .i64 s4v.1, str s4v.2.1], F]) rfl rfl rfl rfl rfl rfl Tryz.call20 (.sel 1 rfl (.sel 1 rfl (.sel 1 rfl (.sel 0 rfl (.sel 0 rfl (.sel 0 rfl (.sel 0 rfl (.nil _)))))))) (kv_Store_Do.calls _ _ y3v.1 y14v.1 s12v.2.2.2.1 y14v.2 s12v.2.2.2.2 (1 : Int) (0 : Int) (0 : Int) ([] : List UInt8) ([] : List UInt8) ([] : List UInt8) ) hs17v) rfl rfl rfl ?_
 intro y18v
 refine vm rfl rfl ?_
 refine vq (q_ext rfl rfl rfl) rfl ?_
 refine vq (q_ext rfl rfl rfl) rfl ?_
 refine simL_eff (re_alloc rfl Tryz.zeroValue45 rfl) rfl rfl rfl ?_
 intro b19v
 refine simL_do (re_store 0 rfl rfl rfl Tryz.sizeOf45 rfl rfl (one_of (by rfl)) rfl rfl) rfl rfl ?_
 intro _
 refine va rfl rfl (nx ?_)
 refine vq (q_loado 6 rfl rfl Tryz.isAgg45 Tryz.sizeOf45 rfl rfl) rfl ?_
 refine vq (q_build (v := .agg #[.int .i64 1, str ([] : List UInt8)]) rfl rfl (fun _ => by kernel_rfl)) rfl ?_
 refine vq (q_eqagg rfl rfl rfl (by kernel_rfl) (fun d w => eqi_struct Tryz.underlying45 (by kernel_rfl) (eqf_cons (by rfl) (part_of Tryz.isAgg3 rfl) (part_of Tryz.isAgg3 rfl) (eqi_int Tryz.underlying3) (eqf_last (by rfl) (part_of Tryz.isAgg9 rfl) (part_of Tryz.isAgg9 rfl) (eqi_str Tryz.underlying9))))) rfl ?_
 refine vm rfl rfl ?_
 refine simL_valc (b := decide (s4v.1 = (1 : Int)) && (decide (s4v.2.1 = ([] : List UInt8)))) (fun hb53v => RQ.sub (E' := [(4, .pointer (some ⟨b11v, 0, none⟩))]) ⟨rfl, trivial⟩ (q_loado 5 rfl rfl Tryz.isAgg45 Tryz.sizeOf45 rfl rfl)) rfl rfl rfl rfl rfl ?_
 refine simL_valc (b := decide (s4v.1 = (1 : Int)) && (decide (s4v.2.1 = ([] : List UInt8)))) (fun hb52v => RQ.sub (E' := [(2, .pointer (some ⟨b7v, 0, none⟩))]) ⟨rfl, trivial⟩ (q_loado 6 rfl rfl Tryz.isAgg45 Tryz.sizeOf45 rfl rfl)) rfl rfl rfl rfl rfl ?_
 refine simL_valc (b := decide (s4v.1 = (1 : Int)) && (decide (s4v.2.1 = ([] : List UInt8)))) (fun hb51v => RQ.sub (E' := [(41, .agg #[.int .i64 s8v.1, str s8v.2.1]), (42, .agg #[.int .i64 s4v.1, str s4v.2.1])]) ⟨lk_cv rfl hb51v, lk_cv rfl hb51v, trivial⟩ (q_eqagg rfl rfl rfl (by kernel_rfl) (fun d w => eqi_struct Tryz.underlying45 (by kernel_rfl) (eqf_cons (by rfl) (part_of Tryz.isAgg3 rfl) (part_of Tryz.isAgg3 rfl) (eqi_int Tryz.underlying3) (eqf_last (by rfl) (part_of Tryz.isAgg9 rfl) (part_of Tryz.isAgg9 rfl) (eqi_str Tryz.underlying9)))))) rfl rfl rfl rfl rfl ?_
 refine vq (q_and rfl rfl rfl) rfl ?_
 refine vm rfl rfl ?_
 refine simL_valc (b := (decide (s4v.1 = (1 : Int)) && (decide (s4v.2.1 = ([] : List UInt8)))) && (decide (s8v.1 = s4v.1) && (decide (s8v.2.1 = s4v.2.1)))) (fun hb50v => RQ.sub (E' := [(6, .pointer (some ⟨b15v, 0, none⟩))]) ⟨rfl, trivial⟩ (q_loado 4 rfl rfl Tryz.isAgg45 Tryz.sizeOf45 rfl rfl)) rfl rfl rfl rfl rfl ?_
 refine simL_valc (b := (decide (s4v.1 = (1 : Int)) && (decide (s4v.2.1 = ([] : List UInt8)))) && (decide (s8v.1 = s4v.1) && (decide (s8v.2.1 = s4v.2.1)))) (fun hb49v => RQ.sub (E' := []) trivial (q_build (v := .agg #[.int .i64 3, str ([120] : List UInt8)]) rfl rfl (fun _ => by kernel_rfl))) rfl rfl rfl rfl rfl ?_
 refine simL_valc (b := (decide (s4v.1 = (1 : Int)) && (decide (s4v.2.1 = ([] : List UInt8)))) && (decide (s8v.1 = s4v.1) && (decide (s8v.2.1 = s4v.2.1)))) (fun hb48v => RQ.sub (E' := [(46, .agg #[.int .i64 s12v.1, str s12v.2.1]), (47, .agg #[.int .i64 3, str ([120] : List UInt8)])]) ⟨lk_cv rfl hb48v, lk_cv rfl hb48v, trivial⟩ (q_eqagg rfl rfl rfl (by kernel_rfl) (fun d w => eqi_struct Tryz.underlying45 (by kernel_rfl) (eqf_cons (by rfl) (part_of Tryz.isAgg3 rfl) (part_of Tryz.isAgg3 rfl) (eqi_int Tryz.underlying3) (eqf_last (by rfl) (part_of Tryz.isAgg9 rfl) (part_of Tryz.isAgg9 rfl) (eqi_str Tryz.underlying9)))))) rfl rfl rfl rfl rfl ?_
 refine vq (q_and rfl rfl rfl) rfl ?_
 refine vm rfl rfl ?_
 refine simL_cut' 5 (S := Bool) (Unit) (fun s y => [(1, .pointer (some ⟨y3v.1, 0, none⟩)), (3, .int .i64 s4v.2.2.1), (9, .int .i64 s16v.2.2.1), (55, .bool s)]) (fun s y => [obj y3v.1 58 [.map (some y18v.1), .map (some y18v.2)], mapO y18v.1 enc9 enc9 s16v.2.2.2.1, mapO y18v.2 enc3 enc69 s16v.2.2.2.2, F]) ?_ ?_
 refine simL_caseb (fun hb25v => ?_) (fun hb26v => ?_)
 rw [hb25v]
 refine simL_valg (q_move rfl rfl) rfl rfl rfl rfl rfl rfl ?_
 refine simL_bind (fun s22v hs23v => ?_)
 refine simL_effg (re_call (vs := [.pointer (some ⟨y3v.1, 0, none⟩), str ([97] : List UInt8)]) (cap := []) (A := [obj y3v.1 58 [.map (some y18v.1), .map (some y18v.2)], mapO y18v.1 enc9 enc9 s16v.2.2.2.1, mapO y18v.2 enc3 enc69 s16v.2.2.2.2]) (rst := [obj b19v 45 [.int .i64 s16v.1, str s16v.2.1], obj b15v 45 [.int .i64 s12v.1, str s12v.2.1], obj b11v 45 [.int .i64 s8v.1, str s8v.2.1], obj b7v 45 [.int .i64 s4v.1, str s4v.2.1], F]) rfl rfl rfl rfl rfl rfl Tryz.call22 (.sel 1 rfl (.sel 1 rfl (.sel 1 rfl (.sel 0 rfl (.sel 0 rfl (.sel 0 rfl (.sel 0 rfl (.sel 0 rfl (.nil _))))))))) (kv_Store_Get.calls _ _ y3v.1 y18v.1 s16v.2.2.2.1 y18v.2 s16v.2.2.2.2 ([97] : List UInt8) ) hs23v) rfl rfl rfl rfl rfl rfl ?_
 intro y24v
 refine simL_valg (q_build (v := .agg #[.int .i64 1, str ([120] : List UInt8)]) rfl rfl (fun _ => by kernel_rfl)) rfl rfl rfl rfl rfl rfl ?_
 refine simL_valg (q_eqagg rfl rfl rfl (by kernel_rfl) (fun d w => eqi_struct Tryz.underlying45 (by kernel_rfl) (eqf_cons (by rfl) (part_of Tryz.isAgg3 rfl) (part_of Tryz.isAgg3 rfl) (eqi_int Tryz.underlying3) (eqf_last (by rfl) (part_of Tryz.isAgg9 rfl) (part_of Tryz.isAgg9 rfl) (eqi_str Tryz.underlying9))))) rfl rfl rfl rfl rfl rfl ?_
 refine vq (q_pick rfl rfl rfl rfl rfl) rfl (simL_nil ?_)
 exact nrm_cut (s := decide (s22v.1 = (1 : Int)) && (decide (s22v.2 = ([120] : List UInt8)))) () ⟨rfl, rfl, rfl, rfl, trivial⟩ (.sel 0 rfl (.sel 0 rfl (.sel 0 rfl (.sel 4 rfl (.nil _)))))
 rw [hb26v]
 refine simL_skipd rfl rfl rfl rfl rfl rfl ?_
 refine simL_skipd rfl rfl rfl rfl rfl rfl ?_
 refine simL_skipd rfl rfl rfl rfl rfl rfl ?_
 refine simL_skipd rfl rfl rfl rfl rfl rfl ?_
 refine vq (q_pick rfl rfl rfl rfl rfl) rfl (simL_nil ?_)
 exact nrm_cut (s := false) () ⟨rfl, rfl, rfl, rfl, trivial⟩ (.sel 1 rfl (.sel 1 rfl (.sel 1 rfl (.sel 4 rfl (.nil _)))))
 intro s20v y21v
 refine vm rfl rfl ?_
 refine simL_cut' 4 (S := Bool) (Unit) (fun s y => [(1, .pointer (some ⟨y3v.1, 0, none⟩)), (9, .int .i64 s16v.2.2.1), (60, .bool s)]) (fun s y => [obj y3v.1 58 [.map (some y18v.1), .map (some y18v.2)], mapO y18v.1 enc9 enc9 s16v.2.2.2.1, mapO y18v.2 enc3 enc69 s16v.2.2.2.2, F]) ?_ ?_
 refine simL_caseb (fun hb32v => ?_) (fun hb33v => ?_)
 rw [hb32v]
 refine simL_valg (q_move rfl rfl) rfl rfl rfl rfl rfl rfl ?_
 refine simL_bind (fun s29v hs30v => ?_)
 refine simL_effg (re_call (vs := [.int .i64 s4v.2.2.1]) (cap := []) (A := []) (rst := [obj y3v.1 58 [.map (some y18v.1), .map (some y18v.2)], mapO y18v.1 enc9 enc9 s16v.2.2.2.1, mapO y18v.2 enc3 enc69 s16v.2.2.2.2, F]) rfl rfl rfl rfl rfl rfl Tryz.call11 (.sel 0 rfl (.sel 0 rfl (.sel 0 rfl (.sel 0 rfl (.nil _))))) (synodref_Num.calls _ _ s4v.2.2.1 ) hs30v) rfl rfl rfl rfl rfl rfl ?_
 intro y31v
 refine simL_valg (q_eql rfl rfl rfl) rfl rfl rfl rfl rfl rfl ?_
 refine vq (q_pick rfl rfl rfl rfl rfl) rfl (simL_nil ?_)
 exact nrm_cut (s := decide (s29v = (0 : Int))) () ⟨rfl, rfl, rfl, trivial⟩ (.sel 0 rfl (.sel 0 rfl (.sel 0 rfl (.sel 0 rfl (.nil _)))))
 rw [hb33v]
 refine simL_skipd rfl rfl rfl rfl rfl rfl ?_
 refine simL_skipd rfl rfl rfl rfl rfl rfl ?_
 refine simL_skipd rfl rfl rfl rfl rfl rfl ?_
 refine vq (q_pick rfl rfl rfl rfl rfl) rfl (simL_nil ?_)
 exact nrm_cut (s := false) () ⟨rfl, rfl, rfl, trivial⟩ (.sel 0 rfl (.sel 0 rfl (.sel 0 rfl (.sel 0 rfl (.nil _)))))
 intro s27v y28v
 refine vm rfl rfl ?_
 refine simL_cut' 4 (S := Bool) (Unit) (fun s y => [(1, .pointer (some ⟨y3v.1, 0, none⟩)), (65, .bool s)]) (fun s y => [obj y3v.1 58 [.map (some y18v.1), .map (some y18v.2)], mapO y18v.1 enc9 enc9 s16v.2.2.2.1, mapO y18v.2 enc3 enc69 s16v.2.2.2.2, F]) ?_ ?_
 refine simL_caseb (fun hb39v => ?_) (fun hb40v => ?_)
 rw [hb39v]
 refine simL_valg (q_move rfl rfl) rfl rfl rfl rfl rfl rfl ?_
 refine simL_bind (fun s36v hs37v => ?_)
 refine simL_effg (re_call (vs := [.int .i64 s16v.2.2.1]) (cap := []) (A := []) (rst := [obj y3v.1 58 [.map (some y18v.1), .map (some y18v.2)], mapO y18v.1 enc9 enc9 s16v.2.2.2.1, mapO y18v.2 enc3 enc69 s16v.2.2.2.2, F]) rfl rfl rfl rfl rfl rfl Tryz.call11 (.sel 0 rfl (.sel 0 rfl (.sel 0 rfl (.sel 0 rfl (.nil _))))) (synodref_Num.calls _ _ s16v.2.2.1 ) hs37v) rfl rfl rfl rfl rfl rfl ?_
 intro y38v
 refine simL_valg (q_eql rfl rfl rfl) rfl rfl rfl rfl rfl rfl ?_
 refine vq (q_pick rfl rfl rfl rfl rfl) rfl (simL_nil ?_)
 exact nrm_cut (s := decide (s36v = (6 : Int))) () ⟨rfl, rfl, trivial⟩ (.sel 0 rfl (.sel 0 rfl (.sel 0 rfl (.sel 0 rfl (.nil _)))))
 rw [hb40v]
 refine simL_skipd rfl rfl rfl rfl rfl rfl ?_
 refine simL_skipd rfl rfl rfl rfl rfl rfl ?_
 refine simL_skipd rfl rfl rfl rfl rfl rfl ?_
 refine vq (q_pick rfl rfl rfl rfl rfl) rfl (simL_nil ?_)
 exact nrm_cut (s := false) () ⟨rfl, rfl, trivial⟩ (.sel 0 rfl (.sel 0 rfl (.sel 0 rfl (.sel 0 rfl (.nil _)))))
 intro s34v y35v
 refine vm rfl rfl ?_
 refine simL_cut' 4 (S := Bool) (Unit) (fun s y => [(70, .bool s)]) (fun s y => [F]) ?_ ?_
 refine simL_caseb (fun hb46v => ?_) (fun hb47v => ?_)
 rw [hb46v]
 refine simL_valg (q_move rfl rfl) rfl rfl rfl rfl rfl rfl ?_
 refine simL_bind (fun s43v hs44v => ?_)
 refine simL_effg (re_call (vs := [.pointer (some ⟨y3v.1, 0, none⟩)]) (cap := []) (A := [obj y3v.1 58 [.map (some y18v.1), .map (some y18v.2)], mapO y18v.1 enc9 enc9 s16v.2.2.2.1, mapO y18v.2 enc3 enc69 s16v.2.2.2.2]) (rst := [F]) rfl rfl rfl rfl rfl rfl Tryz.call23 (.sel 0 rfl (.sel 0 rfl (.sel 0 rfl (.sel 0 rfl (.nil _))))) (kv_Store_Len.calls _ _ y3v.1 y18v.1 s16v.2.2.2.1 y18v.2 s16v.2.2.2.2 ) hs44v) rfl rfl rfl rfl rfl rfl ?_
 intro y45v
 refine simL_valg (q_eql rfl rfl rfl) rfl rfl rfl rfl rfl rfl ?_
 refine vq (q_pick rfl rfl rfl rfl rfl) rfl (simL_nil ?_)
 exact nrm_cut (s := decide (s43v = (1 : Int))) () ⟨rfl, trivial⟩ (.sel 3 rfl (.nil _))
 rw [hb47v]
 refine simL_skipd rfl rfl rfl rfl rfl rfl ?_
 refine simL_skipd rfl rfl rfl rfl rfl rfl ?_
 refine simL_skipd rfl rfl rfl rfl rfl rfl ?_
 refine vq (q_pick rfl rfl rfl rfl rfl) rfl (simL_nil ?_)
 exact nrm_cut (s := false) () ⟨rfl, trivial⟩ (.sel 3 rfl (.nil _))
 intro s41v y42v
 refine va rfl rfl (simL_nil (nrm_then (sim_rtn ?_)))
 exact rtn_fn () rfl rfl rfl (.sel 0 rfl (.nil _))

def synodlaw11_few.l0 (x0 : List (Ty49)) : Nat → Int → Int → Option (Int)
  | 0, _, _ => none
  | k + 1, z5v, z6v => if ((decide (z6v < (x0.length : Int))) && (decide (z6v < (400 : Int)))) = true then (if 0 ≤ z6v ∧ z6v < (x0.length : Int) then (if 0 ≤ z6v ∧ z6v < (x0.length : Int) then (if 0 ≤ z6v ∧ z6v < (x0.length : Int) then (synodlaw11_few.l0 x0 k (min (IntKind.i64.wrap ((IntKind.i64.wrap ((IntKind.i64.wrap (z5v + (min (((x0.getD z6v.toNat dz49).2.2.2.1).length : Int) (40000 : Int)))) + (min (((x0.getD z6v.toNat dz49).2.2.2.2.1).length : Int) (40000 : Int)))) + (min (((x0.getD z6v.toNat dz49).2.2.2.2.2).length : Int) (40000 : Int)))) (80000 : Int)) (IntKind.i64.wrap (z6v + 1))) else none) else none) else none) else (some z5v)
def synodlaw11_few.f (k : Nat) (x0 : List (Ty49)) : Option (Bool) := (synodlaw11_few.l0 x0 k 0 0).bind fun s1v => (some ((decide ((x0.length : Int) ≤ (400 : Int))) && (decide (s1v ≤ (40000 : Int)))))
theorem synodlaw11_few.calls (W : World) (F : HA) (k : Nat) (a0 : Option Addr) (c0 : Nat) (x0 : List (Ty49)) (h0 : RdV F 6 (V49 tt) a0 x0) (hc0 : x0.length ≤ c0) (hm0 : c0 ≤ maxLen) :
    Fn Tryz.prog W 6 [.slice a0 x0.length c0] [] F (synodlaw11_few.f k x0) (fun (r : Bool) (y : Unit) => .bool r) (fun r y => []) := by
 unfold synodlaw11_few.f
 refine fn_intro 49 Tryz.func6 rfl Tryz.ntmps6 rfl ?_
 refine sr ?_
 refine va rfl rfl (nx ?_)
 refine va rfl rfl (simL_nil (nrm_then ?_))
 refine sim_cut (S := Int) (Unit) (fun s y => [(0, .slice a0 x0.length c0), (3, .int .i64 s)]) (fun s y => [F]) ?_ ?_
 refine sr ?_
 refine va rfl rfl (simL_nil (nrm_then ?_))
 refine sim_block ?_
 refine sim_loop (S := Int × Int) (Unit) (fun k s => synodlaw11_few.l0 x0 k s.1 s.2) (fun s y => [(0, .slice a0 x0.length c0), (3, .int .i64 s.1), (4, .int .i64 s.2)]) (fun s y => [F]) (fun _ => by rw [synodlaw11_few.l0]) ?_ k (0, 0) () ⟨rfl, rfl, rfl, trivial⟩ (.sel 0 rfl (.nil _))
 intro k s3v y4v
 refine sim_eq (by rw [synodlaw11_few.l0]) ?_
 refine sim_seq (sr ?_)
 refine vm rfl rfl ?_
 refine vm rfl rfl ?_
 refine vq (q_len rfl rfl rfl Tryz.underlying22) rfl ?_
 refine vq (q_lss rfl rfl rfl) rfl ?_
 refine vm rfl rfl ?_
 refine simL_valc (b := decide (s3v.2 < (x0.length : Int))) (fun hb35v => RQ.sub (E' := [(4, .int .i64 s3v.2)]) ⟨rfl, trivial⟩ (q_move rfl rfl)) rfl rfl rfl rfl rfl ?_
 refine simL_valc (b := decide (s3v.2 < (x0.length : Int))) (fun hb34v => RQ.sub (E' := [(10, .int .i64 s3v.2)]) ⟨lk_cv rfl hb34v, trivial⟩ (q_lss rfl rfl rfl)) rfl rfl rfl rfl rfl ?_
 refine vq (q_and rfl rfl rfl) rfl (simL_nil (nrm_then ?_))
 refine sim_condb rfl (fun h7v => ?_) (fun h8v => ?_)
 refine sim_skip ?_
 refine nrm_then (sim_seq ?_)
 refine sim_block ?_
 refine sim_seq ?_
 refine sim_ask (fun hi9v => ?_)
 obtain ⟨b10v, b10vo, r13v, ha11v, hV14v, hlr15v, hcell16v⟩ := RdV.pos h0 (Up.refl _) rfl (i := s3v.2.toNat) (by omega) dz49
 obtain rfl := hV14v
 refine sim_ask (fun hi17v => ?_)
 obtain ⟨b18v, b18vo, r21v, ha19v, hV22v, hlr23v, hcell24v⟩ := RdV.pos h0 (Up.refl _) rfl (i := s3v.2.toNat) (by omega) dz49
 obtain rfl := hV22v
 refine sim_ask (fun hi25v => ?_)
 obtain ⟨b26v, b26vo, r29v, ha27v, hV30v, hlr31v, hcell32v⟩ := RdV.pos h0 (Up.refl _) rfl (i := s3v.2.toNat) (by omega) dz49
 obtain rfl := hV30v
 refine sim_draw (Γ := Unit) () [[], [], [], [1, 2], [1, 2, 3], [1, 2, 3, 4], [1, 2, 3, 4, 5], [1, 2, 3, 4, 5, 6], rL 8, [], [], [9, 10], [9, 10, 11], [9, 10, 11, 12], [9, 10, 11, 12, 13], [9, 10, 11, 12, 13, 14], rL 16, [], [], [17, 18], [17, 18, 19], [17, 18, 19, 20], [17, 18, 19, 20, 21], [17, 18, 19, 20, 21, 22], rL 24, rL 25] [] [0, 1, 2, 3, 4, 5, 6, 7, 8, 9, 10, 11, 12, 13, 14, 15, 16, 17, 18, 19, 20, 21, 22, 23, 24, 25] (fun i => [[0], [0], [0], [0], [0], [0], [0], [0], [0], [0], [0], [0], [0], [0], [0], [0], [0], [0], [0], [0], [0], [0], [0], [0], [0], [0]].getD i []) (fun i => [[], [], [], [], [], [], [], [], [], [], [], [], [], [], [], [], [], [], [], [], [], [], [], [], [], []].getD i []) (fun γ i => [.int .i64 s3v.1, .slice a0 x0.length c0, .int .i64 s3v.2, .pointer (some ⟨b10v, b10vo + s3v.2.toNat * 6, none⟩), .pointer (some ⟨b10v, b10vo + s3v.2.toNat * 6 + 3, none⟩), str ((x0.getD s3v.2.toNat dz49).2.2.2.1), .int .i64 (((x0.getD s3v.2.toNat dz49).2.2.2.1).length : Int), .int .i64 (min (((x0.getD s3v.2.toNat dz49).2.2.2.1).length : Int) (40000 : Int)), .int .i64 (IntKind.i64.wrap (s3v.1 + (min (((x0.getD s3v.2.toNat dz49).2.2.2.1).length : Int) (40000 : Int)))), .slice a0 x0.length c0, .int .i64 s3v.2, .pointer (some ⟨b18v, b18vo + s3v.2.toNat * 6, none⟩), .pointer (some ⟨b18v, b18vo + s3v.2.toNat * 6 + 4, none⟩), str ((x0.getD s3v.2.toNat dz49).2.2.2.2.1), .int .i64 (((x0.getD s3v.2.toNat dz49).2.2.2.2.1).length : Int), .int .i64 (min (((x0.getD s3v.2.toNat dz49).2.2.2.2.1).length : Int) (40000 : Int)), .int .i64 (IntKind.i64.wrap ((IntKind.i64.wrap (s3v.1 + (min (((x0.getD s3v.2.toNat dz49).2.2.2.1).length : Int) (40000 : Int)))) + (min (((x0.getD s3v.2.toNat dz49).2.2.2.2.1).length : Int) (40000 : Int)))), .slice a0 x0.length c0, .int .i64 s3v.2, .pointer (some ⟨b26v, b26vo + s3v.2.toNat * 6, none⟩), .pointer (some ⟨b26v, b26vo + s3v.2.toNat * 6 + 5, none⟩), str ((x0.getD s3v.2.toNat dz49).2.2.2.2.2), .int .i64 (((x0.getD s3v.2.toNat dz49).2.2.2.2.2).length : Int), .int .i64 (min (((x0.getD s3v.2.toNat dz49).2.2.2.2.2).length : Int) (40000 : Int)), .int .i64 (IntKind.i64.wrap ((IntKind.i64.wrap ((IntKind.i64.wrap (s3v.1 + (min (((x0.getD s3v.2.toNat dz49).2.2.2.1).length : Int) (40000 : Int)))) + (min (((x0.getD s3v.2.toNat dz49).2.2.2.2.1).length : Int) (40000 : Int)))) + (min (((x0.getD s3v.2.toNat dz49).2.2.2.2.2).length : Int) (40000 : Int)))), .int .i64 (IntKind.i64.wrap ((IntKind.i64.wrap ((IntKind.i64.wrap (s3v.1 + (min (((x0.getD s3v.2.toNat dz49).2.2.2.1).length : Int) (40000 : Int)))) + (min (((x0.getD s3v.2.toNat dz49).2.2.2.2.1).length : Int) (40000 : Int)))) + (min (((x0.getD s3v.2.toNat dz49).2.2.2.2.2).length : Int) (40000 : Int))))].getD i undef) (fun j γ => [[F]].getD j []) (fun γ => [(0, .slice a0 x0.length c0), (3, .int .i64 (IntKind.i64.wrap ((IntKind.i64.wrap ((IntKind.i64.wrap (s3v.1 + (min (((x0.getD s3v.2.toNat dz49).2.2.2.1).length : Int) (40000 : Int)))) + (min (((x0.getD s3v.2.toNat dz49).2.2.2.2.1).length : Int) (40000 : Int)))) + (min (((x0.getD s3v.2.toNat dz49).2.2.2.2.2).length : Int) (40000 : Int))))), (4, .int .i64 s3v.2), (10, cv ((decide (s3v.2 < (x0.length : Int))) == true) (.int .i64 s3v.2)), (11, cv ((decide (s3v.2 < (x0.length : Int))) == true) (.bool (decide (s3v.2 < (400 : Int)))))]) mixed (by decide) (by decide) (by decide) (by decide) (by decide) (by decide) (by decide) 49 rfl (by decide) (by decide) (by decide) (Ent.refl _) ?_ ?_ (fun _ => ⟨rfl, rfl, rfl, rfl, rfl, trivial⟩) ?_
 exact (aq rfl (fun γ => qm rfl (.o (s := 3) rfl (by decide) .nil) rfl) (aq rfl (fun γ => qm rfl (.o (s := 0) rfl (by decide) .nil) rfl) (aq rfl (fun γ => qm rfl (.o (s := 4) rfl (by decide) .nil) rfl) (aq rfl (fun γ => qp rfl rfl (.v 1 rfl rfl (.v 2 rfl rfl .nil)) (q_idx rfl rfl rfl ha11v Tryz.underlying22 Tryz.sizeOf49 hi9v.1 hi9v.2) rfl) (aq rfl (fun γ => qp rfl rfl (.v 3 rfl rfl .nil) (q_fa rfl rfl Tryz.underlying49 rfl rfl Tryz.sizeOf9 rfl) rfl) (aq rfl (fun γ => qp rfl rfl (.v 4 rfl rfl .nil) (q_load rfl rfl Tryz.isAgg9 (hcell16v 0 rfl 3 _ rfl)) rfl) (aq rfl (fun γ => qp rfl rfl (.v 5 rfl rfl .nil) (q_lens rfl rfl rfl Tryz.underlying9) rfl) (aq rfl (fun γ => qp rfl rfl (.v 6 rfl rfl .nil) (q_min rfl rfl rfl) rfl) (aq rfl (fun γ => qp rfl rfl (.v 0 rfl rfl (.v 7 rfl rfl .nil)) (q_add rfl rfl rfl) rfl) (aq rfl (fun γ => qm rfl (.o (s := 0) rfl (by decide) .nil) rfl) (aq rfl (fun γ => qm rfl (.o (s := 4) rfl (by decide) .nil) rfl) (aq rfl (fun γ => qp rfl rfl (.v 9 rfl rfl (.v 10 rfl rfl .nil)) (q_idx rfl rfl rfl ha19v Tryz.underlying22 Tryz.sizeOf49 hi17v.1 hi17v.2) rfl) (aq rfl (fun γ => qp rfl rfl (.v 11 rfl rfl .nil) (q_fa rfl rfl Tryz.underlying49 rfl rfl Tryz.sizeOf9 rfl) rfl) (aq rfl (fun γ => qp rfl rfl (.v 12 rfl rfl .nil) (q_load rfl rfl Tryz.isAgg9 (hcell24v 0 rfl 4 _ rfl)) rfl) (aq rfl (fun γ => qp rfl rfl (.v 13 rfl rfl .nil) (q_lens rfl rfl rfl Tryz.underlying9) rfl) (aq rfl (fun γ => qp rfl rfl (.v 14 rfl rfl .nil) (q_min rfl rfl rfl) rfl) (aq rfl (fun γ => qp rfl rfl (.v 8 rfl rfl (.v 15 rfl rfl .nil)) (q_add rfl rfl rfl) rfl) (aq rfl (fun γ => qm rfl (.o (s := 0) rfl (by decide) .nil) rfl) (aq rfl (fun γ => qm rfl (.o (s := 4) rfl (by decide) .nil) rfl) (aq rfl (fun γ => qp rfl rfl (.v 17 rfl rfl (.v 18 rfl rfl .nil)) (q_idx rfl rfl rfl ha27v Tryz.underlying22 Tryz.sizeOf49 hi25v.1 hi25v.2) rfl) (aq rfl (fun γ => qp rfl rfl (.v 19 rfl rfl .nil) (q_fa rfl rfl Tryz.underlying49 rfl rfl Tryz.sizeOf9 rfl) rfl) (aq rfl (fun γ => qp rfl rfl (.v 20 rfl rfl .nil) (q_load rfl rfl Tryz.isAgg9 (hcell32v 0 rfl 5 _ rfl)) rfl) (aq rfl (fun γ => qp rfl rfl (.v 21 rfl rfl .nil) (q_lens rfl rfl rfl Tryz.underlying9) rfl) (aq rfl (fun γ => qp rfl rfl (.v 22 rfl rfl .nil) (q_min rfl rfl rfl) rfl) (aq rfl (fun γ => qp rfl rfl (.v 16 rfl rfl (.v 23 rfl rfl .nil)) (q_add rfl rfl rfl) rfl) (aq rfl (fun γ => qp rfl rfl (.v 24 rfl rfl .nil) (q_asg rfl rfl) rfl) zA))))))))))))))))))))))))))
 exact zA
 intro g33v
 refine nrm_then (sim_region ?_)
 refine vm rfl rfl ?_
 refine vq (q_min rfl rfl rfl) rfl ?_
 refine va rfl rfl (simL_nil (nrm_block (nrm_then (sim_region ?_))))
 refine vm rfl rfl ?_
 refine vq (q_add rfl rfl rfl) rfl ?_
 refine va rfl rfl (simL_nil ?_)
 exact nrm_again (s := (min (IntKind.i64.wrap ((IntKind.i64.wrap ((IntKind.i64.wrap (s3v.1 + (min (((x0.getD s3v.2.toNat dz49).2.2.2.1).length : Int) (40000 : Int)))) + (min (((x0.getD s3v.2.toNat dz49).2.2.2.2.1).length : Int) (40000 : Int)))) + (min (((x0.getD s3v.2.toNat dz49).2.2.2.2.2).length : Int) (40000 : Int)))) (80000 : Int), IntKind.i64.wrap (s3v.2 + 1))) () ⟨rfl, rfl, rfl, trivial⟩ (.sel 0 rfl (.nil _))
 refine sim_exi ?_
 refine exi_then ?_
 refine exi_loop ?_
 refine exi_here ?_
 exact nrm_cut (s := s3v.1) () ⟨rfl, rfl, trivial⟩ (.sel 0 rfl (.nil _))
 intro s1v y2v
 refine sr ?_
 refine vm rfl rfl ?_
 refine vq (q_len rfl rfl rfl Tryz.underlying22) rfl ?_
 refine vq (q_leq rfl rfl rfl) rfl ?_
 refine vm rfl rfl ?_
 refine simL_valc (b := decide ((x0.length : Int) ≤ (400 : Int))) (fun hb37v => RQ.sub (E' := [(3, .int .i64 s1v)]) ⟨rfl, trivial⟩ (q_move rfl rfl)) rfl rfl rfl rfl rfl ?_
 refine simL_valc (b := decide ((x0.length : Int) ≤ (400 : Int))) (fun hb36v => RQ.sub (E' := [(46, .int .i64 s1v)]) ⟨lk_cv rfl hb36v, trivial⟩ (q_leq rfl rfl rfl)) rfl rfl rfl rfl rfl ?_
 refine vq (q_and rfl rfl rfl) rfl ?_
 refine va rfl rfl (simL_nil (nrm_then (sim_rtn ?_)))
 exact rtn_fn () rfl rfl rfl (.sel 0 rfl (.nil _))

def synodlaw11_does.l0 (x1 : List (Ty49)) : Nat → List (Ty45) → Int → List ((List UInt8) × (List UInt8)) → List ((Int) × (Ty69)) → Option ((List (Ty45)) × (List ((List UInt8) × (List UInt8))) × (List ((Int) × (Ty69))))
  | 0, _, _, _, _ => none
  | k + 1, z5v, z6v, z7v, z8v => if z6v < (x1.length : Int) then (if 0 ≤ z6v ∧ z6v < (x1.length : Int) then ((kv_Store_Do.f z7v z8v ((x1.getD z6v.toNat dz49).1) ((x1.getD z6v.toNat dz49).2.1) ((x1.getD z6v.toNat dz49).2.2.1) ((x1.getD z6v.toNat dz49).2.2.2.1) ((x1.getD z6v.toNat dz49).2.2.2.2.1) ((x1.getD z6v.toNat dz49).2.2.2.2.2)).bind fun s19v => (if (z5v.length + ([(s19v.1, s19v.2.1)] : List (Ty45)).length) * 24 ≤ 140737488355328 then (synodlaw11_does.l0 x1 k (z5v ++ ([(s19v.1, s19v.2.1)] : List (Ty45))) (IntKind.i64.wrap (z6v + 1)) s19v.2.2.2.1 s19v.2.2.2.2) else none)) else none) else (some (z5v, z7v, z8v))
def synodlaw11_does.f (k : Nat) (x0_0 : List ((List UInt8) × (List UInt8))) (x0_1 : List ((Int) × (Ty69))) (x1 : List (Ty49)) : Option ((List (Ty45)) × (List ((List UInt8) × (List UInt8))) × (List ((Int) × (Ty69)))) := (synodlaw11_does.l0 x1 k ([] : List (Ty45)) 0 x0_0 x0_1).bind fun s1v => (some (s1v.1, s1v.2.1, s1v.2.2))
theorem synodlaw11_does.calls (W : World) (F : HA) (k : Nat) (b0 : Nat) (m0_0 : Nat) (x0_0 : List ((List UInt8) × (List UInt8))) (m0_1 : Nat) (x0_1 : List ((Int) × (Ty69))) (a1 : Option Addr) (c1 : Nat) (x1 : List (Ty49)) (h1 : RdV F 6 (V49 tt) a1 x1) (hc1 : x1.length ≤ c1) (hm1 : c1 ≤ maxLen) :
    Fn Tryz.prog W 8 [.pointer (some ⟨b0, 0, none⟩), .slice a1 x1.length c1] [obj b0 58 [.map (some m0_0), .map (some m0_1)], mapO m0_0 enc9 enc9 x0_0, mapO m0_1 enc3 enc69 x0_1] F (synodlaw11_does.f k x0_0 x0_1 x1) (fun (r : (List (Ty45)) × (List ((List UInt8) × (List UInt8))) × (List ((Int) × (Ty69)))) (y : Option Addr × Nat × Nat × Nat) => .slice y.1 r.1.length y.2.1) (fun r y => [RowV 45 2 (V45 tt) y.1 r.1 y.2.1, obj b0 58 [.map (some y.2.2.1), .map (some y.2.2.2)], mapO y.2.2.1 enc9 enc9 r.2.1, mapO y.2.2.2 enc3 enc69 r.2.2]) := by
 unfold synodlaw11_does.f
 refine fn_intro 29 Tryz.func8 rfl Tryz.ntmps8 rfl ?_
 refine sr ?_
 refine va rfl rfl (nx ?_)
 refine va rfl rfl (simL_nil (nrm_then ?_))
 refine sim_cut (S := (List (Ty45)) × (List ((List UInt8) × (List UInt8))) × (List ((Int) × (Ty69)))) (Option Addr × Nat × Nat × Nat) (fun s y => [(5, .slice y.1 s.1.length y.2.1)]) (fun s y => [obj b0 58 [.map (some y.2.2.1), .map (some y.2.2.2)], RowV 45 2 (V45 tt) y.1 s.1 y.2.1, mapO y.2.2.1 enc9 enc9 s.2.1, mapO y.2.2.2 enc3 enc69 s.2.2, F]) ?_ ?_
 refine sr ?_
 refine va rfl rfl (simL_nil (nrm_then ?_))
 refine sim_block ?_
 refine sim_loop (S := (List (Ty45)) × Int × (List ((List UInt8) × (List UInt8))) × (List ((Int) × (Ty69)))) (Option Addr × Nat × Nat × Nat) (fun k s => synodlaw11_does.l0 x1 k s.1 s.2.1 s.2.2.1 s.2.2.2) (fun s y => [(0, .pointer (some ⟨b0, 0, none⟩)), (1, .slice a1 x1.length c1), (5, .slice y.1 s.1.length y.2.1), (6, .int .i64 s.2.1)]) (fun s y => [obj b0 58 [.map (some y.2.2.1), .map (some y.2.2.2)], RowV 45 2 (V45 tt) y.1 s.1 y.2.1, mapO y.2.2.1 enc9 enc9 s.2.2.1, mapO y.2.2.2 enc3 enc69 s.2.2.2, F]) (fun _ => by rw [synodlaw11_does.l0]) ?_ k (([] : List (Ty45)), 0, x0_0, x0_1) (none, 0, m0_0, m0_1) ⟨rfl, rfl, rfl, rfl, trivial⟩ (.sel 0 rfl (.rowV_nil (.sel 0 rfl (.sel 0 rfl (.sel 0 rfl (.nil _))))))
 intro k s3v y4v
 refine sim_eq (by rw [synodlaw11_does.l0]) ?_
 refine sim_seq (sr ?_)
 refine vm rfl rfl ?_
 refine vm rfl rfl ?_
 refine vq (q_len rfl rfl rfl Tryz.underlying22) rfl ?_
 refine vq (q_lss rfl rfl rfl) rfl (simL_nil (nrm_then ?_))
 refine sim_cond rfl (fun h9v => ?_) (fun h10v => ?_)
 refine sim_skip ?_
 refine nrm_then (sim_seq ?_)
 refine sim_block ?_
 refine sr ?_
 refine vm rfl rfl ?_
 refine vm rfl rfl ?_
 refine vm rfl rfl ?_
 refine simL_ask (fun hi11v => ?_)
 obtain ⟨b12v, b12vo, r15v, ha13v, hV16v, hlr17v, hcell18v⟩ := RdV.pos h1 (Up.refl _) rfl (i := s3v.2.1.toNat) (by omega) dz49
 obtain rfl := hV16v
 refine vq (q_idx rfl rfl rfl ha13v Tryz.underlying22 Tryz.sizeOf49 hi11v.1 hi11v.2) rfl ?_
 refine vq (q_loads rfl rfl Tryz.isAgg49 Tryz.sizeOf49 rfl (fun j v hj => hcell18v 4 rfl j v hj)) rfl ?_
 refine simL_bind (fun s19v hs20v => ?_)
 refine simL_eff (re_call (vs := [.pointer (some ⟨b0, 0, none⟩), .agg #[.int .i64 ((x1.getD s3v.2.1.toNat dz49).1), .int .i64 ((x1.getD s3v.2.1.toNat dz49).2.1), .int .i64 ((x1.getD s3v.2.1.toNat dz49).2.2.1), str ((x1.getD s3v.2.1.toNat dz49).2.2.2.1), str ((x1.getD s3v.2.1.toNat dz49).2.2.2.2.1), str ((x1.getD s3v.2.1.toNat dz49).2.2.2.2.2)]]) (cap := []) (A := [obj b0 58 [.map (some y4v.2.2.1), .map (some y4v.2.2.2)], mapO y4v.2.2.1 enc9 enc9 s3v.2.2.1, mapO y4v.2.2.2 enc3 enc69 s3v.2.2.2]) (rst := [RowV 45 2 (V45 tt) y4v.1 s3v.1 y4v.2.1, F]) rfl rfl rfl rfl rfl rfl Tryz.call20 (.sel 0 rfl (.sel 1 rfl (.sel 1 rfl (.sel 0 rfl (.sel 0 rfl (.nil _)))))) (kv_Store_Do.calls _ _ b0 y4v.2.2.1 s3v.2.2.1 y4v.2.2.2 s3v.2.2.2 ((x1.getD s3v.2.1.toNat dz49).1) ((x1.getD s3v.2.1.toNat dz49).2.1) ((x1.getD s3v.2.1.toNat dz49).2.2.1) ((x1.getD s3v.2.1.toNat dz49).2.2.2.1) ((x1.getD s3v.2.1.toNat dz49).2.2.2.2.1) ((x1.getD s3v.2.1.toNat dz49).2.2.2.2.2) ) hs20v) rfl rfl rfl ?_
 intro y21v
 refine vm rfl rfl ?_
 refine vq (q_ext rfl rfl rfl) rfl ?_
 refine vq (q_ext rfl rfl rfl) rfl ?_
 refine simL_eff (re_alloc rfl Tryz.zeroValue45 rfl) rfl rfl rfl ?_
 intro b22v
 refine simL_do (re_store 0 rfl rfl rfl Tryz.sizeOf45 rfl rfl (one_of (by rfl)) rfl rfl) rfl rfl ?_
 intro _
 refine va rfl rfl (ny ?_)
 refine vm rfl rfl ?_
 refine vq (q_loado 0 rfl rfl Tryz.isAgg45 Tryz.sizeOf45 rfl rfl) rfl ?_
 have hlb24v : ListV 2 (V45 tt) ([(s19v.1, s19v.2.1)] : List (Ty45)) [[.int .i64 s19v.1, str s19v.2.1]] := ⟨⟨rfl, one_of (by rfl), rfl⟩, trivial⟩
 refine simL_eff (re_litV (V := (V45 tt)) (xs := ([(s19v.1, s19v.2.1)] : List (Ty45))) [[.int .i64 s19v.1, str s19v.2.1]] rfl rfl Tryz.underlying28 elt45 rfl (by kernel_rfl) rfl hlb24v rfl rfl) rfl rfl rfl ?_
 intro b24v
 refine simL_openV 5 rfl (fun rs29v hl30v => ?_)
 refine simL_ask (fun hb28v => ?_)
 refine simL_eff (re_appendV 5 rfl rfl rfl Tryz.underlying28 elt45 rfl hl30v (RdsV.row hlb24v 0 rfl) hb28v) rfl rfl rfl ?_
 intro y27v
 refine va rfl rfl (simL_nil (nrm_block (nrm_then (sim_region ?_))))
 refine vm rfl rfl ?_
 refine vq (q_add rfl rfl rfl) rfl ?_
 refine va rfl rfl (simL_nil ?_)
 exact nrm_again (s := (s3v.1 ++ ([(s19v.1, s19v.2.1)] : List (Ty45)), IntKind.i64.wrap (s3v.2.1 + 1), s19v.2.2.2.1, s19v.2.2.2.2)) (y27v.1, y27v.2, y21v.1, y21v.2) ⟨rfl, rfl, rfl, rfl, trivial⟩ (.sel 2 rfl (.sel 4 rfl (.sel 2 rfl (.sel 2 rfl (.sel 2 rfl (.nil _))))))
 refine sim_exi ?_
 refine exi_then ?_
 refine exi_loop ?_
 refine exi_here ?_
 exact nrm_cut (s := (s3v.1, s3v.2.2.1, s3v.2.2.2)) (y4v.1, y4v.2.1, y4v.2.2.1, y4v.2.2.2) ⟨rfl, trivial⟩ (.sel 0 rfl (.sel 0 rfl (.sel 0 rfl (.sel 0 rfl (.sel 0 rfl (.nil _))))))
 intro s1v y2v
 refine sr ?_
 refine vm rfl rfl ?_
 refine va rfl rfl (simL_nil (nrm_then (sim_rtn ?_)))
 exact rtn_fn (y2v.1, y2v.2.1, y2v.2.2.1, y2v.2.2.2) rfl rfl rfl (.sel 1 rfl (.sel 0 rfl (.sel 0 rfl (.sel 0 rfl (.sel 0 rfl (.nil _))))))

def wire_NewWriter.f  : Option (List UInt8 × Int) := some (([] : List UInt8), 0)
theorem wire_NewWriter.calls (W : World) (F : HA)   :
    Fn Tryz.prog W 24 [] [] F (wire_NewWriter.f ) (fun (r : List UInt8 × Int) (y : Nat × Option Addr × Nat) => .pointer (some ⟨y.1, 0, none⟩)) (fun r y => [obj y.1 108 [.slice y.2.1 r.1.length y.2.2, .int .i64 r.2], Row 5 1 y.2.1 r.1.length y.2.2 (encB r.1)]) := by
 unfold wire_NewWriter.f
 refine fn_intro 3 Tryz.func24 rfl Tryz.ntmps24 rfl ?_
 refine sr ?_
 refine va rfl rfl (nx ?_)
 refine vq (q_build (v := .agg #[.slice none 0 0, .int .i64 0]) rfl rfl (fun _ => by kernel_rfl)) rfl ?_
 refine simL_eff (re_box rfl rfl rfl) rfl rfl rfl ?_
 intro b1v
 refine va rfl rfl (simL_nil (nrm_then (sim_rtn ?_)))
 exact rtn_fn (b1v, none, 0) rfl rfl rfl (.sel 0 rfl (.row_nil (.sel 0 rfl (.nil _))))

def wire_Size.l0 : Nat → Int → Int → Option (Int)
  | 0, _, _ => none
  | k + 1, z7v, z8v => if (128 : Int) ≤ z7v then (wire_Size.l0 k (Int.fdiv z7v (2 ^ (min (7 : Int).toNat IntKind.i64.bits))) (IntKind.i64.wrap (z8v + 1))) else (some z8v)
def wire_Size.f (k : Nat) (x0 : Int) : Option (Int) := if ((decide (x0 < (0 : Int))) || (decide ((4611686018427387904 : Int) < x0))) = true then (some 0) else ((wire_Size.l0 k x0 1).bind fun s3v => (some s3v))
theorem wire_Size.calls (W : World) (F : HA) (k : Nat) (x0 : Int)  :
    Fn Tryz.prog W 49 [.int .i64 x0] [] F (wire_Size.f k x0) (fun (r : Int) (y : Unit) => .int .i64 r) (fun r y => []) := by
 unfold wire_Size.f
 refine fn_intro 17 Tryz.func49 rfl Tryz.ntmps49 rfl ?_
 refine sr ?_
 refine va rfl rfl (simL_nil (nrm_then (sim_seq (sr ?_))))
 refine vm rfl rfl ?_
 refine vq (q_lss rfl rfl rfl) rfl ?_
 refine vm rfl rfl ?_
 refine simL_valc (b := decide (x0 < (0 : Int))) (fun hb12v => RQ.sub (E' := [(0, .int .i64 x0)]) ⟨rfl, trivial⟩ (q_move rfl rfl)) rfl rfl rfl rfl rfl ?_
 refine simL_valc (b := decide (x0 < (0 : Int))) (fun hb11v => RQ.sub (E' := [(7, .int .i64 x0)]) ⟨lk_cv rfl hb11v, trivial⟩ (q_gtr rfl rfl rfl)) rfl rfl rfl rfl rfl ?_
 refine vq (q_or rfl rfl rfl) rfl (simL_nil (nrm_then ?_))
 refine sim_condb rfl (fun h1v => ?_) (fun h2v => ?_)
 refine sr ?_
 refine va rfl rfl (simL_nil (nrm_then (sim_rtn ?_)))
 refine rtn_then ?_
 exact rtn_fn () rfl rfl rfl (.sel 0 rfl (.nil _))
 refine sim_skip ?_
 refine nrm_then (sr ?_)
 refine va rfl rfl (simL_nil (nrm_then ?_))
 refine sim_cut (S := Int) (Unit) (fun s y => [(3, .int .i64 s)]) (fun s y => [F]) ?_ ?_
 refine sim_block ?_
 refine sim_loop (S := Int × Int) (Unit) (fun k s => wire_Size.l0 k s.1 s.2) (fun s y => [(0, .int .i64 s.1), (3, .int .i64 s.2)]) (fun s y => [F]) (fun _ => by rw [wire_Size.l0]) ?_ k (x0, 1) () ⟨rfl, rfl, trivial⟩ (.sel 0 rfl (.nil _))
 intro k s5v y6v
 refine sim_eq (by rw [wire_Size.l0]) ?_
 refine sim_seq (sr ?_)
 refine vm rfl rfl ?_
 refine vq (q_geq rfl rfl rfl) rfl (simL_nil (nrm_then ?_))
 refine sim_cond rfl (fun h9v => ?_) (fun h10v => ?_)
 refine sim_skip ?_
 refine nrm_then ?_
 refine sim_block ?_
 refine sr ?_
 refine vm rfl rfl ?_
 refine vq (q_shr rfl rfl rfl (by decide)) rfl ?_
 refine va rfl rfl (ny ?_)
 refine vm rfl rfl ?_
 refine vq (q_add rfl rfl rfl) rfl ?_
 refine va rfl rfl (simL_nil (nrm_block ?_))
 exact nrm_again (s := (Int.fdiv s5v.1 (2 ^ (min (7 : Int).toNat IntKind.i64.bits)), IntKind.i64.wrap (s5v.2 + 1))) () ⟨rfl, rfl, trivial⟩ (.sel 0 rfl (.nil _))
 refine sim_exi ?_
 refine exi_then ?_
 refine exi_loop ?_
 refine exi_here ?_
 exact nrm_cut (s := s5v.2) () ⟨rfl, trivial⟩ (.sel 0 rfl (.nil _))
 intro s3v y4v
 refine sr ?_
 refine vm rfl rfl ?_
 refine va rfl rfl (simL_nil (nrm_then (sim_rtn ?_)))
 exact rtn_fn () rfl rfl rfl (.sel 0 rfl (.nil _))

def wire_sevens_1.l0 {S : Type} (step : S → Int → Option S) : Nat → Int → S → Option (Int × S)
  | 0, _, _ => none
  | k + 1, z5v, z6v => if (128 : Int) ≤ z5v then ((step z6v (IntKind.u8.wrap (bitsV .or .i64 (bitsV .and .i64 z5v 127) 128))).bind fun s9v => (wire_sevens_1.l0 step k (Int.fdiv z5v (2 ^ (min (7 : Int).toNat IntKind.i64.bits))) s9v)) else (some (z5v, z6v))
def wire_sevens_1.f {S : Type} (k : Nat) (step : S → Int → Option S) (s0 : S) (x1_0 : Int) : Option (S) := (wire_sevens_1.l0 step k x1_0 s0).bind fun s1v => ((step s1v.2 (IntKind.u8.wrap s1v.1)).bind fun s12v => (some s12v))
theorem wire_sevens_1.calls (W : World) (F : HA) (k : Nat) (S Y : Type) (l : Nat) (step : S → Int → Option S) (A : S → Y → HA) (s0 : S) (y0 : Y) (b1 : Nat) (x1_0 : Int) (hY : YieldOk Tryz.prog W l (fun (x : Int) => [.int .u8 x]) step A) :
    Fn Tryz.prog W 87 [.func (.yield l) #[] #[], .pointer (some ⟨b1, 0, none⟩)] [A s0 y0, obj b1 3 [.int .i64 x1_0]] F (wire_sevens_1.f k step s0 x1_0) (fun (r : S) (y : Y) => .tuple #[]) (fun r y => [A r y, obj b1 3 [.int .i64 x1_0]]) := by
 unfold wire_sevens_1.f
 refine fn_intro 20 Tryz.func87 rfl Tryz.ntmps87 rfl ?_
 refine sr ?_
 refine vq (q_load rfl rfl Tryz.isAgg3 (.obj 1 rfl rfl)) rfl ?_
 refine va rfl rfl (simL_nil (nrm_then ?_))
 refine sim_cut (S := Int × S) (Y) (fun s y => [(0, .func (.yield l) #[] #[]), (3, .int .i64 s.1)]) (fun s y => [obj b1 3 [.int .i64 x1_0], A s.2 y, F]) ?_ ?_
 refine sim_block ?_
 refine sim_loop (S := Int × S) (Y) (fun k s => wire_sevens_1.l0 step k s.1 s.2) (fun s y => [(0, .func (.yield l) #[] #[]), (3, .int .i64 s.1)]) (fun s y => [obj b1 3 [.int .i64 x1_0], A s.2 y, F]) (fun _ => by rw [wire_sevens_1.l0]) ?_ k (x1_0, s0) y0 ⟨rfl, rfl, trivial⟩ (.sel 1 rfl (.sel 0 rfl (.sel 0 rfl (.nil _))))
 intro k s3v y4v
 refine sim_eq (by rw [wire_sevens_1.l0]) ?_
 refine sim_seq (sr ?_)
 refine vm rfl rfl ?_
 refine vq (q_geq rfl rfl rfl) rfl (simL_nil (nrm_then ?_))
 refine sim_cond rfl (fun h7v => ?_) (fun h8v => ?_)
 refine sim_skip ?_
 refine nrm_then ?_
 refine sim_block ?_
 refine sim_seq (sr ?_)
 refine vm rfl rfl ?_
 refine vm rfl rfl ?_
 refine vq (q_and_ rfl rfl rfl) rfl ?_
 refine vq (q_or_ rfl rfl rfl) rfl ?_
 refine vq (q_conv rfl rfl Tryz.underlying3 Tryz.underlying5) rfl ?_
 refine simL_bind (fun s9v hs11v => ?_)
 refine simL_eff (re_yield (IntKind.u8.wrap (bitsV .or .i64 (bitsV .and .i64 s3v.1 127) 128)) 1 rfl rfl rfl rfl rfl rfl hY rfl hs11v) rfl rfl rfl ?_
 intro y10v
 refine vq (q_not rfl rfl) rfl (simL_nil (nrm_then ?_))
 refine sim_false rfl ?_
 refine sim_skip ?_
 refine nrm_then (sim_region ?_)
 refine vm rfl rfl ?_
 refine vq (q_shr rfl rfl rfl (by decide)) rfl ?_
 refine va rfl rfl (simL_nil (nrm_block ?_))
 exact nrm_again (s := (Int.fdiv s3v.1 (2 ^ (min (7 : Int).toNat IntKind.i64.bits)), s9v)) y10v ⟨rfl, rfl, trivial⟩ (.sel 0 rfl (.sel 0 rfl (.sel 0 rfl (.nil _))))
 refine sim_exi ?_
 refine exi_then ?_
 refine exi_loop ?_
 refine exi_here ?_
 exact nrm_cut (s := (s3v.1, s3v.2)) y4v ⟨rfl, rfl, trivial⟩ (.sel 0 rfl (.sel 0 rfl (.sel 0 rfl (.nil _))))
 intro s1v y2v
 refine sim_region ?_
 refine vm rfl rfl ?_
 refine vm rfl rfl ?_
 refine vq (q_conv rfl rfl Tryz.underlying3 Tryz.underlying5) rfl ?_
 refine simL_bind (fun s12v hs14v => ?_)
 refine simL_eff (re_yield (IntKind.u8.wrap s1v.1) 1 rfl rfl rfl rfl rfl rfl hY rfl hs14v) rfl rfl rfl ?_
 intro y13v
 refine simL_nil ?_
 exact nrm_fn y13v rfl rfl rfl (.sel 1 rfl (.sel 0 rfl (.sel 0 rfl (.nil _))))

def wire_sevens.f (x0 : Int) : Option (Int) := some x0
theorem wire_sevens.calls (W : World) (F : HA) (x0 : Int)  :
    Fn Tryz.prog W 50 [.int .i64 x0] [] F (wire_sevens.f x0) (fun (r : Int) (y : Nat) => .func (.func 87) #[] #[.pointer (some ⟨y, 0, none⟩)]) (fun r y => [obj y 3 [.int .i64 r]]) := by
 unfold wire_sevens.f
 refine fn_intro 4 Tryz.func50 rfl Tryz.ntmps50 rfl ?_
 refine sr ?_
 refine simL_eff (re_box rfl rfl rfl) rfl rfl rfl ?_
 intro b1v
 refine va rfl rfl (nx ?_)
 refine vq (q_mkfn rfl rfl rfl) rfl ?_
 refine va rfl rfl (simL_nil (nrm_then (sim_rtn ?_)))
 exact rtn_fn b1v rfl rfl rfl (.sel 0 rfl (.sel 0 rfl (.nil _)))

def wire_Writer_Int.f (k : Nat) (x0_0 : List UInt8) (x0_1 : Int) (x1 : Int) : Option (List UInt8 × Int) := if x0_1 = (0 : Int) then ((wire_Size.f k x1).bind fun s4v => (if s4v = (0 : Int) then (some (x0_0, 1)) else ((wire_sevens.f x1).bind fun s9v => ((wire_sevens_1.f k (fun (s13v : List UInt8) (x12v : Int) => if 0 ≤ x12v ∧ x12v < 256 then (if (s13v.length + ([(byte x12v)] : List UInt8).length) * 1 ≤ 140737488355328 then (some (s13v ++ ([(byte x12v)] : List UInt8))) else none) else none) x0_0 s9v).bind fun s20v => (some (s20v, x0_1)))))) else (some (x0_0, x0_1))
theorem wire_Writer_Int.calls (W : World) (F : HA) (k : Nat) (b0 : Nat) (a0_0 : Option Addr) (c0_0 : Nat) (x0_0 : List UInt8) (x0_1 : Int) (x1 : Int)  :
    Fn Tryz.prog W 25 [.pointer (some ⟨b0, 0, none⟩), .int .i64 x1] [obj b0 108 [.slice a0_0 x0_0.length c0_0, .int .i64 x0_1], Row 5 1 a0_0 x0_0.length c0_0 (encB x0_0)] F (wire_Writer_Int.f k x0_0 x0_1 x1) (fun (r : List UInt8 × Int) (y : Option Addr × Nat) => .tuple #[]) (fun r y => [obj b0 108 [.slice y.1 r.1.length y.2, .int .i64 r.2], Row 5 1 y.1 r.1.length y.2 (encB r.1)]) := by
 unfold wire_Writer_Int.f
 refine fn_introM 29 Tryz.func25 rfl Tryz.ntmps25 rfl ?_
 refine sr ?_
 refine simL_eff (re_box rfl rfl rfl) rfl rfl rfl ?_
 intro b1v
 refine simL_nil (nrm_then (sim_seq (sr ?_)))
 refine vq (q_load rfl rfl Tryz.isAgg59 (.obj 0 rfl rfl)) rfl ?_
 refine vn rfl rfl ?_
 refine vq (q_fa rfl rfl Tryz.underlying108 rfl rfl Tryz.sizeOf31 rfl) rfl ?_
 refine vq (q_load rfl rfl Tryz.isAgg31 (.obj 1 rfl rfl)) rfl ?_
 refine vq (q_neq rfl rfl rfl) rfl (simL_nil (nrm_then ?_))
 refine sim_condn rfl (fun h2v => ?_) (fun h3v => ?_)
 refine sim_skip ?_
 refine nrm_then (sim_seq (sr ?_))
 refine vm rfl rfl ?_
 refine simL_bind (fun s4v hs5v => ?_)
 refine simL_eff (re_call (vs := [.int .i64 x1]) (cap := []) (A := []) (rst := [obj b1v 59 [.pointer (some ⟨b0, 0, none⟩)], obj b0 108 [.slice a0_0 x0_0.length c0_0, .int .i64 x0_1], Row 5 1 a0_0 x0_0.length c0_0 (encB x0_0), F]) rfl rfl rfl rfl rfl rfl Tryz.call49 (.sel 0 rfl (.sel 0 rfl (.sel 0 rfl (.sel 0 rfl (.nil _))))) (wire_Size.calls _ _ k x1 ) hs5v) rfl rfl rfl ?_
 intro y6v
 refine vq (q_eql rfl rfl rfl) rfl (simL_nil (nrm_then ?_))
 refine sim_cond rfl (fun h7v => ?_) (fun h8v => ?_)
 refine sr ?_
 refine vq (q_load rfl rfl Tryz.isAgg59 (.obj 0 rfl rfl)) rfl ?_
 refine vn rfl rfl ?_
 refine vq (q_fa rfl rfl Tryz.underlying108 rfl rfl Tryz.sizeOf31 rfl) rfl ?_
 refine simL_do (re_store 1 rfl rfl rfl Tryz.sizeOf31 rfl rfl (one_of (by rfl)) rfl rfl) rfl rfl ?_
 intro _
 refine simL_nil (nrm_then (sim_rtn ?_))
 refine rtn_then ?_
 exact rtn_fnM [] (a0_0, c0_0) rfl rfl rfl (.sel 1 rfl (.sel 1 rfl (.sel 1 rfl (.nil _))))
 refine sim_skip ?_
 refine nrm_then (sr ?_)
 refine vm rfl rfl ?_
 refine simL_bind (fun s9v hs10v => ?_)
 refine simL_eff (re_call (vs := [.int .i64 x1]) (cap := []) (A := []) (rst := [obj b1v 59 [.pointer (some ⟨b0, 0, none⟩)], obj b0 108 [.slice a0_0 x0_0.length c0_0, .int .i64 x0_1], Row 5 1 a0_0 x0_0.length c0_0 (encB x0_0), F]) rfl rfl rfl rfl rfl rfl Tryz.call50 (.sel 0 rfl (.sel 0 rfl (.sel 0 rfl (.sel 0 rfl (.nil _))))) (wire_sevens.calls _ _ x1 ) hs10v) rfl rfl rfl ?_
 intro y11v
 refine simL_nil (nrm_then ?_)
 refine sim_block ?_
 refine sim_range (S := List UInt8) (Y := Option Addr × Nat) (R' := List UInt8) (Y' := (Option Addr × Nat)) (ps := [18]) (Cap := [obj y11v 3 [.int .i64 s9v]]) (rst := []) (CapB := fun r y => [obj y11v 3 [.int .i64 s9v]]) (enc := fun (x : Int) => [.int .u8 x]) (oN := wire_sevens_1.f k (fun (s13v : List UInt8) (x12v : Int) => if 0 ≤ x12v ∧ x12v < 256 then (if (s13v.length + ([(byte x12v)] : List UInt8).length) * 1 ≤ 140737488355328 then (some (s13v ++ ([(byte x12v)] : List UInt8))) else none) else none) x0_0 s9v) (fun s y => [obj b1v 59 [.pointer (some ⟨b0, 0, none⟩)], obj b0 108 [.slice y.1 s.length y.2, .int .i64 x0_1], Row 5 1 y.1 s.length y.2 (encB s), F]) x0_0 (a0_0, c0_0) (fun s13v x12v y14v => [(2, .pointer (some ⟨b1v, 0, none⟩)), (4, .int .u8 x12v)]) (fun r => r) (fun r y => y) rfl rfl Tryz.call87 (fun l A hY X => wire_sevens_1.calls _ _ k _ _ l _ A _ _ y11v s9v hY) rfl (fun _ => rfl) (.sel 1 rfl (.sel 1 rfl (.sel 1 rfl (.sel 1 rfl (.sel 0 rfl (.nil _)))))) ?_ ?_ ?_
 intro l s13v x12v y14v Fr
 refine sim_ent (H' := [obj b1v 59 [.pointer (some ⟨b0, 0, none⟩)], obj b0 108 [.slice y14v.1 s13v.length y14v.2, .int .i64 x0_1], Row 5 1 y14v.1 s13v.length y14v.2 (encB s13v), F, Fr]) (Ent.refl _) ?_
 refine sim_region ?_
 refine va rfl rfl (simL_nil ?_)
 exact nrm_cut () ⟨rfl, rfl, trivial⟩ (Ent.refl _)
 intro l s13v x12v y14v Fr
 refine sim_ent (H' := [obj b1v 59 [.pointer (some ⟨b0, 0, none⟩)], obj b0 108 [.slice y14v.1 s13v.length y14v.2, .int .i64 x0_1], Row 5 1 y14v.1 s13v.length y14v.2 (encB s13v), F, Fr]) (Ent.refl _) ?_
 refine sim_block ?_
 refine sim_ask (fun hb16v => ?_)
 refine sim_ask (fun hb18v => ?_)
 refine sim_draw (Γ := Nat × (Option Addr × Nat)) (0, (none, 0)) [[], [], [1], [1, 2], [1, 2, 3], [], [5], [1, 2, 3, 4, 5, 6], rL 8, rL 9, rL 10] [6, 7, 10] [0, 1, 2, 3, 4, 5, 8, 9] (fun i => [[0, 1, 2], [0, 1], [0, 1], [0, 1], [0, 1], [0], [], [], [2], [2], []].getD i []) (fun i => [[], [], [], [], [], [], rL 6, rL 7, [], [], rL 10].getD i []) (fun γ i => [.pointer (some ⟨b0, 0, none⟩), .pointer (some ⟨b0, 0, none⟩), .pointer (some ⟨b0, 0, none⟩), .pointer (some ⟨b0, 0, none⟩), .slice y14v.1 s13v.length y14v.2, .int .u8 x12v, .slice (some ⟨γ.1, 0, none⟩) (([(byte x12v)] : List UInt8).length) 1, .slice γ.2.1 ((s13v ++ ([(byte x12v)] : List UInt8)).length) γ.2.2, .pointer (some ⟨b0, 0, none⟩), .pointer (some ⟨b0, 0, none⟩), undef].getD i undef) (fun j γ => [[obj b1v 59 [.pointer (some ⟨b0, 0, none⟩)], obj b0 108 [.slice y14v.1 s13v.length y14v.2, .int .i64 x0_1], Row 5 1 y14v.1 s13v.length y14v.2 (encB s13v), F, Fr], [Row 5 1 (some ⟨γ.1, 0, none⟩) ([(byte x12v)] : List UInt8).length 1 (encB ([(byte x12v)] : List UInt8)), obj b1v 59 [.pointer (some ⟨b0, 0, none⟩)], obj b0 108 [.slice y14v.1 s13v.length y14v.2, .int .i64 x0_1], Row 5 1 y14v.1 s13v.length y14v.2 (encB s13v), F, Fr], [Row 5 1 (some ⟨γ.1, 0, none⟩) ([(byte x12v)] : List UInt8).length 1 (encB ([(byte x12v)] : List UInt8)), obj b1v 59 [.pointer (some ⟨b0, 0, none⟩)], obj b0 108 [.slice y14v.1 s13v.length y14v.2, .int .i64 x0_1], Row 5 1 γ.2.1 (s13v ++ ([(byte x12v)] : List UInt8)).length γ.2.2 (encB (s13v ++ ([(byte x12v)] : List UInt8))), F, Fr], [Row 5 1 (some ⟨γ.1, 0, none⟩) ([(byte x12v)] : List UInt8).length 1 (encB ([(byte x12v)] : List UInt8)), obj b1v 59 [.pointer (some ⟨b0, 0, none⟩)], obj b0 108 [.slice γ.2.1 ((s13v ++ ([(byte x12v)] : List UInt8)).length) γ.2.2, .int .i64 x0_1], Row 5 1 γ.2.1 (s13v ++ ([(byte x12v)] : List UInt8)).length γ.2.2 (encB (s13v ++ ([(byte x12v)] : List UInt8))), F, Fr]].getD j []) (fun γ => []) mixed (by decide) (by decide) (by decide) (by decide) (by decide) (by decide) (by decide) 29 rfl (by decide) (by decide) (by decide) (Ent.refl _) ?_ ?_ (fun _ => trivial) ?_
 exact (ac (fun γ => (ac (qp rfl rfl (.o (s := 2) rfl (by decide) .nil) (q_load rfl rfl Tryz.isAgg59 (.obj 0 rfl rfl)) rfl) (ac (qp rfl rfl (.o (s := 2) rfl (by decide) .nil) (q_load rfl rfl Tryz.isAgg59 (.obj 1 rfl rfl)) rfl) (ac (qp rfl rfl (.o (s := 2) rfl (by decide) .nil) (q_load rfl rfl Tryz.isAgg59 (.obj 1 rfl rfl)) rfl) zA)))) (ac (fun γ => (ac (qp rfl rfl (.o (s := 2) rfl (by decide) .nil) (q_load rfl rfl Tryz.isAgg59 (.obj 0 rfl rfl)) rfl) (ac (qp rfl rfl (.o (s := 2) rfl (by decide) .nil) (q_load rfl rfl Tryz.isAgg59 (.obj 1 rfl rfl)) rfl) zA))) (ac (fun γ => (ac (qp rfl rfl (.v 1 rfl rfl .nil) (q_nil rfl rfl) rfl) (ac (qp rfl rfl (.v 1 rfl rfl .nil) (q_nil rfl rfl) rfl) zA))) (ac (fun γ => (ac (qp rfl rfl (.v 2 rfl rfl .nil) (q_fa rfl rfl Tryz.underlying108 rfl rfl Tryz.sizeOf23 rfl) rfl) (ac (qp rfl rfl (.v 2 rfl rfl .nil) (q_fa rfl rfl Tryz.underlying108 rfl rfl Tryz.sizeOf23 rfl) rfl) zA))) (ac (fun γ => (ac (qp rfl rfl (.v 3 rfl rfl .nil) (q_load rfl rfl Tryz.isAgg23 (.obj 1 rfl rfl)) rfl) (ac (qp rfl rfl (.v 3 rfl rfl .nil) (q_load rfl rfl Tryz.isAgg23 (.obj 2 rfl rfl)) rfl) zA))) (aq rfl (fun γ => qm rfl (.o (s := 4) rfl (by decide) .nil) rfl) (aq rfl (fun γ => qp rfl rfl (.v 0 rfl rfl .nil) (q_nil rfl rfl) rfl) (aq rfl (fun γ => qp rfl rfl (.v 8 rfl rfl .nil) (q_fa rfl rfl Tryz.underlying108 rfl rfl Tryz.sizeOf23 rfl) rfl) zA))))))))
 exact (ac (fun γ => eo (Z := Nat) (fun z => (z, γ.2)) rfl rfl (.v 5 rfl rfl .nil) (re_litb (cs := [.int .u8 x12v]) ([(byte x12v)] : List UInt8) rfl rfl Tryz.underlying23 elt5 rfl (by kernel_rfl) rfl rfl (byte_lit1 hb16v)) (fun _ => ⟨rfl, rfl, rfl, rfl, rfl, rfl, trivial⟩) (fun _ => .inr rfl) (fun z => Ent.refl _)) (ac (fun γ => eo (Z := Option Addr × Nat) (fun z => (γ.1, z)) rfl rfl (.v 4 rfl rfl (.v 6 rfl rfl .nil)) (re_appendb 3 rfl rfl rfl Tryz.underlying23 elt5 rfl (Rds.row 0 rfl) hb18v) (fun _ => ⟨rfl, rfl, rfl, rfl, rfl, rfl, rfl, trivial⟩) (fun _ => .inr rfl) (fun z => Ent.refl _)) (ac (fun γ => eo (Z := Unit) (fun z => (γ.1, γ.2)) rfl rfl (.v 7 rfl rfl (.v 9 rfl rfl .nil)) (re_store 2 rfl rfl rfl Tryz.sizeOf23 rfl rfl (one_of (by rfl)) rfl rfl) (fun _ => ⟨rfl, rfl, rfl, rfl, rfl, rfl, rfl, rfl, rfl, rfl, trivial⟩) (fun _ => .inl rfl) (fun z => Ent.refl _)) zA)))
 intro g19v
 refine nrm_block ?_
 exact nrm_cut (s := s13v ++ ([(byte x12v)] : List UInt8)) (g19v.2.1, g19v.2.2) trivial (.sel 1 rfl (.sel 1 rfl (.sel 1 rfl (.sel 1 rfl (.sel 1 rfl (.nil _))))))
 intro D22v s20v y21v
 refine nrm_ent (H' := [shutD D22v, obj b1v 59 [.pointer (some ⟨b0, 0, none⟩)], obj b0 108 [.slice y21v.1 s20v.length y21v.2, .int .i64 x0_1], Row 5 1 y21v.1 s20v.length y21v.2 (encB s20v), F, obj y11v 3 [.int .i64 s9v]]) (Ent.refl _) ?_
 refine nrm_block ?_
 exact nrm_fnM [D22v] (y21v.1, y21v.2) rfl rfl rfl (.sel 0 rfl (.sel 1 rfl (.sel 1 rfl (.sel 1 rfl (.nil _)))))
 refine sim_rtn ?_
 refine rtn_then ?_
 exact rtn_fnM [] (a0_0, c0_0) rfl rfl rfl (.sel 1 rfl (.sel 1 rfl (.sel 1 rfl (.nil _))))

def maps_Clone_map_string_string_string_string.f (x0 : List ((List UInt8) × (List UInt8))) : Option ((List ((List UInt8) × (List UInt8)))) := some x0
theorem maps_Clone_map_string_string_string_string.calls (W : World) (F : HA) (m0 : Nat) (x0 : List ((List UInt8) × (List UInt8))) :
    Fn Tryz.prog W 40 [.map (some m0)] [mapO m0 enc9 enc9 x0] F (maps_Clone_map_string_string_string_string.f x0) (fun (r : (List ((List UInt8) × (List UInt8)))) (y : Nat) => .map (some y)) (fun r y => [mapO y enc9 enc9 r, mapO m0 enc9 enc9 x0]) := by
  unfold maps_Clone_map_string_string_string_string.f
  exact fn_clone (fun es clock w h => AnyW.maps_Clone shClone40 _ es clock w h)

def maps_Keys_map_string_string_string_string.f  : Option (Unit) := some ()
theorem maps_Keys_map_string_string_string_string.calls (W : World) (F : HA) (m0 : Nat)  :
    Fn Tryz.prog W 53 [.map (some m0)] [] F (maps_Keys_map_string_string_string_string.f ) (fun (r : Unit) (y : Nat) => .func (.func 90) #[] #[.pointer (some ⟨y, 0, none⟩)]) (fun r y => [obj y 55 [.map (some m0)]]) := by
 unfold maps_Keys_map_string_string_string_string.f
 refine fn_intro 4 Tryz.func53 rfl Tryz.ntmps53 rfl ?_
 refine sr ?_
 refine simL_eff (re_box rfl rfl rfl) rfl rfl rfl ?_
 intro b1v
 refine va rfl rfl (nx ?_)
 refine vq (q_mkfn rfl rfl rfl) rfl ?_
 refine va rfl rfl (simL_nil (nrm_then (sim_rtn ?_)))
 exact rtn_fn b1v rfl rfl rfl (.sel 0 rfl (.sel 0 rfl (.nil _)))

def kv_Store_Each.f  : Option (Unit) := some ()
theorem kv_Store_Each.calls (W : World) (F : HA) (b0 : Nat)  :
    Fn Tryz.prog W 26 [.pointer (some ⟨b0, 0, none⟩)] [] F (kv_Store_Each.f ) (fun (r : Unit) (y : Nat) => .func (.func 51) #[] #[.pointer (some ⟨y, 0, none⟩)]) (fun r y => [obj y 26 [.pointer (some ⟨b0, 0, none⟩)]]) := by
 unfold kv_Store_Each.f
 refine fn_intro 4 Tryz.func26 rfl Tryz.ntmps26 rfl ?_
 refine sr ?_
 refine simL_eff (re_box rfl rfl rfl) rfl rfl rfl ?_
 intro b1v
 refine va rfl rfl (nx ?_)
 refine vq (q_mkfn rfl rfl rfl) rfl ?_
 refine va rfl rfl (simL_nil (nrm_then (sim_rtn ?_)))
 exact rtn_fn b1v rfl rfl rfl (.sel 0 rfl (.sel 0 rfl (.nil _)))

def wire_Writer_Bytes.f (k : Nat) (x0_0 : List UInt8) (x0_1 : Int) (x1 : List UInt8) (x2 : Int) : Option (List UInt8 × Int) := (if ((decide (x0_1 = (0 : Int))) && (decide (max x2 (0 : Int) < (x1.length : Int)))) = true then (some 3) else (some x0_1)).bind fun s1v => (if s1v = (0 : Int) then ((wire_Writer_Int.f k x0_0 s1v (x1.length : Int)).bind fun s12v => (if (s12v.1.length + x1.length) * 1 ≤ 140737488355328 then (some (s12v.1 ++ x1, s12v.2)) else none)) else (some (x0_0, s1v)))
theorem wire_Writer_Bytes.calls (W : World) (F : HA) (k : Nat) (b0 : Nat) (a0_0 : Option Addr) (c0_0 : Nat) (x0_0 : List UInt8) (x0_1 : Int) (a1 : Option Addr) (c1 : Nat) (x1 : List UInt8) (x2 : Int) (h1 : Rd F a1 (encB x1)) (hc1 : x1.length ≤ c1) (hm1 : c1 ≤ maxLen) :
    Fn Tryz.prog W 54 [.pointer (some ⟨b0, 0, none⟩), .slice a1 x1.length c1, .int .i64 x2] [obj b0 108 [.slice a0_0 x0_0.length c0_0, .int .i64 x0_1], Row 5 1 a0_0 x0_0.length c0_0 (encB x0_0)] F (wire_Writer_Bytes.f k x0_0 x0_1 x1 x2) (fun (r : List UInt8 × Int) (y : Option Addr × Nat) => .tuple #[]) (fun r y => [obj b0 108 [.slice y.1 r.1.length y.2, .int .i64 r.2], Row 5 1 y.1 r.1.length y.2 (encB r.1)]) := by
 unfold wire_Writer_Bytes.f
 refine fn_intro 39 Tryz.func54 rfl Tryz.ntmps54 rfl ?_
 refine sim_cut (S := Int) (Unit) (fun s y => [(0, .pointer (some ⟨b0, 0, none⟩)), (1, .slice a1 x1.length c1)]) (fun s y => [obj b0 108 [.slice a0_0 x0_0.length c0_0, .int .i64 s], Row 5 1 a0_0 x0_0.length c0_0 (encB x0_0), F]) ?_ ?_
 refine sr ?_
 refine vm rfl rfl ?_
 refine vn rfl rfl ?_
 refine vq (q_fa rfl rfl Tryz.underlying108 rfl rfl Tryz.sizeOf31 rfl) rfl ?_
 refine vq (q_load rfl rfl Tryz.isAgg31 (.obj 0 rfl rfl)) rfl ?_
 refine vq (q_eql rfl rfl rfl) rfl ?_
 refine vm rfl rfl ?_
 refine simL_valc (b := decide (x0_1 = (0 : Int))) (fun hb9v => RQ.sub (E' := [(1, .slice a1 x1.length c1)]) ⟨rfl, trivial⟩ (q_move rfl rfl)) rfl rfl rfl rfl rfl ?_
 refine simL_valc (b := decide (x0_1 = (0 : Int))) (fun hb8v => RQ.sub (E' := [(12, .slice a1 x1.length c1)]) ⟨lk_cv rfl hb8v, trivial⟩ (q_len rfl rfl rfl Tryz.underlying23)) rfl rfl rfl rfl rfl ?_
 refine simL_valc (b := decide (x0_1 = (0 : Int))) (fun hb7v => RQ.sub (E' := [(2, .int .i64 x2)]) ⟨rfl, trivial⟩ (q_move rfl rfl)) rfl rfl rfl rfl rfl ?_
 refine simL_valc (b := decide (x0_1 = (0 : Int))) (fun hb6v => RQ.sub (E' := [(14, .int .i64 x2)]) ⟨lk_cv rfl hb6v, trivial⟩ (q_max rfl rfl rfl)) rfl rfl rfl rfl rfl ?_
 refine simL_valc (b := decide (x0_1 = (0 : Int))) (fun hb5v => RQ.sub (E' := [(13, .int .i64 (x1.length : Int)), (15, .int .i64 (max x2 (0 : Int)))]) ⟨lk_cv rfl hb5v, lk_cv rfl hb5v, trivial⟩ (q_gtr rfl rfl rfl)) rfl rfl rfl rfl rfl ?_
 refine vq (q_and rfl rfl rfl) rfl (simL_nil (nrm_then ?_))
 refine sim_condb rfl (fun h3v => ?_) (fun h4v => ?_)
 refine sim_region ?_
 refine vm rfl rfl ?_
 refine vn rfl rfl ?_
 refine vq (q_fa rfl rfl Tryz.underlying108 rfl rfl Tryz.sizeOf31 rfl) rfl ?_
 refine simL_do (re_store 0 rfl rfl rfl Tryz.sizeOf31 rfl rfl (one_of (by rfl)) rfl rfl) rfl rfl ?_
 intro _
 refine simL_nil ?_
 exact nrm_cut (s := 3) () ⟨rfl, rfl, trivial⟩ (.sel 0 rfl (.sel 0 rfl (.sel 0 rfl (.nil _))))
 refine sim_skip ?_
 exact nrm_cut (s := x0_1) () ⟨rfl, rfl, trivial⟩ (.sel 0 rfl (.sel 0 rfl (.sel 0 rfl (.nil _))))
 intro s1v y2v
 refine sim_seq (sr ?_)
 refine vm rfl rfl ?_
 refine vn rfl rfl ?_
 refine vq (q_fa rfl rfl Tryz.underlying108 rfl rfl Tryz.sizeOf31 rfl) rfl ?_
 refine vq (q_load rfl rfl Tryz.isAgg31 (.obj 0 rfl rfl)) rfl ?_
 refine vq (q_neq rfl rfl rfl) rfl (simL_nil (nrm_then ?_))
 refine sim_condn rfl (fun h10v => ?_) (fun h11v => ?_)
 refine sim_skip ?_
 refine nrm_then (sr ?_)
 refine vm rfl rfl ?_
 refine vm rfl rfl ?_
 refine vq (q_len rfl rfl rfl Tryz.underlying23) rfl ?_
 refine simL_bind (fun s12v hs13v => ?_)
 refine simL_eff (re_call (vs := [.pointer (some ⟨b0, 0, none⟩), .int .i64 (x1.length : Int)]) (cap := []) (A := [obj b0 108 [.slice a0_0 x0_0.length c0_0, .int .i64 s1v], Row 5 1 a0_0 x0_0.length c0_0 (encB x0_0)]) (rst := [F]) rfl rfl rfl rfl rfl rfl Tryz.call25 (.sel 0 rfl (.sel 0 rfl (.sel 0 rfl (.nil _)))) (wire_Writer_Int.calls _ _ k b0 a0_0 c0_0 x0_0 s1v (x1.length : Int) ) hs13v) rfl rfl rfl ?_
 intro y14v
 refine ny ?_
 refine vm rfl rfl ?_
 refine vm rfl rfl ?_
 refine vn rfl rfl ?_
 refine vq (q_fa rfl rfl Tryz.underlying108 rfl rfl Tryz.sizeOf23 rfl) rfl ?_
 refine vq (q_load rfl rfl Tryz.isAgg23 (.obj 0 rfl rfl)) rfl ?_
 refine vm rfl rfl ?_
 refine simL_ask (fun hb16v => ?_)
 refine simL_eff (re_appendb 1 rfl rfl rfl Tryz.underlying23 elt5 rfl (h1.rds 1 rfl) hb16v) rfl rfl rfl ?_
 intro y15v
 refine vn rfl rfl ?_
 refine vq (q_fa rfl rfl Tryz.underlying108 rfl rfl Tryz.sizeOf23 rfl) rfl ?_
 refine simL_do (re_store 0 rfl rfl rfl Tryz.sizeOf23 rfl rfl (one_of (by rfl)) rfl rfl) rfl rfl ?_
 intro _
 refine simL_nil ?_
 exact nrm_fn (y15v.1, y15v.2) rfl rfl rfl (.sel 0 rfl (.sel 0 rfl (.sel 0 rfl (.nil _))))
 refine sim_rtn ?_
 refine rtn_then ?_
 exact rtn_fn (a0_0, c0_0) rfl rfl rfl (.sel 0 rfl (.sel 0 rfl (.sel 0 rfl (.nil _))))

def wire_Writer_Text.f (k : Nat) (x0_0 : List UInt8) (x0_1 : Int) (x1 : List UInt8) (x2 : Int) : Option (List UInt8 × Int) := if x1.length ≤ 140737488355328 then ((wire_Writer_Bytes.f k x0_0 x0_1 x1 x2).bind fun s7v => (some (s7v.1, s7v.2))) else none
theorem wire_Writer_Text.calls (W : World) (F : HA) (k : Nat) (b0 : Nat) (a0_0 : Option Addr) (c0_0 : Nat) (x0_0 : List UInt8) (x0_1 : Int) (x1 : List UInt8) (x2 : Int)  :
    Fn Tryz.prog W 27 [.pointer (some ⟨b0, 0, none⟩), str x1, .int .i64 x2] [obj b0 108 [.slice a0_0 x0_0.length c0_0, .int .i64 x0_1], Row 5 1 a0_0 x0_0.length c0_0 (encB x0_0)] F (wire_Writer_Text.f k x0_0 x0_1 x1 x2) (fun (r : List UInt8 × Int) (y : Option Addr × Nat) => .tuple #[]) (fun r y => [obj b0 108 [.slice y.1 r.1.length y.2, .int .i64 r.2], Row 5 1 y.1 r.1.length y.2 (encB r.1)]) := by
 unfold wire_Writer_Text.f
 refine fn_intro 11 Tryz.func27 rfl Tryz.ntmps27 rfl ?_
 refine sim_region ?_
 refine vm rfl rfl ?_
 refine vm rfl rfl ?_
 refine simL_ask (fun hb2v => ?_)
 refine simL_eff (re_tobytes rfl rfl Tryz.underlying9 Tryz.underlying23 Tryz.underlying5 hb2v) rfl rfl rfl ?_
 intro y1v
 refine vm rfl rfl ?_
 refine simL_bind (fun s7v hs8v => ?_)
 refine simL_lend 0 rfl (fun hq3v hq4v hq5v hq6v => ?_)
 refine simL_eff (re_call (vs := [.pointer (some ⟨b0, 0, none⟩), .slice (some ⟨y1v.1, 0, none⟩) x1.length y1v.2, .int .i64 x2]) (cap := []) (A := [obj b0 108 [.slice a0_0 x0_0.length c0_0, .int .i64 x0_1], Row 5 1 a0_0 x0_0.length c0_0 (encB x0_0)]) (rst := [Row 5 1 (some ⟨y1v.1, 0, none⟩) x1.length y1v.2 (encB x1), F]) rfl rfl rfl rfl rfl rfl Tryz.call54 (.sel 1 rfl (.sel 1 rfl (.sel 0 rfl (.sel 0 rfl (.nil _))))) (wire_Writer_Bytes.calls _ _ k b0 a0_0 c0_0 x0_0 x0_1 (some ⟨y1v.1, 0, none⟩) y1v.2 x1 x2 (hq3v.lend 0 rfl) hq4v hq5v) hs8v) rfl rfl rfl ?_
 intro y9v
 refine simL_nil ?_
 exact nrm_fn (y9v.1, y9v.2) rfl rfl rfl (.sel 0 rfl (.sel 0 rfl (.sel 1 rfl (.nil _))))

def maps_Keys_Session.f  : Option (Unit) := some ()
theorem maps_Keys_Session.calls (W : World) (F : HA) (m0 : Nat)  :
    Fn Tryz.prog W 56 [.map (some m0)] [] F (maps_Keys_Session.f ) (fun (r : Unit) (y : Nat) => .func (.func 93) #[] #[.pointer (some ⟨y, 0, none⟩)]) (fun r y => [obj y 56 [.map (some m0)]]) := by
 unfold maps_Keys_Session.f
 refine fn_intro 4 Tryz.func56 rfl Tryz.ntmps56 rfl ?_
 refine sr ?_
 refine simL_eff (re_box rfl rfl rfl) rfl rfl rfl ?_
 intro b1v
 refine va rfl rfl (nx ?_)
 refine vq (q_mkfn rfl rfl rfl) rfl ?_
 refine va rfl rfl (simL_nil (nrm_then (sim_rtn ?_)))
 exact rtn_fn b1v rfl rfl rfl (.sel 0 rfl (.sel 0 rfl (.nil _)))

def slices_Sorted_int_maps_Keys_Session_1.f (xp0_0 : List ((Int) × (Ty69))) : Option (List Int) := if (xp0_0.map (·.1)).Nodup ∧ xp0_0.length * 16 ≤ 140737488355328 ∧ ∀ p ∈ xp0_0, (Lit.int .i64 p.1).wf = true then some (keysI xp0_0) else none
theorem slices_Sorted_int_maps_Keys_Session_1.calls (W : World) (F : HA) (bp0 : Nat) (mp0_0 : Nat) (xp0_0 : List ((Int) × (Ty69))) :
    Fn Tryz.prog W 55 [.func (.func 93) #[] #[.pointer (some ⟨bp0, 0, none⟩)]] [obj bp0 56 [.map (some mp0_0)], mapO mp0_0 enc3 enc69 xp0_0] F (slices_Sorted_int_maps_Keys_Session_1.f xp0_0) (fun (r : List Int) (y : Option Addr × Nat) => .slice y.1 r.length y.2) (fun r y => [RowV 3 1 (V3 tt) y.1 r y.2, obj bp0 56 [.map (some mp0_0)], mapO mp0_0 enc3 enc69 xp0_0]) := by
  unfold slices_Sorted_int_maps_Keys_Session_1.f
  exact fn_sortedI (V := (V3 tt)) (fun _ => rfl) Tryz.underlying3 (fun w D0 nn => lib_sorted55_93 w D0 nn mp0_0 bp0)
end Go.Proofs.YtdaedoklkmdhcaaGreat

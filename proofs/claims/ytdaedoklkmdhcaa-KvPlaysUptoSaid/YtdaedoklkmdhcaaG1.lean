/- Printed by gen.py: pure functions and the proofs that the Go functions simulate them. Conditions: as each theorem says. -/
import Derived.Test.YtdaedoklkmdhcaaSh
import Derived.Test.YtdaedoklkmdhcaaSl22
import Derived.Test.YtdaedoklkmdhcaaProg
namespace Go.Proofs.Ytdaedoklkmdhcaa
open Go.RowKit
set_option linter.unusedVariables false
set_option linter.unusedSimpArgs false
set_option maxRecDepth 20000
set_option maxHeartbeats 20000000
theorem elt5 : Elt Try.prog 5 1 1 [.int .u8 0] := .of (.int .u8 0) (by kernel_rfl) rfl rfl rfl rfl
abbrev Ty33 : Type := Int × Int × Int × List UInt8 × List UInt8 × List UInt8
abbrev dz33 : Ty33 := ((0 : Int), (0 : Int), (0 : Int), ([] : List UInt8), ([] : List UInt8), ([] : List UInt8))
abbrev Ty92 : Type := List UInt8 × List UInt8
abbrev dz92 : Ty92 := (([] : List UInt8), ([] : List UInt8))
abbrev Ty86 : Type := Int × Int × Int × List UInt8
abbrev dz86 : Ty86 := ((0 : Int), (0 : Int), (0 : Int), ([] : List UInt8))
abbrev Ty42 : Type := Int × Int × Int × List UInt8
abbrev dz42 : Ty42 := ((0 : Int), (0 : Int), (0 : Int), ([] : List UInt8))
abbrev enc9 (x : List UInt8) : Value := str x
abbrev enc3 (x : Int) : Value := .int .i64 x
abbrev enc42 (x : Int × Int × Int × List UInt8) : Value := .agg #[.int .i64 x.1, .int .i64 x.2.1, .int .i64 x.2.2.1, str x.2.2.2]
abbrev enc68 (x : Option Nat) : Value := match x with
  | none => .nilFunc
  | some f => .func (.func f) #[] #[]
theorem key9 : KeyT Try.prog 9 enc9 := keyT_str Try.underlying9
theorem key3 : KeyT Try.prog 3 enc3 := keyT_int Try.underlying3
theorem elt33 : Elt Try.prog 33 6 72 [.int .i64 0, .int .i64 0, .int .i64 0, str ([] : List UInt8), str ([] : List UInt8), str ([] : List UInt8)] := .of (.agg #[.int .i64 0, .int .i64 0, .int .i64 0, str ([] : List UInt8), str ([] : List UInt8), str ([] : List UInt8)]) (by kernel_rfl) rfl rfl rfl rfl
theorem elt92 : Elt Try.prog 92 2 32 [str ([] : List UInt8), str ([] : List UInt8)] := .of (.agg #[str ([] : List UInt8), str ([] : List UInt8)]) (by kernel_rfl) rfl rfl rfl rfl
theorem elt86 : Elt Try.prog 86 4 40 [.int .i64 0, .int .i64 0, .int .i64 0, str ([] : List UInt8)] := .of (.agg #[.int .i64 0, .int .i64 0, .int .i64 0, str ([] : List UInt8)]) (by kernel_rfl) rfl rfl rfl rfl
theorem elt9 : Elt Try.prog 9 1 16 [str ([] : List UInt8)] := .of (str ([] : List UInt8)) (by kernel_rfl) rfl rfl rfl rfl
theorem elt3 : Elt Try.prog 3 1 8 [.int .i64 0] := .of (.int .i64 0) (by kernel_rfl) rfl rfl rfl rfl
theorem elt42 : Elt Try.prog 42 4 40 [.int .i64 0, .int .i64 0, .int .i64 0, str ([] : List UInt8)] := .of (.agg #[.int .i64 0, .int .i64 0, .int .i64 0, str ([] : List UInt8)]) (by kernel_rfl) rfl rfl rfl rfl
def V33 (_ : HA) (x : Int × Int × Int × List UInt8 × List UInt8 × List UInt8) (r : List Value) : Prop := r = [.int .i64 x.1, .int .i64 x.2.1, .int .i64 x.2.2.1, str x.2.2.2.1, str x.2.2.2.2.1, str x.2.2.2.2.2]
theorem V33.up {G F : HA} (_ : Up G F) : ∀ x r, V33 G x r → V33 F x r := fun _ _ h => h
def Ok33 (x : Int × Int × Int × List UInt8 × List UInt8 × List UInt8) : Prop := okI .i64 x.1 ∧ okI .i64 x.2.1 ∧ okI .i64 x.2.2.1 ∧ x.2.2.2.1.length ≤ 140737488351232 ∧ x.2.2.2.2.1.length ≤ 140737488351232 ∧ x.2.2.2.2.2.length ≤ 140737488351232
def V92 (_ : HA) (x : List UInt8 × List UInt8) (r : List Value) : Prop := r = [str x.1, str x.2]
theorem V92.up {G F : HA} (_ : Up G F) : ∀ x r, V92 G x r → V92 F x r := fun _ _ h => h
def Ok92 (x : List UInt8 × List UInt8) : Prop := x.1.length ≤ 140737488351232 ∧ x.2.length ≤ 140737488351232
def V86 (_ : HA) (x : Int × Int × Int × List UInt8) (r : List Value) : Prop := r = [.int .i64 x.1, .int .i64 x.2.1, .int .i64 x.2.2.1, str x.2.2.2]
theorem V86.up {G F : HA} (_ : Up G F) : ∀ x r, V86 G x r → V86 F x r := fun _ _ h => h
def Ok86 (x : Int × Int × Int × List UInt8) : Prop := okI .i64 x.1 ∧ okI .i64 x.2.1 ∧ okI .i64 x.2.2.1 ∧ x.2.2.2.length ≤ 140737488351232
def V9 (_ : HA) (x : List UInt8) (r : List Value) : Prop := r = [str x]
theorem V9.up {G F : HA} (_ : Up G F) : ∀ x r, V9 G x r → V9 F x r := fun _ _ h => h
def Ok9 (x : List UInt8) : Prop := x.length ≤ 140737488351232
def V3 (_ : HA) (x : Int) (r : List Value) : Prop := r = [.int .i64 x]
theorem V3.up {G F : HA} (_ : Up G F) : ∀ x r, V3 G x r → V3 F x r := fun _ _ h => h
def Ok3 (x : Int) : Prop := okI .i64 x
def V42 (_ : HA) (x : Int × Int × Int × List UInt8) (r : List Value) : Prop := r = [.int .i64 x.1, .int .i64 x.2.1, .int .i64 x.2.2.1, str x.2.2.2]
theorem V42.up {G F : HA} (_ : Up G F) : ∀ x r, V42 G x r → V42 F x r := fun _ _ h => h
def Ok42 (x : Int × Int × Int × List UInt8) : Prop := okI .i64 x.1 ∧ okI .i64 x.2.1 ∧ okI .i64 x.2.2.1 ∧ x.2.2.2.length ≤ 140737488351232
theorem mixed : Try.prog.follows .mixedOrders = true := by kernel_rfl
def kv_New.f  : Option ((List ((List UInt8) × (List UInt8))) × (List ((Int) × (Ty86)))) := some (([] : List ((List UInt8) × (List UInt8))), ([] : List ((Int) × (Ty86))))
theorem kv_New.calls (W : World) (F : HA)   :
    Fn Try.prog W 11 [] [] F (kv_New.f ) (fun (r : (List ((List UInt8) × (List UInt8))) × (List ((Int) × (Ty86)))) (y : Nat × Nat × Nat) => .pointer (some ⟨y.1, 0, none⟩)) (fun r y => [obj y.1 63 [.map (some y.2.1), .map (some y.2.2)], mapO y.2.1 enc9 enc9 r.1, mapO y.2.2 enc3 enc42 r.2]) := by
 unfold kv_New.f
 refine fn_intro 5 Try.func11 rfl Try.ntmps11 rfl ?_
 refine sr ?_
 refine va rfl rfl (nx ?_)
 refine simL_eff (re_mkmap (ek := enc9) (ev := enc9) rfl) rfl rfl rfl ?_
 intro b1v
 refine simL_eff (re_mkmap (ek := enc3) (ev := enc42) rfl) rfl rfl rfl ?_
 intro b2v
 refine vq (q_build (v := .agg #[.map (some b1v), .map (some b2v)]) rfl rfl (fun _ => by kernel_rfl)) rfl ?_
 refine simL_eff (re_box rfl rfl rfl) rfl rfl rfl ?_
 intro b3v
 refine va rfl rfl (simL_nil (nrm_then (sim_rtn ?_)))
 exact rtn_fn (b3v, b1v, b2v) rfl rfl rfl (.sel 0 rfl (.sel 1 rfl (.sel 0 rfl (.sel 0 rfl (.nil _)))))

def codec_within.f (x0 : Int) (x1 : Int) : Option (Bool) := some ((decide (x1 ≤ x0)) && (decide (x0 ≤ (4611686018427387904 : Int))))
theorem codec_within.calls (W : World) (F : HA) (x0 : Int) (x1 : Int)  :
    Fn Try.prog W 43 [.int .i64 x0, .int .i64 x1] [] F (codec_within.f x0 x1) (fun (r : Bool) (y : Unit) => .bool r) (fun r y => []) := by
 unfold codec_within.f
 refine fn_intro 12 Try.func43 rfl Try.ntmps43 rfl ?_
 refine sr ?_
 refine va rfl rfl (nx ?_)
 refine vm rfl rfl ?_
 refine vm rfl rfl ?_
 refine vq (q_geq rfl rfl rfl) rfl ?_
 refine vm rfl rfl ?_
 refine simL_valc (b := decide (x1 ≤ x0)) (fun hb2v => RQ.sub (E' := [(0, .int .i64 x0)]) ⟨rfl, trivial⟩ (q_move rfl rfl)) rfl rfl rfl rfl rfl ?_
 refine simL_valc (b := decide (x1 ≤ x0)) (fun hb1v => RQ.sub (E' := [(9, .int .i64 x0)]) ⟨lk_cv rfl hb1v, trivial⟩ (q_leq rfl rfl rfl)) rfl rfl rfl rfl rfl ?_
 refine vq (q_and rfl rfl rfl) rfl ?_
 refine va rfl rfl (simL_nil (nrm_then (sim_rtn ?_)))
 exact rtn_fn () rfl rfl rfl (.sel 0 rfl (.nil _))
def codec_within.v (x0 : Int) (x1 : Int) : Bool := (codec_within.f x0 x1).getD false
theorem codec_within.tot (x0 : Int) (x1 : Int) : codec_within.f x0 x1 = some (codec_within.v x0 x1) := by
  have h : ∃ r, codec_within.f x0 x1 = some r := by
    unfold codec_within.f
    repeat' (first | exact ⟨_, rfl⟩ | split | simp only [Option.bind_some])
  obtain ⟨r, h⟩ := h
  unfold codec_within.v
  rw [h]; rfl

def codec_Commands_Check.f (x1_0 : Int) (x1_1 : Int) (x1_2 : Int) (x1_3 : List UInt8) (x1_4 : List UInt8) (x1_5 : List UInt8) : Option (Int) := if (((!decide (x1_0 = (2 : Int))) && (!decide (x1_0 = (3 : Int)))) && (!decide (x1_0 = (4 : Int)))) = true then (some 6) else ((codec_within.f x1_1 (1 : Int)).bind fun s5v => ((if (!s5v) = true then (some true) else ((codec_within.f x1_2 (1 : Int)).bind fun s10v => (some (!s10v)))).bind fun s8v => (if s8v = true then (some 1) else (if (((decide ((64 : Int) < (x1_3.length : Int))) || (decide ((1024 : Int) < (x1_4.length : Int)))) || (decide ((1024 : Int) < (x1_5.length : Int)))) = true then (some 3) else ((if x1_3 = ([] : List UInt8) then (some true) else (some ((decide (x1_0 = (3 : Int))) && (!decide (x1_4 = ([] : List UInt8)))))).bind fun s19v => ((if s19v = true then (some true) else (some ((!decide (x1_0 = (4 : Int))) && (!decide (x1_5 = ([] : List UInt8)))))).bind fun s26v => (if s26v = true then (some 4) else (some 0))))))))
theorem codec_Commands_Check.calls (W : World) (F : HA) (x1_0 : Int) (x1_1 : Int) (x1_2 : Int) (x1_3 : List UInt8) (x1_4 : List UInt8) (x1_5 : List UInt8)  :
    Fn Try.prog W 26 [.agg #[], .agg #[.int .i64 x1_0, .int .i64 x1_1, .int .i64 x1_2, str x1_3, str x1_4, str x1_5]] [] F (codec_Commands_Check.f x1_0 x1_1 x1_2 x1_3 x1_4 x1_5) (fun (r : Int) (y : Unit) => .int .i64 r) (fun r y => []) := by
 unfold codec_Commands_Check.f
 refine fn_intro 71 Try.func26 rfl Try.ntmps26 rfl ?_
 refine sr ?_
 refine simL_eff (re_box rfl rfl rfl) rfl rfl rfl ?_
 intro b1v
 refine simL_eff (re_box rfl rfl rfl) rfl rfl rfl ?_
 intro b2v
 refine va rfl rfl (simL_nil (nrm_then (sim_seq ?_)))
 refine sim_block ?_
 refine sr ?_
 refine vq (q_fa rfl rfl Try.underlying33 rfl rfl Try.sizeOf3 rfl) rfl ?_
 refine vq (q_load rfl rfl Try.isAgg3 (.obj 0 rfl rfl)) rfl ?_
 refine vq (q_neq rfl rfl rfl) rfl ?_
 refine vm rfl rfl ?_
 refine simL_valc (b := !decide (x1_0 = (2 : Int))) (fun hb48v => RQ.sub (E' := [(3, .pointer (some ⟨b2v, 0, none⟩))]) ⟨rfl, trivial⟩ (q_fa rfl rfl Try.underlying33 rfl rfl Try.sizeOf3 rfl)) rfl rfl rfl rfl rfl ?_
 refine simL_valc (b := !decide (x1_0 = (2 : Int))) (fun hb47v => RQ.sub (E' := [(10, .pointer (some ⟨b2v, 0, none⟩))]) ⟨lk_cv rfl hb47v, trivial⟩ (q_load rfl rfl Try.isAgg3 (.obj 0 rfl rfl))) rfl rfl rfl rfl rfl ?_
 refine simL_valc (b := !decide (x1_0 = (2 : Int))) (fun hb46v => RQ.sub (E' := [(11, .int .i64 x1_0)]) ⟨lk_cv rfl hb46v, trivial⟩ (q_neq rfl rfl rfl)) rfl rfl rfl rfl rfl ?_
 refine vq (q_and rfl rfl rfl) rfl ?_
 refine vm rfl rfl ?_
 refine simL_valc (b := (!decide (x1_0 = (2 : Int))) && (!decide (x1_0 = (3 : Int)))) (fun hb45v => RQ.sub (E' := [(3, .pointer (some ⟨b2v, 0, none⟩))]) ⟨rfl, trivial⟩ (q_fa rfl rfl Try.underlying33 rfl rfl Try.sizeOf3 rfl)) rfl rfl rfl rfl rfl ?_
 refine simL_valc (b := (!decide (x1_0 = (2 : Int))) && (!decide (x1_0 = (3 : Int)))) (fun hb44v => RQ.sub (E' := [(15, .pointer (some ⟨b2v, 0, none⟩))]) ⟨lk_cv rfl hb44v, trivial⟩ (q_load rfl rfl Try.isAgg3 (.obj 0 rfl rfl))) rfl rfl rfl rfl rfl ?_
 refine simL_valc (b := (!decide (x1_0 = (2 : Int))) && (!decide (x1_0 = (3 : Int)))) (fun hb43v => RQ.sub (E' := [(16, .int .i64 x1_0)]) ⟨lk_cv rfl hb43v, trivial⟩ (q_neq rfl rfl rfl)) rfl rfl rfl rfl rfl ?_
 refine vq (q_and rfl rfl rfl) rfl ?_
 refine va rfl rfl (simL_nil (nrm_then ?_))
 refine sim_condb rfl (fun h3v => ?_) (fun h4v => ?_)
 refine sr ?_
 refine va rfl rfl (simL_nil (nrm_then (sim_rtn ?_)))
 refine rtn_block ?_
 refine rtn_then ?_
 exact rtn_fn () rfl rfl rfl (.sel 2 rfl (.nil _))
 refine sr ?_
 refine vq (q_fa rfl rfl Try.underlying33 rfl rfl Try.sizeOf3 rfl) rfl ?_
 refine vq (q_load rfl rfl Try.isAgg3 (.obj 0 rfl rfl)) rfl ?_
 refine simL_bind (fun s5v hs6v => ?_)
 refine simL_eff (re_call (vs := [.int .i64 x1_1, .int .i64 1]) (cap := []) (A := []) (rst := [obj b2v 33 [.int .i64 x1_0, .int .i64 x1_1, .int .i64 x1_2, str x1_3, str x1_4, str x1_5], obj b1v 65 [], F]) rfl rfl rfl rfl rfl rfl Try.call43 (.sel 0 rfl (.sel 0 rfl (.sel 0 rfl (.nil _)))) (codec_within.calls _ _ x1_1 (1 : Int) ) hs6v) rfl rfl rfl ?_
 intro y7v
 refine vq (q_not rfl rfl) rfl ?_
 refine vm rfl rfl ?_
 refine simL_cut' 5 (S := Bool) (Unit) (fun s y => [(3, .pointer (some ⟨b2v, 0, none⟩)), (29, .bool s)]) (fun s y => [obj b2v 33 [.int .i64 x1_0, .int .i64 x1_1, .int .i64 x1_2, str x1_3, str x1_4, str x1_5], F]) ?_ ?_
 refine simL_caseb (fun hb13v => ?_) (fun hb14v => ?_)
 rw [hb13v]
 refine simL_skipd rfl rfl rfl rfl rfl rfl ?_
 refine simL_skipd rfl rfl rfl rfl rfl rfl ?_
 refine simL_skipd rfl rfl rfl rfl rfl rfl ?_
 refine simL_skipd rfl rfl rfl rfl rfl rfl ?_
 refine vq (q_pick rfl rfl rfl rfl rfl) rfl (simL_nil ?_)
 exact nrm_cut (s := true) () ⟨rfl, rfl, trivial⟩ (.sel 0 rfl (.sel 1 rfl (.nil _)))
 rw [hb14v]
 refine simL_valg (q_fa rfl rfl Try.underlying33 rfl rfl Try.sizeOf3 rfl) rfl rfl rfl rfl rfl rfl ?_
 refine simL_valg (q_load rfl rfl Try.isAgg3 (.obj 0 rfl rfl)) rfl rfl rfl rfl rfl rfl ?_
 refine simL_bind (fun s10v hs11v => ?_)
 refine simL_effg (re_call (vs := [.int .i64 x1_2, .int .i64 1]) (cap := []) (A := []) (rst := [obj b2v 33 [.int .i64 x1_0, .int .i64 x1_1, .int .i64 x1_2, str x1_3, str x1_4, str x1_5], obj b1v 65 [], F]) rfl rfl rfl rfl rfl rfl Try.call43 (.sel 0 rfl (.sel 0 rfl (.sel 0 rfl (.nil _)))) (codec_within.calls _ _ x1_2 (1 : Int) ) hs11v) rfl rfl rfl rfl rfl rfl ?_
 intro y12v
 refine simL_valg (q_not rfl rfl) rfl rfl rfl rfl rfl rfl ?_
 refine vq (q_pick rfl rfl rfl rfl rfl) rfl (simL_nil ?_)
 exact nrm_cut (s := !s10v) () ⟨rfl, rfl, trivial⟩ (.sel 0 rfl (.sel 1 rfl (.nil _)))
 intro s8v y9v
 refine va rfl rfl (simL_nil (nrm_then ?_))
 refine sim_condb rfl (fun h15v => ?_) (fun h16v => ?_)
 refine sr ?_
 refine va rfl rfl (simL_nil (nrm_then (sim_rtn ?_)))
 refine rtn_block ?_
 refine rtn_then ?_
 exact rtn_fn () rfl rfl rfl (.sel 1 rfl (.nil _))
 refine sr ?_
 refine vq (q_fa rfl rfl Try.underlying33 rfl rfl Try.sizeOf9 rfl) rfl ?_
 refine vq (q_load rfl rfl Try.isAgg9 (.obj 0 rfl rfl)) rfl ?_
 refine vq (q_lens rfl rfl rfl Try.underlying9) rfl ?_
 refine vq (q_gtr rfl rfl rfl) rfl ?_
 refine vm rfl rfl ?_
 refine simL_valc (b := decide ((64 : Int) < (x1_3.length : Int))) (fun hb42v => RQ.sub (E' := [(3, .pointer (some ⟨b2v, 0, none⟩))]) ⟨rfl, trivial⟩ (q_fa rfl rfl Try.underlying33 rfl rfl Try.sizeOf9 rfl)) rfl rfl rfl rfl rfl ?_
 refine simL_valc (b := decide ((64 : Int) < (x1_3.length : Int))) (fun hb41v => RQ.sub (E' := [(36, .pointer (some ⟨b2v, 4, none⟩))]) ⟨lk_cv rfl hb41v, trivial⟩ (q_load rfl rfl Try.isAgg9 (.obj 0 rfl rfl))) rfl rfl rfl rfl rfl ?_
 refine simL_valc (b := decide ((64 : Int) < (x1_3.length : Int))) (fun hb40v => RQ.sub (E' := [(37, str x1_4)]) ⟨lk_cv rfl hb40v, trivial⟩ (q_lens rfl rfl rfl Try.underlying9)) rfl rfl rfl rfl rfl ?_
 refine simL_valc (b := decide ((64 : Int) < (x1_3.length : Int))) (fun hb39v => RQ.sub (E' := [(38, .int .i64 (x1_4.length : Int))]) ⟨lk_cv rfl hb39v, trivial⟩ (q_gtr rfl rfl rfl)) rfl rfl rfl rfl rfl ?_
 refine vq (q_or rfl rfl rfl) rfl ?_
 refine vm rfl rfl ?_
 refine simL_valc (b := (decide ((64 : Int) < (x1_3.length : Int))) || (decide ((1024 : Int) < (x1_4.length : Int)))) (fun hb38v => RQ.sub (E' := [(3, .pointer (some ⟨b2v, 0, none⟩))]) ⟨rfl, trivial⟩ (q_fa rfl rfl Try.underlying33 rfl rfl Try.sizeOf9 rfl)) rfl rfl rfl rfl rfl ?_
 refine simL_valc (b := (decide ((64 : Int) < (x1_3.length : Int))) || (decide ((1024 : Int) < (x1_4.length : Int)))) (fun hb37v => RQ.sub (E' := [(42, .pointer (some ⟨b2v, 5, none⟩))]) ⟨lk_cv rfl hb37v, trivial⟩ (q_load rfl rfl Try.isAgg9 (.obj 0 rfl rfl))) rfl rfl rfl rfl rfl ?_
 refine simL_valc (b := (decide ((64 : Int) < (x1_3.length : Int))) || (decide ((1024 : Int) < (x1_4.length : Int)))) (fun hb36v => RQ.sub (E' := [(43, str x1_5)]) ⟨lk_cv rfl hb36v, trivial⟩ (q_lens rfl rfl rfl Try.underlying9)) rfl rfl rfl rfl rfl ?_
 refine simL_valc (b := (decide ((64 : Int) < (x1_3.length : Int))) || (decide ((1024 : Int) < (x1_4.length : Int)))) (fun hb35v => RQ.sub (E' := [(44, .int .i64 (x1_5.length : Int))]) ⟨lk_cv rfl hb35v, trivial⟩ (q_gtr rfl rfl rfl)) rfl rfl rfl rfl rfl ?_
 refine vq (q_or rfl rfl rfl) rfl ?_
 refine va rfl rfl (simL_nil (nrm_then ?_))
 refine sim_condb rfl (fun h17v => ?_) (fun h18v => ?_)
 refine sr ?_
 refine va rfl rfl (simL_nil (nrm_then (sim_rtn ?_)))
 refine rtn_block ?_
 refine rtn_then ?_
 exact rtn_fn () rfl rfl rfl (.sel 1 rfl (.nil _))
 refine sr ?_
 refine vq (q_fa rfl rfl Try.underlying33 rfl rfl Try.sizeOf9 rfl) rfl ?_
 refine vq (q_load rfl rfl Try.isAgg9 (.obj 0 rfl rfl)) rfl ?_
 refine vq (q_eqs rfl rfl rfl) rfl ?_
 refine vm rfl rfl ?_
 refine simL_cut' 9 (S := Bool) (Unit) (fun s y => [(3, .pointer (some ⟨b2v, 0, none⟩)), (60, .bool s)]) (fun s y => [obj b2v 33 [.int .i64 x1_0, .int .i64 x1_1, .int .i64 x1_2, str x1_3, str x1_4, str x1_5], F]) ?_ ?_
 refine simL_casep (fun hb24v => ?_) (fun hb25v => ?_)
 rw [hb24v]
 refine simL_skipd rfl rfl rfl rfl rfl rfl ?_
 refine simL_skipd rfl rfl rfl rfl rfl rfl ?_
 refine simL_skipd rfl rfl rfl rfl rfl rfl ?_
 refine simL_skipd rfl rfl rfl rfl rfl rfl ?_
 refine simL_skipu rfl rfl rfl rfl rfl ?_
 refine simL_skipu rfl rfl rfl rfl rfl ?_
 refine simL_skipu rfl rfl rfl rfl rfl ?_
 refine simL_skipd rfl rfl rfl rfl rfl rfl ?_
 refine vq (q_pick rfl rfl rfl rfl rfl) rfl (simL_nil ?_)
 exact nrm_cut (s := true) () ⟨rfl, rfl, trivial⟩ (.sel 0 rfl (.sel 0 rfl (.nil _)))
 rw [hb25v]
 refine simL_valg (q_fa rfl rfl Try.underlying33 rfl rfl Try.sizeOf3 rfl) rfl rfl rfl rfl rfl rfl ?_
 refine simL_valg (q_load rfl rfl Try.isAgg3 (.obj 0 rfl rfl)) rfl rfl rfl rfl rfl rfl ?_
 refine simL_valg (q_eql rfl rfl rfl) rfl rfl rfl rfl rfl rfl ?_
 refine simL_valg (q_move rfl rfl) rfl rfl rfl rfl rfl rfl ?_
 refine simL_valc (b := decide (x1_0 = (3 : Int))) (fun hb23v => RQ.sub (E' := [(3, .pointer (some ⟨b2v, 0, none⟩))]) ⟨rfl, trivial⟩ (q_fa rfl rfl Try.underlying33 rfl rfl Try.sizeOf9 rfl)) rfl rfl rfl rfl rfl ?_
 refine simL_valc (b := decide (x1_0 = (3 : Int))) (fun hb22v => RQ.sub (E' := [(56, .pointer (some ⟨b2v, 4, none⟩))]) ⟨lk_cv rfl hb22v, trivial⟩ (q_load rfl rfl Try.isAgg9 (.obj 0 rfl rfl))) rfl rfl rfl rfl rfl ?_
 refine simL_valc (b := decide (x1_0 = (3 : Int))) (fun hb21v => RQ.sub (E' := [(57, str x1_4)]) ⟨lk_cv rfl hb21v, trivial⟩ (q_nes rfl rfl rfl)) rfl rfl rfl rfl rfl ?_
 refine simL_valg (q_and rfl rfl rfl) rfl rfl rfl rfl rfl rfl ?_
 refine vq (q_pick rfl rfl rfl rfl rfl) rfl (simL_nil ?_)
 exact nrm_cut (s := (decide (x1_0 = (3 : Int))) && (!decide (x1_4 = ([] : List UInt8)))) () ⟨rfl, rfl, trivial⟩ (.sel 0 rfl (.sel 0 rfl (.nil _)))
 intro s19v y20v
 refine vm rfl rfl ?_
 refine simL_cut' 9 (S := Bool) (Unit) (fun s y => [(70, .bool s)]) (fun s y => [F]) ?_ ?_
 refine simL_caseb (fun hb31v => ?_) (fun hb32v => ?_)
 rw [hb31v]
 refine simL_skipd rfl rfl rfl rfl rfl rfl ?_
 refine simL_skipd rfl rfl rfl rfl rfl rfl ?_
 refine simL_skipd rfl rfl rfl rfl rfl rfl ?_
 refine simL_skipd rfl rfl rfl rfl rfl rfl ?_
 refine simL_skipu rfl rfl rfl rfl rfl ?_
 refine simL_skipu rfl rfl rfl rfl rfl ?_
 refine simL_skipu rfl rfl rfl rfl rfl ?_
 refine simL_skipd rfl rfl rfl rfl rfl rfl ?_
 refine vq (q_pick rfl rfl rfl rfl rfl) rfl (simL_nil ?_)
 exact nrm_cut (s := true) () ⟨rfl, trivial⟩ (.sel 1 rfl (.nil _))
 rw [hb32v]
 refine simL_valg (q_fa rfl rfl Try.underlying33 rfl rfl Try.sizeOf3 rfl) rfl rfl rfl rfl rfl rfl ?_
 refine simL_valg (q_load rfl rfl Try.isAgg3 (.obj 0 rfl rfl)) rfl rfl rfl rfl rfl rfl ?_
 refine simL_valg (q_neq rfl rfl rfl) rfl rfl rfl rfl rfl rfl ?_
 refine simL_valg (q_move rfl rfl) rfl rfl rfl rfl rfl rfl ?_
 refine simL_valc (b := !decide (x1_0 = (4 : Int))) (fun hb30v => RQ.sub (E' := [(3, .pointer (some ⟨b2v, 0, none⟩))]) ⟨rfl, trivial⟩ (q_fa rfl rfl Try.underlying33 rfl rfl Try.sizeOf9 rfl)) rfl rfl rfl rfl rfl ?_
 refine simL_valc (b := !decide (x1_0 = (4 : Int))) (fun hb29v => RQ.sub (E' := [(66, .pointer (some ⟨b2v, 5, none⟩))]) ⟨lk_cv rfl hb29v, trivial⟩ (q_load rfl rfl Try.isAgg9 (.obj 0 rfl rfl))) rfl rfl rfl rfl rfl ?_
 refine simL_valc (b := !decide (x1_0 = (4 : Int))) (fun hb28v => RQ.sub (E' := [(67, str x1_5)]) ⟨lk_cv rfl hb28v, trivial⟩ (q_nes rfl rfl rfl)) rfl rfl rfl rfl rfl ?_
 refine simL_valg (q_and rfl rfl rfl) rfl rfl rfl rfl rfl rfl ?_
 refine vq (q_pick rfl rfl rfl rfl rfl) rfl (simL_nil ?_)
 exact nrm_cut (s := (!decide (x1_0 = (4 : Int))) && (!decide (x1_5 = ([] : List UInt8)))) () ⟨rfl, trivial⟩ (.sel 1 rfl (.nil _))
 intro s26v y27v
 refine va rfl rfl (simL_nil (nrm_then ?_))
 refine sim_condb rfl (fun h33v => ?_) (fun h34v => ?_)
 refine sr ?_
 refine va rfl rfl (simL_nil (nrm_then (sim_rtn ?_)))
 refine rtn_block ?_
 refine rtn_then ?_
 exact rtn_fn () rfl rfl rfl (.sel 0 rfl (.nil _))
 refine sim_skip ?_
 refine nrm_block (nrm_then (sr ?_))
 refine va rfl rfl (simL_nil (nrm_then (sim_rtn ?_)))
 exact rtn_fn () rfl rfl rfl (.sel 0 rfl (.nil _))

def kv_operations_1.f (x0_0 : List ((List UInt8) × (List UInt8))) (x0_1 : List ((Int) × (Ty86))) (x1_0 : Int) (x1_1 : Int) (x1_2 : Int) (x1_3 : List UInt8) (x1_4 : List UInt8) (x1_5 : List UInt8) : Option (Int × List UInt8 × (List ((List UInt8) × (List UInt8))) × (List ((Int) × (Ty86)))) := if ((!((mget x0_0 x1_3).isSome)) && (decide ((128 : Int) ≤ (x0_0.length : Int)))) = true then (some (5, ([] : List UInt8), x0_0, x0_1)) else (some (1, ([] : List UInt8), mput x0_0 x1_3 x1_4, x0_1))
theorem kv_operations_1.calls (W : World) (F : HA) (b0 : Nat) (m0_0 : Nat) (x0_0 : List ((List UInt8) × (List UInt8))) (m0_1 : Nat) (x0_1 : List ((Int) × (Ty86))) (x1_0 : Int) (x1_1 : Int) (x1_2 : Int) (x1_3 : List UInt8) (x1_4 : List UInt8) (x1_5 : List UInt8)  :
    Fn Try.prog W 44 [.pointer (some ⟨b0, 0, none⟩), .agg #[.int .i64 x1_0, .int .i64 x1_1, .int .i64 x1_2, str x1_3, str x1_4, str x1_5]] [obj b0 63 [.map (some m0_0), .map (some m0_1)], mapO m0_0 enc9 enc9 x0_0, mapO m0_1 enc3 enc42 x0_1] F (kv_operations_1.f x0_0 x0_1 x1_0 x1_1 x1_2 x1_3 x1_4 x1_5) (fun (r : Int × List UInt8 × (List ((List UInt8) × (List UInt8))) × (List ((Int) × (Ty86)))) (y : Nat × Nat) => .agg #[.int .i64 r.1, str r.2.1]) (fun r y => [obj b0 63 [.map (some y.1), .map (some y.2)], mapO y.1 enc9 enc9 r.2.2.1, mapO y.2 enc3 enc42 r.2.2.2]) := by
 unfold kv_operations_1.f
 refine fn_intro 37 Try.func44 rfl Try.ntmps44 rfl ?_
 refine sr ?_
 refine simL_eff (re_box rfl rfl rfl) rfl rfl rfl ?_
 intro b1v
 refine simL_eff (re_alloc rfl Try.zeroValue28 rfl) rfl rfl rfl ?_
 intro b2v
 refine simL_nil (nrm_then (sim_seq (sim_seq ?_)))
 refine sim_draw (Γ := Unit) () [[], [0], [0, 1], [0, 1, 2], [], [4], rL 6, rL 7, rL 8, rL 8, rL 9, rL 11] [] [0, 1, 2, 3, 4, 5, 6, 7, 8, 9, 10, 11] (fun i => [[0], [0], [0], [0], [0], [0], [0], [0], [0], [0], [0], [0]].getD i []) (fun i => [[], [], [], [], [], [], [], [], [], [], [], []].getD i []) (fun γ i => [.pointer (some ⟨b0, 0, none⟩), .pointer (some ⟨b0, 0, none⟩), .pointer (some ⟨b0, 0, none⟩), .map (some m0_0), .pointer (some ⟨b1v, 3, none⟩), str x1_3, .tuple #[str ((mget x0_0 x1_3).getD ([] : List UInt8)), .bool ((mget x0_0 x1_3).isSome)], .tuple #[str ((mget x0_0 x1_3).getD ([] : List UInt8)), .bool ((mget x0_0 x1_3).isSome)], str ((mget x0_0 x1_3).getD ([] : List UInt8)), .bool ((mget x0_0 x1_3).isSome), str ((mget x0_0 x1_3).getD ([] : List UInt8)), .bool ((mget x0_0 x1_3).isSome)].getD i undef) (fun j γ => [[obj b2v 28 [.int .i64 0, str ([] : List UInt8)], obj b1v 33 [.int .i64 x1_0, .int .i64 x1_1, .int .i64 x1_2, str x1_3, str x1_4, str x1_5], obj b0 63 [.map (some m0_0), .map (some m0_1)], mapO m0_0 enc9 enc9 x0_0, mapO m0_1 enc3 enc42 x0_1, F]].getD j []) (fun γ => [(0, .pointer (some ⟨b0, 0, none⟩)), (3, .pointer (some ⟨b1v, 0, none⟩)), (4, .pointer (some ⟨b2v, 0, none⟩)), (6, .bool ((mget x0_0 x1_3).isSome))]) mixed (by decide) (by decide) (by decide) (by decide) (by decide) (by decide) (by decide) 37 rfl (by decide) (by decide) (by decide) (Ent.refl _) ?_ ?_ (fun _ => ⟨rfl, rfl, rfl, rfl, trivial⟩) ?_
 exact (aq rfl (fun γ => qm rfl (.o (s := 0) rfl (by decide) .nil) rfl) (aq rfl (fun γ => qp rfl rfl (.v 0 rfl rfl .nil) (q_nil rfl rfl) rfl) (aq rfl (fun γ => qp rfl rfl (.v 1 rfl rfl .nil) (q_fa rfl rfl Try.underlying63 rfl rfl Try.sizeOf60 rfl) rfl) (aq rfl (fun γ => qp rfl rfl (.v 2 rfl rfl .nil) (q_load rfl rfl Try.isAgg60 (.obj 2 rfl rfl)) rfl) (aq rfl (fun γ => qp rfl rfl (.o (s := 3) rfl (by decide) .nil) (q_fa rfl rfl Try.underlying33 rfl rfl Try.sizeOf9 rfl) rfl) (aq rfl (fun γ => qp rfl rfl (.v 4 rfl rfl .nil) (q_load rfl rfl Try.isAgg9 (.obj 1 rfl rfl)) rfl) (aq rfl (fun γ => qp rfl rfl (.v 3 rfl rfl (.v 5 rfl rfl .nil)) ((q_mlook2 (ek := enc9) (ev := enc9) (z := ([] : List UInt8)) 3 x1_3 rfl rfl rfl Try.underlying60 key9 Try.zeroValue9 rfl : RQ _ _ _ _ (.tuple #[str ((mget x0_0 x1_3).getD ([] : List UInt8)), .bool ((mget x0_0 x1_3).isSome)]))) rfl) (aq rfl (fun γ => qm rfl (.v 6 rfl rfl .nil) rfl) (aq rfl (fun γ => qp rfl rfl (.v 7 rfl rfl .nil) (q_ext rfl rfl rfl) rfl) (aq rfl (fun γ => qp rfl rfl (.v 7 rfl rfl .nil) (q_ext rfl rfl rfl) rfl) (aq rfl (fun γ => qp rfl rfl (.v 8 rfl rfl .nil) (q_asg rfl rfl) rfl) (aq rfl (fun γ => qp rfl rfl (.v 9 rfl rfl .nil) (q_asg rfl rfl) rfl) zA))))))))))))
 exact zA
 intro g3v
 refine nrm_then (sr ?_)
 refine vm rfl rfl ?_
 refine vq (q_not rfl rfl) rfl ?_
 refine vm rfl rfl ?_
 refine simL_valc (b := !((mget x0_0 x1_3).isSome)) (fun hb12v => RQ.sub (E' := [(0, .pointer (some ⟨b0, 0, none⟩))]) ⟨rfl, trivial⟩ (q_move rfl rfl)) rfl rfl rfl rfl rfl ?_
 refine simL_valc (b := !((mget x0_0 x1_3).isSome)) (fun hb11v => RQ.sub (E' := [(20, .pointer (some ⟨b0, 0, none⟩))]) ⟨lk_cv rfl hb11v, trivial⟩ (q_nil rfl rfl)) rfl rfl rfl rfl rfl ?_
 refine simL_valc (b := !((mget x0_0 x1_3).isSome)) (fun hb10v => RQ.sub (E' := [(21, .pointer (some ⟨b0, 0, none⟩))]) ⟨lk_cv rfl hb10v, trivial⟩ (q_fa rfl rfl Try.underlying63 rfl rfl Try.sizeOf60 rfl)) rfl rfl rfl rfl rfl ?_
 refine simL_valc (b := !((mget x0_0 x1_3).isSome)) (fun hb9v => RQ.sub (E' := [(22, .pointer (some ⟨b0, 0, none⟩))]) ⟨lk_cv rfl hb9v, trivial⟩ (q_load rfl rfl Try.isAgg60 (.obj 2 rfl rfl))) rfl rfl rfl rfl rfl ?_
 refine simL_valc (b := !((mget x0_0 x1_3).isSome)) (fun hb8v => RQ.sub (E' := [(23, .map (some m0_0))]) ⟨lk_cv rfl hb8v, trivial⟩ (q_mlen 3 rfl rfl rfl Try.underlying60 rfl)) rfl rfl rfl rfl rfl ?_
 refine simL_valc (b := !((mget x0_0 x1_3).isSome)) (fun hb7v => RQ.sub (E' := [(24, .int .i64 (x0_0.length : Int))]) ⟨lk_cv rfl hb7v, trivial⟩ (q_geq rfl rfl rfl)) rfl rfl rfl rfl rfl ?_
 refine vq (q_and rfl rfl rfl) rfl (simL_nil (nrm_then ?_))
 refine sim_condb rfl (fun h4v => ?_) (fun h5v => ?_)
 refine sr ?_
 refine vq (q_build (v := .agg #[.int .i64 5, str ([] : List UInt8)]) rfl rfl (fun _ => by kernel_rfl)) rfl ?_
 refine simL_do (re_store 0 rfl rfl rfl Try.sizeOf28 rfl rfl (one_of (by rfl)) rfl rfl) rfl rfl ?_
 intro _
 refine simL_nil (nrm_then (sim_rtn ?_))
 refine rtn_then ?_
 exact rtn_fnC (vs := [.agg #[.int .i64 5, str ([] : List UInt8)]]) (m0_0, m0_1) rfl ⟨⟨b2v, rfl, load_agg 0 Try.isAgg28 Try.sizeOf28 rfl rfl⟩, trivial⟩ rfl (.sel 2 rfl (.sel 2 rfl (.sel 2 rfl (.sel 2 rfl (.nil _)))))
 refine sim_skip ?_
 refine nrm_then (sim_seq ?_)
 refine sim_draw (Γ := Unit) () [[], [0], [0, 1], [0, 1, 2], [], [4], [], [6], rL 8] [8] [0, 1, 2, 3, 4, 5, 6, 7] (fun i => [[0], [0], [0], [0], [0], [0], [0], [0], []].getD i []) (fun i => [[], [], [], [], [], [], [], [], rL 8].getD i []) (fun γ i => [.pointer (some ⟨b0, 0, none⟩), .pointer (some ⟨b0, 0, none⟩), .pointer (some ⟨b0, 0, none⟩), .map (some m0_0), .pointer (some ⟨b1v, 3, none⟩), str x1_3, .pointer (some ⟨b1v, 4, none⟩), str x1_4, undef].getD i undef) (fun j γ => [[obj b2v 28 [.int .i64 0, str ([] : List UInt8)], obj b1v 33 [.int .i64 x1_0, .int .i64 x1_1, .int .i64 x1_2, str x1_3, str x1_4, str x1_5], obj b0 63 [.map (some m0_0), .map (some m0_1)], mapO m0_0 enc9 enc9 x0_0, mapO m0_1 enc3 enc42 x0_1, F], [obj b2v 28 [.int .i64 0, str ([] : List UInt8)], obj b1v 33 [.int .i64 x1_0, .int .i64 x1_1, .int .i64 x1_2, str x1_3, str x1_4, str x1_5], obj b0 63 [.map (some m0_0), .map (some m0_1)], mapO m0_0 enc9 enc9 (mput x0_0 x1_3 x1_4), mapO m0_1 enc3 enc42 x0_1, F]].getD j []) (fun γ => [(4, .pointer (some ⟨b2v, 0, none⟩))]) mixed (by decide) (by decide) (by decide) (by decide) (by decide) (by decide) (by decide) 37 rfl (by decide) (by decide) (by decide) (Ent.refl _) ?_ ?_ (fun _ => ⟨rfl, trivial⟩) ?_
 exact (aq rfl (fun γ => qm rfl (.o (s := 0) rfl (by decide) .nil) rfl) (aq rfl (fun γ => qp rfl rfl (.v 0 rfl rfl .nil) (q_nil rfl rfl) rfl) (aq rfl (fun γ => qp rfl rfl (.v 1 rfl rfl .nil) (q_fa rfl rfl Try.underlying63 rfl rfl Try.sizeOf60 rfl) rfl) (aq rfl (fun γ => qp rfl rfl (.v 2 rfl rfl .nil) (q_load rfl rfl Try.isAgg60 (.obj 2 rfl rfl)) rfl) (aq rfl (fun γ => qp rfl rfl (.o (s := 3) rfl (by decide) .nil) (q_fa rfl rfl Try.underlying33 rfl rfl Try.sizeOf9 rfl) rfl) (aq rfl (fun γ => qp rfl rfl (.v 4 rfl rfl .nil) (q_load rfl rfl Try.isAgg9 (.obj 1 rfl rfl)) rfl) (aq rfl (fun γ => qp rfl rfl (.o (s := 3) rfl (by decide) .nil) (q_fa rfl rfl Try.underlying33 rfl rfl Try.sizeOf9 rfl) rfl) (aq rfl (fun γ => qp rfl rfl (.v 6 rfl rfl .nil) (q_load rfl rfl Try.isAgg9 (.obj 1 rfl rfl)) rfl) zA))))))))
 exact (ac (fun γ => eo (Z := Unit) (fun z => ()) rfl rfl (.v 3 rfl rfl (.v 5 rfl rfl (.v 7 rfl rfl .nil))) (re_mput (ek := enc9) (ev := enc9) 3 x1_3 x1_4 rfl rfl rfl rfl Try.underlying60 key9 rfl) (fun _ => ⟨rfl, rfl, rfl, rfl, rfl, rfl, rfl, rfl, trivial⟩) (fun _ => .inl rfl) (fun z => Ent.refl _)) zA)
 intro g6v
 refine nrm_then (sr ?_)
 refine vq (q_build (v := .agg #[.int .i64 1, str ([] : List UInt8)]) rfl rfl (fun _ => by kernel_rfl)) rfl ?_
 refine simL_do (re_store 0 rfl rfl rfl Try.sizeOf28 rfl rfl (one_of (by rfl)) rfl rfl) rfl rfl ?_
 intro _
 refine simL_nil (nrm_then (sim_rtn ?_))
 exact rtn_fnC (vs := [.agg #[.int .i64 1, str ([] : List UInt8)]]) (m0_0, m0_1) rfl ⟨⟨b2v, rfl, load_agg 0 Try.isAgg28 Try.sizeOf28 rfl rfl⟩, trivial⟩ rfl (.sel 2 rfl (.sel 2 rfl (.sel 2 rfl (.sel 2 rfl (.nil _)))))

def kv_operations_2.f (x0_0 : List ((List UInt8) × (List UInt8))) (x0_1 : List ((Int) × (Ty86))) (x1_0 : Int) (x1_1 : Int) (x1_2 : Int) (x1_3 : List UInt8) (x1_4 : List UInt8) (x1_5 : List UInt8) : Option (Int × List UInt8 × (List ((List UInt8) × (List UInt8))) × (List ((Int) × (Ty86)))) := if (!((mget x0_0 x1_3).isSome)) = true then (some (2, ([] : List UInt8), x0_0, x0_1)) else (some (1, ([] : List UInt8), mdel x0_0 x1_3, x0_1))
theorem kv_operations_2.calls (W : World) (F : HA) (b0 : Nat) (m0_0 : Nat) (x0_0 : List ((List UInt8) × (List UInt8))) (m0_1 : Nat) (x0_1 : List ((Int) × (Ty86))) (x1_0 : Int) (x1_1 : Int) (x1_2 : Int) (x1_3 : List UInt8) (x1_4 : List UInt8) (x1_5 : List UInt8)  :
    Fn Try.prog W 45 [.pointer (some ⟨b0, 0, none⟩), .agg #[.int .i64 x1_0, .int .i64 x1_1, .int .i64 x1_2, str x1_3, str x1_4, str x1_5]] [obj b0 63 [.map (some m0_0), .map (some m0_1)], mapO m0_0 enc9 enc9 x0_0, mapO m0_1 enc3 enc42 x0_1] F (kv_operations_2.f x0_0 x0_1 x1_0 x1_1 x1_2 x1_3 x1_4 x1_5) (fun (r : Int × List UInt8 × (List ((List UInt8) × (List UInt8))) × (List ((Int) × (Ty86)))) (y : Nat × Nat) => .agg #[.int .i64 r.1, str r.2.1]) (fun r y => [obj b0 63 [.map (some y.1), .map (some y.2)], mapO y.1 enc9 enc9 r.2.2.1, mapO y.2 enc3 enc42 r.2.2.2]) := by
 unfold kv_operations_2.f
 refine fn_intro 27 Try.func45 rfl Try.ntmps45 rfl ?_
 refine sr ?_
 refine simL_eff (re_box rfl rfl rfl) rfl rfl rfl ?_
 intro b1v
 refine simL_eff (re_alloc rfl Try.zeroValue28 rfl) rfl rfl rfl ?_
 intro b2v
 refine simL_nil (nrm_then (sim_seq (sim_seq ?_)))
 refine sim_draw (Γ := Unit) () [[], [0], [0, 1], [0, 1, 2], [], [4], rL 6, rL 7, rL 8, rL 8, rL 9, rL 11] [] [0, 1, 2, 3, 4, 5, 6, 7, 8, 9, 10, 11] (fun i => [[0], [0], [0], [0], [0], [0], [0], [0], [0], [0], [0], [0]].getD i []) (fun i => [[], [], [], [], [], [], [], [], [], [], [], []].getD i []) (fun γ i => [.pointer (some ⟨b0, 0, none⟩), .pointer (some ⟨b0, 0, none⟩), .pointer (some ⟨b0, 0, none⟩), .map (some m0_0), .pointer (some ⟨b1v, 3, none⟩), str x1_3, .tuple #[str ((mget x0_0 x1_3).getD ([] : List UInt8)), .bool ((mget x0_0 x1_3).isSome)], .tuple #[str ((mget x0_0 x1_3).getD ([] : List UInt8)), .bool ((mget x0_0 x1_3).isSome)], str ((mget x0_0 x1_3).getD ([] : List UInt8)), .bool ((mget x0_0 x1_3).isSome), str ((mget x0_0 x1_3).getD ([] : List UInt8)), .bool ((mget x0_0 x1_3).isSome)].getD i undef) (fun j γ => [[obj b2v 28 [.int .i64 0, str ([] : List UInt8)], obj b1v 33 [.int .i64 x1_0, .int .i64 x1_1, .int .i64 x1_2, str x1_3, str x1_4, str x1_5], obj b0 63 [.map (some m0_0), .map (some m0_1)], mapO m0_0 enc9 enc9 x0_0, mapO m0_1 enc3 enc42 x0_1, F]].getD j []) (fun γ => [(0, .pointer (some ⟨b0, 0, none⟩)), (3, .pointer (some ⟨b1v, 0, none⟩)), (4, .pointer (some ⟨b2v, 0, none⟩)), (6, .bool ((mget x0_0 x1_3).isSome))]) mixed (by decide) (by decide) (by decide) (by decide) (by decide) (by decide) (by decide) 27 rfl (by decide) (by decide) (by decide) (Ent.refl _) ?_ ?_ (fun _ => ⟨rfl, rfl, rfl, rfl, trivial⟩) ?_
 exact (aq rfl (fun γ => qm rfl (.o (s := 0) rfl (by decide) .nil) rfl) (aq rfl (fun γ => qp rfl rfl (.v 0 rfl rfl .nil) (q_nil rfl rfl) rfl) (aq rfl (fun γ => qp rfl rfl (.v 1 rfl rfl .nil) (q_fa rfl rfl Try.underlying63 rfl rfl Try.sizeOf60 rfl) rfl) (aq rfl (fun γ => qp rfl rfl (.v 2 rfl rfl .nil) (q_load rfl rfl Try.isAgg60 (.obj 2 rfl rfl)) rfl) (aq rfl (fun γ => qp rfl rfl (.o (s := 3) rfl (by decide) .nil) (q_fa rfl rfl Try.underlying33 rfl rfl Try.sizeOf9 rfl) rfl) (aq rfl (fun γ => qp rfl rfl (.v 4 rfl rfl .nil) (q_load rfl rfl Try.isAgg9 (.obj 1 rfl rfl)) rfl) (aq rfl (fun γ => qp rfl rfl (.v 3 rfl rfl (.v 5 rfl rfl .nil)) ((q_mlook2 (ek := enc9) (ev := enc9) (z := ([] : List UInt8)) 3 x1_3 rfl rfl rfl Try.underlying60 key9 Try.zeroValue9 rfl : RQ _ _ _ _ (.tuple #[str ((mget x0_0 x1_3).getD ([] : List UInt8)), .bool ((mget x0_0 x1_3).isSome)]))) rfl) (aq rfl (fun γ => qm rfl (.v 6 rfl rfl .nil) rfl) (aq rfl (fun γ => qp rfl rfl (.v 7 rfl rfl .nil) (q_ext rfl rfl rfl) rfl) (aq rfl (fun γ => qp rfl rfl (.v 7 rfl rfl .nil) (q_ext rfl rfl rfl) rfl) (aq rfl (fun γ => qp rfl rfl (.v 8 rfl rfl .nil) (q_asg rfl rfl) rfl) (aq rfl (fun γ => qp rfl rfl (.v 9 rfl rfl .nil) (q_asg rfl rfl) rfl) zA))))))))))))
 exact zA
 intro g3v
 refine nrm_then (sr ?_)
 refine vm rfl rfl ?_
 refine vq (q_not rfl rfl) rfl (simL_nil (nrm_then ?_))
 refine sim_condb rfl (fun h4v => ?_) (fun h5v => ?_)
 refine sr ?_
 refine vq (q_build (v := .agg #[.int .i64 2, str ([] : List UInt8)]) rfl rfl (fun _ => by kernel_rfl)) rfl ?_
 refine simL_do (re_store 0 rfl rfl rfl Try.sizeOf28 rfl rfl (one_of (by rfl)) rfl rfl) rfl rfl ?_
 intro _
 refine simL_nil (nrm_then (sim_rtn ?_))
 refine rtn_then ?_
 exact rtn_fnC (vs := [.agg #[.int .i64 2, str ([] : List UInt8)]]) (m0_0, m0_1) rfl ⟨⟨b2v, rfl, load_agg 0 Try.isAgg28 Try.sizeOf28 rfl rfl⟩, trivial⟩ rfl (.sel 2 rfl (.sel 2 rfl (.sel 2 rfl (.sel 2 rfl (.nil _)))))
 refine sim_skip ?_
 refine nrm_then (sim_seq ?_)
 refine sim_draw (Γ := Unit) () [[], [0], [0, 1], [0, 1, 2], [], [4], rL 6] [6] [0, 1, 2, 3, 4, 5] (fun i => [[0], [0], [0], [0], [0], [0], []].getD i []) (fun i => [[], [], [], [], [], [], rL 6].getD i []) (fun γ i => [.pointer (some ⟨b0, 0, none⟩), .pointer (some ⟨b0, 0, none⟩), .pointer (some ⟨b0, 0, none⟩), .map (some m0_0), .pointer (some ⟨b1v, 3, none⟩), str x1_3, undef].getD i undef) (fun j γ => [[obj b2v 28 [.int .i64 0, str ([] : List UInt8)], obj b1v 33 [.int .i64 x1_0, .int .i64 x1_1, .int .i64 x1_2, str x1_3, str x1_4, str x1_5], obj b0 63 [.map (some m0_0), .map (some m0_1)], mapO m0_0 enc9 enc9 x0_0, mapO m0_1 enc3 enc42 x0_1, F], [obj b2v 28 [.int .i64 0, str ([] : List UInt8)], obj b1v 33 [.int .i64 x1_0, .int .i64 x1_1, .int .i64 x1_2, str x1_3, str x1_4, str x1_5], obj b0 63 [.map (some m0_0), .map (some m0_1)], mapO m0_0 enc9 enc9 (mdel x0_0 x1_3), mapO m0_1 enc3 enc42 x0_1, F]].getD j []) (fun γ => [(4, .pointer (some ⟨b2v, 0, none⟩))]) mixed (by decide) (by decide) (by decide) (by decide) (by decide) (by decide) (by decide) 27 rfl (by decide) (by decide) (by decide) (Ent.refl _) ?_ ?_ (fun _ => ⟨rfl, trivial⟩) ?_
 exact (aq rfl (fun γ => qm rfl (.o (s := 0) rfl (by decide) .nil) rfl) (aq rfl (fun γ => qp rfl rfl (.v 0 rfl rfl .nil) (q_nil rfl rfl) rfl) (aq rfl (fun γ => qp rfl rfl (.v 1 rfl rfl .nil) (q_fa rfl rfl Try.underlying63 rfl rfl Try.sizeOf60 rfl) rfl) (aq rfl (fun γ => qp rfl rfl (.v 2 rfl rfl .nil) (q_load rfl rfl Try.isAgg60 (.obj 2 rfl rfl)) rfl) (aq rfl (fun γ => qp rfl rfl (.o (s := 3) rfl (by decide) .nil) (q_fa rfl rfl Try.underlying33 rfl rfl Try.sizeOf9 rfl) rfl) (aq rfl (fun γ => qp rfl rfl (.v 4 rfl rfl .nil) (q_load rfl rfl Try.isAgg9 (.obj 1 rfl rfl)) rfl) zA))))))
 exact (ac (fun γ => eo (Z := Unit) (fun z => ()) rfl rfl (.v 3 rfl rfl (.v 5 rfl rfl .nil)) (re_mdel (ek := enc9) (ev := enc9) 3 x1_3 rfl rfl rfl rfl Try.underlying60 key9 rfl) (fun _ => ⟨rfl, rfl, rfl, rfl, rfl, rfl, trivial⟩) (fun _ => .inl rfl) (fun z => Ent.refl _)) zA)
 intro g6v
 refine nrm_then (sr ?_)
 refine vq (q_build (v := .agg #[.int .i64 1, str ([] : List UInt8)]) rfl rfl (fun _ => by kernel_rfl)) rfl ?_
 refine simL_do (re_store 0 rfl rfl rfl Try.sizeOf28 rfl rfl (one_of (by rfl)) rfl rfl) rfl rfl ?_
 intro _
 refine simL_nil (nrm_then (sim_rtn ?_))
 exact rtn_fnC (vs := [.agg #[.int .i64 1, str ([] : List UInt8)]]) (m0_0, m0_1) rfl ⟨⟨b2v, rfl, load_agg 0 Try.isAgg28 Try.sizeOf28 rfl rfl⟩, trivial⟩ rfl (.sel 2 rfl (.sel 2 rfl (.sel 2 rfl (.sel 2 rfl (.nil _)))))

def kv_operations_3.f (x0_0 : List ((List UInt8) × (List UInt8))) (x0_1 : List ((Int) × (Ty86))) (x1_0 : Int) (x1_1 : Int) (x1_2 : Int) (x1_3 : List UInt8) (x1_4 : List UInt8) (x1_5 : List UInt8) : Option (Int × List UInt8 × (List ((List UInt8) × (List UInt8))) × (List ((Int) × (Ty86)))) := if (!((mget x0_0 x1_3).isSome)) = true then (some (2, ([] : List UInt8), x0_0, x0_1)) else (if ((mget x0_0 x1_3).getD ([] : List UInt8)) = x1_5 then (some (1, ([] : List UInt8), mput x0_0 x1_3 x1_4, x0_1)) else (some (3, ((mget x0_0 x1_3).getD ([] : List UInt8)), x0_0, x0_1)))
theorem kv_operations_3.calls (W : World) (F : HA) (b0 : Nat) (m0_0 : Nat) (x0_0 : List ((List UInt8) × (List UInt8))) (m0_1 : Nat) (x0_1 : List ((Int) × (Ty86))) (x1_0 : Int) (x1_1 : Int) (x1_2 : Int) (x1_3 : List UInt8) (x1_4 : List UInt8) (x1_5 : List UInt8)  :
    Fn Try.prog W 46 [.pointer (some ⟨b0, 0, none⟩), .agg #[.int .i64 x1_0, .int .i64 x1_1, .int .i64 x1_2, str x1_3, str x1_4, str x1_5]] [obj b0 63 [.map (some m0_0), .map (some m0_1)], mapO m0_0 enc9 enc9 x0_0, mapO m0_1 enc3 enc42 x0_1] F (kv_operations_3.f x0_0 x0_1 x1_0 x1_1 x1_2 x1_3 x1_4 x1_5) (fun (r : Int × List UInt8 × (List ((List UInt8) × (List UInt8))) × (List ((Int) × (Ty86)))) (y : Nat × Nat) => .agg #[.int .i64 r.1, str r.2.1]) (fun r y => [obj b0 63 [.map (some y.1), .map (some y.2)], mapO y.1 enc9 enc9 r.2.2.1, mapO y.2 enc3 enc42 r.2.2.2]) := by
 unfold kv_operations_3.f
 refine fn_intro 35 Try.func46 rfl Try.ntmps46 rfl ?_
 refine sr ?_
 refine simL_eff (re_box rfl rfl rfl) rfl rfl rfl ?_
 intro b1v
 refine simL_eff (re_alloc rfl Try.zeroValue28 rfl) rfl rfl rfl ?_
 intro b2v
 refine simL_nil (nrm_then (sim_seq ?_))
 refine sim_draw (Γ := Unit) () [[], [0], [0, 1], [0, 1, 2], [], [4], rL 6, rL 7, rL 8, rL 8, rL 9, rL 11] [] [0, 1, 2, 3, 4, 5, 6, 7, 8, 9, 10, 11] (fun i => [[0], [0], [0], [0], [0], [0], [0], [0], [0], [0], [0], [0]].getD i []) (fun i => [[], [], [], [], [], [], [], [], [], [], [], []].getD i []) (fun γ i => [.pointer (some ⟨b0, 0, none⟩), .pointer (some ⟨b0, 0, none⟩), .pointer (some ⟨b0, 0, none⟩), .map (some m0_0), .pointer (some ⟨b1v, 3, none⟩), str x1_3, .tuple #[str ((mget x0_0 x1_3).getD ([] : List UInt8)), .bool ((mget x0_0 x1_3).isSome)], .tuple #[str ((mget x0_0 x1_3).getD ([] : List UInt8)), .bool ((mget x0_0 x1_3).isSome)], str ((mget x0_0 x1_3).getD ([] : List UInt8)), .bool ((mget x0_0 x1_3).isSome), str ((mget x0_0 x1_3).getD ([] : List UInt8)), .bool ((mget x0_0 x1_3).isSome)].getD i undef) (fun j γ => [[obj b2v 28 [.int .i64 0, str ([] : List UInt8)], obj b1v 33 [.int .i64 x1_0, .int .i64 x1_1, .int .i64 x1_2, str x1_3, str x1_4, str x1_5], obj b0 63 [.map (some m0_0), .map (some m0_1)], mapO m0_0 enc9 enc9 x0_0, mapO m0_1 enc3 enc42 x0_1, F]].getD j []) (fun γ => [(0, .pointer (some ⟨b0, 0, none⟩)), (3, .pointer (some ⟨b1v, 0, none⟩)), (4, .pointer (some ⟨b2v, 0, none⟩)), (5, str ((mget x0_0 x1_3).getD ([] : List UInt8))), (6, .bool ((mget x0_0 x1_3).isSome))]) mixed (by decide) (by decide) (by decide) (by decide) (by decide) (by decide) (by decide) 35 rfl (by decide) (by decide) (by decide) (Ent.refl _) ?_ ?_ (fun _ => ⟨rfl, rfl, rfl, rfl, rfl, trivial⟩) ?_
 exact (aq rfl (fun γ => qm rfl (.o (s := 0) rfl (by decide) .nil) rfl) (aq rfl (fun γ => qp rfl rfl (.v 0 rfl rfl .nil) (q_nil rfl rfl) rfl) (aq rfl (fun γ => qp rfl rfl (.v 1 rfl rfl .nil) (q_fa rfl rfl Try.underlying63 rfl rfl Try.sizeOf60 rfl) rfl) (aq rfl (fun γ => qp rfl rfl (.v 2 rfl rfl .nil) (q_load rfl rfl Try.isAgg60 (.obj 2 rfl rfl)) rfl) (aq rfl (fun γ => qp rfl rfl (.o (s := 3) rfl (by decide) .nil) (q_fa rfl rfl Try.underlying33 rfl rfl Try.sizeOf9 rfl) rfl) (aq rfl (fun γ => qp rfl rfl (.v 4 rfl rfl .nil) (q_load rfl rfl Try.isAgg9 (.obj 1 rfl rfl)) rfl) (aq rfl (fun γ => qp rfl rfl (.v 3 rfl rfl (.v 5 rfl rfl .nil)) ((q_mlook2 (ek := enc9) (ev := enc9) (z := ([] : List UInt8)) 3 x1_3 rfl rfl rfl Try.underlying60 key9 Try.zeroValue9 rfl : RQ _ _ _ _ (.tuple #[str ((mget x0_0 x1_3).getD ([] : List UInt8)), .bool ((mget x0_0 x1_3).isSome)]))) rfl) (aq rfl (fun γ => qm rfl (.v 6 rfl rfl .nil) rfl) (aq rfl (fun γ => qp rfl rfl (.v 7 rfl rfl .nil) (q_ext rfl rfl rfl) rfl) (aq rfl (fun γ => qp rfl rfl (.v 7 rfl rfl .nil) (q_ext rfl rfl rfl) rfl) (aq rfl (fun γ => qp rfl rfl (.v 8 rfl rfl .nil) (q_asg rfl rfl) rfl) (aq rfl (fun γ => qp rfl rfl (.v 9 rfl rfl .nil) (q_asg rfl rfl) rfl) zA))))))))))))
 exact zA
 intro g3v
 refine nrm_then (sim_seq (sr ?_))
 refine vm rfl rfl ?_
 refine vq (q_not rfl rfl) rfl (simL_nil (nrm_then ?_))
 refine sim_condb rfl (fun h4v => ?_) (fun h5v => ?_)
 refine sr ?_
 refine vq (q_build (v := .agg #[.int .i64 2, str ([] : List UInt8)]) rfl rfl (fun _ => by kernel_rfl)) rfl ?_
 refine simL_do (re_store 0 rfl rfl rfl Try.sizeOf28 rfl rfl (one_of (by rfl)) rfl rfl) rfl rfl ?_
 intro _
 refine simL_nil (nrm_then (sim_rtn ?_))
 refine rtn_then ?_
 exact rtn_fnC (vs := [.agg #[.int .i64 2, str ([] : List UInt8)]]) (m0_0, m0_1) rfl ⟨⟨b2v, rfl, load_agg 0 Try.isAgg28 Try.sizeOf28 rfl rfl⟩, trivial⟩ rfl (.sel 2 rfl (.sel 2 rfl (.sel 2 rfl (.sel 2 rfl (.nil _)))))
 refine sim_skip ?_
 refine nrm_then (sim_seq (sr ?_))
 refine vm rfl rfl ?_
 refine vq (q_fa rfl rfl Try.underlying33 rfl rfl Try.sizeOf9 rfl) rfl ?_
 refine vq (q_load rfl rfl Try.isAgg9 (.obj 1 rfl rfl)) rfl ?_
 refine vq (q_nes rfl rfl rfl) rfl (simL_nil (nrm_then ?_))
 refine sim_condn rfl (fun h6v => ?_) (fun h7v => ?_)
 refine sim_skip ?_
 refine nrm_then (sim_seq ?_)
 refine sim_draw (Γ := Unit) () [[], [0], [0, 1], [0, 1, 2], [], [4], [], [6], rL 8] [8] [0, 1, 2, 3, 4, 5, 6, 7] (fun i => [[0], [0], [0], [0], [0], [0], [0], [0], []].getD i []) (fun i => [[], [], [], [], [], [], [], [], rL 8].getD i []) (fun γ i => [.pointer (some ⟨b0, 0, none⟩), .pointer (some ⟨b0, 0, none⟩), .pointer (some ⟨b0, 0, none⟩), .map (some m0_0), .pointer (some ⟨b1v, 3, none⟩), str x1_3, .pointer (some ⟨b1v, 4, none⟩), str x1_4, undef].getD i undef) (fun j γ => [[obj b2v 28 [.int .i64 0, str ([] : List UInt8)], obj b1v 33 [.int .i64 x1_0, .int .i64 x1_1, .int .i64 x1_2, str x1_3, str x1_4, str x1_5], obj b0 63 [.map (some m0_0), .map (some m0_1)], mapO m0_0 enc9 enc9 x0_0, mapO m0_1 enc3 enc42 x0_1, F], [obj b2v 28 [.int .i64 0, str ([] : List UInt8)], obj b1v 33 [.int .i64 x1_0, .int .i64 x1_1, .int .i64 x1_2, str x1_3, str x1_4, str x1_5], obj b0 63 [.map (some m0_0), .map (some m0_1)], mapO m0_0 enc9 enc9 (mput x0_0 x1_3 x1_4), mapO m0_1 enc3 enc42 x0_1, F]].getD j []) (fun γ => [(4, .pointer (some ⟨b2v, 0, none⟩))]) mixed (by decide) (by decide) (by decide) (by decide) (by decide) (by decide) (by decide) 35 rfl (by decide) (by decide) (by decide) (Ent.refl _) ?_ ?_ (fun _ => ⟨rfl, trivial⟩) ?_
 exact (aq rfl (fun γ => qm rfl (.o (s := 0) rfl (by decide) .nil) rfl) (aq rfl (fun γ => qp rfl rfl (.v 0 rfl rfl .nil) (q_nil rfl rfl) rfl) (aq rfl (fun γ => qp rfl rfl (.v 1 rfl rfl .nil) (q_fa rfl rfl Try.underlying63 rfl rfl Try.sizeOf60 rfl) rfl) (aq rfl (fun γ => qp rfl rfl (.v 2 rfl rfl .nil) (q_load rfl rfl Try.isAgg60 (.obj 2 rfl rfl)) rfl) (aq rfl (fun γ => qp rfl rfl (.o (s := 3) rfl (by decide) .nil) (q_fa rfl rfl Try.underlying33 rfl rfl Try.sizeOf9 rfl) rfl) (aq rfl (fun γ => qp rfl rfl (.v 4 rfl rfl .nil) (q_load rfl rfl Try.isAgg9 (.obj 1 rfl rfl)) rfl) (aq rfl (fun γ => qp rfl rfl (.o (s := 3) rfl (by decide) .nil) (q_fa rfl rfl Try.underlying33 rfl rfl Try.sizeOf9 rfl) rfl) (aq rfl (fun γ => qp rfl rfl (.v 6 rfl rfl .nil) (q_load rfl rfl Try.isAgg9 (.obj 1 rfl rfl)) rfl) zA))))))))
 exact (ac (fun γ => eo (Z := Unit) (fun z => ()) rfl rfl (.v 3 rfl rfl (.v 5 rfl rfl (.v 7 rfl rfl .nil))) (re_mput (ek := enc9) (ev := enc9) 3 x1_3 x1_4 rfl rfl rfl rfl Try.underlying60 key9 rfl) (fun _ => ⟨rfl, rfl, rfl, rfl, rfl, rfl, rfl, rfl, trivial⟩) (fun _ => .inl rfl) (fun z => Ent.refl _)) zA)
 intro g8v
 refine nrm_then (sr ?_)
 refine vq (q_build (v := .agg #[.int .i64 1, str ([] : List UInt8)]) rfl rfl (fun _ => by kernel_rfl)) rfl ?_
 refine simL_do (re_store 0 rfl rfl rfl Try.sizeOf28 rfl rfl (one_of (by rfl)) rfl rfl) rfl rfl ?_
 intro _
 refine simL_nil (nrm_then (sim_rtn ?_))
 exact rtn_fnC (vs := [.agg #[.int .i64 1, str ([] : List UInt8)]]) (m0_0, m0_1) rfl ⟨⟨b2v, rfl, load_agg 0 Try.isAgg28 Try.sizeOf28 rfl rfl⟩, trivial⟩ rfl (.sel 2 rfl (.sel 2 rfl (.sel 2 rfl (.sel 2 rfl (.nil _)))))
 refine sr ?_
 refine vm rfl rfl ?_
 refine vq (q_build (v := .agg #[.int .i64 3, str ((mget x0_0 x1_3).getD ([] : List UInt8))]) rfl rfl (fun _ => by kernel_rfl)) rfl ?_
 refine simL_do (re_store 0 rfl rfl rfl Try.sizeOf28 rfl rfl (one_of (by rfl)) rfl rfl) rfl rfl ?_
 intro _
 refine simL_nil (nrm_then (sim_rtn ?_))
 refine rtn_then ?_
 exact rtn_fnC (vs := [.agg #[.int .i64 3, str ((mget x0_0 x1_3).getD ([] : List UInt8))]]) (m0_0, m0_1) rfl ⟨⟨b2v, rfl, load_agg 0 Try.isAgg28 Try.sizeOf28 rfl rfl⟩, trivial⟩ rfl (.sel 2 rfl (.sel 2 rfl (.sel 2 rfl (.sel 2 rfl (.nil _)))))

def kv_operations.f  : Option (Unit) := some ()
theorem kv_operations.calls (W : World) (F : HA)   :
    Fn Try.prog W 27 [] [] F (kv_operations.f ) (fun (r : Unit) (y : Nat) => .map (some y)) (fun r y => [mapO y enc3 enc68 (mput (mput (mput ([] : List ((Int) × (Option Nat))) (2 : Int) (some 44)) (3 : Int) (some 45)) (4 : Int) (some 46))]) := by
 unfold kv_operations.f
 refine fn_intro 3 Try.func27 rfl Try.ntmps27 rfl ?_
 refine sr ?_
 refine va rfl rfl (nx ?_)
 refine simL_eff (re_mkmap (ek := enc3) (ev := enc68) rfl) rfl rfl rfl ?_
 intro b1v
 refine simL_do (re_mins (ek := enc3) (ev := enc68) 0 (2 : Int) (some 44) rfl rfl rfl rfl Try.underlying69 key3 rfl) rfl rfl ?_
 intro _
 refine simL_do (re_mins (ek := enc3) (ev := enc68) 0 (3 : Int) (some 45) rfl rfl rfl rfl Try.underlying69 key3 rfl) rfl rfl ?_
 intro _
 refine simL_do (re_mins (ek := enc3) (ev := enc68) 0 (4 : Int) (some 46) rfl rfl rfl rfl Try.underlying69 key3 rfl) rfl rfl ?_
 intro _
 refine vm rfl rfl ?_
 refine va rfl rfl (simL_nil (nrm_then (sim_rtn ?_)))
 exact rtn_fn b1v rfl rfl rfl (.sel 0 rfl (.sel 0 rfl (.nil _)))

def kv_Store_Do.f (x0_0 : List ((List UInt8) × (List UInt8))) (x0_1 : List ((Int) × (Ty86))) (x1_0 : Int) (x1_1 : Int) (x1_2 : Int) (x1_3 : List UInt8) (x1_4 : List UInt8) (x1_5 : List UInt8) : Option (Int × List UInt8 × Int × (List ((List UInt8) × (List UInt8))) × (List ((Int) × (Ty86)))) := (codec_Commands_Check.f x1_0 x1_1 x1_2 x1_3 x1_4 x1_5).bind fun s3v => (if s3v = (0 : Int) then (if (((mget x0_1 x1_1).isSome) && (decide (x1_2 = ((mget x0_1 x1_1).getD dz86).2.1))) = true then (some (((mget x0_1 x1_1).getD dz86).2.2.1, ((mget x0_1 x1_1).getD dz86).2.2.2, 0, x0_0, x0_1)) else (if (((mget x0_1 x1_1).isSome) && (decide (x1_2 < ((mget x0_1 x1_1).getD dz86).2.1))) = true then (some (4, ([] : List UInt8), 0, x0_0, x0_1)) else (if ((!((mget x0_1 x1_1).isSome)) && (decide ((32 : Int) ≤ (x0_1.length : Int)))) = true then (some (5, ([] : List UInt8), 0, x0_0, x0_1)) else ((if x1_0 = (2 : Int) then ((kv_operations.f).bind fun s19v => ((kv_operations_1.f x0_0 x0_1 x1_0 x1_1 x1_2 x1_3 x1_4 x1_5).bind fun s22v => (some (s22v.1, s22v.2.1, s22v.2.2.1, s22v.2.2.2)))) else (if x1_0 = (3 : Int) then ((kv_operations.f).bind fun s28v => ((kv_operations_2.f x0_0 x0_1 x1_0 x1_1 x1_2 x1_3 x1_4 x1_5).bind fun s31v => (some (s31v.1, s31v.2.1, s31v.2.2.1, s31v.2.2.2)))) else (if x1_0 = (4 : Int) then ((kv_operations.f).bind fun s37v => ((kv_operations_3.f x0_0 x0_1 x1_0 x1_1 x1_2 x1_3 x1_4 x1_5).bind fun s40v => (some (s40v.1, s40v.2.1, s40v.2.2.1, s40v.2.2.2)))) else (none)))).bind fun s16v => (some (s16v.1, s16v.2.1, 0, s16v.2.2.1, mput s16v.2.2.2 x1_1 (x1_1, x1_2, s16v.1, s16v.2.1))))))) else (some (0, ([] : List UInt8), s3v, x0_0, x0_1)))
theorem kv_Store_Do.calls (W : World) (F : HA) (b0 : Nat) (m0_0 : Nat) (x0_0 : List ((List UInt8) × (List UInt8))) (m0_1 : Nat) (x0_1 : List ((Int) × (Ty86))) (x1_0 : Int) (x1_1 : Int) (x1_2 : Int) (x1_3 : List UInt8) (x1_4 : List UInt8) (x1_5 : List UInt8)  :
    Fn Try.prog W 12 [.pointer (some ⟨b0, 0, none⟩), .agg #[.int .i64 x1_0, .int .i64 x1_1, .int .i64 x1_2, str x1_3, str x1_4, str x1_5]] [obj b0 63 [.map (some m0_0), .map (some m0_1)], mapO m0_0 enc9 enc9 x0_0, mapO m0_1 enc3 enc42 x0_1] F (kv_Store_Do.f x0_0 x0_1 x1_0 x1_1 x1_2 x1_3 x1_4 x1_5) (fun (r : Int × List UInt8 × Int × (List ((List UInt8) × (List UInt8))) × (List ((Int) × (Ty86)))) (y : Nat × Nat) => .tuple #[.agg #[.int .i64 r.1, str r.2.1], .int .i64 r.2.2.1]) (fun r y => [obj b0 63 [.map (some y.1), .map (some y.2)], mapO y.1 enc9 enc9 r.2.2.2.1, mapO y.2 enc3 enc42 r.2.2.2.2]) := by
 unfold kv_Store_Do.f
 refine fn_intro 80 Try.func12 rfl Try.ntmps12 rfl ?_
 refine sr ?_
 refine simL_eff (re_box rfl rfl rfl) rfl rfl rfl ?_
 intro b1v
 refine simL_eff (re_alloc rfl Try.zeroValue28 rfl) rfl rfl rfl ?_
 intro b2v
 refine va rfl rfl (simL_nil (nrm_then (sim_seq (sr ?_))))
 refine vq (q_build (v := .agg #[]) rfl rfl (fun _ => by kernel_rfl)) rfl ?_
 refine vq (q_loado 1 rfl rfl Try.isAgg33 Try.sizeOf33 rfl rfl) rfl ?_
 refine simL_bind (fun s3v hs4v => ?_)
 refine simL_eff (re_call (vs := [.agg #[], .agg #[.int .i64 x1_0, .int .i64 x1_1, .int .i64 x1_2, str x1_3, str x1_4, str x1_5]]) (cap := []) (A := []) (rst := [obj b2v 28 [.int .i64 0, str ([] : List UInt8)], obj b1v 33 [.int .i64 x1_0, .int .i64 x1_1, .int .i64 x1_2, str x1_3, str x1_4, str x1_5], obj b0 63 [.map (some m0_0), .map (some m0_1)], mapO m0_0 enc9 enc9 x0_0, mapO m0_1 enc3 enc42 x0_1, F]) rfl rfl rfl rfl rfl rfl Try.call26 (.sel 0 rfl (.sel 0 rfl (.sel 0 rfl (.sel 0 rfl (.sel 0 rfl (.sel 0 rfl (.nil _))))))) (codec_Commands_Check.calls _ _ x1_0 x1_1 x1_2 x1_3 x1_4 x1_5 ) hs4v) rfl rfl rfl ?_
 intro y5v
 refine va rfl rfl (nx ?_)
 refine vm rfl rfl ?_
 refine vq (q_neq rfl rfl rfl) rfl (simL_nil (nrm_then ?_))
 refine sim_condn rfl (fun h6v => ?_) (fun h7v => ?_)
 refine sim_skip ?_
 refine nrm_then (sim_seq ?_)
 refine sim_draw (Γ := Nat) 0 [[], [0], [0, 1], [0, 1, 2], [], [4], rL 6, rL 7, rL 8, rL 8, [], [0, 1, 2, 3, 4, 5, 6, 7, 8, 10], rL 12] [10, 11] [0, 1, 2, 3, 4, 5, 6, 7, 8, 9, 12] (fun i => [[0, 1], [0, 1], [0, 1], [0, 1], [0, 1], [0, 1], [0, 1], [0, 1], [0, 1], [0, 1, 2], [], [], [2]].getD i []) (fun i => [[], [], [], [], [], [], [], [], [], [], rL 10, rL 11, []].getD i []) (fun γ i => [.pointer (some ⟨b0, 0, none⟩), .pointer (some ⟨b0, 0, none⟩), .pointer (some ⟨b0, 1, none⟩), .map (some m0_1), .pointer (some ⟨b1v, 1, none⟩), .int .i64 x1_1, .tuple #[.agg #[.int .i64 (((mget x0_1 x1_1).getD dz86).1), .int .i64 (((mget x0_1 x1_1).getD dz86).2.1), .int .i64 (((mget x0_1 x1_1).getD dz86).2.2.1), str (((mget x0_1 x1_1).getD dz86).2.2.2)], .bool ((mget x0_1 x1_1).isSome)], .tuple #[.agg #[.int .i64 (((mget x0_1 x1_1).getD dz86).1), .int .i64 (((mget x0_1 x1_1).getD dz86).2.1), .int .i64 (((mget x0_1 x1_1).getD dz86).2.2.1), str (((mget x0_1 x1_1).getD dz86).2.2.2)], .bool ((mget x0_1 x1_1).isSome)], .agg #[.int .i64 (((mget x0_1 x1_1).getD dz86).1), .int .i64 (((mget x0_1 x1_1).getD dz86).2.1), .int .i64 (((mget x0_1 x1_1).getD dz86).2.2.1), str (((mget x0_1 x1_1).getD dz86).2.2.2)], .bool ((mget x0_1 x1_1).isSome), .pointer (some ⟨γ, 0, none⟩), undef, .bool ((mget x0_1 x1_1).isSome)].getD i undef) (fun j γ => [[obj b2v 28 [.int .i64 0, str ([] : List UInt8)], obj b1v 33 [.int .i64 x1_0, .int .i64 x1_1, .int .i64 x1_2, str x1_3, str x1_4, str x1_5], obj b0 63 [.map (some m0_0), .map (some m0_1)], mapO m0_0 enc9 enc9 x0_0, mapO m0_1 enc3 enc42 x0_1, F], [obj γ 42 [.int .i64 0, .int .i64 0, .int .i64 0, str ([] : List UInt8)], obj b2v 28 [.int .i64 0, str ([] : List UInt8)], obj b1v 33 [.int .i64 x1_0, .int .i64 x1_1, .int .i64 x1_2, str x1_3, str x1_4, str x1_5], obj b0 63 [.map (some m0_0), .map (some m0_1)], mapO m0_0 enc9 enc9 x0_0, mapO m0_1 enc3 enc42 x0_1, F], [obj γ 42 [.int .i64 (((mget x0_1 x1_1).getD dz86).1), .int .i64 (((mget x0_1 x1_1).getD dz86).2.1), .int .i64 (((mget x0_1 x1_1).getD dz86).2.2.1), str (((mget x0_1 x1_1).getD dz86).2.2.2)], obj b2v 28 [.int .i64 0, str ([] : List UInt8)], obj b1v 33 [.int .i64 x1_0, .int .i64 x1_1, .int .i64 x1_2, str x1_3, str x1_4, str x1_5], obj b0 63 [.map (some m0_0), .map (some m0_1)], mapO m0_0 enc9 enc9 x0_0, mapO m0_1 enc3 enc42 x0_1, F]].getD j []) (fun γ => [(0, .pointer (some ⟨b0, 0, none⟩)), (3, .pointer (some ⟨b1v, 0, none⟩)), (4, .pointer (some ⟨b2v, 0, none⟩)), (7, .pointer (some ⟨γ, 0, none⟩)), (8, .bool ((mget x0_1 x1_1).isSome))]) mixed (by decide) (by decide) (by decide) (by decide) (by decide) (by decide) (by decide) 80 rfl (by decide) (by decide) (by decide) (Ent.refl _) ?_ ?_ (fun _ => ⟨rfl, rfl, rfl, rfl, rfl, trivial⟩) ?_
 exact (ac (fun γ => (ac (qm rfl (.o (s := 0) rfl (by decide) .nil) rfl) (ac (qm rfl (.o (s := 0) rfl (by decide) .nil) rfl) zA))) (ac (fun γ => (ac (qp rfl rfl (.v 0 rfl rfl .nil) (q_nil rfl rfl) rfl) (ac (qp rfl rfl (.v 0 rfl rfl .nil) (q_nil rfl rfl) rfl) zA))) (ac (fun γ => (ac (qp rfl rfl (.v 1 rfl rfl .nil) (q_fa rfl rfl Try.underlying63 rfl rfl Try.sizeOf61 rfl) rfl) (ac (qp rfl rfl (.v 1 rfl rfl .nil) (q_fa rfl rfl Try.underlying63 rfl rfl Try.sizeOf61 rfl) rfl) zA))) (ac (fun γ => (ac (qp rfl rfl (.v 2 rfl rfl .nil) (q_load rfl rfl Try.isAgg61 (.obj 2 rfl rfl)) rfl) (ac (qp rfl rfl (.v 2 rfl rfl .nil) (q_load rfl rfl Try.isAgg61 (.obj 3 rfl rfl)) rfl) zA))) (ac (fun γ => (ac (qp rfl rfl (.o (s := 3) rfl (by decide) .nil) (q_fa rfl rfl Try.underlying33 rfl rfl Try.sizeOf3 rfl) rfl) (ac (qp rfl rfl (.o (s := 3) rfl (by decide) .nil) (q_fa rfl rfl Try.underlying33 rfl rfl Try.sizeOf3 rfl) rfl) zA))) (ac (fun γ => (ac (qp rfl rfl (.v 4 rfl rfl .nil) (q_load rfl rfl Try.isAgg3 (.obj 1 rfl rfl)) rfl) (ac (qp rfl rfl (.v 4 rfl rfl .nil) (q_load rfl rfl Try.isAgg3 (.obj 2 rfl rfl)) rfl) zA))) (ac (fun γ => (ac (qp rfl rfl (.v 3 rfl rfl (.v 5 rfl rfl .nil)) ((q_mlook2 (ek := enc3) (ev := enc42) (z := dz86) 4 x1_1 rfl rfl rfl Try.underlying61 key3 Try.zeroValue42 rfl : RQ _ _ _ _ (.tuple #[.agg #[.int .i64 (((mget x0_1 x1_1).getD dz86).1), .int .i64 (((mget x0_1 x1_1).getD dz86).2.1), .int .i64 (((mget x0_1 x1_1).getD dz86).2.2.1), str (((mget x0_1 x1_1).getD dz86).2.2.2)], .bool ((mget x0_1 x1_1).isSome)]))) rfl) (ac (qp rfl rfl (.v 3 rfl rfl (.v 5 rfl rfl .nil)) ((q_mlook2 (ek := enc3) (ev := enc42) (z := dz86) 5 x1_1 rfl rfl rfl Try.underlying61 key3 Try.zeroValue42 rfl : RQ _ _ _ _ (.tuple #[.agg #[.int .i64 (((mget x0_1 x1_1).getD dz86).1), .int .i64 (((mget x0_1 x1_1).getD dz86).2.1), .int .i64 (((mget x0_1 x1_1).getD dz86).2.2.1), str (((mget x0_1 x1_1).getD dz86).2.2.2)], .bool ((mget x0_1 x1_1).isSome)]))) rfl) zA))) (ac (fun γ => (ac (qm rfl (.v 6 rfl rfl .nil) rfl) (ac (qm rfl (.v 6 rfl rfl .nil) rfl) zA))) (ac (fun γ => (ac (qp rfl rfl (.v 7 rfl rfl .nil) (q_ext rfl rfl rfl) rfl) (ac (qp rfl rfl (.v 7 rfl rfl .nil) (q_ext rfl rfl rfl) rfl) zA))) (ac (fun γ => (ac (qp rfl rfl (.v 7 rfl rfl .nil) (q_ext rfl rfl rfl) rfl) (ac (qp rfl rfl (.v 7 rfl rfl .nil) (q_ext rfl rfl rfl) rfl) (ac (qp rfl rfl (.v 7 rfl rfl .nil) (q_ext rfl rfl rfl) rfl) zA)))) (aq rfl (fun γ => qp rfl rfl (.v 9 rfl rfl .nil) (q_asg rfl rfl) rfl) zA)))))))))))
 exact (ac (fun γ => eo (Z := Nat) (fun z => z) rfl rfl .nil (re_alloc rfl Try.zeroValue42 rfl) (fun _ => ⟨rfl, rfl, rfl, rfl, rfl, rfl, rfl, rfl, rfl, rfl, trivial⟩) (fun _ => .inr rfl) (fun z => Ent.refl _)) (ac (fun γ => eo (Z := Unit) (fun z => γ) rfl rfl (.v 10 rfl rfl (.v 8 rfl rfl .nil)) (re_store 0 rfl rfl rfl Try.sizeOf42 rfl rfl (one_of (by rfl)) rfl rfl) (fun _ => ⟨rfl, rfl, rfl, rfl, rfl, rfl, rfl, rfl, rfl, rfl, rfl, trivial⟩) (fun _ => .inl rfl) (fun z => Ent.refl _)) zA))
 intro g9v
 refine nrm_then (sim_seq ?_)
 refine sim_block ?_
 refine sr ?_
 refine vm rfl rfl ?_
 refine vm rfl rfl ?_
 refine simL_valc (b := (mget x0_1 x1_1).isSome) (fun hb61v => RQ.sub (E' := [(3, .pointer (some ⟨b1v, 0, none⟩))]) ⟨rfl, trivial⟩ (q_fa rfl rfl Try.underlying33 rfl rfl Try.sizeOf3 rfl)) rfl rfl rfl rfl rfl ?_
 refine simL_valc (b := (mget x0_1 x1_1).isSome) (fun hb60v => RQ.sub (E' := [(30, .pointer (some ⟨b1v, 2, none⟩))]) ⟨lk_cv rfl hb60v, trivial⟩ (q_load rfl rfl Try.isAgg3 (.obj 2 rfl rfl))) rfl rfl rfl rfl rfl ?_
 refine simL_valc (b := (mget x0_1 x1_1).isSome) (fun hb59v => RQ.sub (E' := [(7, .pointer (some ⟨g9v, 0, none⟩))]) ⟨rfl, trivial⟩ (q_fa rfl rfl Try.underlying42 rfl rfl Try.sizeOf3 rfl)) rfl rfl rfl rfl rfl ?_
 refine simL_valc (b := (mget x0_1 x1_1).isSome) (fun hb58v => RQ.sub (E' := [(32, .pointer (some ⟨g9v, 1, none⟩))]) ⟨lk_cv rfl hb58v, trivial⟩ (q_load rfl rfl Try.isAgg3 (.obj 0 rfl rfl))) rfl rfl rfl rfl rfl ?_
 refine simL_valc (b := (mget x0_1 x1_1).isSome) (fun hb57v => RQ.sub (E' := [(31, .int .i64 x1_2), (33, .int .i64 (((mget x0_1 x1_1).getD dz86).2.1))]) ⟨lk_cv rfl hb57v, lk_cv rfl hb57v, trivial⟩ (q_eql rfl rfl rfl)) rfl rfl rfl rfl rfl ?_
 refine vq (q_and rfl rfl rfl) rfl ?_
 refine va rfl rfl (simL_nil (nrm_then ?_))
 refine sim_condb rfl (fun h10v => ?_) (fun h11v => ?_)
 refine sr ?_
 refine vq (q_fa rfl rfl Try.underlying42 rfl rfl Try.sizeOf28 rfl) rfl ?_
 refine vq (q_loads (vs := [.int .i64 (((mget x0_1 x1_1).getD dz86).2.2.1), str (((mget x0_1 x1_1).getD dz86).2.2.2)]) rfl rfl Try.isAgg28 Try.sizeOf28 rfl (cells_obj 0 rfl (cells_lit rfl))) rfl ?_
 refine simL_do (re_store 1 rfl rfl rfl Try.sizeOf28 rfl rfl (one_of (by rfl)) rfl rfl) rfl rfl ?_
 intro _
 refine va rfl rfl (simL_nil (nrm_then (sim_rtn ?_)))
 refine rtn_block ?_
 refine rtn_then ?_
 exact rtn_fnC (vs := [.agg #[.int .i64 (((mget x0_1 x1_1).getD dz86).2.2.1), str (((mget x0_1 x1_1).getD dz86).2.2.2)], .int .i64 0]) (m0_0, m0_1) rfl ⟨⟨b2v, rfl, load_agg 1 Try.isAgg28 Try.sizeOf28 rfl rfl⟩, rfl, trivial⟩ rfl (.sel 3 rfl (.sel 3 rfl (.sel 3 rfl (.sel 3 rfl (.nil _)))))
 refine sr ?_
 refine vm rfl rfl ?_
 refine vm rfl rfl ?_
 refine simL_valc (b := (mget x0_1 x1_1).isSome) (fun hb56v => RQ.sub (E' := [(3, .pointer (some ⟨b1v, 0, none⟩))]) ⟨rfl, trivial⟩ (q_fa rfl rfl Try.underlying33 rfl rfl Try.sizeOf3 rfl)) rfl rfl rfl rfl rfl ?_
 refine simL_valc (b := (mget x0_1 x1_1).isSome) (fun hb55v => RQ.sub (E' := [(41, .pointer (some ⟨b1v, 2, none⟩))]) ⟨lk_cv rfl hb55v, trivial⟩ (q_load rfl rfl Try.isAgg3 (.obj 2 rfl rfl))) rfl rfl rfl rfl rfl ?_
 refine simL_valc (b := (mget x0_1 x1_1).isSome) (fun hb54v => RQ.sub (E' := [(7, .pointer (some ⟨g9v, 0, none⟩))]) ⟨rfl, trivial⟩ (q_fa rfl rfl Try.underlying42 rfl rfl Try.sizeOf3 rfl)) rfl rfl rfl rfl rfl ?_
 refine simL_valc (b := (mget x0_1 x1_1).isSome) (fun hb53v => RQ.sub (E' := [(43, .pointer (some ⟨g9v, 1, none⟩))]) ⟨lk_cv rfl hb53v, trivial⟩ (q_load rfl rfl Try.isAgg3 (.obj 0 rfl rfl))) rfl rfl rfl rfl rfl ?_
 refine simL_valc (b := (mget x0_1 x1_1).isSome) (fun hb52v => RQ.sub (E' := [(42, .int .i64 x1_2), (44, .int .i64 (((mget x0_1 x1_1).getD dz86).2.1))]) ⟨lk_cv rfl hb52v, lk_cv rfl hb52v, trivial⟩ (q_lss rfl rfl rfl)) rfl rfl rfl rfl rfl ?_
 refine vq (q_and rfl rfl rfl) rfl ?_
 refine va rfl rfl (simL_nil (nrm_then ?_))
 refine sim_condb rfl (fun h12v => ?_) (fun h13v => ?_)
 refine sr ?_
 refine vq (q_build (v := .agg #[.int .i64 4, str ([] : List UInt8)]) rfl rfl (fun _ => by kernel_rfl)) rfl ?_
 refine simL_do (re_store 1 rfl rfl rfl Try.sizeOf28 rfl rfl (one_of (by rfl)) rfl rfl) rfl rfl ?_
 intro _
 refine va rfl rfl (simL_nil (nrm_then (sim_rtn ?_)))
 refine rtn_block ?_
 refine rtn_then ?_
 exact rtn_fnC (vs := [.agg #[.int .i64 4, str ([] : List UInt8)], .int .i64 0]) (m0_0, m0_1) rfl ⟨⟨b2v, rfl, load_agg 1 Try.isAgg28 Try.sizeOf28 rfl rfl⟩, rfl, trivial⟩ rfl (.sel 3 rfl (.sel 3 rfl (.sel 3 rfl (.sel 3 rfl (.nil _)))))
 refine sr ?_
 refine vm rfl rfl ?_
 refine vq (q_not rfl rfl) rfl ?_
 refine vm rfl rfl ?_
 refine simL_valc (b := !((mget x0_1 x1_1).isSome)) (fun hb51v => RQ.sub (E' := [(0, .pointer (some ⟨b0, 0, none⟩))]) ⟨rfl, trivial⟩ (q_move rfl rfl)) rfl rfl rfl rfl rfl ?_
 refine simL_valc (b := !((mget x0_1 x1_1).isSome)) (fun hb50v => RQ.sub (E' := [(52, .pointer (some ⟨b0, 0, none⟩))]) ⟨lk_cv rfl hb50v, trivial⟩ (q_nil rfl rfl)) rfl rfl rfl rfl rfl ?_
 refine simL_valc (b := !((mget x0_1 x1_1).isSome)) (fun hb49v => RQ.sub (E' := [(53, .pointer (some ⟨b0, 0, none⟩))]) ⟨lk_cv rfl hb49v, trivial⟩ (q_fa rfl rfl Try.underlying63 rfl rfl Try.sizeOf61 rfl)) rfl rfl rfl rfl rfl ?_
 refine simL_valc (b := !((mget x0_1 x1_1).isSome)) (fun hb48v => RQ.sub (E' := [(54, .pointer (some ⟨b0, 1, none⟩))]) ⟨lk_cv rfl hb48v, trivial⟩ (q_load rfl rfl Try.isAgg61 (.obj 3 rfl rfl))) rfl rfl rfl rfl rfl ?_
 refine simL_valc (b := !((mget x0_1 x1_1).isSome)) (fun hb47v => RQ.sub (E' := [(55, .map (some m0_1))]) ⟨lk_cv rfl hb47v, trivial⟩ (q_mlen 5 rfl rfl rfl Try.underlying61 rfl)) rfl rfl rfl rfl rfl ?_
 refine simL_valc (b := !((mget x0_1 x1_1).isSome)) (fun hb46v => RQ.sub (E' := [(56, .int .i64 (x0_1.length : Int))]) ⟨lk_cv rfl hb46v, trivial⟩ (q_geq rfl rfl rfl)) rfl rfl rfl rfl rfl ?_
 refine vq (q_and rfl rfl rfl) rfl ?_
 refine va rfl rfl (simL_nil (nrm_then ?_))
 refine sim_condb rfl (fun h14v => ?_) (fun h15v => ?_)
 refine sr ?_
 refine vq (q_build (v := .agg #[.int .i64 5, str ([] : List UInt8)]) rfl rfl (fun _ => by kernel_rfl)) rfl ?_
 refine simL_do (re_store 1 rfl rfl rfl Try.sizeOf28 rfl rfl (one_of (by rfl)) rfl rfl) rfl rfl ?_
 intro _
 refine va rfl rfl (simL_nil (nrm_then (sim_rtn ?_)))
 refine rtn_block ?_
 refine rtn_then ?_
 exact rtn_fnC (vs := [.agg #[.int .i64 5, str ([] : List UInt8)], .int .i64 0]) (m0_0, m0_1) rfl ⟨⟨b2v, rfl, load_agg 1 Try.isAgg28 Try.sizeOf28 rfl rfl⟩, rfl, trivial⟩ rfl (.sel 3 rfl (.sel 3 rfl (.sel 3 rfl (.sel 3 rfl (.nil _)))))
 refine sim_skip ?_
 refine nrm_block (nrm_then ?_)
 refine sim_cut (S := Int × List UInt8 × (List ((List UInt8) × (List UInt8))) × (List ((Int) × (Ty86)))) (Nat × Nat × Nat) (fun s y => [(0, .pointer (some ⟨b0, 0, none⟩)), (3, .pointer (some ⟨b1v, 0, none⟩)), (4, .pointer (some ⟨b2v, 0, none⟩)), (9, .pointer (some ⟨y.1, 0, none⟩))]) (fun s y => [obj b0 63 [.map (some y.2.1), .map (some y.2.2)], obj b2v 28 [.int .i64 0, str ([] : List UInt8)], obj b1v 33 [.int .i64 x1_0, .int .i64 x1_1, .int .i64 x1_2, str x1_3, str x1_4, str x1_5], obj y.1 28 [.int .i64 s.1, str s.2.1], mapO y.2.1 enc9 enc9 s.2.2.1, mapO y.2.2 enc3 enc42 s.2.2.2, F]) ?_ ?_
 refine sim_if (fun hk18v => ?_) (fun hk18v => ?_)
 refine sim_bind (fun s19v hs20v => ?_)
 refine sim_bind (fun s22v hs23v => ?_)
 refine sim_drawI (Γ := Nat × (Nat × Nat) × Nat) (0, (0, 0), 0) [[], [], [1], [0, 1, 2], [], [], rL 6, [], rL 8] [0, 6, 7, 8] [1, 2, 3, 4, 5] [[], [0], [0, 6], [7], [0, 7], [0, 6, 7], [0, 6, 7, 8]] 6 (fun i => [[0, 3], [0, 1, 3, 4], [0, 1, 3, 4], [1, 4], [0, 1, 3, 4], [0, 1, 3, 4], [1, 4], [0, 1, 2], [5]].getD i []) (fun i s => ([[1, 0, 0, 4, 0, 0, 0], [], [], [], [], [], [0, 2, 0, 0, 5, 0, 0], [3, 4, 5, 0, 0, 0, 0], [0, 0, 0, 0, 0, 6, 0]].getD i []).getD s 0) (fun i => [[1, 2, 4, 5, 7], [], [], [], [], [], [0, 1, 2, 3, 4, 5, 7], rL 7, rL 8].getD i []) (fun γ i => [.map (some γ.1), .pointer (some ⟨b1v, 0, none⟩), .int .i64 x1_0, .func (.func 44) #[] #[], .pointer (some ⟨b0, 0, none⟩), .agg #[.int .i64 x1_0, .int .i64 x1_1, .int .i64 x1_2, str x1_3, str x1_4, str x1_5], .agg #[.int .i64 s22v.1, str s22v.2.1], .pointer (some ⟨γ.2.2, 0, none⟩), undef].getD i undef) (fun j γ => [[obj g9v 42 [.int .i64 (((mget x0_1 x1_1).getD dz86).1), .int .i64 (((mget x0_1 x1_1).getD dz86).2.1), .int .i64 (((mget x0_1 x1_1).getD dz86).2.2.1), str (((mget x0_1 x1_1).getD dz86).2.2.2)], obj b2v 28 [.int .i64 0, str ([] : List UInt8)], obj b1v 33 [.int .i64 x1_0, .int .i64 x1_1, .int .i64 x1_2, str x1_3, str x1_4, str x1_5], obj b0 63 [.map (some m0_0), .map (some m0_1)], mapO m0_0 enc9 enc9 x0_0, mapO m0_1 enc3 enc42 x0_1, F], [mapO γ.1 enc3 enc68 (mput (mput (mput ([] : List ((Int) × (Option Nat))) (2 : Int) (some 44)) (3 : Int) (some 45)) (4 : Int) (some 46)), obj g9v 42 [.int .i64 (((mget x0_1 x1_1).getD dz86).1), .int .i64 (((mget x0_1 x1_1).getD dz86).2.1), .int .i64 (((mget x0_1 x1_1).getD dz86).2.2.1), str (((mget x0_1 x1_1).getD dz86).2.2.2)], obj b2v 28 [.int .i64 0, str ([] : List UInt8)], obj b1v 33 [.int .i64 x1_0, .int .i64 x1_1, .int .i64 x1_2, str x1_3, str x1_4, str x1_5], obj b0 63 [.map (some m0_0), .map (some m0_1)], mapO m0_0 enc9 enc9 x0_0, mapO m0_1 enc3 enc42 x0_1, F], [obj b0 63 [.map (some γ.2.1.1), .map (some γ.2.1.2)], mapO γ.2.1.1 enc9 enc9 s22v.2.2.1, mapO γ.2.1.2 enc3 enc42 s22v.2.2.2, mapO γ.1 enc3 enc68 (mput (mput (mput ([] : List ((Int) × (Option Nat))) (2 : Int) (some 44)) (3 : Int) (some 45)) (4 : Int) (some 46)), obj g9v 42 [.int .i64 (((mget x0_1 x1_1).getD dz86).1), .int .i64 (((mget x0_1 x1_1).getD dz86).2.1), .int .i64 (((mget x0_1 x1_1).getD dz86).2.2.1), str (((mget x0_1 x1_1).getD dz86).2.2.2)], obj b2v 28 [.int .i64 0, str ([] : List UInt8)], obj b1v 33 [.int .i64 x1_0, .int .i64 x1_1, .int .i64 x1_2, str x1_3, str x1_4, str x1_5], F], [obj γ.2.2 28 [.int .i64 0, str ([] : List UInt8)], obj g9v 42 [.int .i64 (((mget x0_1 x1_1).getD dz86).1), .int .i64 (((mget x0_1 x1_1).getD dz86).2.1), .int .i64 (((mget x0_1 x1_1).getD dz86).2.2.1), str (((mget x0_1 x1_1).getD dz86).2.2.2)], obj b2v 28 [.int .i64 0, str ([] : List UInt8)], obj b1v 33 [.int .i64 x1_0, .int .i64 x1_1, .int .i64 x1_2, str x1_3, str x1_4, str x1_5], obj b0 63 [.map (some m0_0), .map (some m0_1)], mapO m0_0 enc9 enc9 x0_0, mapO m0_1 enc3 enc42 x0_1, F], [obj γ.2.2 28 [.int .i64 0, str ([] : List UInt8)], mapO γ.1 enc3 enc68 (mput (mput (mput ([] : List ((Int) × (Option Nat))) (2 : Int) (some 44)) (3 : Int) (some 45)) (4 : Int) (some 46)), obj g9v 42 [.int .i64 (((mget x0_1 x1_1).getD dz86).1), .int .i64 (((mget x0_1 x1_1).getD dz86).2.1), .int .i64 (((mget x0_1 x1_1).getD dz86).2.2.1), str (((mget x0_1 x1_1).getD dz86).2.2.2)], obj b2v 28 [.int .i64 0, str ([] : List UInt8)], obj b1v 33 [.int .i64 x1_0, .int .i64 x1_1, .int .i64 x1_2, str x1_3, str x1_4, str x1_5], obj b0 63 [.map (some m0_0), .map (some m0_1)], mapO m0_0 enc9 enc9 x0_0, mapO m0_1 enc3 enc42 x0_1, F], [obj γ.2.2 28 [.int .i64 0, str ([] : List UInt8)], obj b0 63 [.map (some γ.2.1.1), .map (some γ.2.1.2)], mapO γ.2.1.1 enc9 enc9 s22v.2.2.1, mapO γ.2.1.2 enc3 enc42 s22v.2.2.2, mapO γ.1 enc3 enc68 (mput (mput (mput ([] : List ((Int) × (Option Nat))) (2 : Int) (some 44)) (3 : Int) (some 45)) (4 : Int) (some 46)), obj g9v 42 [.int .i64 (((mget x0_1 x1_1).getD dz86).1), .int .i64 (((mget x0_1 x1_1).getD dz86).2.1), .int .i64 (((mget x0_1 x1_1).getD dz86).2.2.1), str (((mget x0_1 x1_1).getD dz86).2.2.2)], obj b2v 28 [.int .i64 0, str ([] : List UInt8)], obj b1v 33 [.int .i64 x1_0, .int .i64 x1_1, .int .i64 x1_2, str x1_3, str x1_4, str x1_5], F], [obj γ.2.2 28 [.int .i64 s22v.1, str s22v.2.1], obj b0 63 [.map (some γ.2.1.1), .map (some γ.2.1.2)], mapO γ.2.1.1 enc9 enc9 s22v.2.2.1, mapO γ.2.1.2 enc3 enc42 s22v.2.2.2, mapO γ.1 enc3 enc68 (mput (mput (mput ([] : List ((Int) × (Option Nat))) (2 : Int) (some 44)) (3 : Int) (some 45)) (4 : Int) (some 46)), obj g9v 42 [.int .i64 (((mget x0_1 x1_1).getD dz86).1), .int .i64 (((mget x0_1 x1_1).getD dz86).2.1), .int .i64 (((mget x0_1 x1_1).getD dz86).2.2.1), str (((mget x0_1 x1_1).getD dz86).2.2.2)], obj b2v 28 [.int .i64 0, str ([] : List UInt8)], obj b1v 33 [.int .i64 x1_0, .int .i64 x1_1, .int .i64 x1_2, str x1_3, str x1_4, str x1_5], F]].getD j []) (fun γ => [(0, .pointer (some ⟨b0, 0, none⟩)), (3, .pointer (some ⟨b1v, 0, none⟩)), (4, .pointer (some ⟨b2v, 0, none⟩)), (9, .pointer (some ⟨γ.2.2, 0, none⟩))]) mixed (by decide) (by decide) (by decide) (by decide) (by decide) (by decide) 80 rfl (by decide) (by decide) (by decide) (by decide) (by decide) (by decide) (Ent.refl _) ?_ ?_ (fun _ => ⟨rfl, rfl, rfl, rfl, trivial⟩) ?_
 exact (ac (fun γ => (ac (qp rfl rfl (.o (s := 3) rfl (by decide) .nil) (q_fa rfl rfl Try.underlying33 rfl rfl Try.sizeOf3 rfl) rfl) (ac (qp rfl rfl (.o (s := 3) rfl (by decide) .nil) (q_fa rfl rfl Try.underlying33 rfl rfl Try.sizeOf3 rfl) rfl) (ac (qp rfl rfl (.o (s := 3) rfl (by decide) .nil) (q_fa rfl rfl Try.underlying33 rfl rfl Try.sizeOf3 rfl) rfl) (ac (qp rfl rfl (.o (s := 3) rfl (by decide) .nil) (q_fa rfl rfl Try.underlying33 rfl rfl Try.sizeOf3 rfl) rfl) zA))))) (ac (fun γ => (ac (qp rfl rfl (.v 1 rfl rfl .nil) (q_load rfl rfl Try.isAgg3 (.obj 2 rfl rfl)) rfl) (ac (qp rfl rfl (.v 1 rfl rfl .nil) (q_load rfl rfl Try.isAgg3 (.obj 3 rfl rfl)) rfl) (ac (qp rfl rfl (.v 1 rfl rfl .nil) (q_load rfl rfl Try.isAgg3 (.obj 3 rfl rfl)) rfl) (ac (qp rfl rfl (.v 1 rfl rfl .nil) (q_load rfl rfl Try.isAgg3 (.obj 4 rfl rfl)) rfl) zA))))) (ac (fun γ => (ac (qp rfl rfl (.v 0 rfl rfl (.v 2 rfl rfl .nil)) ((RQ.eq (by rw [hk18v]; rfl) (q_mlook (ek := enc3) (ev := enc68) (z := none) 0 x1_0 rfl rfl rfl Try.underlying69 key3 Try.zeroValue68 rfl) : RQ _ _ _ _ (.func (.func 44) #[] #[]))) rfl) (ac (qp rfl rfl (.v 0 rfl rfl (.v 2 rfl rfl .nil)) ((RQ.eq (by rw [hk18v]; rfl) (q_mlook (ek := enc3) (ev := enc68) (z := none) 1 x1_0 rfl rfl rfl Try.underlying69 key3 Try.zeroValue68 rfl) : RQ _ _ _ _ (.func (.func 44) #[] #[]))) rfl) zA))) (ac (fun γ => (ac (qm rfl (.o (s := 0) rfl (by decide) .nil) rfl) (ac (qm rfl (.o (s := 0) rfl (by decide) .nil) rfl) (ac (qm rfl (.o (s := 0) rfl (by decide) .nil) rfl) (ac (qm rfl (.o (s := 0) rfl (by decide) .nil) rfl) zA))))) (ac (fun γ => (ac (qp rfl rfl (.o (s := 3) rfl (by decide) .nil) (q_loado 2 rfl rfl Try.isAgg33 Try.sizeOf33 rfl rfl) rfl) (ac (qp rfl rfl (.o (s := 3) rfl (by decide) .nil) (q_loado 3 rfl rfl Try.isAgg33 Try.sizeOf33 rfl rfl) rfl) (ac (qp rfl rfl (.o (s := 3) rfl (by decide) .nil) (q_loado 3 rfl rfl Try.isAgg33 Try.sizeOf33 rfl rfl) rfl) (ac (qp rfl rfl (.o (s := 3) rfl (by decide) .nil) (q_loado 4 rfl rfl Try.isAgg33 Try.sizeOf33 rfl rfl) rfl) zA))))) zA)))))
 exact (ac (fun γ => (ac (eoI (Z := Nat) (fun z => (z, γ.2.1, γ.2.2)) rfl rfl .nil (re_call (vs := []) (cap := []) (A := []) (rst := [obj g9v 42 [.int .i64 (((mget x0_1 x1_1).getD dz86).1), .int .i64 (((mget x0_1 x1_1).getD dz86).2.1), .int .i64 (((mget x0_1 x1_1).getD dz86).2.2.1), str (((mget x0_1 x1_1).getD dz86).2.2.2)], obj b2v 28 [.int .i64 0, str ([] : List UInt8)], obj b1v 33 [.int .i64 x1_0, .int .i64 x1_1, .int .i64 x1_2, str x1_3, str x1_4, str x1_5], obj b0 63 [.map (some m0_0), .map (some m0_1)], mapO m0_0 enc9 enc9 x0_0, mapO m0_1 enc3 enc42 x0_1, F]) rfl rfl rfl rfl rfl rfl Try.call27 (.sel 0 rfl (.sel 0 rfl (.sel 0 rfl (.sel 0 rfl (.sel 0 rfl (.sel 0 rfl (.sel 0 rfl (.nil _)))))))) (kv_operations.calls _ _  ) hs20v) (fun _ => ⟨rfl, rfl, rfl, rfl, rfl, trivial⟩) (fun _ => .inr rfl) (fun z => (.sel 0 rfl (.sel 0 rfl (.sel 0 rfl (.sel 0 rfl (.sel 0 rfl (.sel 0 rfl (.sel 0 rfl (.sel 0 rfl (.nil _))))))))))) (ac (eoI (Z := Nat) (fun z => (z, γ.2.1, γ.2.2)) rfl rfl .nil (re_call (vs := []) (cap := []) (A := []) (rst := [obj γ.2.2 28 [.int .i64 0, str ([] : List UInt8)], obj g9v 42 [.int .i64 (((mget x0_1 x1_1).getD dz86).1), .int .i64 (((mget x0_1 x1_1).getD dz86).2.1), .int .i64 (((mget x0_1 x1_1).getD dz86).2.2.1), str (((mget x0_1 x1_1).getD dz86).2.2.2)], obj b2v 28 [.int .i64 0, str ([] : List UInt8)], obj b1v 33 [.int .i64 x1_0, .int .i64 x1_1, .int .i64 x1_2, str x1_3, str x1_4, str x1_5], obj b0 63 [.map (some m0_0), .map (some m0_1)], mapO m0_0 enc9 enc9 x0_0, mapO m0_1 enc3 enc42 x0_1, F]) rfl rfl rfl rfl rfl rfl Try.call27 (.sel 0 rfl (.sel 0 rfl (.sel 0 rfl (.sel 0 rfl (.sel 0 rfl (.sel 0 rfl (.sel 0 rfl (.sel 0 rfl (.nil _))))))))) (kv_operations.calls _ _  ) hs20v) (fun _ => ⟨rfl, rfl, rfl, rfl, rfl, trivial⟩) (fun _ => .inr rfl) (fun z => (.sel 1 rfl (.sel 0 rfl (.sel 0 rfl (.sel 0 rfl (.sel 0 rfl (.sel 0 rfl (.sel 0 rfl (.sel 0 rfl (.sel 0 rfl (.nil _)))))))))))) zA))) (ac (fun γ => (ac (eoI (Z := Nat × Nat) (fun z => (γ.1, z, γ.2.2)) rfl rfl (.v 3 rfl rfl (.v 4 rfl rfl (.v 5 rfl rfl .nil))) (re_call (vs := [.pointer (some ⟨b0, 0, none⟩), .agg #[.int .i64 x1_0, .int .i64 x1_1, .int .i64 x1_2, str x1_3, str x1_4, str x1_5]]) (cap := []) (A := [obj b0 63 [.map (some m0_0), .map (some m0_1)], mapO m0_0 enc9 enc9 x0_0, mapO m0_1 enc3 enc42 x0_1]) (rst := [mapO γ.1 enc3 enc68 (mput (mput (mput ([] : List ((Int) × (Option Nat))) (2 : Int) (some 44)) (3 : Int) (some 45)) (4 : Int) (some 46)), obj g9v 42 [.int .i64 (((mget x0_1 x1_1).getD dz86).1), .int .i64 (((mget x0_1 x1_1).getD dz86).2.1), .int .i64 (((mget x0_1 x1_1).getD dz86).2.2.1), str (((mget x0_1 x1_1).getD dz86).2.2.2)], obj b2v 28 [.int .i64 0, str ([] : List UInt8)], obj b1v 33 [.int .i64 x1_0, .int .i64 x1_1, .int .i64 x1_2, str x1_3, str x1_4, str x1_5], F]) rfl rfl rfl rfl rfl rfl Try.call44 (.sel 4 rfl (.sel 4 rfl (.sel 4 rfl (.sel 0 rfl (.sel 0 rfl (.sel 0 rfl (.sel 0 rfl (.sel 0 rfl (.nil _))))))))) (kv_operations_1.calls _ _ b0 m0_0 x0_0 m0_1 x0_1 x1_0 x1_1 x1_2 x1_3 x1_4 x1_5 ) hs23v) (fun _ => ⟨rfl, rfl, rfl, rfl, rfl, rfl, rfl, trivial⟩) (fun _ => .inr rfl) (fun z => (.sel 0 rfl (.sel 0 rfl (.sel 0 rfl (.sel 0 rfl (.sel 0 rfl (.sel 0 rfl (.sel 0 rfl (.sel 0 rfl (.nil _))))))))))) (ac (eoI (Z := Nat × Nat) (fun z => (γ.1, z, γ.2.2)) rfl rfl (.v 3 rfl rfl (.v 4 rfl rfl (.v 5 rfl rfl .nil))) (re_call (vs := [.pointer (some ⟨b0, 0, none⟩), .agg #[.int .i64 x1_0, .int .i64 x1_1, .int .i64 x1_2, str x1_3, str x1_4, str x1_5]]) (cap := []) (A := [obj b0 63 [.map (some m0_0), .map (some m0_1)], mapO m0_0 enc9 enc9 x0_0, mapO m0_1 enc3 enc42 x0_1]) (rst := [obj γ.2.2 28 [.int .i64 0, str ([] : List UInt8)], mapO γ.1 enc3 enc68 (mput (mput (mput ([] : List ((Int) × (Option Nat))) (2 : Int) (some 44)) (3 : Int) (some 45)) (4 : Int) (some 46)), obj g9v 42 [.int .i64 (((mget x0_1 x1_1).getD dz86).1), .int .i64 (((mget x0_1 x1_1).getD dz86).2.1), .int .i64 (((mget x0_1 x1_1).getD dz86).2.2.1), str (((mget x0_1 x1_1).getD dz86).2.2.2)], obj b2v 28 [.int .i64 0, str ([] : List UInt8)], obj b1v 33 [.int .i64 x1_0, .int .i64 x1_1, .int .i64 x1_2, str x1_3, str x1_4, str x1_5], F]) rfl rfl rfl rfl rfl rfl Try.call44 (.sel 5 rfl (.sel 5 rfl (.sel 5 rfl (.sel 0 rfl (.sel 0 rfl (.sel 0 rfl (.sel 0 rfl (.sel 0 rfl (.sel 0 rfl (.nil _)))))))))) (kv_operations_1.calls _ _ b0 m0_0 x0_0 m0_1 x0_1 x1_0 x1_1 x1_2 x1_3 x1_4 x1_5 ) hs23v) (fun _ => ⟨rfl, rfl, rfl, rfl, rfl, rfl, rfl, trivial⟩) (fun _ => .inr rfl) (fun z => (.sel 3 rfl (.sel 0 rfl (.sel 0 rfl (.sel 0 rfl (.sel 0 rfl (.sel 0 rfl (.sel 0 rfl (.sel 0 rfl (.sel 0 rfl (.nil _)))))))))))) zA))) (ac (fun γ => (ac (eoI (Z := Nat) (fun z => (γ.1, γ.2.1, z)) rfl rfl .nil (re_alloc rfl Try.zeroValue28 rfl) (fun _ => ⟨rfl, rfl, rfl, rfl, rfl, rfl, rfl, trivial⟩) (fun _ => .inr rfl) (fun z => (.sel 0 rfl (.sel 0 rfl (.sel 0 rfl (.sel 0 rfl (.sel 0 rfl (.sel 0 rfl (.sel 0 rfl (.sel 0 rfl (.nil _))))))))))) (ac (eoI (Z := Nat) (fun z => (γ.1, γ.2.1, z)) rfl rfl .nil (re_alloc rfl Try.zeroValue28 rfl) (fun _ => ⟨rfl, rfl, rfl, rfl, rfl, rfl, rfl, trivial⟩) (fun _ => .inr rfl) (fun z => (.sel 0 rfl (.sel 0 rfl (.sel 0 rfl (.sel 0 rfl (.sel 0 rfl (.sel 0 rfl (.sel 0 rfl (.sel 0 rfl (.sel 0 rfl (.nil _)))))))))))) (ac (eoI (Z := Nat) (fun z => (γ.1, γ.2.1, z)) rfl rfl .nil (re_alloc rfl Try.zeroValue28 rfl) (fun _ => ⟨rfl, rfl, rfl, rfl, rfl, rfl, rfl, trivial⟩) (fun _ => .inr rfl) (fun z => (.sel 0 rfl (.sel 0 rfl (.sel 0 rfl (.sel 0 rfl (.sel 0 rfl (.sel 0 rfl (.sel 0 rfl (.sel 0 rfl (.sel 0 rfl (.nil _)))))))))))) zA)))) (aq rfl (fun γ => eoI (Z := Unit) (fun z => (γ.1, γ.2.1, γ.2.2)) rfl rfl (.v 7 rfl rfl (.v 6 rfl rfl .nil)) (re_store 0 rfl rfl rfl Try.sizeOf28 rfl rfl (one_of (by rfl)) rfl rfl) (fun _ => ⟨rfl, rfl, rfl, rfl, rfl, rfl, rfl, rfl, trivial⟩) (fun _ => .inl rfl) (fun z => (.sel 0 rfl (.sel 0 rfl (.sel 0 rfl (.sel 0 rfl (.sel 0 rfl (.sel 0 rfl (.sel 0 rfl (.sel 0 rfl (.sel 0 rfl (.nil _)))))))))))) zA))))
 intro g26v
 exact nrm_cut (s := (s22v.1, s22v.2.1, s22v.2.2.1, s22v.2.2.2)) (g26v.2.2, g26v.2.1.1, g26v.2.1.2) ⟨rfl, rfl, rfl, rfl, trivial⟩ (.sel 1 rfl (.sel 5 rfl (.sel 5 rfl (.sel 0 rfl (.sel 0 rfl (.sel 0 rfl (.sel 2 rfl (.nil _))))))))
 refine sim_if (fun hk27v => ?_) (fun hk27v => ?_)
 refine sim_bind (fun s28v hs29v => ?_)
 refine sim_bind (fun s31v hs32v => ?_)
 refine sim_drawI (Γ := Nat × (Nat × Nat) × Nat) (0, (0, 0), 0) [[], [], [1], [0, 1, 2], [], [], rL 6, [], rL 8] [0, 6, 7, 8] [1, 2, 3, 4, 5] [[], [0], [0, 6], [7], [0, 7], [0, 6, 7], [0, 6, 7, 8]] 6 (fun i => [[0, 3], [0, 1, 3, 4], [0, 1, 3, 4], [1, 4], [0, 1, 3, 4], [0, 1, 3, 4], [1, 4], [0, 1, 2], [5]].getD i []) (fun i s => ([[1, 0, 0, 4, 0, 0, 0], [], [], [], [], [], [0, 2, 0, 0, 5, 0, 0], [3, 4, 5, 0, 0, 0, 0], [0, 0, 0, 0, 0, 6, 0]].getD i []).getD s 0) (fun i => [[1, 2, 4, 5, 7], [], [], [], [], [], [0, 1, 2, 3, 4, 5, 7], rL 7, rL 8].getD i []) (fun γ i => [.map (some γ.1), .pointer (some ⟨b1v, 0, none⟩), .int .i64 x1_0, .func (.func 45) #[] #[], .pointer (some ⟨b0, 0, none⟩), .agg #[.int .i64 x1_0, .int .i64 x1_1, .int .i64 x1_2, str x1_3, str x1_4, str x1_5], .agg #[.int .i64 s31v.1, str s31v.2.1], .pointer (some ⟨γ.2.2, 0, none⟩), undef].getD i undef) (fun j γ => [[obj g9v 42 [.int .i64 (((mget x0_1 x1_1).getD dz86).1), .int .i64 (((mget x0_1 x1_1).getD dz86).2.1), .int .i64 (((mget x0_1 x1_1).getD dz86).2.2.1), str (((mget x0_1 x1_1).getD dz86).2.2.2)], obj b2v 28 [.int .i64 0, str ([] : List UInt8)], obj b1v 33 [.int .i64 x1_0, .int .i64 x1_1, .int .i64 x1_2, str x1_3, str x1_4, str x1_5], obj b0 63 [.map (some m0_0), .map (some m0_1)], mapO m0_0 enc9 enc9 x0_0, mapO m0_1 enc3 enc42 x0_1, F], [mapO γ.1 enc3 enc68 (mput (mput (mput ([] : List ((Int) × (Option Nat))) (2 : Int) (some 44)) (3 : Int) (some 45)) (4 : Int) (some 46)), obj g9v 42 [.int .i64 (((mget x0_1 x1_1).getD dz86).1), .int .i64 (((mget x0_1 x1_1).getD dz86).2.1), .int .i64 (((mget x0_1 x1_1).getD dz86).2.2.1), str (((mget x0_1 x1_1).getD dz86).2.2.2)], obj b2v 28 [.int .i64 0, str ([] : List UInt8)], obj b1v 33 [.int .i64 x1_0, .int .i64 x1_1, .int .i64 x1_2, str x1_3, str x1_4, str x1_5], obj b0 63 [.map (some m0_0), .map (some m0_1)], mapO m0_0 enc9 enc9 x0_0, mapO m0_1 enc3 enc42 x0_1, F], [obj b0 63 [.map (some γ.2.1.1), .map (some γ.2.1.2)], mapO γ.2.1.1 enc9 enc9 s31v.2.2.1, mapO γ.2.1.2 enc3 enc42 s31v.2.2.2, mapO γ.1 enc3 enc68 (mput (mput (mput ([] : List ((Int) × (Option Nat))) (2 : Int) (some 44)) (3 : Int) (some 45)) (4 : Int) (some 46)), obj g9v 42 [.int .i64 (((mget x0_1 x1_1).getD dz86).1), .int .i64 (((mget x0_1 x1_1).getD dz86).2.1), .int .i64 (((mget x0_1 x1_1).getD dz86).2.2.1), str (((mget x0_1 x1_1).getD dz86).2.2.2)], obj b2v 28 [.int .i64 0, str ([] : List UInt8)], obj b1v 33 [.int .i64 x1_0, .int .i64 x1_1, .int .i64 x1_2, str x1_3, str x1_4, str x1_5], F], [obj γ.2.2 28 [.int .i64 0, str ([] : List UInt8)], obj g9v 42 [.int .i64 (((mget x0_1 x1_1).getD dz86).1), .int .i64 (((mget x0_1 x1_1).getD dz86).2.1), .int .i64 (((mget x0_1 x1_1).getD dz86).2.2.1), str (((mget x0_1 x1_1).getD dz86).2.2.2)], obj b2v 28 [.int .i64 0, str ([] : List UInt8)], obj b1v 33 [.int .i64 x1_0, .int .i64 x1_1, .int .i64 x1_2, str x1_3, str x1_4, str x1_5], obj b0 63 [.map (some m0_0), .map (some m0_1)], mapO m0_0 enc9 enc9 x0_0, mapO m0_1 enc3 enc42 x0_1, F], [obj γ.2.2 28 [.int .i64 0, str ([] : List UInt8)], mapO γ.1 enc3 enc68 (mput (mput (mput ([] : List ((Int) × (Option Nat))) (2 : Int) (some 44)) (3 : Int) (some 45)) (4 : Int) (some 46)), obj g9v 42 [.int .i64 (((mget x0_1 x1_1).getD dz86).1), .int .i64 (((mget x0_1 x1_1).getD dz86).2.1), .int .i64 (((mget x0_1 x1_1).getD dz86).2.2.1), str (((mget x0_1 x1_1).getD dz86).2.2.2)], obj b2v 28 [.int .i64 0, str ([] : List UInt8)], obj b1v 33 [.int .i64 x1_0, .int .i64 x1_1, .int .i64 x1_2, str x1_3, str x1_4, str x1_5], obj b0 63 [.map (some m0_0), .map (some m0_1)], mapO m0_0 enc9 enc9 x0_0, mapO m0_1 enc3 enc42 x0_1, F], [obj γ.2.2 28 [.int .i64 0, str ([] : List UInt8)], obj b0 63 [.map (some γ.2.1.1), .map (some γ.2.1.2)], mapO γ.2.1.1 enc9 enc9 s31v.2.2.1, mapO γ.2.1.2 enc3 enc42 s31v.2.2.2, mapO γ.1 enc3 enc68 (mput (mput (mput ([] : List ((Int) × (Option Nat))) (2 : Int) (some 44)) (3 : Int) (some 45)) (4 : Int) (some 46)), obj g9v 42 [.int .i64 (((mget x0_1 x1_1).getD dz86).1), .int .i64 (((mget x0_1 x1_1).getD dz86).2.1), .int .i64 (((mget x0_1 x1_1).getD dz86).2.2.1), str (((mget x0_1 x1_1).getD dz86).2.2.2)], obj b2v 28 [.int .i64 0, str ([] : List UInt8)], obj b1v 33 [.int .i64 x1_0, .int .i64 x1_1, .int .i64 x1_2, str x1_3, str x1_4, str x1_5], F], [obj γ.2.2 28 [.int .i64 s31v.1, str s31v.2.1], obj b0 63 [.map (some γ.2.1.1), .map (some γ.2.1.2)], mapO γ.2.1.1 enc9 enc9 s31v.2.2.1, mapO γ.2.1.2 enc3 enc42 s31v.2.2.2, mapO γ.1 enc3 enc68 (mput (mput (mput ([] : List ((Int) × (Option Nat))) (2 : Int) (some 44)) (3 : Int) (some 45)) (4 : Int) (some 46)), obj g9v 42 [.int .i64 (((mget x0_1 x1_1).getD dz86).1), .int .i64 (((mget x0_1 x1_1).getD dz86).2.1), .int .i64 (((mget x0_1 x1_1).getD dz86).2.2.1), str (((mget x0_1 x1_1).getD dz86).2.2.2)], obj b2v 28 [.int .i64 0, str ([] : List UInt8)], obj b1v 33 [.int .i64 x1_0, .int .i64 x1_1, .int .i64 x1_2, str x1_3, str x1_4, str x1_5], F]].getD j []) (fun γ => [(0, .pointer (some ⟨b0, 0, none⟩)), (3, .pointer (some ⟨b1v, 0, none⟩)), (4, .pointer (some ⟨b2v, 0, none⟩)), (9, .pointer (some ⟨γ.2.2, 0, none⟩))]) mixed (by decide) (by decide) (by decide) (by decide) (by decide) (by decide) 80 rfl (by decide) (by decide) (by decide) (by decide) (by decide) (by decide) (Ent.refl _) ?_ ?_ (fun _ => ⟨rfl, rfl, rfl, rfl, trivial⟩) ?_
 exact (ac (fun γ => (ac (qp rfl rfl (.o (s := 3) rfl (by decide) .nil) (q_fa rfl rfl Try.underlying33 rfl rfl Try.sizeOf3 rfl) rfl) (ac (qp rfl rfl (.o (s := 3) rfl (by decide) .nil) (q_fa rfl rfl Try.underlying33 rfl rfl Try.sizeOf3 rfl) rfl) (ac (qp rfl rfl (.o (s := 3) rfl (by decide) .nil) (q_fa rfl rfl Try.underlying33 rfl rfl Try.sizeOf3 rfl) rfl) (ac (qp rfl rfl (.o (s := 3) rfl (by decide) .nil) (q_fa rfl rfl Try.underlying33 rfl rfl Try.sizeOf3 rfl) rfl) zA))))) (ac (fun γ => (ac (qp rfl rfl (.v 1 rfl rfl .nil) (q_load rfl rfl Try.isAgg3 (.obj 2 rfl rfl)) rfl) (ac (qp rfl rfl (.v 1 rfl rfl .nil) (q_load rfl rfl Try.isAgg3 (.obj 3 rfl rfl)) rfl) (ac (qp rfl rfl (.v 1 rfl rfl .nil) (q_load rfl rfl Try.isAgg3 (.obj 3 rfl rfl)) rfl) (ac (qp rfl rfl (.v 1 rfl rfl .nil) (q_load rfl rfl Try.isAgg3 (.obj 4 rfl rfl)) rfl) zA))))) (ac (fun γ => (ac (qp rfl rfl (.v 0 rfl rfl (.v 2 rfl rfl .nil)) ((RQ.eq (by rw [hk27v]; rfl) (q_mlook (ek := enc3) (ev := enc68) (z := none) 0 x1_0 rfl rfl rfl Try.underlying69 key3 Try.zeroValue68 rfl) : RQ _ _ _ _ (.func (.func 45) #[] #[]))) rfl) (ac (qp rfl rfl (.v 0 rfl rfl (.v 2 rfl rfl .nil)) ((RQ.eq (by rw [hk27v]; rfl) (q_mlook (ek := enc3) (ev := enc68) (z := none) 1 x1_0 rfl rfl rfl Try.underlying69 key3 Try.zeroValue68 rfl) : RQ _ _ _ _ (.func (.func 45) #[] #[]))) rfl) zA))) (ac (fun γ => (ac (qm rfl (.o (s := 0) rfl (by decide) .nil) rfl) (ac (qm rfl (.o (s := 0) rfl (by decide) .nil) rfl) (ac (qm rfl (.o (s := 0) rfl (by decide) .nil) rfl) (ac (qm rfl (.o (s := 0) rfl (by decide) .nil) rfl) zA))))) (ac (fun γ => (ac (qp rfl rfl (.o (s := 3) rfl (by decide) .nil) (q_loado 2 rfl rfl Try.isAgg33 Try.sizeOf33 rfl rfl) rfl) (ac (qp rfl rfl (.o (s := 3) rfl (by decide) .nil) (q_loado 3 rfl rfl Try.isAgg33 Try.sizeOf33 rfl rfl) rfl) (ac (qp rfl rfl (.o (s := 3) rfl (by decide) .nil) (q_loado 3 rfl rfl Try.isAgg33 Try.sizeOf33 rfl rfl) rfl) (ac (qp rfl rfl (.o (s := 3) rfl (by decide) .nil) (q_loado 4 rfl rfl Try.isAgg33 Try.sizeOf33 rfl rfl) rfl) zA))))) zA)))))
 exact (ac (fun γ => (ac (eoI (Z := Nat) (fun z => (z, γ.2.1, γ.2.2)) rfl rfl .nil (re_call (vs := []) (cap := []) (A := []) (rst := [obj g9v 42 [.int .i64 (((mget x0_1 x1_1).getD dz86).1), .int .i64 (((mget x0_1 x1_1).getD dz86).2.1), .int .i64 (((mget x0_1 x1_1).getD dz86).2.2.1), str (((mget x0_1 x1_1).getD dz86).2.2.2)], obj b2v 28 [.int .i64 0, str ([] : List UInt8)], obj b1v 33 [.int .i64 x1_0, .int .i64 x1_1, .int .i64 x1_2, str x1_3, str x1_4, str x1_5], obj b0 63 [.map (some m0_0), .map (some m0_1)], mapO m0_0 enc9 enc9 x0_0, mapO m0_1 enc3 enc42 x0_1, F]) rfl rfl rfl rfl rfl rfl Try.call27 (.sel 0 rfl (.sel 0 rfl (.sel 0 rfl (.sel 0 rfl (.sel 0 rfl (.sel 0 rfl (.sel 0 rfl (.nil _)))))))) (kv_operations.calls _ _  ) hs29v) (fun _ => ⟨rfl, rfl, rfl, rfl, rfl, trivial⟩) (fun _ => .inr rfl) (fun z => (.sel 0 rfl (.sel 0 rfl (.sel 0 rfl (.sel 0 rfl (.sel 0 rfl (.sel 0 rfl (.sel 0 rfl (.sel 0 rfl (.nil _))))))))))) (ac (eoI (Z := Nat) (fun z => (z, γ.2.1, γ.2.2)) rfl rfl .nil (re_call (vs := []) (cap := []) (A := []) (rst := [obj γ.2.2 28 [.int .i64 0, str ([] : List UInt8)], obj g9v 42 [.int .i64 (((mget x0_1 x1_1).getD dz86).1), .int .i64 (((mget x0_1 x1_1).getD dz86).2.1), .int .i64 (((mget x0_1 x1_1).getD dz86).2.2.1), str (((mget x0_1 x1_1).getD dz86).2.2.2)], obj b2v 28 [.int .i64 0, str ([] : List UInt8)], obj b1v 33 [.int .i64 x1_0, .int .i64 x1_1, .int .i64 x1_2, str x1_3, str x1_4, str x1_5], obj b0 63 [.map (some m0_0), .map (some m0_1)], mapO m0_0 enc9 enc9 x0_0, mapO m0_1 enc3 enc42 x0_1, F]) rfl rfl rfl rfl rfl rfl Try.call27 (.sel 0 rfl (.sel 0 rfl (.sel 0 rfl (.sel 0 rfl (.sel 0 rfl (.sel 0 rfl (.sel 0 rfl (.sel 0 rfl (.nil _))))))))) (kv_operations.calls _ _  ) hs29v) (fun _ => ⟨rfl, rfl, rfl, rfl, rfl, trivial⟩) (fun _ => .inr rfl) (fun z => (.sel 1 rfl (.sel 0 rfl (.sel 0 rfl (.sel 0 rfl (.sel 0 rfl (.sel 0 rfl (.sel 0 rfl (.sel 0 rfl (.sel 0 rfl (.nil _)))))))))))) zA))) (ac (fun γ => (ac (eoI (Z := Nat × Nat) (fun z => (γ.1, z, γ.2.2)) rfl rfl (.v 3 rfl rfl (.v 4 rfl rfl (.v 5 rfl rfl .nil))) (re_call (vs := [.pointer (some ⟨b0, 0, none⟩), .agg #[.int .i64 x1_0, .int .i64 x1_1, .int .i64 x1_2, str x1_3, str x1_4, str x1_5]]) (cap := []) (A := [obj b0 63 [.map (some m0_0), .map (some m0_1)], mapO m0_0 enc9 enc9 x0_0, mapO m0_1 enc3 enc42 x0_1]) (rst := [mapO γ.1 enc3 enc68 (mput (mput (mput ([] : List ((Int) × (Option Nat))) (2 : Int) (some 44)) (3 : Int) (some 45)) (4 : Int) (some 46)), obj g9v 42 [.int .i64 (((mget x0_1 x1_1).getD dz86).1), .int .i64 (((mget x0_1 x1_1).getD dz86).2.1), .int .i64 (((mget x0_1 x1_1).getD dz86).2.2.1), str (((mget x0_1 x1_1).getD dz86).2.2.2)], obj b2v 28 [.int .i64 0, str ([] : List UInt8)], obj b1v 33 [.int .i64 x1_0, .int .i64 x1_1, .int .i64 x1_2, str x1_3, str x1_4, str x1_5], F]) rfl rfl rfl rfl rfl rfl Try.call45 (.sel 4 rfl (.sel 4 rfl (.sel 4 rfl (.sel 0 rfl (.sel 0 rfl (.sel 0 rfl (.sel 0 rfl (.sel 0 rfl (.nil _))))))))) (kv_operations_2.calls _ _ b0 m0_0 x0_0 m0_1 x0_1 x1_0 x1_1 x1_2 x1_3 x1_4 x1_5 ) hs32v) (fun _ => ⟨rfl, rfl, rfl, rfl, rfl, rfl, rfl, trivial⟩) (fun _ => .inr rfl) (fun z => (.sel 0 rfl (.sel 0 rfl (.sel 0 rfl (.sel 0 rfl (.sel 0 rfl (.sel 0 rfl (.sel 0 rfl (.sel 0 rfl (.nil _))))))))))) (ac (eoI (Z := Nat × Nat) (fun z => (γ.1, z, γ.2.2)) rfl rfl (.v 3 rfl rfl (.v 4 rfl rfl (.v 5 rfl rfl .nil))) (re_call (vs := [.pointer (some ⟨b0, 0, none⟩), .agg #[.int .i64 x1_0, .int .i64 x1_1, .int .i64 x1_2, str x1_3, str x1_4, str x1_5]]) (cap := []) (A := [obj b0 63 [.map (some m0_0), .map (some m0_1)], mapO m0_0 enc9 enc9 x0_0, mapO m0_1 enc3 enc42 x0_1]) (rst := [obj γ.2.2 28 [.int .i64 0, str ([] : List UInt8)], mapO γ.1 enc3 enc68 (mput (mput (mput ([] : List ((Int) × (Option Nat))) (2 : Int) (some 44)) (3 : Int) (some 45)) (4 : Int) (some 46)), obj g9v 42 [.int .i64 (((mget x0_1 x1_1).getD dz86).1), .int .i64 (((mget x0_1 x1_1).getD dz86).2.1), .int .i64 (((mget x0_1 x1_1).getD dz86).2.2.1), str (((mget x0_1 x1_1).getD dz86).2.2.2)], obj b2v 28 [.int .i64 0, str ([] : List UInt8)], obj b1v 33 [.int .i64 x1_0, .int .i64 x1_1, .int .i64 x1_2, str x1_3, str x1_4, str x1_5], F]) rfl rfl rfl rfl rfl rfl Try.call45 (.sel 5 rfl (.sel 5 rfl (.sel 5 rfl (.sel 0 rfl (.sel 0 rfl (.sel 0 rfl (.sel 0 rfl (.sel 0 rfl (.sel 0 rfl (.nil _)))))))))) (kv_operations_2.calls _ _ b0 m0_0 x0_0 m0_1 x0_1 x1_0 x1_1 x1_2 x1_3 x1_4 x1_5 ) hs32v) (fun _ => ⟨rfl, rfl, rfl, rfl, rfl, rfl, rfl, trivial⟩) (fun _ => .inr rfl) (fun z => (.sel 3 rfl (.sel 0 rfl (.sel 0 rfl (.sel 0 rfl (.sel 0 rfl (.sel 0 rfl (.sel 0 rfl (.sel 0 rfl (.sel 0 rfl (.nil _)))))))))))) zA))) (ac (fun γ => (ac (eoI (Z := Nat) (fun z => (γ.1, γ.2.1, z)) rfl rfl .nil (re_alloc rfl Try.zeroValue28 rfl) (fun _ => ⟨rfl, rfl, rfl, rfl, rfl, rfl, rfl, trivial⟩) (fun _ => .inr rfl) (fun z => (.sel 0 rfl (.sel 0 rfl (.sel 0 rfl (.sel 0 rfl (.sel 0 rfl (.sel 0 rfl (.sel 0 rfl (.sel 0 rfl (.nil _))))))))))) (ac (eoI (Z := Nat) (fun z => (γ.1, γ.2.1, z)) rfl rfl .nil (re_alloc rfl Try.zeroValue28 rfl) (fun _ => ⟨rfl, rfl, rfl, rfl, rfl, rfl, rfl, trivial⟩) (fun _ => .inr rfl) (fun z => (.sel 0 rfl (.sel 0 rfl (.sel 0 rfl (.sel 0 rfl (.sel 0 rfl (.sel 0 rfl (.sel 0 rfl (.sel 0 rfl (.sel 0 rfl (.nil _)))))))))))) (ac (eoI (Z := Nat) (fun z => (γ.1, γ.2.1, z)) rfl rfl .nil (re_alloc rfl Try.zeroValue28 rfl) (fun _ => ⟨rfl, rfl, rfl, rfl, rfl, rfl, rfl, trivial⟩) (fun _ => .inr rfl) (fun z => (.sel 0 rfl (.sel 0 rfl (.sel 0 rfl (.sel 0 rfl (.sel 0 rfl (.sel 0 rfl (.sel 0 rfl (.sel 0 rfl (.sel 0 rfl (.nil _)))))))))))) zA)))) (aq rfl (fun γ => eoI (Z := Unit) (fun z => (γ.1, γ.2.1, γ.2.2)) rfl rfl (.v 7 rfl rfl (.v 6 rfl rfl .nil)) (re_store 0 rfl rfl rfl Try.sizeOf28 rfl rfl (one_of (by rfl)) rfl rfl) (fun _ => ⟨rfl, rfl, rfl, rfl, rfl, rfl, rfl, rfl, trivial⟩) (fun _ => .inl rfl) (fun z => (.sel 0 rfl (.sel 0 rfl (.sel 0 rfl (.sel 0 rfl (.sel 0 rfl (.sel 0 rfl (.sel 0 rfl (.sel 0 rfl (.sel 0 rfl (.nil _)))))))))))) zA))))
 intro g35v
 exact nrm_cut (s := (s31v.1, s31v.2.1, s31v.2.2.1, s31v.2.2.2)) (g35v.2.2, g35v.2.1.1, g35v.2.1.2) ⟨rfl, rfl, rfl, rfl, trivial⟩ (.sel 1 rfl (.sel 5 rfl (.sel 5 rfl (.sel 0 rfl (.sel 0 rfl (.sel 0 rfl (.sel 2 rfl (.nil _))))))))
 refine sim_if (fun hk36v => ?_) (fun hk36v => ?_)
 refine sim_bind (fun s37v hs38v => ?_)
 refine sim_bind (fun s40v hs41v => ?_)
 refine sim_drawI (Γ := Nat × (Nat × Nat) × Nat) (0, (0, 0), 0) [[], [], [1], [0, 1, 2], [], [], rL 6, [], rL 8] [0, 6, 7, 8] [1, 2, 3, 4, 5] [[], [0], [0, 6], [7], [0, 7], [0, 6, 7], [0, 6, 7, 8]] 6 (fun i => [[0, 3], [0, 1, 3, 4], [0, 1, 3, 4], [1, 4], [0, 1, 3, 4], [0, 1, 3, 4], [1, 4], [0, 1, 2], [5]].getD i []) (fun i s => ([[1, 0, 0, 4, 0, 0, 0], [], [], [], [], [], [0, 2, 0, 0, 5, 0, 0], [3, 4, 5, 0, 0, 0, 0], [0, 0, 0, 0, 0, 6, 0]].getD i []).getD s 0) (fun i => [[1, 2, 4, 5, 7], [], [], [], [], [], [0, 1, 2, 3, 4, 5, 7], rL 7, rL 8].getD i []) (fun γ i => [.map (some γ.1), .pointer (some ⟨b1v, 0, none⟩), .int .i64 x1_0, .func (.func 46) #[] #[], .pointer (some ⟨b0, 0, none⟩), .agg #[.int .i64 x1_0, .int .i64 x1_1, .int .i64 x1_2, str x1_3, str x1_4, str x1_5], .agg #[.int .i64 s40v.1, str s40v.2.1], .pointer (some ⟨γ.2.2, 0, none⟩), undef].getD i undef) (fun j γ => [[obj g9v 42 [.int .i64 (((mget x0_1 x1_1).getD dz86).1), .int .i64 (((mget x0_1 x1_1).getD dz86).2.1), .int .i64 (((mget x0_1 x1_1).getD dz86).2.2.1), str (((mget x0_1 x1_1).getD dz86).2.2.2)], obj b2v 28 [.int .i64 0, str ([] : List UInt8)], obj b1v 33 [.int .i64 x1_0, .int .i64 x1_1, .int .i64 x1_2, str x1_3, str x1_4, str x1_5], obj b0 63 [.map (some m0_0), .map (some m0_1)], mapO m0_0 enc9 enc9 x0_0, mapO m0_1 enc3 enc42 x0_1, F], [mapO γ.1 enc3 enc68 (mput (mput (mput ([] : List ((Int) × (Option Nat))) (2 : Int) (some 44)) (3 : Int) (some 45)) (4 : Int) (some 46)), obj g9v 42 [.int .i64 (((mget x0_1 x1_1).getD dz86).1), .int .i64 (((mget x0_1 x1_1).getD dz86).2.1), .int .i64 (((mget x0_1 x1_1).getD dz86).2.2.1), str (((mget x0_1 x1_1).getD dz86).2.2.2)], obj b2v 28 [.int .i64 0, str ([] : List UInt8)], obj b1v 33 [.int .i64 x1_0, .int .i64 x1_1, .int .i64 x1_2, str x1_3, str x1_4, str x1_5], obj b0 63 [.map (some m0_0), .map (some m0_1)], mapO m0_0 enc9 enc9 x0_0, mapO m0_1 enc3 enc42 x0_1, F], [obj b0 63 [.map (some γ.2.1.1), .map (some γ.2.1.2)], mapO γ.2.1.1 enc9 enc9 s40v.2.2.1, mapO γ.2.1.2 enc3 enc42 s40v.2.2.2, mapO γ.1 enc3 enc68 (mput (mput (mput ([] : List ((Int) × (Option Nat))) (2 : Int) (some 44)) (3 : Int) (some 45)) (4 : Int) (some 46)), obj g9v 42 [.int .i64 (((mget x0_1 x1_1).getD dz86).1), .int .i64 (((mget x0_1 x1_1).getD dz86).2.1), .int .i64 (((mget x0_1 x1_1).getD dz86).2.2.1), str (((mget x0_1 x1_1).getD dz86).2.2.2)], obj b2v 28 [.int .i64 0, str ([] : List UInt8)], obj b1v 33 [.int .i64 x1_0, .int .i64 x1_1, .int .i64 x1_2, str x1_3, str x1_4, str x1_5], F], [obj γ.2.2 28 [.int .i64 0, str ([] : List UInt8)], obj g9v 42 [.int .i64 (((mget x0_1 x1_1).getD dz86).1), .int .i64 (((mget x0_1 x1_1).getD dz86).2.1), .int .i64 (((mget x0_1 x1_1).getD dz86).2.2.1), str (((mget x0_1 x1_1).getD dz86).2.2.2)], obj b2v 28 [.int .i64 0, str ([] : List UInt8)], obj b1v 33 [.int .i64 x1_0, .int .i64 x1_1, .int .i64 x1_2, str x1_3, str x1_4, str x1_5], obj b0 63 [.map (some m0_0), .map (some m0_1)], mapO m0_0 enc9 enc9 x0_0, mapO m0_1 enc3 enc42 x0_1, F], [obj γ.2.2 28 [.int .i64 0, str ([] : List UInt8)], mapO γ.1 enc3 enc68 (mput (mput (mput ([] : List ((Int) × (Option Nat))) (2 : Int) (some 44)) (3 : Int) (some 45)) (4 : Int) (some 46)), obj g9v 42 [.int .i64 (((mget x0_1 x1_1).getD dz86).1), .int .i64 (((mget x0_1 x1_1).getD dz86).2.1), .int .i64 (((mget x0_1 x1_1).getD dz86).2.2.1), str (((mget x0_1 x1_1).getD dz86).2.2.2)], obj b2v 28 [.int .i64 0, str ([] : List UInt8)], obj b1v 33 [.int .i64 x1_0, .int .i64 x1_1, .int .i64 x1_2, str x1_3, str x1_4, str x1_5], obj b0 63 [.map (some m0_0), .map (some m0_1)], mapO m0_0 enc9 enc9 x0_0, mapO m0_1 enc3 enc42 x0_1, F], [obj γ.2.2 28 [.int .i64 0, str ([] : List UInt8)], obj b0 63 [.map (some γ.2.1.1), .map (some γ.2.1.2)], mapO γ.2.1.1 enc9 enc9 s40v.2.2.1, mapO γ.2.1.2 enc3 enc42 s40v.2.2.2, mapO γ.1 enc3 enc68 (mput (mput (mput ([] : List ((Int) × (Option Nat))) (2 : Int) (some 44)) (3 : Int) (some 45)) (4 : Int) (some 46)), obj g9v 42 [.int .i64 (((mget x0_1 x1_1).getD dz86).1), .int .i64 (((mget x0_1 x1_1).getD dz86).2.1), .int .i64 (((mget x0_1 x1_1).getD dz86).2.2.1), str (((mget x0_1 x1_1).getD dz86).2.2.2)], obj b2v 28 [.int .i64 0, str ([] : List UInt8)], obj b1v 33 [.int .i64 x1_0, .int .i64 x1_1, .int .i64 x1_2, str x1_3, str x1_4, str x1_5], F], [obj γ.2.2 28 [.int .i64 s40v.1, str s40v.2.1], obj b0 63 [.map (some γ.2.1.1), .map (some γ.2.1.2)], mapO γ.2.1.1 enc9 enc9 s40v.2.2.1, mapO γ.2.1.2 enc3 enc42 s40v.2.2.2, mapO γ.1 enc3 enc68 (mput (mput (mput ([] : List ((Int) × (Option Nat))) (2 : Int) (some 44)) (3 : Int) (some 45)) (4 : Int) (some 46)), obj g9v 42 [.int .i64 (((mget x0_1 x1_1).getD dz86).1), .int .i64 (((mget x0_1 x1_1).getD dz86).2.1), .int .i64 (((mget x0_1 x1_1).getD dz86).2.2.1), str (((mget x0_1 x1_1).getD dz86).2.2.2)], obj b2v 28 [.int .i64 0, str ([] : List UInt8)], obj b1v 33 [.int .i64 x1_0, .int .i64 x1_1, .int .i64 x1_2, str x1_3, str x1_4, str x1_5], F]].getD j []) (fun γ => [(0, .pointer (some ⟨b0, 0, none⟩)), (3, .pointer (some ⟨b1v, 0, none⟩)), (4, .pointer (some ⟨b2v, 0, none⟩)), (9, .pointer (some ⟨γ.2.2, 0, none⟩))]) mixed (by decide) (by decide) (by decide) (by decide) (by decide) (by decide) 80 rfl (by decide) (by decide) (by decide) (by decide) (by decide) (by decide) (Ent.refl _) ?_ ?_ (fun _ => ⟨rfl, rfl, rfl, rfl, trivial⟩) ?_
 exact (ac (fun γ => (ac (qp rfl rfl (.o (s := 3) rfl (by decide) .nil) (q_fa rfl rfl Try.underlying33 rfl rfl Try.sizeOf3 rfl) rfl) (ac (qp rfl rfl (.o (s := 3) rfl (by decide) .nil) (q_fa rfl rfl Try.underlying33 rfl rfl Try.sizeOf3 rfl) rfl) (ac (qp rfl rfl (.o (s := 3) rfl (by decide) .nil) (q_fa rfl rfl Try.underlying33 rfl rfl Try.sizeOf3 rfl) rfl) (ac (qp rfl rfl (.o (s := 3) rfl (by decide) .nil) (q_fa rfl rfl Try.underlying33 rfl rfl Try.sizeOf3 rfl) rfl) zA))))) (ac (fun γ => (ac (qp rfl rfl (.v 1 rfl rfl .nil) (q_load rfl rfl Try.isAgg3 (.obj 2 rfl rfl)) rfl) (ac (qp rfl rfl (.v 1 rfl rfl .nil) (q_load rfl rfl Try.isAgg3 (.obj 3 rfl rfl)) rfl) (ac (qp rfl rfl (.v 1 rfl rfl .nil) (q_load rfl rfl Try.isAgg3 (.obj 3 rfl rfl)) rfl) (ac (qp rfl rfl (.v 1 rfl rfl .nil) (q_load rfl rfl Try.isAgg3 (.obj 4 rfl rfl)) rfl) zA))))) (ac (fun γ => (ac (qp rfl rfl (.v 0 rfl rfl (.v 2 rfl rfl .nil)) ((RQ.eq (by rw [hk36v]; rfl) (q_mlook (ek := enc3) (ev := enc68) (z := none) 0 x1_0 rfl rfl rfl Try.underlying69 key3 Try.zeroValue68 rfl) : RQ _ _ _ _ (.func (.func 46) #[] #[]))) rfl) (ac (qp rfl rfl (.v 0 rfl rfl (.v 2 rfl rfl .nil)) ((RQ.eq (by rw [hk36v]; rfl) (q_mlook (ek := enc3) (ev := enc68) (z := none) 1 x1_0 rfl rfl rfl Try.underlying69 key3 Try.zeroValue68 rfl) : RQ _ _ _ _ (.func (.func 46) #[] #[]))) rfl) zA))) (ac (fun γ => (ac (qm rfl (.o (s := 0) rfl (by decide) .nil) rfl) (ac (qm rfl (.o (s := 0) rfl (by decide) .nil) rfl) (ac (qm rfl (.o (s := 0) rfl (by decide) .nil) rfl) (ac (qm rfl (.o (s := 0) rfl (by decide) .nil) rfl) zA))))) (ac (fun γ => (ac (qp rfl rfl (.o (s := 3) rfl (by decide) .nil) (q_loado 2 rfl rfl Try.isAgg33 Try.sizeOf33 rfl rfl) rfl) (ac (qp rfl rfl (.o (s := 3) rfl (by decide) .nil) (q_loado 3 rfl rfl Try.isAgg33 Try.sizeOf33 rfl rfl) rfl) (ac (qp rfl rfl (.o (s := 3) rfl (by decide) .nil) (q_loado 3 rfl rfl Try.isAgg33 Try.sizeOf33 rfl rfl) rfl) (ac (qp rfl rfl (.o (s := 3) rfl (by decide) .nil) (q_loado 4 rfl rfl Try.isAgg33 Try.sizeOf33 rfl rfl) rfl) zA))))) zA)))))
 exact (ac (fun γ => (ac (eoI (Z := Nat) (fun z => (z, γ.2.1, γ.2.2)) rfl rfl .nil (re_call (vs := []) (cap := []) (A := []) (rst := [obj g9v 42 [.int .i64 (((mget x0_1 x1_1).getD dz86).1), .int .i64 (((mget x0_1 x1_1).getD dz86).2.1), .int .i64 (((mget x0_1 x1_1).getD dz86).2.2.1), str (((mget x0_1 x1_1).getD dz86).2.2.2)], obj b2v 28 [.int .i64 0, str ([] : List UInt8)], obj b1v 33 [.int .i64 x1_0, .int .i64 x1_1, .int .i64 x1_2, str x1_3, str x1_4, str x1_5], obj b0 63 [.map (some m0_0), .map (some m0_1)], mapO m0_0 enc9 enc9 x0_0, mapO m0_1 enc3 enc42 x0_1, F]) rfl rfl rfl rfl rfl rfl Try.call27 (.sel 0 rfl (.sel 0 rfl (.sel 0 rfl (.sel 0 rfl (.sel 0 rfl (.sel 0 rfl (.sel 0 rfl (.nil _)))))))) (kv_operations.calls _ _  ) hs38v) (fun _ => ⟨rfl, rfl, rfl, rfl, rfl, trivial⟩) (fun _ => .inr rfl) (fun z => (.sel 0 rfl (.sel 0 rfl (.sel 0 rfl (.sel 0 rfl (.sel 0 rfl (.sel 0 rfl (.sel 0 rfl (.sel 0 rfl (.nil _))))))))))) (ac (eoI (Z := Nat) (fun z => (z, γ.2.1, γ.2.2)) rfl rfl .nil (re_call (vs := []) (cap := []) (A := []) (rst := [obj γ.2.2 28 [.int .i64 0, str ([] : List UInt8)], obj g9v 42 [.int .i64 (((mget x0_1 x1_1).getD dz86).1), .int .i64 (((mget x0_1 x1_1).getD dz86).2.1), .int .i64 (((mget x0_1 x1_1).getD dz86).2.2.1), str (((mget x0_1 x1_1).getD dz86).2.2.2)], obj b2v 28 [.int .i64 0, str ([] : List UInt8)], obj b1v 33 [.int .i64 x1_0, .int .i64 x1_1, .int .i64 x1_2, str x1_3, str x1_4, str x1_5], obj b0 63 [.map (some m0_0), .map (some m0_1)], mapO m0_0 enc9 enc9 x0_0, mapO m0_1 enc3 enc42 x0_1, F]) rfl rfl rfl rfl rfl rfl Try.call27 (.sel 0 rfl (.sel 0 rfl (.sel 0 rfl (.sel 0 rfl (.sel 0 rfl (.sel 0 rfl (.sel 0 rfl (.sel 0 rfl (.nil _))))))))) (kv_operations.calls _ _  ) hs38v) (fun _ => ⟨rfl, rfl, rfl, rfl, rfl, trivial⟩) (fun _ => .inr rfl) (fun z => (.sel 1 rfl (.sel 0 rfl (.sel 0 rfl (.sel 0 rfl (.sel 0 rfl (.sel 0 rfl (.sel 0 rfl (.sel 0 rfl (.sel 0 rfl (.nil _)))))))))))) zA))) (ac (fun γ => (ac (eoI (Z := Nat × Nat) (fun z => (γ.1, z, γ.2.2)) rfl rfl (.v 3 rfl rfl (.v 4 rfl rfl (.v 5 rfl rfl .nil))) (re_call (vs := [.pointer (some ⟨b0, 0, none⟩), .agg #[.int .i64 x1_0, .int .i64 x1_1, .int .i64 x1_2, str x1_3, str x1_4, str x1_5]]) (cap := []) (A := [obj b0 63 [.map (some m0_0), .map (some m0_1)], mapO m0_0 enc9 enc9 x0_0, mapO m0_1 enc3 enc42 x0_1]) (rst := [mapO γ.1 enc3 enc68 (mput (mput (mput ([] : List ((Int) × (Option Nat))) (2 : Int) (some 44)) (3 : Int) (some 45)) (4 : Int) (some 46)), obj g9v 42 [.int .i64 (((mget x0_1 x1_1).getD dz86).1), .int .i64 (((mget x0_1 x1_1).getD dz86).2.1), .int .i64 (((mget x0_1 x1_1).getD dz86).2.2.1), str (((mget x0_1 x1_1).getD dz86).2.2.2)], obj b2v 28 [.int .i64 0, str ([] : List UInt8)], obj b1v 33 [.int .i64 x1_0, .int .i64 x1_1, .int .i64 x1_2, str x1_3, str x1_4, str x1_5], F]) rfl rfl rfl rfl rfl rfl Try.call46 (.sel 4 rfl (.sel 4 rfl (.sel 4 rfl (.sel 0 rfl (.sel 0 rfl (.sel 0 rfl (.sel 0 rfl (.sel 0 rfl (.nil _))))))))) (kv_operations_3.calls _ _ b0 m0_0 x0_0 m0_1 x0_1 x1_0 x1_1 x1_2 x1_3 x1_4 x1_5 ) hs41v) (fun _ => ⟨rfl, rfl, rfl, rfl, rfl, rfl, rfl, trivial⟩) (fun _ => .inr rfl) (fun z => (.sel 0 rfl (.sel 0 rfl (.sel 0 rfl (.sel 0 rfl (.sel 0 rfl (.sel 0 rfl (.sel 0 rfl (.sel 0 rfl (.nil _))))))))))) (ac (eoI (Z := Nat × Nat) (fun z => (γ.1, z, γ.2.2)) rfl rfl (.v 3 rfl rfl (.v 4 rfl rfl (.v 5 rfl rfl .nil))) (re_call (vs := [.pointer (some ⟨b0, 0, none⟩), .agg #[.int .i64 x1_0, .int .i64 x1_1, .int .i64 x1_2, str x1_3, str x1_4, str x1_5]]) (cap := []) (A := [obj b0 63 [.map (some m0_0), .map (some m0_1)], mapO m0_0 enc9 enc9 x0_0, mapO m0_1 enc3 enc42 x0_1]) (rst := [obj γ.2.2 28 [.int .i64 0, str ([] : List UInt8)], mapO γ.1 enc3 enc68 (mput (mput (mput ([] : List ((Int) × (Option Nat))) (2 : Int) (some 44)) (3 : Int) (some 45)) (4 : Int) (some 46)), obj g9v 42 [.int .i64 (((mget x0_1 x1_1).getD dz86).1), .int .i64 (((mget x0_1 x1_1).getD dz86).2.1), .int .i64 (((mget x0_1 x1_1).getD dz86).2.2.1), str (((mget x0_1 x1_1).getD dz86).2.2.2)], obj b2v 28 [.int .i64 0, str ([] : List UInt8)], obj b1v 33 [.int .i64 x1_0, .int .i64 x1_1, .int .i64 x1_2, str x1_3, str x1_4, str x1_5], F]) rfl rfl rfl rfl rfl rfl Try.call46 (.sel 5 rfl (.sel 5 rfl (.sel 5 rfl (.sel 0 rfl (.sel 0 rfl (.sel 0 rfl (.sel 0 rfl (.sel 0 rfl (.sel 0 rfl (.nil _)))))))))) (kv_operations_3.calls _ _ b0 m0_0 x0_0 m0_1 x0_1 x1_0 x1_1 x1_2 x1_3 x1_4 x1_5 ) hs41v) (fun _ => ⟨rfl, rfl, rfl, rfl, rfl, rfl, rfl, trivial⟩) (fun _ => .inr rfl) (fun z => (.sel 3 rfl (.sel 0 rfl (.sel 0 rfl (.sel 0 rfl (.sel 0 rfl (.sel 0 rfl (.sel 0 rfl (.sel 0 rfl (.sel 0 rfl (.nil _)))))))))))) zA))) (ac (fun γ => (ac (eoI (Z := Nat) (fun z => (γ.1, γ.2.1, z)) rfl rfl .nil (re_alloc rfl Try.zeroValue28 rfl) (fun _ => ⟨rfl, rfl, rfl, rfl, rfl, rfl, rfl, trivial⟩) (fun _ => .inr rfl) (fun z => (.sel 0 rfl (.sel 0 rfl (.sel 0 rfl (.sel 0 rfl (.sel 0 rfl (.sel 0 rfl (.sel 0 rfl (.sel 0 rfl (.nil _))))))))))) (ac (eoI (Z := Nat) (fun z => (γ.1, γ.2.1, z)) rfl rfl .nil (re_alloc rfl Try.zeroValue28 rfl) (fun _ => ⟨rfl, rfl, rfl, rfl, rfl, rfl, rfl, trivial⟩) (fun _ => .inr rfl) (fun z => (.sel 0 rfl (.sel 0 rfl (.sel 0 rfl (.sel 0 rfl (.sel 0 rfl (.sel 0 rfl (.sel 0 rfl (.sel 0 rfl (.sel 0 rfl (.nil _)))))))))))) (ac (eoI (Z := Nat) (fun z => (γ.1, γ.2.1, z)) rfl rfl .nil (re_alloc rfl Try.zeroValue28 rfl) (fun _ => ⟨rfl, rfl, rfl, rfl, rfl, rfl, rfl, trivial⟩) (fun _ => .inr rfl) (fun z => (.sel 0 rfl (.sel 0 rfl (.sel 0 rfl (.sel 0 rfl (.sel 0 rfl (.sel 0 rfl (.sel 0 rfl (.sel 0 rfl (.sel 0 rfl (.nil _)))))))))))) zA)))) (aq rfl (fun γ => eoI (Z := Unit) (fun z => (γ.1, γ.2.1, γ.2.2)) rfl rfl (.v 7 rfl rfl (.v 6 rfl rfl .nil)) (re_store 0 rfl rfl rfl Try.sizeOf28 rfl rfl (one_of (by rfl)) rfl rfl) (fun _ => ⟨rfl, rfl, rfl, rfl, rfl, rfl, rfl, rfl, trivial⟩) (fun _ => .inl rfl) (fun z => (.sel 0 rfl (.sel 0 rfl (.sel 0 rfl (.sel 0 rfl (.sel 0 rfl (.sel 0 rfl (.sel 0 rfl (.sel 0 rfl (.sel 0 rfl (.nil _)))))))))))) zA))))
 intro g44v
 exact nrm_cut (s := (s40v.1, s40v.2.1, s40v.2.2.1, s40v.2.2.2)) (g44v.2.2, g44v.2.1.1, g44v.2.1.2) ⟨rfl, rfl, rfl, rfl, trivial⟩ (.sel 1 rfl (.sel 5 rfl (.sel 5 rfl (.sel 0 rfl (.sel 0 rfl (.sel 0 rfl (.sel 2 rfl (.nil _))))))))
 exact sim_none
 intro s16v y17v
 refine sim_seq ?_
 refine sim_draw (Γ := Unit) () [[], [0], [0, 1], [0, 1, 2], [], [4], [], [6], [], [8], [], [6, 7, 8, 9, 10], rL 12] [12] [0, 1, 2, 3, 4, 5, 6, 7, 8, 9, 10, 11] (fun i => [[0], [0], [0], [0], [0], [0], [0], [0], [0], [0], [0], [0], []].getD i []) (fun i => [[], [], [], [], [], [], [], [], [], [], [], [], rL 12].getD i []) (fun γ i => [.pointer (some ⟨b0, 0, none⟩), .pointer (some ⟨b0, 0, none⟩), .pointer (some ⟨b0, 1, none⟩), .map (some y17v.2.2), .pointer (some ⟨b1v, 1, none⟩), .int .i64 x1_1, .pointer (some ⟨b1v, 1, none⟩), .int .i64 x1_1, .pointer (some ⟨b1v, 2, none⟩), .int .i64 x1_2, .agg #[.int .i64 s16v.1, str s16v.2.1], .agg #[.int .i64 x1_1, .int .i64 x1_2, .int .i64 s16v.1, str s16v.2.1], undef].getD i undef) (fun j γ => [[obj b0 63 [.map (some y17v.2.1), .map (some y17v.2.2)], obj b2v 28 [.int .i64 0, str ([] : List UInt8)], obj b1v 33 [.int .i64 x1_0, .int .i64 x1_1, .int .i64 x1_2, str x1_3, str x1_4, str x1_5], obj y17v.1 28 [.int .i64 s16v.1, str s16v.2.1], mapO y17v.2.1 enc9 enc9 s16v.2.2.1, mapO y17v.2.2 enc3 enc42 s16v.2.2.2, F], [obj b0 63 [.map (some y17v.2.1), .map (some y17v.2.2)], obj b2v 28 [.int .i64 0, str ([] : List UInt8)], obj b1v 33 [.int .i64 x1_0, .int .i64 x1_1, .int .i64 x1_2, str x1_3, str x1_4, str x1_5], obj y17v.1 28 [.int .i64 s16v.1, str s16v.2.1], mapO y17v.2.1 enc9 enc9 s16v.2.2.1, mapO y17v.2.2 enc3 enc42 (mput s16v.2.2.2 x1_1 (x1_1, x1_2, s16v.1, s16v.2.1)), F]].getD j []) (fun γ => [(4, .pointer (some ⟨b2v, 0, none⟩)), (9, .pointer (some ⟨y17v.1, 0, none⟩))]) mixed (by decide) (by decide) (by decide) (by decide) (by decide) (by decide) (by decide) 80 rfl (by decide) (by decide) (by decide) (Ent.refl _) ?_ ?_ (fun _ => ⟨rfl, rfl, trivial⟩) ?_
 exact (aq rfl (fun γ => qm rfl (.o (s := 0) rfl (by decide) .nil) rfl) (aq rfl (fun γ => qp rfl rfl (.v 0 rfl rfl .nil) (q_nil rfl rfl) rfl) (aq rfl (fun γ => qp rfl rfl (.v 1 rfl rfl .nil) (q_fa rfl rfl Try.underlying63 rfl rfl Try.sizeOf61 rfl) rfl) (aq rfl (fun γ => qp rfl rfl (.v 2 rfl rfl .nil) (q_load rfl rfl Try.isAgg61 (.obj 0 rfl rfl)) rfl) (aq rfl (fun γ => qp rfl rfl (.o (s := 3) rfl (by decide) .nil) (q_fa rfl rfl Try.underlying33 rfl rfl Try.sizeOf3 rfl) rfl) (aq rfl (fun γ => qp rfl rfl (.v 4 rfl rfl .nil) (q_load rfl rfl Try.isAgg3 (.obj 2 rfl rfl)) rfl) (aq rfl (fun γ => qp rfl rfl (.o (s := 3) rfl (by decide) .nil) (q_fa rfl rfl Try.underlying33 rfl rfl Try.sizeOf3 rfl) rfl) (aq rfl (fun γ => qp rfl rfl (.v 6 rfl rfl .nil) (q_load rfl rfl Try.isAgg3 (.obj 2 rfl rfl)) rfl) (aq rfl (fun γ => qp rfl rfl (.o (s := 3) rfl (by decide) .nil) (q_fa rfl rfl Try.underlying33 rfl rfl Try.sizeOf3 rfl) rfl) (aq rfl (fun γ => qp rfl rfl (.v 8 rfl rfl .nil) (q_load rfl rfl Try.isAgg3 (.obj 2 rfl rfl)) rfl) (aq rfl (fun γ => qp rfl rfl (.o (s := 9) rfl (by decide) .nil) (q_loado 3 rfl rfl Try.isAgg28 Try.sizeOf28 rfl rfl) rfl) (aq rfl (fun γ => qp rfl rfl (.v 7 rfl rfl (.v 9 rfl rfl (.v 10 rfl rfl .nil))) (q_build (v := .agg #[.int .i64 x1_1, .int .i64 x1_2, .int .i64 s16v.1, str s16v.2.1]) rfl rfl (fun _ => by kernel_rfl)) rfl) zA))))))))))))
 exact (ac (fun γ => eo (Z := Unit) (fun z => ()) rfl rfl (.v 3 rfl rfl (.v 5 rfl rfl (.v 11 rfl rfl .nil))) (re_mput (ek := enc3) (ev := enc42) 5 x1_1 (x1_1, x1_2, s16v.1, s16v.2.1) rfl rfl rfl rfl Try.underlying61 key3 rfl) (fun _ => ⟨rfl, rfl, rfl, rfl, rfl, rfl, rfl, rfl, rfl, rfl, rfl, rfl, trivial⟩) (fun _ => .inl rfl) (fun z => Ent.refl _)) zA)
 intro g45v
 refine nrm_then (sr ?_)
 refine vq (q_loado 3 rfl rfl Try.isAgg28 Try.sizeOf28 rfl rfl) rfl ?_
 refine simL_do (re_store 1 rfl rfl rfl Try.sizeOf28 rfl rfl (one_of (by rfl)) rfl rfl) rfl rfl ?_
 intro _
 refine va rfl rfl (simL_nil (nrm_then (sim_rtn ?_)))
 exact rtn_fnC (vs := [.agg #[.int .i64 s16v.1, str s16v.2.1], .int .i64 0]) (y17v.2.1, y17v.2.2) rfl ⟨⟨b2v, rfl, load_agg 1 Try.isAgg28 Try.sizeOf28 rfl rfl⟩, rfl, trivial⟩ rfl (.sel 0 rfl (.sel 3 rfl (.sel 3 rfl (.sel 3 rfl (.nil _)))))
 refine sr ?_
 refine vq (q_build (v := .agg #[.int .i64 0, str ([] : List UInt8)]) rfl rfl (fun _ => by kernel_rfl)) rfl ?_
 refine vm rfl rfl ?_
 refine simL_do (re_store 0 rfl rfl rfl Try.sizeOf28 rfl rfl (one_of (by rfl)) rfl rfl) rfl rfl ?_
 intro _
 refine va rfl rfl (simL_nil (nrm_then (sim_rtn ?_)))
 refine rtn_then ?_
 exact rtn_fnC (vs := [.agg #[.int .i64 0, str ([] : List UInt8)], .int .i64 s3v]) (m0_0, m0_1) rfl ⟨⟨b2v, rfl, load_agg 0 Try.isAgg28 Try.sizeOf28 rfl rfl⟩, rfl, trivial⟩ rfl (.sel 2 rfl (.sel 2 rfl (.sel 2 rfl (.sel 2 rfl (.nil _)))))

def kv_Store_Get.f (x0_0 : List ((List UInt8) × (List UInt8))) (x0_1 : List ((Int) × (Ty86))) (x1 : List UInt8) : Option (Int × List UInt8) := if (!((mget x0_0 x1).isSome)) = true then (some (2, ([] : List UInt8))) else (some (1, ((mget x0_0 x1).getD ([] : List UInt8))))
theorem kv_Store_Get.calls (W : World) (F : HA) (b0 : Nat) (m0_0 : Nat) (x0_0 : List ((List UInt8) × (List UInt8))) (m0_1 : Nat) (x0_1 : List ((Int) × (Ty86))) (x1 : List UInt8)  :
    Fn Try.prog W 19 [.pointer (some ⟨b0, 0, none⟩), str x1] [obj b0 63 [.map (some m0_0), .map (some m0_1)], mapO m0_0 enc9 enc9 x0_0, mapO m0_1 enc3 enc42 x0_1] F (kv_Store_Get.f x0_0 x0_1 x1) (fun (r : Int × List UInt8) (y : Unit) => .agg #[.int .i64 r.1, str r.2]) (fun r y => [obj b0 63 [.map (some m0_0), .map (some m0_1)], mapO m0_0 enc9 enc9 x0_0, mapO m0_1 enc3 enc42 x0_1]) := by
 unfold kv_Store_Get.f
 refine fn_intro 21 Try.func19 rfl Try.ntmps19 rfl ?_
 refine sr ?_
 refine simL_eff (re_alloc rfl Try.zeroValue28 rfl) rfl rfl rfl ?_
 intro b1v
 refine nx ?_
 refine vm rfl rfl ?_
 refine vn rfl rfl ?_
 refine vq (q_fa rfl rfl Try.underlying63 rfl rfl Try.sizeOf60 rfl) rfl ?_
 refine vq (q_load rfl rfl Try.isAgg60 (.obj 1 rfl rfl)) rfl ?_
 refine vm rfl rfl ?_
 refine vq ((q_mlook2 (ek := enc9) (ev := enc9) (z := ([] : List UInt8)) 2 x1 rfl rfl rfl Try.underlying60 key9 Try.zeroValue9 rfl : RQ _ _ _ _ (.tuple #[str ((mget x0_0 x1).getD ([] : List UInt8)), .bool ((mget x0_0 x1).isSome)]))) rfl ?_
 refine vm rfl rfl ?_
 refine vq (q_ext rfl rfl rfl) rfl ?_
 refine vq (q_ext rfl rfl rfl) rfl ?_
 refine va rfl rfl ?_
 refine va rfl rfl (simL_nil (nrm_then (sim_seq (sr ?_))))
 refine vm rfl rfl ?_
 refine vq (q_not rfl rfl) rfl (simL_nil (nrm_then ?_))
 refine sim_condb rfl (fun h2v => ?_) (fun h3v => ?_)
 refine sr ?_
 refine vq (q_build (v := .agg #[.int .i64 2, str ([] : List UInt8)]) rfl rfl (fun _ => by kernel_rfl)) rfl ?_
 refine simL_do (re_store 0 rfl rfl rfl Try.sizeOf28 rfl rfl (one_of (by rfl)) rfl rfl) rfl rfl ?_
 intro _
 refine simL_nil (nrm_then (sim_rtn ?_))
 refine rtn_then ?_
 exact rtn_fnC (vs := [.agg #[.int .i64 2, str ([] : List UInt8)]]) () rfl ⟨⟨b1v, rfl, load_agg 0 Try.isAgg28 Try.sizeOf28 rfl rfl⟩, trivial⟩ rfl (.sel 1 rfl (.sel 1 rfl (.sel 1 rfl (.sel 1 rfl (.nil _)))))
 refine sim_skip ?_
 refine nrm_then (sr ?_)
 refine vm rfl rfl ?_
 refine vq (q_build (v := .agg #[.int .i64 1, str ((mget x0_0 x1).getD ([] : List UInt8))]) rfl rfl (fun _ => by kernel_rfl)) rfl ?_
 refine simL_do (re_store 0 rfl rfl rfl Try.sizeOf28 rfl rfl (one_of (by rfl)) rfl rfl) rfl rfl ?_
 intro _
 refine simL_nil (nrm_then (sim_rtn ?_))
 exact rtn_fnC (vs := [.agg #[.int .i64 1, str ((mget x0_0 x1).getD ([] : List UInt8))]]) () rfl ⟨⟨b1v, rfl, load_agg 0 Try.isAgg28 Try.sizeOf28 rfl rfl⟩, trivial⟩ rfl (.sel 1 rfl (.sel 1 rfl (.sel 1 rfl (.sel 1 rfl (.nil _)))))
def kv_Store_Get.v (x0_0 : List ((List UInt8) × (List UInt8))) (x0_1 : List ((Int) × (Ty86))) (x1 : List UInt8) : Int × List UInt8 := (kv_Store_Get.f x0_0 x0_1 x1).getD (0, [])
theorem kv_Store_Get.tot (x0_0 : List ((List UInt8) × (List UInt8))) (x0_1 : List ((Int) × (Ty86))) (x1 : List UInt8) : kv_Store_Get.f x0_0 x0_1 x1 = some (kv_Store_Get.v x0_0 x0_1 x1) := by
  have h : ∃ r, kv_Store_Get.f x0_0 x0_1 x1 = some r := by
    unfold kv_Store_Get.f
    repeat' (first | exact ⟨_, rfl⟩ | split | simp only [Option.bind_some])
  obtain ⟨r, h⟩ := h
  unfold kv_Store_Get.v
  rw [h]; rfl

def synodref_Num.f (x0 : Int) : Option (Int) := some x0
theorem synodref_Num.calls (W : World) (F : HA) (x0 : Int)  :
    Fn Try.prog W 13 [.int .i64 x0] [] F (synodref_Num.f x0) (fun (r : Int) (y : Unit) => .int .i64 r) (fun r y => []) := by
 unfold synodref_Num.f
 refine fn_intro 4 Try.func13 rfl Try.ntmps13 rfl ?_
 refine sr ?_
 refine va rfl rfl (nx ?_)
 refine vm rfl rfl ?_
 refine va rfl rfl (simL_nil (nrm_then (sim_rtn ?_)))
 exact rtn_fn () rfl rfl rfl (.sel 0 rfl (.nil _))
def synodref_Num.v (x0 : Int) : Int := (synodref_Num.f x0).getD 0
theorem synodref_Num.tot (x0 : Int) : synodref_Num.f x0 = some (synodref_Num.v x0) := by
  have h : ∃ r, synodref_Num.f x0 = some r := by
    unfold synodref_Num.f
    repeat' (first | exact ⟨_, rfl⟩ | split | simp only [Option.bind_some])
  obtain ⟨r, h⟩ := h
  unfold synodref_Num.v
  rw [h]; rfl

def kv_Store_Len.f (x0_0 : List ((List UInt8) × (List UInt8))) (x0_1 : List ((Int) × (Ty86))) : Option (Int) := some (x0_0.length : Int)
theorem kv_Store_Len.calls (W : World) (F : HA) (b0 : Nat) (m0_0 : Nat) (x0_0 : List ((List UInt8) × (List UInt8))) (m0_1 : Nat) (x0_1 : List ((Int) × (Ty86)))  :
    Fn Try.prog W 25 [.pointer (some ⟨b0, 0, none⟩)] [obj b0 63 [.map (some m0_0), .map (some m0_1)], mapO m0_0 enc9 enc9 x0_0, mapO m0_1 enc3 enc42 x0_1] F (kv_Store_Len.f x0_0 x0_1) (fun (r : Int) (y : Unit) => .int .i64 r) (fun r y => [obj b0 63 [.map (some m0_0), .map (some m0_1)], mapO m0_0 enc9 enc9 x0_0, mapO m0_1 enc3 enc42 x0_1]) := by
 unfold kv_Store_Len.f
 refine fn_intro 8 Try.func25 rfl Try.ntmps25 rfl ?_
 refine sr ?_
 refine va rfl rfl (nx ?_)
 refine vm rfl rfl ?_
 refine vn rfl rfl ?_
 refine vq (q_fa rfl rfl Try.underlying63 rfl rfl Try.sizeOf60 rfl) rfl ?_
 refine vq (q_load rfl rfl Try.isAgg60 (.obj 0 rfl rfl)) rfl ?_
 refine vq (q_mlen 1 rfl rfl rfl Try.underlying60 rfl) rfl ?_
 refine va rfl rfl (simL_nil (nrm_then (sim_rtn ?_)))
 exact rtn_fn () rfl rfl rfl (.sel 0 rfl (.sel 0 rfl (.sel 0 rfl (.sel 0 rfl (.nil _)))))
def kv_Store_Len.v (x0_0 : List ((List UInt8) × (List UInt8))) (x0_1 : List ((Int) × (Ty86))) : Int := (kv_Store_Len.f x0_0 x0_1).getD 0
theorem kv_Store_Len.tot (x0_0 : List ((List UInt8) × (List UInt8))) (x0_1 : List ((Int) × (Ty86))) : kv_Store_Len.f x0_0 x0_1 = some (kv_Store_Len.v x0_0 x0_1) := by
  have h : ∃ r, kv_Store_Len.f x0_0 x0_1 = some r := by
    unfold kv_Store_Len.f
    repeat' (first | exact ⟨_, rfl⟩ | split | simp only [Option.bind_some])
  obtain ⟨r, h⟩ := h
  unfold kv_Store_Len.v
  rw [h]; rfl

def synodlaw11_first.f  : Option (Bool) := (kv_New.f).bind fun s1v => ((kv_Store_Do.f s1v.1 s1v.2 (2 : Int) (1 : Int) (1 : Int) ([97] : List UInt8) ([120] : List UInt8) ([] : List UInt8)).bind fun s4v => ((kv_Store_Do.f s4v.2.2.2.1 s4v.2.2.2.2 (2 : Int) (1 : Int) (1 : Int) ([97] : List UInt8) ([121] : List UInt8) ([] : List UInt8)).bind fun s8v => ((kv_Store_Do.f s8v.2.2.2.1 s8v.2.2.2.2 (4 : Int) (2 : Int) (1 : Int) ([97] : List UInt8) ([122] : List UInt8) ([121] : List UInt8)).bind fun s12v => ((kv_Store_Do.f s12v.2.2.2.1 s12v.2.2.2.2 (1 : Int) (0 : Int) (0 : Int) ([] : List UInt8) ([] : List UInt8) ([] : List UInt8)).bind fun s16v => ((if (((decide (s4v.1 = (1 : Int)) && (decide (s4v.2.1 = ([] : List UInt8)))) && (decide (s8v.1 = s4v.1) && (decide (s8v.2.1 = s4v.2.1)))) && (decide (s12v.1 = (3 : Int)) && (decide (s12v.2.1 = ([120] : List UInt8))))) = true then ((kv_Store_Get.f s16v.2.2.2.1 s16v.2.2.2.2 ([97] : List UInt8)).bind fun s22v => (some (decide (s22v.1 = (1 : Int)) && (decide (s22v.2 = ([120] : List UInt8)))))) else (some false)).bind fun s20v => ((if s20v = true then ((synodref_Num.f s4v.2.2.1).bind fun s29v => (some (decide (s29v = (0 : Int))))) else (some false)).bind fun s27v => ((if s27v = true then ((synodref_Num.f s16v.2.2.1).bind fun s36v => (some (decide (s36v = (6 : Int))))) else (some false)).bind fun s34v => ((if s34v = true then ((kv_Store_Len.f s16v.2.2.2.1 s16v.2.2.2.2).bind fun s43v => (some (decide (s43v = (1 : Int))))) else (some false)).bind fun s41v => (some s41v)))))))))
theorem synodlaw11_first.calls (W : World) (F : HA)   :
    Fn Try.prog W 9 [] [] F (synodlaw11_first.f ) (fun (r : Bool) (y : Unit) => .bool r) (fun r y => []) := by
 unfold synodlaw11_first.f
 refine fn_intro 71 Try.func9 rfl Try.ntmps9 rfl ?_
 refine sr ?_
 refine va rfl rfl (nx ?_)
 refine simL_bind (fun s1v hs2v => ?_)
 refine simL_eff (re_call (vs := []) (cap := []) (A := []) (rst := [F]) rfl rfl rfl rfl rfl rfl Try.call11 (.sel 0 rfl (.nil _)) (kv_New.calls _ _  ) hs2v) rfl rfl rfl ?_
 intro y3v
 refine va rfl rfl (simL_nil (nrm_then (sim_seq (sr ?_))))
 refine vm rfl rfl ?_
 refine vq (q_eqp rfl rfl rfl Try.underlying25) rfl (simL_nil (nrm_then ?_))
 refine sim_false rfl ?_
 refine sim_skip ?_
 refine nrm_then (sr ?_)
 refine vm rfl rfl ?_
 refine vq (q_build (v := .agg #[.int .i64 2, .int .i64 1, .int .i64 1, str ([97] : List UInt8), str ([120] : List UInt8), str ([] : List UInt8)]) rfl rfl (fun _ => by kernel_rfl)) rfl ?_
 refine simL_bind (fun s4v hs5v => ?_)
 refine simL_eff (re_call (vs := [.pointer (some ⟨y3v.1, 0, none⟩), .agg #[.int .i64 2, .int .i64 1, .int .i64 1, str ([97] : List UInt8), str ([120] : List UInt8), str ([] : List UInt8)]]) (cap := []) (A := [obj y3v.1 63 [.map (some y3v.2.1), .map (some y3v.2.2)], mapO y3v.2.1 enc9 enc9 s1v.1, mapO y3v.2.2 enc3 enc42 s1v.2]) (rst := [F]) rfl rfl rfl rfl rfl rfl Try.call12 (.sel 0 rfl (.sel 0 rfl (.sel 0 rfl (.sel 0 rfl (.nil _))))) (kv_Store_Do.calls _ _ y3v.1 y3v.2.1 s1v.1 y3v.2.2 s1v.2 (2 : Int) (1 : Int) (1 : Int) ([97] : List UInt8) ([120] : List UInt8) ([] : List UInt8) ) hs5v) rfl rfl rfl ?_
 intro y6v
 refine vm rfl rfl ?_
 refine vq (q_ext rfl rfl rfl) rfl ?_
 refine vq (q_ext rfl rfl rfl) rfl ?_
 refine simL_eff (re_alloc rfl Try.zeroValue28 rfl) rfl rfl rfl ?_
 intro b7v
 refine simL_do (re_store 0 rfl rfl rfl Try.sizeOf28 rfl rfl (one_of (by rfl)) rfl rfl) rfl rfl ?_
 intro _
 refine va rfl rfl (nx ?_)
 refine vm rfl rfl ?_
 refine vq (q_build (v := .agg #[.int .i64 2, .int .i64 1, .int .i64 1, str ([97] : List UInt8), str ([121] : List UInt8), str ([] : List UInt8)]) rfl rfl (fun _ => by kernel_rfl)) rfl ?_
 refine simL_bind (fun s8v hs9v => ?_)
 refine simL_eff (re_call (vs := [.pointer (some ⟨y3v.1, 0, none⟩), .agg #[.int .i64 2, .int .i64 1, .int .i64 1, str ([97] : List UInt8), str ([121] : List UInt8), str ([] : List UInt8)]]) (cap := []) (A := [obj y3v.1 63 [.map (some y6v.1), .map (some y6v.2)], mapO y6v.1 enc9 enc9 s4v.2.2.2.1, mapO y6v.2 enc3 enc42 s4v.2.2.2.2]) (rst := [obj b7v 28 [.int .i64 s4v.1, str s4v.2.1], F]) rfl rfl rfl rfl rfl rfl Try.call12 (.sel 1 rfl (.sel 1 rfl (.sel 1 rfl (.sel 0 rfl (.sel 0 rfl (.nil _)))))) (kv_Store_Do.calls _ _ y3v.1 y6v.1 s4v.2.2.2.1 y6v.2 s4v.2.2.2.2 (2 : Int) (1 : Int) (1 : Int) ([97] : List UInt8) ([121] : List UInt8) ([] : List UInt8) ) hs9v) rfl rfl rfl ?_
 intro y10v
 refine vm rfl rfl ?_
 refine vq (q_ext rfl rfl rfl) rfl ?_
 refine vq (q_ext rfl rfl rfl) rfl ?_
 refine simL_eff (re_alloc rfl Try.zeroValue28 rfl) rfl rfl rfl ?_
 intro b11v
 refine simL_do (re_store 0 rfl rfl rfl Try.sizeOf28 rfl rfl (one_of (by rfl)) rfl rfl) rfl rfl ?_
 intro _
 refine va rfl rfl (nx ?_)
 refine vm rfl rfl ?_
 refine vq (q_build (v := .agg #[.int .i64 4, .int .i64 2, .int .i64 1, str ([97] : List UInt8), str ([122] : List UInt8), str ([121] : List UInt8)]) rfl rfl (fun _ => by kernel_rfl)) rfl ?_
 refine simL_bind (fun s12v hs13v => ?_)
 refine simL_eff (re_call (vs := [.pointer (some ⟨y3v.1, 0, none⟩), .agg #[.int .i64 4, .int .i64 2, .int .i64 1, str ([97] : List UInt8), str ([122] : List UInt8), str ([121] : List UInt8)]]) (cap := []) (A := [obj y3v.1 63 [.map (some y10v.1), .map (some y10v.2)], mapO y10v.1 enc9 enc9 s8v.2.2.2.1, mapO y10v.2 enc3 enc42 s8v.2.2.2.2]) (rst := [obj b11v 28 [.int .i64 s8v.1, str s8v.2.1], obj b7v 28 [.int .i64 s4v.1, str s4v.2.1], F]) rfl rfl rfl rfl rfl rfl Try.call12 (.sel 1 rfl (.sel 1 rfl (.sel 1 rfl (.sel 0 rfl (.sel 0 rfl (.sel 0 rfl (.nil _))))))) (kv_Store_Do.calls _ _ y3v.1 y10v.1 s8v.2.2.2.1 y10v.2 s8v.2.2.2.2 (4 : Int) (2 : Int) (1 : Int) ([97] : List UInt8) ([122] : List UInt8) ([121] : List UInt8) ) hs13v) rfl rfl rfl ?_
 intro y14v
 refine vm rfl rfl ?_
 refine vq (q_ext rfl rfl rfl) rfl ?_
 refine vq (q_ext rfl rfl rfl) rfl ?_
 refine simL_eff (re_alloc rfl Try.zeroValue28 rfl) rfl rfl rfl ?_
 intro b15v
 refine simL_do (re_store 0 rfl rfl rfl Try.sizeOf28 rfl rfl (one_of (by rfl)) rfl rfl) rfl rfl ?_
 intro _
 refine va rfl rfl (nx ?_)
 refine vm rfl rfl ?_
 refine vq (q_build (v := .agg #[.int .i64 1, .int .i64 0, .int .i64 0, str ([] : List UInt8), str ([] : List UInt8), str ([] : List UInt8)]) rfl rfl (fun _ => by kernel_rfl)) rfl ?_
 refine simL_bind (fun s16v hs17v => ?_)
 refine simL_eff (re_call (vs := [.pointer (some ⟨y3v.1, 0, none⟩), .agg #[.int .i64 1, .int .i64 0, .int .i64 0, str ([] : List UInt8), str ([] : List UInt8), str ([] : List UInt8)]]) (cap := []) (A := [obj y3v.1 63 [.map (some y14v.1), .map (some y14v.2)], mapO y14v.1 enc9 enc9 s12v.2.2.2.1, mapO y14v.2 enc3 enc42 s12v.2.2.2.2]) (rst := [obj b15v 28 [.int .i64 s12v.1, str s12v.2.1], obj b11v 28 [.int .i64 s8v.1, str s8v.2.1], obj b7v 28 [.int .i64 s4v.1, str s4v.2.1], F]) rfl rfl rfl rfl rfl rfl Try.call12 (.sel 1 rfl (.sel 1 rfl (.sel 1 rfl (.sel 0 rfl (.sel 0 rfl (.sel 0 rfl (.sel 0 rfl (.nil _)))))))) (kv_Store_Do.calls _ _ y3v.1 y14v.1 s12v.2.2.2.1 y14v.2 s12v.2.2.2.2 (1 : Int) (0 : Int) (0 : Int) ([] : List UInt8) ([] : List UInt8) ([] : List UInt8) ) hs17v) rfl rfl rfl ?_
 intro y18v
 refine vm rfl rfl ?_
 refine vq (q_ext rfl rfl rfl) rfl ?_
 refine vq (q_ext rfl rfl rfl) rfl ?_
 refine simL_eff (re_alloc rfl Try.zeroValue28 rfl) rfl rfl rfl ?_
 intro b19v
 refine simL_do (re_store 0 rfl rfl rfl Try.sizeOf28 rfl rfl (one_of (by rfl)) rfl rfl) rfl rfl ?_
 intro _
 refine va rfl rfl (nx ?_)
 refine vq (q_loado 6 rfl rfl Try.isAgg28 Try.sizeOf28 rfl rfl) rfl ?_
 refine vq (q_build (v := .agg #[.int .i64 1, str ([] : List UInt8)]) rfl rfl (fun _ => by kernel_rfl)) rfl ?_
 refine vq (q_eqagg rfl rfl rfl (by kernel_rfl) (fun d w => eqi_struct Try.underlying28 (by kernel_rfl) (eqf_cons (by rfl) (part_of Try.isAgg3 rfl) (part_of Try.isAgg3 rfl) (eqi_int Try.underlying3) (eqf_last (by rfl) (part_of Try.isAgg9 rfl) (part_of Try.isAgg9 rfl) (eqi_str Try.underlying9))))) rfl ?_
 refine vm rfl rfl ?_
 refine simL_valc (b := decide (s4v.1 = (1 : Int)) && (decide (s4v.2.1 = ([] : List UInt8)))) (fun hb53v => RQ.sub (E' := [(4, .pointer (some ⟨b11v, 0, none⟩))]) ⟨rfl, trivial⟩ (q_loado 5 rfl rfl Try.isAgg28 Try.sizeOf28 rfl rfl)) rfl rfl rfl rfl rfl ?_
 refine simL_valc (b := decide (s4v.1 = (1 : Int)) && (decide (s4v.2.1 = ([] : List UInt8)))) (fun hb52v => RQ.sub (E' := [(2, .pointer (some ⟨b7v, 0, none⟩))]) ⟨rfl, trivial⟩ (q_loado 6 rfl rfl Try.isAgg28 Try.sizeOf28 rfl rfl)) rfl rfl rfl rfl rfl ?_
 refine simL_valc (b := decide (s4v.1 = (1 : Int)) && (decide (s4v.2.1 = ([] : List UInt8)))) (fun hb51v => RQ.sub (E' := [(41, .agg #[.int .i64 s8v.1, str s8v.2.1]), (42, .agg #[.int .i64 s4v.1, str s4v.2.1])]) ⟨lk_cv rfl hb51v, lk_cv rfl hb51v, trivial⟩ (q_eqagg rfl rfl rfl (by kernel_rfl) (fun d w => eqi_struct Try.underlying28 (by kernel_rfl) (eqf_cons (by rfl) (part_of Try.isAgg3 rfl) (part_of Try.isAgg3 rfl) (eqi_int Try.underlying3) (eqf_last (by rfl) (part_of Try.isAgg9 rfl) (part_of Try.isAgg9 rfl) (eqi_str Try.underlying9)))))) rfl rfl rfl rfl rfl ?_
 refine vq (q_and rfl rfl rfl) rfl ?_
 refine vm rfl rfl ?_
 refine simL_valc (b := (decide (s4v.1 = (1 : Int)) && (decide (s4v.2.1 = ([] : List UInt8)))) && (decide (s8v.1 = s4v.1) && (decide (s8v.2.1 = s4v.2.1)))) (fun hb50v => RQ.sub (E' := [(6, .pointer (some ⟨b15v, 0, none⟩))]) ⟨rfl, trivial⟩ (q_loado 4 rfl rfl Try.isAgg28 Try.sizeOf28 rfl rfl)) rfl rfl rfl rfl rfl ?_
 refine simL_valc (b := (decide (s4v.1 = (1 : Int)) && (decide (s4v.2.1 = ([] : List UInt8)))) && (decide (s8v.1 = s4v.1) && (decide (s8v.2.1 = s4v.2.1)))) (fun hb49v => RQ.sub (E' := []) trivial (q_build (v := .agg #[.int .i64 3, str ([120] : List UInt8)]) rfl rfl (fun _ => by kernel_rfl))) rfl rfl rfl rfl rfl ?_
 refine simL_valc (b := (decide (s4v.1 = (1 : Int)) && (decide (s4v.2.1 = ([] : List UInt8)))) && (decide (s8v.1 = s4v.1) && (decide (s8v.2.1 = s4v.2.1)))) (fun hb48v => RQ.sub (E' := [(46, .agg #[.int .i64 s12v.1, str s12v.2.1]), (47, .agg #[.int .i64 3, str ([120] : List UInt8)])]) ⟨lk_cv rfl hb48v, lk_cv rfl hb48v, trivial⟩ (q_eqagg rfl rfl rfl (by kernel_rfl) (fun d w => eqi_struct Try.underlying28 (by kernel_rfl) (eqf_cons (by rfl) (part_of Try.isAgg3 rfl) (part_of Try.isAgg3 rfl) (eqi_int Try.underlying3) (eqf_last (by rfl) (part_of Try.isAgg9 rfl) (part_of Try.isAgg9 rfl) (eqi_str Try.underlying9)))))) rfl rfl rfl rfl rfl ?_
 refine vq (q_and rfl rfl rfl) rfl ?_
 refine vm rfl rfl ?_
 refine simL_cut' 5 (S := Bool) (Unit) (fun s y => [(1, .pointer (some ⟨y3v.1, 0, none⟩)), (3, .int .i64 s4v.2.2.1), (9, .int .i64 s16v.2.2.1), (55, .bool s)]) (fun s y => [obj y3v.1 63 [.map (some y18v.1), .map (some y18v.2)], mapO y18v.1 enc9 enc9 s16v.2.2.2.1, mapO y18v.2 enc3 enc42 s16v.2.2.2.2, F]) ?_ ?_
 refine simL_caseb (fun hb25v => ?_) (fun hb26v => ?_)
 rw [hb25v]
 refine simL_valg (q_move rfl rfl) rfl rfl rfl rfl rfl rfl ?_
 refine simL_bind (fun s22v hs23v => ?_)
 refine simL_effg (re_call (vs := [.pointer (some ⟨y3v.1, 0, none⟩), str ([97] : List UInt8)]) (cap := []) (A := [obj y3v.1 63 [.map (some y18v.1), .map (some y18v.2)], mapO y18v.1 enc9 enc9 s16v.2.2.2.1, mapO y18v.2 enc3 enc42 s16v.2.2.2.2]) (rst := [obj b19v 28 [.int .i64 s16v.1, str s16v.2.1], obj b15v 28 [.int .i64 s12v.1, str s12v.2.1], obj b11v 28 [.int .i64 s8v.1, str s8v.2.1], obj b7v 28 [.int .i64 s4v.1, str s4v.2.1], F]) rfl rfl rfl rfl rfl rfl Try.call19 (.sel 1 rfl (.sel 1 rfl (.sel 1 rfl (.sel 0 rfl (.sel 0 rfl (.sel 0 rfl (.sel 0 rfl (.sel 0 rfl (.nil _))))))))) (kv_Store_Get.calls _ _ y3v.1 y18v.1 s16v.2.2.2.1 y18v.2 s16v.2.2.2.2 ([97] : List UInt8) ) hs23v) rfl rfl rfl rfl rfl rfl ?_
 intro y24v
 refine simL_valg (q_build (v := .agg #[.int .i64 1, str ([120] : List UInt8)]) rfl rfl (fun _ => by kernel_rfl)) rfl rfl rfl rfl rfl rfl ?_
 refine simL_valg (q_eqagg rfl rfl rfl (by kernel_rfl) (fun d w => eqi_struct Try.underlying28 (by kernel_rfl) (eqf_cons (by rfl) (part_of Try.isAgg3 rfl) (part_of Try.isAgg3 rfl) (eqi_int Try.underlying3) (eqf_last (by rfl) (part_of Try.isAgg9 rfl) (part_of Try.isAgg9 rfl) (eqi_str Try.underlying9))))) rfl rfl rfl rfl rfl rfl ?_
 refine vq (q_pick rfl rfl rfl rfl rfl) rfl (simL_nil ?_)
 exact nrm_cut (s := decide (s22v.1 = (1 : Int)) && (decide (s22v.2 = ([120] : List UInt8)))) () ⟨rfl, rfl, rfl, rfl, trivial⟩ (.sel 0 rfl (.sel 0 rfl (.sel 0 rfl (.sel 4 rfl (.nil _)))))
 rw [hb26v]
 refine simL_skipd rfl rfl rfl rfl rfl rfl ?_
 refine simL_skipd rfl rfl rfl rfl rfl rfl ?_
 refine simL_skipd rfl rfl rfl rfl rfl rfl ?_
 refine simL_skipd rfl rfl rfl rfl rfl rfl ?_
 refine vq (q_pick rfl rfl rfl rfl rfl) rfl (simL_nil ?_)
 exact nrm_cut (s := false) () ⟨rfl, rfl, rfl, rfl, trivial⟩ (.sel 1 rfl (.sel 1 rfl (.sel 1 rfl (.sel 4 rfl (.nil _)))))
 intro s20v y21v
 refine vm rfl rfl ?_
 refine simL_cut' 4 (S := Bool) (Unit) (fun s y => [(1, .pointer (some ⟨y3v.1, 0, none⟩)), (9, .int .i64 s16v.2.2.1), (60, .bool s)]) (fun s y => [obj y3v.1 63 [.map (some y18v.1), .map (some y18v.2)], mapO y18v.1 enc9 enc9 s16v.2.2.2.1, mapO y18v.2 enc3 enc42 s16v.2.2.2.2, F]) ?_ ?_
 refine simL_caseb (fun hb32v => ?_) (fun hb33v => ?_)
 rw [hb32v]
 refine simL_valg (q_move rfl rfl) rfl rfl rfl rfl rfl rfl ?_
 refine simL_bind (fun s29v hs30v => ?_)
 refine simL_effg (re_call (vs := [.int .i64 s4v.2.2.1]) (cap := []) (A := []) (rst := [obj y3v.1 63 [.map (some y18v.1), .map (some y18v.2)], mapO y18v.1 enc9 enc9 s16v.2.2.2.1, mapO y18v.2 enc3 enc42 s16v.2.2.2.2, F]) rfl rfl rfl rfl rfl rfl Try.call13 (.sel 0 rfl (.sel 0 rfl (.sel 0 rfl (.sel 0 rfl (.nil _))))) (synodref_Num.calls _ _ s4v.2.2.1 ) hs30v) rfl rfl rfl rfl rfl rfl ?_
 intro y31v
 refine simL_valg (q_eql rfl rfl rfl) rfl rfl rfl rfl rfl rfl ?_
 refine vq (q_pick rfl rfl rfl rfl rfl) rfl (simL_nil ?_)
 exact nrm_cut (s := decide (s29v = (0 : Int))) () ⟨rfl, rfl, rfl, trivial⟩ (.sel 0 rfl (.sel 0 rfl (.sel 0 rfl (.sel 0 rfl (.nil _)))))
 rw [hb33v]
 refine simL_skipd rfl rfl rfl rfl rfl rfl ?_
 refine simL_skipd rfl rfl rfl rfl rfl rfl ?_
 refine simL_skipd rfl rfl rfl rfl rfl rfl ?_
 refine vq (q_pick rfl rfl rfl rfl rfl) rfl (simL_nil ?_)
 exact nrm_cut (s := false) () ⟨rfl, rfl, rfl, trivial⟩ (.sel 0 rfl (.sel 0 rfl (.sel 0 rfl (.sel 0 rfl (.nil _)))))
 intro s27v y28v
 refine vm rfl rfl ?_
 refine simL_cut' 4 (S := Bool) (Unit) (fun s y => [(1, .pointer (some ⟨y3v.1, 0, none⟩)), (65, .bool s)]) (fun s y => [obj y3v.1 63 [.map (some y18v.1), .map (some y18v.2)], mapO y18v.1 enc9 enc9 s16v.2.2.2.1, mapO y18v.2 enc3 enc42 s16v.2.2.2.2, F]) ?_ ?_
 refine simL_caseb (fun hb39v => ?_) (fun hb40v => ?_)
 rw [hb39v]
 refine simL_valg (q_move rfl rfl) rfl rfl rfl rfl rfl rfl ?_
 refine simL_bind (fun s36v hs37v => ?_)
 refine simL_effg (re_call (vs := [.int .i64 s16v.2.2.1]) (cap := []) (A := []) (rst := [obj y3v.1 63 [.map (some y18v.1), .map (some y18v.2)], mapO y18v.1 enc9 enc9 s16v.2.2.2.1, mapO y18v.2 enc3 enc42 s16v.2.2.2.2, F]) rfl rfl rfl rfl rfl rfl Try.call13 (.sel 0 rfl (.sel 0 rfl (.sel 0 rfl (.sel 0 rfl (.nil _))))) (synodref_Num.calls _ _ s16v.2.2.1 ) hs37v) rfl rfl rfl rfl rfl rfl ?_
 intro y38v
 refine simL_valg (q_eql rfl rfl rfl) rfl rfl rfl rfl rfl rfl ?_
 refine vq (q_pick rfl rfl rfl rfl rfl) rfl (simL_nil ?_)
 exact nrm_cut (s := decide (s36v = (6 : Int))) () ⟨rfl, rfl, trivial⟩ (.sel 0 rfl (.sel 0 rfl (.sel 0 rfl (.sel 0 rfl (.nil _)))))
 rw [hb40v]
 refine simL_skipd rfl rfl rfl rfl rfl rfl ?_
 refine simL_skipd rfl rfl rfl rfl rfl rfl ?_
 refine simL_skipd rfl rfl rfl rfl rfl rfl ?_
 refine vq (q_pick rfl rfl rfl rfl rfl) rfl (simL_nil ?_)
 exact nrm_cut (s := false) () ⟨rfl, rfl, trivial⟩ (.sel 0 rfl (.sel 0 rfl (.sel 0 rfl (.sel 0 rfl (.nil _)))))
 intro s34v y35v
 refine vm rfl rfl ?_
 refine simL_cut' 4 (S := Bool) (Unit) (fun s y => [(70, .bool s)]) (fun s y => [F]) ?_ ?_
 refine simL_caseb (fun hb46v => ?_) (fun hb47v => ?_)
 rw [hb46v]
 refine simL_valg (q_move rfl rfl) rfl rfl rfl rfl rfl rfl ?_
 refine simL_bind (fun s43v hs44v => ?_)
 refine simL_effg (re_call (vs := [.pointer (some ⟨y3v.1, 0, none⟩)]) (cap := []) (A := [obj y3v.1 63 [.map (some y18v.1), .map (some y18v.2)], mapO y18v.1 enc9 enc9 s16v.2.2.2.1, mapO y18v.2 enc3 enc42 s16v.2.2.2.2]) (rst := [F]) rfl rfl rfl rfl rfl rfl Try.call25 (.sel 0 rfl (.sel 0 rfl (.sel 0 rfl (.sel 0 rfl (.nil _))))) (kv_Store_Len.calls _ _ y3v.1 y18v.1 s16v.2.2.2.1 y18v.2 s16v.2.2.2.2 ) hs44v) rfl rfl rfl rfl rfl rfl ?_
 intro y45v
 refine simL_valg (q_eql rfl rfl rfl) rfl rfl rfl rfl rfl rfl ?_
 refine vq (q_pick rfl rfl rfl rfl rfl) rfl (simL_nil ?_)
 exact nrm_cut (s := decide (s43v = (1 : Int))) () ⟨rfl, trivial⟩ (.sel 3 rfl (.nil _))
 rw [hb47v]
 refine simL_skipd rfl rfl rfl rfl rfl rfl ?_
 refine simL_skipd rfl rfl rfl rfl rfl rfl ?_
 refine simL_skipd rfl rfl rfl rfl rfl rfl ?_
 refine vq (q_pick rfl rfl rfl rfl rfl) rfl (simL_nil ?_)
 exact nrm_cut (s := false) () ⟨rfl, trivial⟩ (.sel 3 rfl (.nil _))
 intro s41v y42v
 refine va rfl rfl (simL_nil (nrm_then (sim_rtn ?_)))
 exact rtn_fn () rfl rfl rfl (.sel 0 rfl (.nil _))

def synodlaw11_few.l0 (x0 : List (Ty33)) : Nat → Int → Int → Option (Int)
  | 0, _, _ => none
  | k + 1, z5v, z6v => if ((decide (z6v < (x0.length : Int))) && (decide (z6v < (400 : Int)))) = true then (if 0 ≤ z6v ∧ z6v < (x0.length : Int) then (if 0 ≤ z6v ∧ z6v < (x0.length : Int) then (if 0 ≤ z6v ∧ z6v < (x0.length : Int) then (synodlaw11_few.l0 x0 k (min (IntKind.i64.wrap ((IntKind.i64.wrap ((IntKind.i64.wrap (z5v + (min (((x0.getD z6v.toNat dz33).2.2.2.1).length : Int) (40000 : Int)))) + (min (((x0.getD z6v.toNat dz33).2.2.2.2.1).length : Int) (40000 : Int)))) + (min (((x0.getD z6v.toNat dz33).2.2.2.2.2).length : Int) (40000 : Int)))) (80000 : Int)) (IntKind.i64.wrap (z6v + 1))) else none) else none) else none) else (some z5v)
def synodlaw11_few.f (k : Nat) (x0 : List (Ty33)) : Option (Bool) := (synodlaw11_few.l0 x0 k 0 0).bind fun s1v => (some ((decide ((x0.length : Int) ≤ (400 : Int))) && (decide (s1v ≤ (40000 : Int)))))
theorem synodlaw11_few.calls (W : World) (F : HA) (k : Nat) (a0 : Option Addr) (c0 : Nat) (x0 : List (Ty33)) (h0 : RdV F 6 (V33 tt) a0 x0) (hc0 : x0.length ≤ c0) (hm0 : c0 ≤ maxLen) :
    Fn Try.prog W 10 [.slice a0 x0.length c0] [] F (synodlaw11_few.f k x0) (fun (r : Bool) (y : Unit) => .bool r) (fun r y => []) := by
 unfold synodlaw11_few.f
 refine fn_intro 49 Try.func10 rfl Try.ntmps10 rfl ?_
 refine sr ?_
 refine va rfl rfl (nx ?_)
 refine va rfl rfl (simL_nil (nrm_then ?_))
 refine sim_cut (S := Int) (Unit) (fun s y => [(0, .slice a0 x0.length c0), (3, .int .i64 s)]) (fun s y => [F]) ?_ ?_
 refine sr ?_
 refine va rfl rfl (simL_nil (nrm_then ?_))
 refine sim_block ?_
 refine sim_loop (S := Int × Int) (Unit) (fun k s => synodlaw11_few.l0 x0 k s.1 s.2) (fun s y => [(0, .slice a0 x0.length c0), (3, .int .i64 s.1), (4, .int .i64 s.2)]) (fun s y => [F]) (fun _ => by rw [synodlaw11_few.l0]) ?_ k (0, 0) () ⟨rfl, rfl, rfl, trivial⟩ (.sel 0 rfl (.nil _))
 intro k s3v y4v
 refine sim_eq (by rw [synodlaw11_few.l0]) ?_
 refine sim_seq (sr ?_)
 refine vm rfl rfl ?_
 refine vm rfl rfl ?_
 refine vq (q_len rfl rfl rfl Try.underlying22) rfl ?_
 refine vq (q_lss rfl rfl rfl) rfl ?_
 refine vm rfl rfl ?_
 refine simL_valc (b := decide (s3v.2 < (x0.length : Int))) (fun hb35v => RQ.sub (E' := [(4, .int .i64 s3v.2)]) ⟨rfl, trivial⟩ (q_move rfl rfl)) rfl rfl rfl rfl rfl ?_
 refine simL_valc (b := decide (s3v.2 < (x0.length : Int))) (fun hb34v => RQ.sub (E' := [(10, .int .i64 s3v.2)]) ⟨lk_cv rfl hb34v, trivial⟩ (q_lss rfl rfl rfl)) rfl rfl rfl rfl rfl ?_
 refine vq (q_and rfl rfl rfl) rfl (simL_nil (nrm_then ?_))
 refine sim_condb rfl (fun h7v => ?_) (fun h8v => ?_)
 refine sim_skip ?_
 refine nrm_then (sim_seq ?_)
 refine sim_block ?_
 refine sim_seq ?_
 refine sim_ask (fun hi9v => ?_)
 obtain ⟨b10v, b10vo, r13v, ha11v, hV14v, hlr15v, hcell16v⟩ := RdV.pos h0 (Up.refl _) rfl (i := s3v.2.toNat) (by omega) dz33
 obtain rfl := hV14v
 refine sim_ask (fun hi17v => ?_)
 obtain ⟨b18v, b18vo, r21v, ha19v, hV22v, hlr23v, hcell24v⟩ := RdV.pos h0 (Up.refl _) rfl (i := s3v.2.toNat) (by omega) dz33
 obtain rfl := hV22v
 refine sim_ask (fun hi25v => ?_)
 obtain ⟨b26v, b26vo, r29v, ha27v, hV30v, hlr31v, hcell32v⟩ := RdV.pos h0 (Up.refl _) rfl (i := s3v.2.toNat) (by omega) dz33
 obtain rfl := hV30v
 refine sim_draw (Γ := Unit) () [[], [], [], [1, 2], [1, 2, 3], [1, 2, 3, 4], [1, 2, 3, 4, 5], [1, 2, 3, 4, 5, 6], rL 8, [], [], [9, 10], [9, 10, 11], [9, 10, 11, 12], [9, 10, 11, 12, 13], [9, 10, 11, 12, 13, 14], rL 16, [], [], [17, 18], [17, 18, 19], [17, 18, 19, 20], [17, 18, 19, 20, 21], [17, 18, 19, 20, 21, 22], rL 24, rL 25] [] [0, 1, 2, 3, 4, 5, 6, 7, 8, 9, 10, 11, 12, 13, 14, 15, 16, 17, 18, 19, 20, 21, 22, 23, 24, 25] (fun i => [[0], [0], [0], [0], [0], [0], [0], [0], [0], [0], [0], [0], [0], [0], [0], [0], [0], [0], [0], [0], [0], [0], [0], [0], [0], [0]].getD i []) (fun i => [[], [], [], [], [], [], [], [], [], [], [], [], [], [], [], [], [], [], [], [], [], [], [], [], [], []].getD i []) (fun γ i => [.int .i64 s3v.1, .slice a0 x0.length c0, .int .i64 s3v.2, .pointer (some ⟨b10v, b10vo + s3v.2.toNat * 6, none⟩), .pointer (some ⟨b10v, b10vo + s3v.2.toNat * 6 + 3, none⟩), str ((x0.getD s3v.2.toNat dz33).2.2.2.1), .int .i64 (((x0.getD s3v.2.toNat dz33).2.2.2.1).length : Int), .int .i64 (min (((x0.getD s3v.2.toNat dz33).2.2.2.1).length : Int) (40000 : Int)), .int .i64 (IntKind.i64.wrap (s3v.1 + (min (((x0.getD s3v.2.toNat dz33).2.2.2.1).length : Int) (40000 : Int)))), .slice a0 x0.length c0, .int .i64 s3v.2, .pointer (some ⟨b18v, b18vo + s3v.2.toNat * 6, none⟩), .pointer (some ⟨b18v, b18vo + s3v.2.toNat * 6 + 4, none⟩), str ((x0.getD s3v.2.toNat dz33).2.2.2.2.1), .int .i64 (((x0.getD s3v.2.toNat dz33).2.2.2.2.1).length : Int), .int .i64 (min (((x0.getD s3v.2.toNat dz33).2.2.2.2.1).length : Int) (40000 : Int)), .int .i64 (IntKind.i64.wrap ((IntKind.i64.wrap (s3v.1 + (min (((x0.getD s3v.2.toNat dz33).2.2.2.1).length : Int) (40000 : Int)))) + (min (((x0.getD s3v.2.toNat dz33).2.2.2.2.1).length : Int) (40000 : Int)))), .slice a0 x0.length c0, .int .i64 s3v.2, .pointer (some ⟨b26v, b26vo + s3v.2.toNat * 6, none⟩), .pointer (some ⟨b26v, b26vo + s3v.2.toNat * 6 + 5, none⟩), str ((x0.getD s3v.2.toNat dz33).2.2.2.2.2), .int .i64 (((x0.getD s3v.2.toNat dz33).2.2.2.2.2).length : Int), .int .i64 (min (((x0.getD s3v.2.toNat dz33).2.2.2.2.2).length : Int) (40000 : Int)), .int .i64 (IntKind.i64.wrap ((IntKind.i64.wrap ((IntKind.i64.wrap (s3v.1 + (min (((x0.getD s3v.2.toNat dz33).2.2.2.1).length : Int) (40000 : Int)))) + (min (((x0.getD s3v.2.toNat dz33).2.2.2.2.1).length : Int) (40000 : Int)))) + (min (((x0.getD s3v.2.toNat dz33).2.2.2.2.2).length : Int) (40000 : Int)))), .int .i64 (IntKind.i64.wrap ((IntKind.i64.wrap ((IntKind.i64.wrap (s3v.1 + (min (((x0.getD s3v.2.toNat dz33).2.2.2.1).length : Int) (40000 : Int)))) + (min (((x0.getD s3v.2.toNat dz33).2.2.2.2.1).length : Int) (40000 : Int)))) + (min (((x0.getD s3v.2.toNat dz33).2.2.2.2.2).length : Int) (40000 : Int))))].getD i undef) (fun j γ => [[F]].getD j []) (fun γ => [(0, .slice a0 x0.length c0), (3, .int .i64 (IntKind.i64.wrap ((IntKind.i64.wrap ((IntKind.i64.wrap (s3v.1 + (min (((x0.getD s3v.2.toNat dz33).2.2.2.1).length : Int) (40000 : Int)))) + (min (((x0.getD s3v.2.toNat dz33).2.2.2.2.1).length : Int) (40000 : Int)))) + (min (((x0.getD s3v.2.toNat dz33).2.2.2.2.2).length : Int) (40000 : Int))))), (4, .int .i64 s3v.2), (10, cv ((decide (s3v.2 < (x0.length : Int))) == true) (.int .i64 s3v.2)), (11, cv ((decide (s3v.2 < (x0.length : Int))) == true) (.bool (decide (s3v.2 < (400 : Int)))))]) mixed (by decide) (by decide) (by decide) (by decide) (by decide) (by decide) (by decide) 49 rfl (by decide) (by decide) (by decide) (Ent.refl _) ?_ ?_ (fun _ => ⟨rfl, rfl, rfl, rfl, rfl, trivial⟩) ?_
 exact (aq rfl (fun γ => qm rfl (.o (s := 3) rfl (by decide) .nil) rfl) (aq rfl (fun γ => qm rfl (.o (s := 0) rfl (by decide) .nil) rfl) (aq rfl (fun γ => qm rfl (.o (s := 4) rfl (by decide) .nil) rfl) (aq rfl (fun γ => qp rfl rfl (.v 1 rfl rfl (.v 2 rfl rfl .nil)) (q_idx rfl rfl rfl ha11v Try.underlying22 Try.sizeOf33 hi9v.1 hi9v.2) rfl) (aq rfl (fun γ => qp rfl rfl (.v 3 rfl rfl .nil) (q_fa rfl rfl Try.underlying33 rfl rfl Try.sizeOf9 rfl) rfl) (aq rfl (fun γ => qp rfl rfl (.v 4 rfl rfl .nil) (q_load rfl rfl Try.isAgg9 (hcell16v 0 rfl 3 _ rfl)) rfl) (aq rfl (fun γ => qp rfl rfl (.v 5 rfl rfl .nil) (q_lens rfl rfl rfl Try.underlying9) rfl) (aq rfl (fun γ => qp rfl rfl (.v 6 rfl rfl .nil) (q_min rfl rfl rfl) rfl) (aq rfl (fun γ => qp rfl rfl (.v 0 rfl rfl (.v 7 rfl rfl .nil)) (q_add rfl rfl rfl) rfl) (aq rfl (fun γ => qm rfl (.o (s := 0) rfl (by decide) .nil) rfl) (aq rfl (fun γ => qm rfl (.o (s := 4) rfl (by decide) .nil) rfl) (aq rfl (fun γ => qp rfl rfl (.v 9 rfl rfl (.v 10 rfl rfl .nil)) (q_idx rfl rfl rfl ha19v Try.underlying22 Try.sizeOf33 hi17v.1 hi17v.2) rfl) (aq rfl (fun γ => qp rfl rfl (.v 11 rfl rfl .nil) (q_fa rfl rfl Try.underlying33 rfl rfl Try.sizeOf9 rfl) rfl) (aq rfl (fun γ => qp rfl rfl (.v 12 rfl rfl .nil) (q_load rfl rfl Try.isAgg9 (hcell24v 0 rfl 4 _ rfl)) rfl) (aq rfl (fun γ => qp rfl rfl (.v 13 rfl rfl .nil) (q_lens rfl rfl rfl Try.underlying9) rfl) (aq rfl (fun γ => qp rfl rfl (.v 14 rfl rfl .nil) (q_min rfl rfl rfl) rfl) (aq rfl (fun γ => qp rfl rfl (.v 8 rfl rfl (.v 15 rfl rfl .nil)) (q_add rfl rfl rfl) rfl) (aq rfl (fun γ => qm rfl (.o (s := 0) rfl (by decide) .nil) rfl) (aq rfl (fun γ => qm rfl (.o (s := 4) rfl (by decide) .nil) rfl) (aq rfl (fun γ => qp rfl rfl (.v 17 rfl rfl (.v 18 rfl rfl .nil)) (q_idx rfl rfl rfl ha27v Try.underlying22 Try.sizeOf33 hi25v.1 hi25v.2) rfl) (aq rfl (fun γ => qp rfl rfl (.v 19 rfl rfl .nil) (q_fa rfl rfl Try.underlying33 rfl rfl Try.sizeOf9 rfl) rfl) (aq rfl (fun γ => qp rfl rfl (.v 20 rfl rfl .nil) (q_load rfl rfl Try.isAgg9 (hcell32v 0 rfl 5 _ rfl)) rfl) (aq rfl (fun γ => qp rfl rfl (.v 21 rfl rfl .nil) (q_lens rfl rfl rfl Try.underlying9) rfl) (aq rfl (fun γ => qp rfl rfl (.v 22 rfl rfl .nil) (q_min rfl rfl rfl) rfl) (aq rfl (fun γ => qp rfl rfl (.v 16 rfl rfl (.v 23 rfl rfl .nil)) (q_add rfl rfl rfl) rfl) (aq rfl (fun γ => qp rfl rfl (.v 24 rfl rfl .nil) (q_asg rfl rfl) rfl) zA))))))))))))))))))))))))))
 exact zA
 intro g33v
 refine nrm_then (sim_region ?_)
 refine vm rfl rfl ?_
 refine vq (q_min rfl rfl rfl) rfl ?_
 refine va rfl rfl (simL_nil (nrm_block (nrm_then (sim_region ?_))))
 refine vm rfl rfl ?_
 refine vq (q_add rfl rfl rfl) rfl ?_
 refine va rfl rfl (simL_nil ?_)
 exact nrm_again (s := (min (IntKind.i64.wrap ((IntKind.i64.wrap ((IntKind.i64.wrap (s3v.1 + (min (((x0.getD s3v.2.toNat dz33).2.2.2.1).length : Int) (40000 : Int)))) + (min (((x0.getD s3v.2.toNat dz33).2.2.2.2.1).length : Int) (40000 : Int)))) + (min (((x0.getD s3v.2.toNat dz33).2.2.2.2.2).length : Int) (40000 : Int)))) (80000 : Int), IntKind.i64.wrap (s3v.2 + 1))) () ⟨rfl, rfl, rfl, trivial⟩ (.sel 0 rfl (.nil _))
 refine sim_exi ?_
 refine exi_then ?_
 refine exi_loop ?_
 refine exi_here ?_
 exact nrm_cut (s := s3v.1) () ⟨rfl, rfl, trivial⟩ (.sel 0 rfl (.nil _))
 intro s1v y2v
 refine sr ?_
 refine vm rfl rfl ?_
 refine vq (q_len rfl rfl rfl Try.underlying22) rfl ?_
 refine vq (q_leq rfl rfl rfl) rfl ?_
 refine vm rfl rfl ?_
 refine simL_valc (b := decide ((x0.length : Int) ≤ (400 : Int))) (fun hb37v => RQ.sub (E' := [(3, .int .i64 s1v)]) ⟨rfl, trivial⟩ (q_move rfl rfl)) rfl rfl rfl rfl rfl ?_
 refine simL_valc (b := decide ((x0.length : Int) ≤ (400 : Int))) (fun hb36v => RQ.sub (E' := [(46, .int .i64 s1v)]) ⟨lk_cv rfl hb36v, trivial⟩ (q_leq rfl rfl rfl)) rfl rfl rfl rfl rfl ?_
 refine vq (q_and rfl rfl rfl) rfl ?_
 refine va rfl rfl (simL_nil (nrm_then (sim_rtn ?_)))
 exact rtn_fn () rfl rfl rfl (.sel 0 rfl (.nil _))

def synodref3_within.f (x0 : Int) (x1 : Int) (x2 : Int) : Option (Bool) := some ((decide (x1 ≤ x0)) && (decide (x0 ≤ x2)))
theorem synodref3_within.calls (W : World) (F : HA) (x0 : Int) (x1 : Int) (x2 : Int)  :
    Fn Try.prog W 57 [.int .i64 x0, .int .i64 x1, .int .i64 x2] [] F (synodref3_within.f x0 x1 x2) (fun (r : Bool) (y : Unit) => .bool r) (fun r y => []) := by
 unfold synodref3_within.f
 refine fn_intro 15 Try.func57 rfl Try.ntmps57 rfl ?_
 refine sr ?_
 refine va rfl rfl (nx ?_)
 refine vm rfl rfl ?_
 refine vm rfl rfl ?_
 refine vq (q_geq rfl rfl rfl) rfl ?_
 refine vm rfl rfl ?_
 refine simL_valc (b := decide (x1 ≤ x0)) (fun hb3v => RQ.sub (E' := [(0, .int .i64 x0)]) ⟨rfl, trivial⟩ (q_move rfl rfl)) rfl rfl rfl rfl rfl ?_
 refine simL_valc (b := decide (x1 ≤ x0)) (fun hb2v => RQ.sub (E' := [(2, .int .i64 x2)]) ⟨rfl, trivial⟩ (q_move rfl rfl)) rfl rfl rfl rfl rfl ?_
 refine simL_valc (b := decide (x1 ≤ x0)) (fun hb1v => RQ.sub (E' := [(11, .int .i64 x0), (12, .int .i64 x2)]) ⟨lk_cv rfl hb1v, lk_cv rfl hb1v, trivial⟩ (q_leq rfl rfl rfl)) rfl rfl rfl rfl rfl ?_
 refine vq (q_and rfl rfl rfl) rfl ?_
 refine va rfl rfl (simL_nil (nrm_then (sim_rtn ?_)))
 exact rtn_fn () rfl rfl rfl (.sel 0 rfl (.nil _))
def synodref3_within.v (x0 : Int) (x1 : Int) (x2 : Int) : Bool := (synodref3_within.f x0 x1 x2).getD false
theorem synodref3_within.tot (x0 : Int) (x1 : Int) (x2 : Int) : synodref3_within.f x0 x1 x2 = some (synodref3_within.v x0 x1 x2) := by
  have h : ∃ r, synodref3_within.f x0 x1 x2 = some r := by
    unfold synodref3_within.f
    repeat' (first | exact ⟨_, rfl⟩ | split | simp only [Option.bind_some])
  obtain ⟨r, h⟩ := h
  unfold synodref3_within.v
  rw [h]; rfl

def synodref3_CheckCommand.f (x0_0 : Int) (x0_1 : Int) (x0_2 : Int) (x0_3 : List UInt8) (x0_4 : List UInt8) (x0_5 : List UInt8) : Option (Int) := (synodref3_within.f x0_0 (2 : Int) (4 : Int)).bind fun s2v => (if (!s2v) = true then (some 6) else ((synodref3_within.f x0_1 (1 : Int) (4611686018427387904 : Int)).bind fun s7v => ((if (!s7v) = true then (some true) else ((synodref3_within.f x0_2 (1 : Int) (4611686018427387904 : Int)).bind fun s12v => (some (!s12v)))).bind fun s10v => (if s10v = true then (some 1) else (if (((decide ((64 : Int) < (x0_3.length : Int))) || (decide ((1024 : Int) < (x0_4.length : Int)))) || (decide ((1024 : Int) < (x0_5.length : Int)))) = true then (some 3) else ((if x0_3 = ([] : List UInt8) then (some true) else (some ((decide (x0_0 = (3 : Int))) && (!decide (x0_4 = ([] : List UInt8)))))).bind fun s21v => ((if s21v = true then (some true) else (some ((!decide (x0_0 = (4 : Int))) && (!decide (x0_5 = ([] : List UInt8)))))).bind fun s28v => (if s28v = true then (some 4) else (some 0)))))))))
theorem synodref3_CheckCommand.calls (W : World) (F : HA) (x0_0 : Int) (x0_1 : Int) (x0_2 : Int) (x0_3 : List UInt8) (x0_4 : List UInt8) (x0_5 : List UInt8)  :
    Fn Try.prog W 35 [.agg #[.int .i64 x0_0, .int .i64 x0_1, .int .i64 x0_2, str x0_3, str x0_4, str x0_5]] [] F (synodref3_CheckCommand.f x0_0 x0_1 x0_2 x0_3 x0_4 x0_5) (fun (r : Int) (y : Unit) => .int .i64 r) (fun r y => []) := by
 unfold synodref3_CheckCommand.f
 refine fn_intro 56 Try.func35 rfl Try.ntmps35 rfl ?_
 refine sr ?_
 refine simL_eff (re_box rfl rfl rfl) rfl rfl rfl ?_
 intro b1v
 refine va rfl rfl (simL_nil (nrm_then (sim_seq (sr ?_))))
 refine vq (q_fa rfl rfl Try.underlying33 rfl rfl Try.sizeOf3 rfl) rfl ?_
 refine vq (q_load rfl rfl Try.isAgg3 (.obj 0 rfl rfl)) rfl ?_
 refine simL_bind (fun s2v hs3v => ?_)
 refine simL_eff (re_call (vs := [.int .i64 x0_0, .int .i64 2, .int .i64 4]) (cap := []) (A := []) (rst := [obj b1v 33 [.int .i64 x0_0, .int .i64 x0_1, .int .i64 x0_2, str x0_3, str x0_4, str x0_5], F]) rfl rfl rfl rfl rfl rfl Try.call57 (.sel 0 rfl (.sel 0 rfl (.nil _))) (synodref3_within.calls _ _ x0_0 (2 : Int) (4 : Int) ) hs3v) rfl rfl rfl ?_
 intro y4v
 refine vq (q_not rfl rfl) rfl (simL_nil (nrm_then ?_))
 refine sim_condb rfl (fun h5v => ?_) (fun h6v => ?_)
 refine sr ?_
 refine va rfl rfl (simL_nil (nrm_then (sim_rtn ?_)))
 refine rtn_then ?_
 exact rtn_fn () rfl rfl rfl (.sel 1 rfl (.nil _))
 refine sim_skip ?_
 refine nrm_then (sim_seq (sr ?_))
 refine vq (q_fa rfl rfl Try.underlying33 rfl rfl Try.sizeOf3 rfl) rfl ?_
 refine vq (q_load rfl rfl Try.isAgg3 (.obj 0 rfl rfl)) rfl ?_
 refine simL_bind (fun s7v hs8v => ?_)
 refine simL_eff (re_call (vs := [.int .i64 x0_1, .int .i64 1, .int .i64 4611686018427387904]) (cap := []) (A := []) (rst := [obj b1v 33 [.int .i64 x0_0, .int .i64 x0_1, .int .i64 x0_2, str x0_3, str x0_4, str x0_5], F]) rfl rfl rfl rfl rfl rfl Try.call57 (.sel 0 rfl (.sel 0 rfl (.nil _))) (synodref3_within.calls _ _ x0_1 (1 : Int) (4611686018427387904 : Int) ) hs8v) rfl rfl rfl ?_
 intro y9v
 refine vq (q_not rfl rfl) rfl ?_
 refine vm rfl rfl ?_
 refine simL_cut' 5 (S := Bool) (Unit) (fun s y => [(1, .pointer (some ⟨b1v, 0, none⟩)), (16, .bool s)]) (fun s y => [obj b1v 33 [.int .i64 x0_0, .int .i64 x0_1, .int .i64 x0_2, str x0_3, str x0_4, str x0_5], F]) ?_ ?_
 refine simL_caseb (fun hb15v => ?_) (fun hb16v => ?_)
 rw [hb15v]
 refine simL_skipd rfl rfl rfl rfl rfl rfl ?_
 refine simL_skipd rfl rfl rfl rfl rfl rfl ?_
 refine simL_skipd rfl rfl rfl rfl rfl rfl ?_
 refine simL_skipd rfl rfl rfl rfl rfl rfl ?_
 refine vq (q_pick rfl rfl rfl rfl rfl) rfl (simL_nil ?_)
 exact nrm_cut (s := true) () ⟨rfl, rfl, trivial⟩ (.sel 0 rfl (.sel 0 rfl (.nil _)))
 rw [hb16v]
 refine simL_valg (q_fa rfl rfl Try.underlying33 rfl rfl Try.sizeOf3 rfl) rfl rfl rfl rfl rfl rfl ?_
 refine simL_valg (q_load rfl rfl Try.isAgg3 (.obj 0 rfl rfl)) rfl rfl rfl rfl rfl rfl ?_
 refine simL_bind (fun s12v hs13v => ?_)
 refine simL_effg (re_call (vs := [.int .i64 x0_2, .int .i64 1, .int .i64 4611686018427387904]) (cap := []) (A := []) (rst := [obj b1v 33 [.int .i64 x0_0, .int .i64 x0_1, .int .i64 x0_2, str x0_3, str x0_4, str x0_5], F]) rfl rfl rfl rfl rfl rfl Try.call57 (.sel 0 rfl (.sel 0 rfl (.nil _))) (synodref3_within.calls _ _ x0_2 (1 : Int) (4611686018427387904 : Int) ) hs13v) rfl rfl rfl rfl rfl rfl ?_
 intro y14v
 refine simL_valg (q_not rfl rfl) rfl rfl rfl rfl rfl rfl ?_
 refine vq (q_pick rfl rfl rfl rfl rfl) rfl (simL_nil ?_)
 exact nrm_cut (s := !s12v) () ⟨rfl, rfl, trivial⟩ (.sel 0 rfl (.sel 0 rfl (.nil _)))
 intro s10v y11v
 refine simL_nil (nrm_then ?_)
 refine sim_condb rfl (fun h17v => ?_) (fun h18v => ?_)
 refine sr ?_
 refine va rfl rfl (simL_nil (nrm_then (sim_rtn ?_)))
 refine rtn_then ?_
 exact rtn_fn () rfl rfl rfl (.sel 1 rfl (.nil _))
 refine sim_skip ?_
 refine nrm_then (sim_seq (sr ?_))
 refine vq (q_fa rfl rfl Try.underlying33 rfl rfl Try.sizeOf9 rfl) rfl ?_
 refine vq (q_load rfl rfl Try.isAgg9 (.obj 0 rfl rfl)) rfl ?_
 refine vq (q_lens rfl rfl rfl Try.underlying9) rfl ?_
 refine vq (q_gtr rfl rfl rfl) rfl ?_
 refine vm rfl rfl ?_
 refine simL_valc (b := decide ((64 : Int) < (x0_3.length : Int))) (fun hb44v => RQ.sub (E' := [(1, .pointer (some ⟨b1v, 0, none⟩))]) ⟨rfl, trivial⟩ (q_fa rfl rfl Try.underlying33 rfl rfl Try.sizeOf9 rfl)) rfl rfl rfl rfl rfl ?_
 refine simL_valc (b := decide ((64 : Int) < (x0_3.length : Int))) (fun hb43v => RQ.sub (E' := [(22, .pointer (some ⟨b1v, 4, none⟩))]) ⟨lk_cv rfl hb43v, trivial⟩ (q_load rfl rfl Try.isAgg9 (.obj 0 rfl rfl))) rfl rfl rfl rfl rfl ?_
 refine simL_valc (b := decide ((64 : Int) < (x0_3.length : Int))) (fun hb42v => RQ.sub (E' := [(23, str x0_4)]) ⟨lk_cv rfl hb42v, trivial⟩ (q_lens rfl rfl rfl Try.underlying9)) rfl rfl rfl rfl rfl ?_
 refine simL_valc (b := decide ((64 : Int) < (x0_3.length : Int))) (fun hb41v => RQ.sub (E' := [(24, .int .i64 (x0_4.length : Int))]) ⟨lk_cv rfl hb41v, trivial⟩ (q_gtr rfl rfl rfl)) rfl rfl rfl rfl rfl ?_
 refine vq (q_or rfl rfl rfl) rfl ?_
 refine vm rfl rfl ?_
 refine simL_valc (b := (decide ((64 : Int) < (x0_3.length : Int))) || (decide ((1024 : Int) < (x0_4.length : Int)))) (fun hb40v => RQ.sub (E' := [(1, .pointer (some ⟨b1v, 0, none⟩))]) ⟨rfl, trivial⟩ (q_fa rfl rfl Try.underlying33 rfl rfl Try.sizeOf9 rfl)) rfl rfl rfl rfl rfl ?_
 refine simL_valc (b := (decide ((64 : Int) < (x0_3.length : Int))) || (decide ((1024 : Int) < (x0_4.length : Int)))) (fun hb39v => RQ.sub (E' := [(28, .pointer (some ⟨b1v, 5, none⟩))]) ⟨lk_cv rfl hb39v, trivial⟩ (q_load rfl rfl Try.isAgg9 (.obj 0 rfl rfl))) rfl rfl rfl rfl rfl ?_
 refine simL_valc (b := (decide ((64 : Int) < (x0_3.length : Int))) || (decide ((1024 : Int) < (x0_4.length : Int)))) (fun hb38v => RQ.sub (E' := [(29, str x0_5)]) ⟨lk_cv rfl hb38v, trivial⟩ (q_lens rfl rfl rfl Try.underlying9)) rfl rfl rfl rfl rfl ?_
 refine simL_valc (b := (decide ((64 : Int) < (x0_3.length : Int))) || (decide ((1024 : Int) < (x0_4.length : Int)))) (fun hb37v => RQ.sub (E' := [(30, .int .i64 (x0_5.length : Int))]) ⟨lk_cv rfl hb37v, trivial⟩ (q_gtr rfl rfl rfl)) rfl rfl rfl rfl rfl ?_
 refine vq (q_or rfl rfl rfl) rfl (simL_nil (nrm_then ?_))
 refine sim_condb rfl (fun h19v => ?_) (fun h20v => ?_)
 refine sr ?_
 refine va rfl rfl (simL_nil (nrm_then (sim_rtn ?_)))
 refine rtn_then ?_
 exact rtn_fn () rfl rfl rfl (.sel 1 rfl (.nil _))
 refine sim_skip ?_
 refine nrm_then (sim_seq (sr ?_))
 refine vq (q_fa rfl rfl Try.underlying33 rfl rfl Try.sizeOf9 rfl) rfl ?_
 refine vq (q_load rfl rfl Try.isAgg9 (.obj 0 rfl rfl)) rfl ?_
 refine vq (q_eqs rfl rfl rfl) rfl ?_
 refine vm rfl rfl ?_
 refine simL_cut' 9 (S := Bool) (Unit) (fun s y => [(1, .pointer (some ⟨b1v, 0, none⟩)), (45, .bool s)]) (fun s y => [obj b1v 33 [.int .i64 x0_0, .int .i64 x0_1, .int .i64 x0_2, str x0_3, str x0_4, str x0_5], F]) ?_ ?_
 refine simL_casep (fun hb26v => ?_) (fun hb27v => ?_)
 rw [hb26v]
 refine simL_skipd rfl rfl rfl rfl rfl rfl ?_
 refine simL_skipd rfl rfl rfl rfl rfl rfl ?_
 refine simL_skipd rfl rfl rfl rfl rfl rfl ?_
 refine simL_skipd rfl rfl rfl rfl rfl rfl ?_
 refine simL_skipu rfl rfl rfl rfl rfl ?_
 refine simL_skipu rfl rfl rfl rfl rfl ?_
 refine simL_skipu rfl rfl rfl rfl rfl ?_
 refine simL_skipd rfl rfl rfl rfl rfl rfl ?_
 refine vq (q_pick rfl rfl rfl rfl rfl) rfl (simL_nil ?_)
 exact nrm_cut (s := true) () ⟨rfl, rfl, trivial⟩ (.sel 0 rfl (.sel 0 rfl (.nil _)))
 rw [hb27v]
 refine simL_valg (q_fa rfl rfl Try.underlying33 rfl rfl Try.sizeOf3 rfl) rfl rfl rfl rfl rfl rfl ?_
 refine simL_valg (q_load rfl rfl Try.isAgg3 (.obj 0 rfl rfl)) rfl rfl rfl rfl rfl rfl ?_
 refine simL_valg (q_eql rfl rfl rfl) rfl rfl rfl rfl rfl rfl ?_
 refine simL_valg (q_move rfl rfl) rfl rfl rfl rfl rfl rfl ?_
 refine simL_valc (b := decide (x0_0 = (3 : Int))) (fun hb25v => RQ.sub (E' := [(1, .pointer (some ⟨b1v, 0, none⟩))]) ⟨rfl, trivial⟩ (q_fa rfl rfl Try.underlying33 rfl rfl Try.sizeOf9 rfl)) rfl rfl rfl rfl rfl ?_
 refine simL_valc (b := decide (x0_0 = (3 : Int))) (fun hb24v => RQ.sub (E' := [(41, .pointer (some ⟨b1v, 4, none⟩))]) ⟨lk_cv rfl hb24v, trivial⟩ (q_load rfl rfl Try.isAgg9 (.obj 0 rfl rfl))) rfl rfl rfl rfl rfl ?_
 refine simL_valc (b := decide (x0_0 = (3 : Int))) (fun hb23v => RQ.sub (E' := [(42, str x0_4)]) ⟨lk_cv rfl hb23v, trivial⟩ (q_nes rfl rfl rfl)) rfl rfl rfl rfl rfl ?_
 refine simL_valg (q_and rfl rfl rfl) rfl rfl rfl rfl rfl rfl ?_
 refine vq (q_pick rfl rfl rfl rfl rfl) rfl (simL_nil ?_)
 exact nrm_cut (s := (decide (x0_0 = (3 : Int))) && (!decide (x0_4 = ([] : List UInt8)))) () ⟨rfl, rfl, trivial⟩ (.sel 0 rfl (.sel 0 rfl (.nil _)))
 intro s21v y22v
 refine vm rfl rfl ?_
 refine simL_cut' 9 (S := Bool) (Unit) (fun s y => [(55, .bool s)]) (fun s y => [F]) ?_ ?_
 refine simL_caseb (fun hb33v => ?_) (fun hb34v => ?_)
 rw [hb33v]
 refine simL_skipd rfl rfl rfl rfl rfl rfl ?_
 refine simL_skipd rfl rfl rfl rfl rfl rfl ?_
 refine simL_skipd rfl rfl rfl rfl rfl rfl ?_
 refine simL_skipd rfl rfl rfl rfl rfl rfl ?_
 refine simL_skipu rfl rfl rfl rfl rfl ?_
 refine simL_skipu rfl rfl rfl rfl rfl ?_
 refine simL_skipu rfl rfl rfl rfl rfl ?_
 refine simL_skipd rfl rfl rfl rfl rfl rfl ?_
 refine vq (q_pick rfl rfl rfl rfl rfl) rfl (simL_nil ?_)
 exact nrm_cut (s := true) () ⟨rfl, trivial⟩ (.sel 1 rfl (.nil _))
 rw [hb34v]
 refine simL_valg (q_fa rfl rfl Try.underlying33 rfl rfl Try.sizeOf3 rfl) rfl rfl rfl rfl rfl rfl ?_
 refine simL_valg (q_load rfl rfl Try.isAgg3 (.obj 0 rfl rfl)) rfl rfl rfl rfl rfl rfl ?_
 refine simL_valg (q_neq rfl rfl rfl) rfl rfl rfl rfl rfl rfl ?_
 refine simL_valg (q_move rfl rfl) rfl rfl rfl rfl rfl rfl ?_
 refine simL_valc (b := !decide (x0_0 = (4 : Int))) (fun hb32v => RQ.sub (E' := [(1, .pointer (some ⟨b1v, 0, none⟩))]) ⟨rfl, trivial⟩ (q_fa rfl rfl Try.underlying33 rfl rfl Try.sizeOf9 rfl)) rfl rfl rfl rfl rfl ?_
 refine simL_valc (b := !decide (x0_0 = (4 : Int))) (fun hb31v => RQ.sub (E' := [(51, .pointer (some ⟨b1v, 5, none⟩))]) ⟨lk_cv rfl hb31v, trivial⟩ (q_load rfl rfl Try.isAgg9 (.obj 0 rfl rfl))) rfl rfl rfl rfl rfl ?_
 refine simL_valc (b := !decide (x0_0 = (4 : Int))) (fun hb30v => RQ.sub (E' := [(52, str x0_5)]) ⟨lk_cv rfl hb30v, trivial⟩ (q_nes rfl rfl rfl)) rfl rfl rfl rfl rfl ?_
 refine simL_valg (q_and rfl rfl rfl) rfl rfl rfl rfl rfl rfl ?_
 refine vq (q_pick rfl rfl rfl rfl rfl) rfl (simL_nil ?_)
 exact nrm_cut (s := (!decide (x0_0 = (4 : Int))) && (!decide (x0_5 = ([] : List UInt8)))) () ⟨rfl, trivial⟩ (.sel 1 rfl (.nil _))
 intro s28v y29v
 refine simL_nil (nrm_then ?_)
 refine sim_condb rfl (fun h35v => ?_) (fun h36v => ?_)
 refine sr ?_
 refine va rfl rfl (simL_nil (nrm_then (sim_rtn ?_)))
 refine rtn_then ?_
 exact rtn_fn () rfl rfl rfl (.sel 0 rfl (.nil _))
 refine sim_skip ?_
 refine nrm_then (sr ?_)
 refine va rfl rfl (simL_nil (nrm_then (sim_rtn ?_)))
 exact rtn_fn () rfl rfl rfl (.sel 0 rfl (.nil _))

def synodref11_Store_at.l0 (x0_0 : List (Ty92)) (x1 : List UInt8) : Nat → Int → Option (Int)
  | 0, _ => none
  | k + 1, z5v => (if z5v < (x0_0.length : Int) then (if 0 ≤ z5v ∧ z5v < (x0_0.length : Int) then (some (Op.bytesLess ((x0_0.getD z5v.toNat dz92).1) x1)) else none) else (some false)).bind fun s6v => (if s6v = true then (synodref11_Store_at.l0 x0_0 x1 k (IntKind.i64.wrap (z5v + 1))) else (some z5v))
def synodref11_Store_at.f (k : Nat) (x0_0 : List (Ty92)) (x0_1 : List (Ty86)) (x1 : List UInt8) : Option (Int × Bool) := (synodref11_Store_at.l0 x0_0 x1 k 0).bind fun s1v => ((if s1v < (x0_0.length : Int) then (if 0 ≤ s1v ∧ s1v < (x0_0.length : Int) then (some (decide (((x0_0.getD s1v.toNat dz92).1) = x1))) else none) else (some false)).bind fun s20v => (some (s1v, s20v)))
theorem synodref11_Store_at.calls (W : World) (F : HA) (k : Nat) (b0 : Nat) (a0_0 : Option Addr) (c0_0 : Nat) (x0_0 : List (Ty92)) (a0_1 : Option Addr) (c0_1 : Nat) (x0_1 : List (Ty86)) (x1 : List UInt8) (h0_0 : RdV F 2 (V92 tt) a0_0 x0_0) (hc0_0 : x0_0.length ≤ c0_0) (hm0_0 : c0_0 ≤ maxLen) (h0_1 : RdV F 4 (V86 tt) a0_1 x0_1) (hc0_1 : x0_1.length ≤ c0_1) (hm0_1 : c0_1 ≤ maxLen) :
    Fn Try.prog W 37 [.pointer (some ⟨b0, 0, none⟩), str x1] [obj b0 47 [.slice a0_0 x0_0.length c0_0, .slice a0_1 x0_1.length c0_1]] F (synodref11_Store_at.f k x0_0 x0_1 x1) (fun (r : Int × Bool) (y : Unit) => .tuple #[.int .i64 r.1, .bool r.2]) (fun r y => [obj b0 47 [.slice a0_0 x0_0.length c0_0, .slice a0_1 x0_1.length c0_1]]) := by
 unfold synodref11_Store_at.f
 refine fn_intro 48 Try.func37 rfl Try.ntmps37 rfl ?_
 refine sr ?_
 refine va rfl rfl ?_
 refine va rfl rfl (nx ?_)
 refine va rfl rfl (simL_nil (nrm_then ?_))
 refine sim_cut (S := Int) (Unit) (fun s y => [(0, .pointer (some ⟨b0, 0, none⟩)), (1, str x1), (6, .int .i64 s)]) (fun s y => [obj b0 47 [.slice a0_0 x0_0.length c0_0, .slice a0_1 x0_1.length c0_1], F]) ?_ ?_
 refine sim_block ?_
 refine sim_loop (S := Int) (Unit) (fun k s => synodref11_Store_at.l0 x0_0 x1 k s) (fun s y => [(0, .pointer (some ⟨b0, 0, none⟩)), (1, str x1), (6, .int .i64 s)]) (fun s y => [obj b0 47 [.slice a0_0 x0_0.length c0_0, .slice a0_1 x0_1.length c0_1], F]) (fun _ => by rw [synodref11_Store_at.l0]) ?_ k 0 () ⟨rfl, rfl, rfl, trivial⟩ (.sel 0 rfl (.sel 0 rfl (.nil _)))
 intro k s3v y4v
 refine sim_eq (by rw [synodref11_Store_at.l0]) ?_
 refine sim_seq (sr ?_)
 refine vm rfl rfl ?_
 refine vm rfl rfl ?_
 refine vn rfl rfl ?_
 refine vq (q_fa rfl rfl Try.underlying47 rfl rfl Try.sizeOf44 rfl) rfl ?_
 refine vq (q_load rfl rfl Try.isAgg44 (.obj 0 rfl rfl)) rfl ?_
 refine vq (q_len rfl rfl rfl Try.underlying44) rfl ?_
 refine vq (q_lss rfl rfl rfl) rfl ?_
 refine vm rfl rfl ?_
 refine simL_cut' 11 (S := Bool) (Unit) (fun s y => [(0, .pointer (some ⟨b0, 0, none⟩)), (1, str x1), (6, .int .i64 s3v), (25, .bool s)]) (fun s y => [obj b0 47 [.slice a0_0 x0_0.length c0_0, .slice a0_1 x0_1.length c0_1], F]) ?_ ?_
 refine simL_casep (fun hb16v => ?_) (fun hb17v => ?_)
 rw [hb16v]
 refine simL_valg (q_move rfl rfl) rfl rfl rfl rfl rfl rfl ?_
 refine simL_valg (q_nil rfl rfl) rfl rfl rfl rfl rfl rfl ?_
 refine simL_valg (q_fa rfl rfl Try.underlying47 rfl rfl Try.sizeOf44 rfl) rfl rfl rfl rfl rfl rfl ?_
 refine simL_valg (q_load rfl rfl Try.isAgg44 (.obj 0 rfl rfl)) rfl rfl rfl rfl rfl rfl ?_
 refine simL_valg (q_move rfl rfl) rfl rfl rfl rfl rfl rfl ?_
 refine simL_ask (fun hi8v => ?_)
 obtain ⟨b9v, b9vo, r12v, ha10v, hV13v, hlr14v, hcell15v⟩ := RdV.pos h0_0 (Up.refl _) rfl (i := s3v.toNat) (by omega) dz92
 obtain rfl := hV13v
 refine simL_valg (q_idx rfl rfl rfl ha10v Try.underlying44 Try.sizeOf92 hi8v.1 hi8v.2) rfl rfl rfl rfl rfl rfl ?_
 refine simL_valg (q_fa rfl rfl Try.underlying92 rfl rfl Try.sizeOf9 rfl) rfl rfl rfl rfl rfl rfl ?_
 refine simL_valg (q_load rfl rfl Try.isAgg9 (hcell15v 1 rfl 0 _ rfl)) rfl rfl rfl rfl rfl rfl ?_
 refine simL_valg (q_move rfl rfl) rfl rfl rfl rfl rfl rfl ?_
 refine simL_valg (q_lts rfl rfl rfl) rfl rfl rfl rfl rfl rfl ?_
 refine vq (q_pick rfl rfl rfl rfl rfl) rfl (simL_nil ?_)
 exact nrm_cut (s := Op.bytesLess ((x0_0.getD s3v.toNat dz92).1) x1) () ⟨rfl, rfl, rfl, rfl, trivial⟩ (.sel 0 rfl (.sel 0 rfl (.nil _)))
 rw [hb17v]
 refine simL_skipd rfl rfl rfl rfl rfl rfl ?_
 refine simL_skipd rfl rfl rfl rfl rfl rfl ?_
 refine simL_skipd rfl rfl rfl rfl rfl rfl ?_
 refine simL_skipd rfl rfl rfl rfl rfl rfl ?_
 refine simL_skipd rfl rfl rfl rfl rfl rfl ?_
 refine simL_skipd rfl rfl rfl rfl rfl rfl ?_
 refine simL_skipd rfl rfl rfl rfl rfl rfl ?_
 refine simL_skipd rfl rfl rfl rfl rfl rfl ?_
 refine simL_skipd rfl rfl rfl rfl rfl rfl ?_
 refine simL_skipd rfl rfl rfl rfl rfl rfl ?_
 refine vq (q_pick rfl rfl rfl rfl rfl) rfl (simL_nil ?_)
 exact nrm_cut (s := false) () ⟨rfl, rfl, rfl, rfl, trivial⟩ (.sel 0 rfl (.sel 0 rfl (.nil _)))
 intro s6v y7v
 refine simL_nil (nrm_then ?_)
 refine sim_condb rfl (fun h18v => ?_) (fun h19v => ?_)
 refine sim_skip ?_
 refine nrm_then ?_
 refine sim_block ?_
 refine sim_region ?_
 refine vm rfl rfl ?_
 refine vq (q_add rfl rfl rfl) rfl ?_
 refine va rfl rfl (simL_nil (nrm_block ?_))
 exact nrm_again (s := IntKind.i64.wrap (s3v + 1)) () ⟨rfl, rfl, rfl, trivial⟩ (.sel 0 rfl (.sel 0 rfl (.nil _)))
 refine sim_exi ?_
 refine exi_then ?_
 refine exi_loop ?_
 refine exi_here ?_
 exact nrm_cut (s := s3v) () ⟨rfl, rfl, rfl, trivial⟩ (.sel 0 rfl (.sel 0 rfl (.nil _)))
 intro s1v y2v
 refine sim_cut (S := Bool) (Unit) (fun s y => [(4, .int .i64 s1v), (5, .bool s)]) (fun s y => [obj b0 47 [.slice a0_0 x0_0.length c0_0, .slice a0_1 x0_1.length c0_1], F]) ?_ ?_
 refine sim_if (fun hk22v => ?_) (fun hk22v => ?_)
 refine sim_ask (fun hi23v => ?_)
 obtain ⟨b24v, b24vo, r27v, ha25v, hV28v, hlr29v, hcell30v⟩ := RdV.pos h0_0 (Up.refl _) rfl (i := s1v.toNat) (by omega) dz92
 obtain rfl := hV28v
 refine sim_draw (Γ := Unit) () [[], [], [], [2], [2, 3], [2, 3, 4], [2, 3, 4, 5], [1, 2, 3, 4, 5, 6], [1, 2, 3, 4, 5, 6, 7], [1, 2, 3, 4, 5, 6, 7, 8], [1, 2, 3, 4, 5, 6, 7, 8, 9], [1, 2, 3, 4, 5, 6, 7, 8, 9, 10], [1, 2, 3, 4, 5, 6, 7, 8, 9, 10, 11], [1, 2, 3, 4, 5, 6, 7, 8], [1, 2, 3, 4, 5, 6, 7, 8, 9, 10, 11, 12, 13], [1, 2, 3, 4, 5, 6, 7, 8, 9, 10, 11, 12, 13, 14], [1, 2, 3, 4, 5, 6, 7, 8, 9, 10, 11, 12, 13, 14, 15], [1, 2, 3, 4, 5, 6, 7, 8], [1, 2, 3, 4, 5, 6, 7, 8, 9, 10, 11, 12, 13, 14, 15, 16, 17], [1, 2, 3, 4, 5, 6, 7, 8, 9, 10, 11, 12, 13, 14, 15, 16, 17, 18], rL 9, rL 21] [] [0, 1, 2, 3, 4, 5, 6, 7, 8, 9, 10, 11, 12, 13, 14, 15, 16, 17, 18, 19, 20, 21] (fun i => [[0], [0], [0], [0], [0], [0], [0], [0], [0], [0], [0], [0], [0], [0], [0], [0], [0], [0], [0], [0], [0], [0]].getD i []) (fun i => [[], [], [], [], [], [], [], [], [], [], [], [], [], [], [], [], [], [], [], [], [], []].getD i []) (fun γ i => [.int .i64 s1v, .int .i64 s1v, .pointer (some ⟨b0, 0, none⟩), .pointer (some ⟨b0, 0, none⟩), .pointer (some ⟨b0, 0, none⟩), .slice a0_0 x0_0.length c0_0, .int .i64 (x0_0.length : Int), .bool (decide (s1v < (x0_0.length : Int))), .bool (decide (s1v < (x0_0.length : Int))), .pointer (some ⟨b0, 0, none⟩), .pointer (some ⟨b0, 0, none⟩), .pointer (some ⟨b0, 0, none⟩), .slice a0_0 x0_0.length c0_0, .int .i64 s1v, .pointer (some ⟨b24v, b24vo + s1v.toNat * 2, none⟩), .pointer (some ⟨b24v, b24vo + s1v.toNat * 2 + 0, none⟩), str ((x0_0.getD s1v.toNat dz92).1), str x1, .bool (decide (((x0_0.getD s1v.toNat dz92).1) = x1)), .bool (decide (((x0_0.getD s1v.toNat dz92).1) = x1)), .int .i64 s1v, .bool (decide (((x0_0.getD s1v.toNat dz92).1) = x1))].getD i undef) (fun j γ => [[obj b0 47 [.slice a0_0 x0_0.length c0_0, .slice a0_1 x0_1.length c0_1], F]].getD j []) (fun γ => [(4, .int .i64 s1v), (5, .bool (decide (((x0_0.getD s1v.toNat dz92).1) = x1)))]) mixed (by decide) (by decide) (by decide) (by decide) (by decide) (by decide) (by decide) 48 rfl (by decide) (by decide) (by decide) (Ent.refl _) ?_ ?_ (fun _ => ⟨rfl, rfl, trivial⟩) ?_
 exact (aq rfl (fun γ => qm rfl (.o (s := 6) rfl (by decide) .nil) rfl) (aq rfl (fun γ => qm rfl (.o (s := 6) rfl (by decide) .nil) rfl) (aq rfl (fun γ => qm rfl (.o (s := 0) rfl (by decide) .nil) rfl) (aq rfl (fun γ => qp rfl rfl (.v 2 rfl rfl .nil) (q_nil rfl rfl) rfl) (aq rfl (fun γ => qp rfl rfl (.v 3 rfl rfl .nil) (q_fa rfl rfl Try.underlying47 rfl rfl Try.sizeOf44 rfl) rfl) (aq rfl (fun γ => qp rfl rfl (.v 4 rfl rfl .nil) (q_load rfl rfl Try.isAgg44 (.obj 0 rfl rfl)) rfl) (aq rfl (fun γ => qp rfl rfl (.v 5 rfl rfl .nil) (q_len rfl rfl rfl Try.underlying44) rfl) (aq rfl (fun γ => qp rfl rfl (.v 1 rfl rfl (.v 6 rfl rfl .nil)) (q_lss rfl rfl rfl) rfl) (aq rfl (fun γ => qm rfl (.v 7 rfl rfl .nil) rfl) (aq rfl (fun γ => qy rfl rfl (.o (s := 0) rfl (by decide) (.v 8 rfl rfl .nil)) rfl rfl (beq_yes (decide_eq_true hk22v)) (q_move rfl rfl) rfl) (aq rfl (fun γ => qy rfl rfl (.v 8 rfl rfl (.v 9 rfl rfl .nil)) rfl rfl (beq_yes (decide_eq_true hk22v)) (q_nil rfl rfl) rfl) (aq rfl (fun γ => qy rfl rfl (.v 8 rfl rfl (.v 10 rfl rfl .nil)) rfl rfl (beq_yes (decide_eq_true hk22v)) (q_fa rfl rfl Try.underlying47 rfl rfl Try.sizeOf44 rfl) rfl) (aq rfl (fun γ => qy rfl rfl (.v 8 rfl rfl (.v 11 rfl rfl .nil)) rfl rfl (beq_yes (decide_eq_true hk22v)) (q_load rfl rfl Try.isAgg44 (.obj 0 rfl rfl)) rfl) (aq rfl (fun γ => qy rfl rfl (.o (s := 6) rfl (by decide) (.v 8 rfl rfl .nil)) rfl rfl (beq_yes (decide_eq_true hk22v)) (q_move rfl rfl) rfl) (aq rfl (fun γ => qy rfl rfl (.v 8 rfl rfl (.v 12 rfl rfl (.v 13 rfl rfl .nil))) rfl rfl (beq_yes (decide_eq_true hk22v)) (q_idx rfl rfl rfl ha25v Try.underlying44 Try.sizeOf92 hi23v.1 hi23v.2) rfl) (aq rfl (fun γ => qy rfl rfl (.v 8 rfl rfl (.v 14 rfl rfl .nil)) rfl rfl (beq_yes (decide_eq_true hk22v)) (q_fa rfl rfl Try.underlying92 rfl rfl Try.sizeOf9 rfl) rfl) (aq rfl (fun γ => qy rfl rfl (.v 8 rfl rfl (.v 15 rfl rfl .nil)) rfl rfl (beq_yes (decide_eq_true hk22v)) (q_load rfl rfl Try.isAgg9 (hcell30v 1 rfl 0 _ rfl)) rfl) (aq rfl (fun γ => qy rfl rfl (.o (s := 1) rfl (by decide) (.v 8 rfl rfl .nil)) rfl rfl (beq_yes (decide_eq_true hk22v)) (q_move rfl rfl) rfl) (aq rfl (fun γ => qy rfl rfl (.v 8 rfl rfl (.v 16 rfl rfl (.v 17 rfl rfl .nil))) rfl rfl (beq_yes (decide_eq_true hk22v)) (q_eqs rfl rfl rfl) rfl) (aq rfl (fun γ => qp rfl rfl (.v 8 rfl rfl (.v 18 rfl rfl .nil)) (q_pick rfl rfl rfl rfl (bif_yes (decide_eq_true hk22v) _ _)) rfl) (aq rfl (fun γ => qp rfl rfl (.v 0 rfl rfl .nil) (q_asg rfl rfl) rfl) (aq rfl (fun γ => qp rfl rfl (.v 19 rfl rfl .nil) (q_asg rfl rfl) rfl) zA))))))))))))))))))))))
 exact zA
 intro g31v
 exact nrm_cut (s := decide (((x0_0.getD s1v.toNat dz92).1) = x1)) () ⟨rfl, rfl, trivial⟩ (.sel 0 rfl (.sel 0 rfl (.nil _)))
 refine sim_draw (Γ := Unit) () [[], [], [], [2], [2, 3], [2, 3, 4], [2, 3, 4, 5], [1, 2, 3, 4, 5, 6], [1, 2, 3, 4, 5, 6, 7], [1, 2, 3, 4, 5, 6, 7, 8], [1, 2, 3, 4, 5, 6, 7, 8, 9], [1, 2, 3, 4, 5, 6, 7, 8, 9, 10], [1, 2, 3, 4, 5, 6, 7, 8, 9, 10, 11], [1, 2, 3, 4, 5, 6, 7, 8], [1, 2, 3, 4, 5, 6, 7, 8, 9, 10, 11, 12, 13], [1, 2, 3, 4, 5, 6, 7, 8, 9, 10, 11, 12, 13, 14], [1, 2, 3, 4, 5, 6, 7, 8, 9, 10, 11, 12, 13, 14, 15], [1, 2, 3, 4, 5, 6, 7, 8], [1, 2, 3, 4, 5, 6, 7, 8, 9, 10, 11, 12, 13, 14, 15, 16, 17], [1, 2, 3, 4, 5, 6, 7, 8, 9, 10, 11, 12, 13, 14, 15, 16, 17, 18], rL 9, rL 21] [] [0, 1, 2, 3, 4, 5, 6, 7, 8, 9, 10, 11, 12, 13, 14, 15, 16, 17, 18, 19, 20, 21] (fun i => [[0], [0], [0], [0], [0], [0], [0], [0], [0], [0], [0], [0], [0], [0], [0], [0], [0], [0], [0], [0], [0], [0]].getD i []) (fun i => [[], [], [], [], [], [], [], [], [], [], [], [], [], [], [], [], [], [], [], [], [], []].getD i []) (fun γ i => [.int .i64 s1v, .int .i64 s1v, .pointer (some ⟨b0, 0, none⟩), .pointer (some ⟨b0, 0, none⟩), .pointer (some ⟨b0, 0, none⟩), .slice a0_0 x0_0.length c0_0, .int .i64 (x0_0.length : Int), .bool (decide (s1v < (x0_0.length : Int))), .bool (decide (s1v < (x0_0.length : Int))), undef, undef, undef, undef, undef, undef, undef, undef, undef, undef, .bool false, .int .i64 s1v, .bool false].getD i undef) (fun j γ => [[obj b0 47 [.slice a0_0 x0_0.length c0_0, .slice a0_1 x0_1.length c0_1], F]].getD j []) (fun γ => [(4, .int .i64 s1v), (5, .bool false)]) mixed (by decide) (by decide) (by decide) (by decide) (by decide) (by decide) (by decide) 48 rfl (by decide) (by decide) (by decide) (Ent.refl _) ?_ ?_ (fun _ => ⟨rfl, rfl, trivial⟩) ?_
 exact (aq rfl (fun γ => qm rfl (.o (s := 6) rfl (by decide) .nil) rfl) (aq rfl (fun γ => qm rfl (.o (s := 6) rfl (by decide) .nil) rfl) (aq rfl (fun γ => qm rfl (.o (s := 0) rfl (by decide) .nil) rfl) (aq rfl (fun γ => qp rfl rfl (.v 2 rfl rfl .nil) (q_nil rfl rfl) rfl) (aq rfl (fun γ => qp rfl rfl (.v 3 rfl rfl .nil) (q_fa rfl rfl Try.underlying47 rfl rfl Try.sizeOf44 rfl) rfl) (aq rfl (fun γ => qp rfl rfl (.v 4 rfl rfl .nil) (q_load rfl rfl Try.isAgg44 (.obj 0 rfl rfl)) rfl) (aq rfl (fun γ => qp rfl rfl (.v 5 rfl rfl .nil) (q_len rfl rfl rfl Try.underlying44) rfl) (aq rfl (fun γ => qp rfl rfl (.v 1 rfl rfl (.v 6 rfl rfl .nil)) (q_lss rfl rfl rfl) rfl) (aq rfl (fun γ => qm rfl (.v 7 rfl rfl .nil) rfl) (aq rfl (fun γ => qn rfl rfl (.o (s := 0) rfl (by decide) (.v 8 rfl rfl .nil)) rfl rfl (beq_no' (decide_eq_false hk22v)) rfl) (aq rfl (fun γ => qn rfl rfl (.v 8 rfl rfl (.v 9 rfl rfl .nil)) rfl rfl (beq_no' (decide_eq_false hk22v)) rfl) (aq rfl (fun γ => qn rfl rfl (.v 8 rfl rfl (.v 10 rfl rfl .nil)) rfl rfl (beq_no' (decide_eq_false hk22v)) rfl) (aq rfl (fun γ => qn rfl rfl (.v 8 rfl rfl (.v 11 rfl rfl .nil)) rfl rfl (beq_no' (decide_eq_false hk22v)) rfl) (aq rfl (fun γ => qn rfl rfl (.o (s := 6) rfl (by decide) (.v 8 rfl rfl .nil)) rfl rfl (beq_no' (decide_eq_false hk22v)) rfl) (aq rfl (fun γ => qn rfl rfl (.v 8 rfl rfl (.v 12 rfl rfl (.v 13 rfl rfl .nil))) rfl rfl (beq_no' (decide_eq_false hk22v)) rfl) (aq rfl (fun γ => qn rfl rfl (.v 8 rfl rfl (.v 14 rfl rfl .nil)) rfl rfl (beq_no' (decide_eq_false hk22v)) rfl) (aq rfl (fun γ => qn rfl rfl (.v 8 rfl rfl (.v 15 rfl rfl .nil)) rfl rfl (beq_no' (decide_eq_false hk22v)) rfl) (aq rfl (fun γ => qn rfl rfl (.o (s := 1) rfl (by decide) (.v 8 rfl rfl .nil)) rfl rfl (beq_no' (decide_eq_false hk22v)) rfl) (aq rfl (fun γ => qn rfl rfl (.v 8 rfl rfl (.v 16 rfl rfl (.v 17 rfl rfl .nil))) rfl rfl (beq_no' (decide_eq_false hk22v)) rfl) (aq rfl (fun γ => qp rfl rfl (.v 8 rfl rfl (.v 18 rfl rfl .nil)) (q_pick rfl rfl rfl rfl (bif_no (decide_eq_false hk22v) _ _)) rfl) (aq rfl (fun γ => qp rfl rfl (.v 0 rfl rfl .nil) (q_asg rfl rfl) rfl) (aq rfl (fun γ => qp rfl rfl (.v 19 rfl rfl .nil) (q_asg rfl rfl) rfl) zA))))))))))))))))))))))
 exact zA
 intro g32v
 exact nrm_cut (s := false) () ⟨rfl, rfl, trivial⟩ (.sel 0 rfl (.sel 0 rfl (.nil _)))
 intro s20v y21v
 refine sim_rtn ?_
 exact rtn_fn () rfl rfl rfl (.sel 0 rfl (.sel 0 rfl (.nil _)))
end Go.Proofs.Ytdaedoklkmdhcaa

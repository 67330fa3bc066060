/- Printed by gen.py: pure functions and the proofs that the Go functions simulate them. Conditions: as each theorem says. -/
import Derived.Test.YtdaedoklkmdhcaaSh
import Derived.Test.YtdaedoklkmdhcaaProg
namespace Go.Proofs.Ytdaedoklkmdhcaa
open Go.RowKit
set_option linter.unusedVariables false
set_option linter.unusedSimpArgs false
set_option maxRecDepth 20000
set_option maxHeartbeats 2000000
theorem elt5 : Elt Try.prog 5 1 1 [.int .u8 0] := .of (.int .u8 0) (by kernel_rfl) rfl rfl rfl rfl
abbrev Ty33 : Type := Int × Int × Int × List UInt8 × List UInt8 × List UInt8
abbrev dz33 : Ty33 := ((0 : Int), (0 : Int), (0 : Int), ([] : List UInt8), ([] : List UInt8), ([] : List UInt8))
abbrev enc9 (x : List UInt8) : Value := str x
abbrev enc3 (x : Int) : Value := .int .i64 x
abbrev enc42 (x : Int × Int × Int × List UInt8) : Value := .agg #[.int .i64 x.1, .int .i64 x.2.1, .int .i64 x.2.2.1, str x.2.2.2]
abbrev enc68 (x : Option Nat) : Value := match x with
  | none => .nilFunc
  | some f => .func (.func f) #[] #[]
theorem key9 : KeyT Try.prog 9 enc9 := keyT_str Try.underlying9
theorem key3 : KeyT Try.prog 3 enc3 := keyT_int Try.underlying3
theorem elt33 : Elt Try.prog 33 6 72 [.int .i64 0, .int .i64 0, .int .i64 0, str ([] : List UInt8), str ([] : List UInt8), str ([] : List UInt8)] := .of (.agg #[.int .i64 0, .int .i64 0, .int .i64 0, str ([] : List UInt8), str ([] : List UInt8), str ([] : List UInt8)]) (by kernel_rfl) rfl rfl rfl rfl
theorem elt92 : Elt Try.prog 92 2 32 [str ([] : List UInt8), str ([] : List UInt8)] := .of (.agg #[str ([] : List UInt8), str ([] : List UInt8)]) (by kernel_rfl) rfl rfl rfl rfl
theorem elt86 : Elt Try.prog 86 4 40 [.int .i64 0, .int .i64 0, .int .i64 0, str ([] : List UInt8)] := .of (.agg #[.int .i64 0, .int .i64 0, .int .i64 0, str ([] : List UInt8)]) (by kernel_rfl) rfl rfl rfl rfl
theorem elt9 : Elt Try.prog 9 1 16 [str ([] : List UInt8)] := .of (str ([] : List UInt8)) (by kernel_rfl) rfl rfl rfl rfl
theorem elt3 : Elt Try.prog 3 1 8 [.int .i64 0] := .of (.int .i64 0) (by kernel_rfl) rfl rfl rfl rfl
theorem elt42 : Elt Try.prog 42 4 40 [.int .i64 0, .int .i64 0, .int .i64 0, str ([] : List UInt8)] := .of (.agg #[.int .i64 0, .int .i64 0, .int .i64 0, str ([] : List UInt8)]) (by kernel_rfl) rfl rfl rfl rfl
def V33 (_ : HA) (x : Int × Int × Int × List UInt8 × List UInt8 × List UInt8) (r : List Value) : Prop := r = [.int .i64 x.1, .int .i64 x.2.1, .int .i64 x.2.2.1, str x.2.2.2.1, str x.2.2.2.2.1, str x.2.2.2.2.2]
theorem V33.up {G F : HA} (_ : Up G F) : ∀ x r, V33 G x r → V33 F x r := fun _ _ h => h
def Ok33 (x : Int × Int × Int × List UInt8 × List UInt8 × List UInt8) : Prop := okI .i64 x.1 ∧ okI .i64 x.2.1 ∧ okI .i64 x.2.2.1 ∧ x.2.2.2.1.length ≤ 140737488351232 ∧ x.2.2.2.2.1.length ≤ 140737488351232 ∧ x.2.2.2.2.2.length ≤ 140737488351232
def V92 (_ : HA) (x : List UInt8 × List UInt8) (r : List Value) : Prop := r = [str x.1, str x.2]
theorem V92.up {G F : HA} (_ : Up G F) : ∀ x r, V92 G x r → V92 F x r := fun _ _ h => h
def Ok92 (x : List UInt8 × List UInt8) : Prop := x.1.length ≤ 140737488351232 ∧ x.2.length ≤ 140737488351232
def V86 (_ : HA) (x : Int × Int × Int × List UInt8) (r : List Value) : Prop := r = [.int .i64 x.1, .int .i64 x.2.1, .int .i64 x.2.2.1, str x.2.2.2]
theorem V86.up {G F : HA} (_ : Up G F) : ∀ x r, V86 G x r → V86 F x r := fun _ _ h => h
def Ok86 (x : Int × Int × Int × List UInt8) : Prop := okI .i64 x.1 ∧ okI .i64 x.2.1 ∧ okI .i64 x.2.2.1 ∧ x.2.2.2.length ≤ 140737488351232
def V9 (_ : HA) (x : List UInt8) (r : List Value) : Prop := r = [str x]
theorem V9.up {G F : HA} (_ : Up G F) : ∀ x r, V9 G x r → V9 F x r := fun _ _ h => h
def Ok9 (x : List UInt8) : Prop := x.length ≤ 140737488351232
def V3 (_ : HA) (x : Int) (r : List Value) : Prop := r = [.int .i64 x]
theorem V3.up {G F : HA} (_ : Up G F) : ∀ x r, V3 G x r → V3 F x r := fun _ _ h => h
def Ok3 (x : Int) : Prop := okI .i64 x
def V42 (_ : HA) (x : Int × Int × Int × List UInt8) (r : List Value) : Prop := r = [.int .i64 x.1, .int .i64 x.2.1, .int .i64 x.2.2.1, str x.2.2.2]
theorem V42.up {G F : HA} (_ : Up G F) : ∀ x r, V42 G x r → V42 F x r := fun _ _ h => h
def Ok42 (x : Int × Int × Int × List UInt8) : Prop := okI .i64 x.1 ∧ okI .i64 x.2.1 ∧ okI .i64 x.2.2.1 ∧ x.2.2.2.length ≤ 140737488351232
theorem mixed : Try.prog.follows .mixedOrders = true := by kernel_rfl
def kv_New.f  : Option ((List ((List UInt8) × (List UInt8))) × (List ((Int) × (Int × Int × Int × List UInt8)))) := some (([] : List ((List UInt8) × (List UInt8))), ([] : List ((Int) × (Int × Int × Int × List UInt8))))
theorem kv_New.calls (W : World) (F : HA)   :
    Fn Try.prog W 11 [] [] F (kv_New.f ) (fun (r : (List ((List UInt8) × (List UInt8))) × (List ((Int) × (Int × Int × Int × List UInt8)))) (y : Nat × Nat × Nat) => .pointer (some ⟨y.1, 0, none⟩)) (fun r y => [obj y.1 63 [.map (some y.2.1), .map (some y.2.2)], mapO y.2.1 enc9 enc9 r.1, mapO y.2.2 enc3 enc42 r.2]) := by
 unfold kv_New.f
 refine fn_intro 5 Try.func11 rfl Try.ntmps11 rfl ?_
 refine sim_seq (sim_region ?_)
 refine simL_val (q_asg rfl rfl) rfl rfl rfl (simL_nil (nrm_then (sim_seq (sim_region ?_))))
 refine simL_eff (re_mkmap (ek := enc9) (ev := enc9) rfl) rfl rfl rfl ?_
 intro b1v
 refine simL_eff (re_mkmap (ek := enc3) (ev := enc42) rfl) rfl rfl rfl ?_
 intro b2v
 refine simL_val (q_build (v := .agg #[.map (some b1v), .map (some b2v)]) rfl rfl (fun _ => by kernel_rfl)) rfl rfl rfl ?_
 refine simL_eff (re_box rfl rfl rfl) rfl rfl rfl ?_
 intro b3v
 refine simL_val (q_asg rfl rfl) rfl rfl rfl (simL_nil (nrm_then (sim_rtn ?_)))
 exact rtn_fn (b3v, b1v, b2v) rfl rfl rfl (.sel 0 rfl (.sel 1 rfl (.sel 0 rfl (.sel 0 rfl (.nil _)))))
def kv_New.v  : (List ((List UInt8) × (List UInt8))) × (List ((Int) × (Int × Int × Int × List UInt8))) := (kv_New.f).getD ([], [])
theorem kv_New.tot  : kv_New.f = some (kv_New.v ) := by
  have h : ∃ r, kv_New.f = some r := by
    unfold kv_New.f
    repeat' (first | exact ⟨_, rfl⟩ | split | simp only [Option.bind_some])
  obtain ⟨r, h⟩ := h
  unfold kv_New.v
  rw [h]; rfl

def codec_within.f (x0 : Int) (x1 : Int) : Option (Bool) := some ((decide (x1 ≤ x0)) && (decide (x0 ≤ (4611686018427387904 : Int))))
theorem codec_within.calls (W : World) (F : HA) (x0 : Int) (x1 : Int)  :
    Fn Try.prog W 43 [.int .i64 x0, .int .i64 x1] [] F (codec_within.f x0 x1) (fun (r : Bool) (y : Unit) => .bool r) (fun r y => []) := by
 unfold codec_within.f
 refine fn_intro 12 Try.func43 rfl Try.ntmps43 rfl ?_
 refine sim_seq (sim_region ?_)
 refine simL_val (q_asg rfl rfl) rfl rfl rfl (simL_nil (nrm_then (sim_seq (sim_region ?_))))
 refine simL_val (q_move rfl rfl) rfl rfl rfl ?_
 refine simL_val (q_move rfl rfl) rfl rfl rfl ?_
 refine simL_val (q_geq rfl rfl rfl) rfl rfl rfl ?_
 refine simL_val (q_move rfl rfl) rfl rfl rfl ?_
 refine simL_valc (b := decide (x1 ≤ x0)) (fun hb2v => RQ.sub (E' := [(0, .int .i64 x0)]) ⟨rfl, trivial⟩ (q_move rfl rfl)) rfl rfl rfl rfl rfl ?_
 refine simL_valc (b := decide (x1 ≤ x0)) (fun hb1v => RQ.sub (E' := [(9, .int .i64 x0)]) ⟨lk_cv rfl hb1v, trivial⟩ (q_leq rfl rfl rfl)) rfl rfl rfl rfl rfl ?_
 refine simL_val (q_and rfl rfl rfl) rfl rfl rfl ?_
 refine simL_val (q_asg rfl rfl) rfl rfl rfl (simL_nil (nrm_then (sim_rtn ?_)))
 exact rtn_fn () rfl rfl rfl (.sel 0 rfl (.nil _))
def codec_within.v (x0 : Int) (x1 : Int) : Bool := (codec_within.f x0 x1).getD false
theorem codec_within.tot (x0 : Int) (x1 : Int) : codec_within.f x0 x1 = some (codec_within.v x0 x1) := by
  have h : ∃ r, codec_within.f x0 x1 = some r := by
    unfold codec_within.f
    repeat' (first | exact ⟨_, rfl⟩ | split | simp only [Option.bind_some])
  obtain ⟨r, h⟩ := h
  unfold codec_within.v
  rw [h]; rfl

def codec_Commands_Check.f (x1_0 : Int) (x1_1 : Int) (x1_2 : Int) (x1_3 : List UInt8) (x1_4 : List UInt8) (x1_5 : List UInt8) : Option (Int) := if (((!decide (x1_0 = (2 : Int))) && (!decide (x1_0 = (3 : Int)))) && (!decide (x1_0 = (4 : Int)))) = true then (some 6) else ((codec_within.f x1_1 (1 : Int)).bind fun s5v => ((if (!s5v) = true then (some true) else ((codec_within.f x1_2 (1 : Int)).bind fun s10v => (some (!s10v)))).bind fun s8v => (if s8v = true then (some 1) else (if (((decide ((64 : Int) < (x1_3.length : Int))) || (decide ((1024 : Int) < (x1_4.length : Int)))) || (decide ((1024 : Int) < (x1_5.length : Int)))) = true then (some 3) else ((if x1_3 = ([] : List UInt8) then (some true) else (some ((decide (x1_0 = (3 : Int))) && (!decide (x1_4 = ([] : List UInt8)))))).bind fun s19v => ((if s19v = true then (some true) else (some ((!decide (x1_0 = (4 : Int))) && (!decide (x1_5 = ([] : List UInt8)))))).bind fun s26v => (if s26v = true then (some 4) else (some 0))))))))
theorem codec_Commands_Check.calls (W : World) (F : HA) (x1_0 : Int) (x1_1 : Int) (x1_2 : Int) (x1_3 : List UInt8) (x1_4 : List UInt8) (x1_5 : List UInt8)  :
    Fn Try.prog W 26 [.agg #[], .agg #[.int .i64 x1_0, .int .i64 x1_1, .int .i64 x1_2, str x1_3, str x1_4, str x1_5]] [] F (codec_Commands_Check.f x1_0 x1_1 x1_2 x1_3 x1_4 x1_5) (fun (r : Int) (y : Unit) => .int .i64 r) (fun r y => []) := by
 unfold codec_Commands_Check.f
 refine fn_intro 71 Try.func26 rfl Try.ntmps26 rfl ?_
 refine sim_seq (sim_region ?_)
 refine simL_eff (re_box rfl rfl rfl) rfl rfl rfl ?_
 intro b1v
 refine simL_eff (re_box rfl rfl rfl) rfl rfl rfl ?_
 intro b2v
 refine simL_val (q_asg rfl rfl) rfl rfl rfl (simL_nil (nrm_then (sim_seq ?_)))
 refine sim_block ?_
 refine sim_seq (sim_region ?_)
 refine simL_val (q_fa rfl rfl Try.underlying33 rfl rfl Try.sizeOf3 rfl) rfl rfl rfl ?_
 refine simL_val (q_load rfl rfl Try.isAgg3 (.obj 0 rfl rfl)) rfl rfl rfl ?_
 refine simL_val (q_neq rfl rfl rfl) rfl rfl rfl ?_
 refine simL_val (q_move rfl rfl) rfl rfl rfl ?_
 refine simL_valc (b := !decide (x1_0 = (2 : Int))) (fun hb48v => RQ.sub (E' := [(3, .pointer (some ⟨b2v, 0, none⟩))]) ⟨rfl, trivial⟩ (q_fa rfl rfl Try.underlying33 rfl rfl Try.sizeOf3 rfl)) rfl rfl rfl rfl rfl ?_
 refine simL_valc (b := !decide (x1_0 = (2 : Int))) (fun hb47v => RQ.sub (E' := [(10, .pointer (some ⟨b2v, 0, none⟩))]) ⟨lk_cv rfl hb47v, trivial⟩ (q_load rfl rfl Try.isAgg3 (.obj 0 rfl rfl))) rfl rfl rfl rfl rfl ?_
 refine simL_valc (b := !decide (x1_0 = (2 : Int))) (fun hb46v => RQ.sub (E' := [(11, .int .i64 x1_0)]) ⟨lk_cv rfl hb46v, trivial⟩ (q_neq rfl rfl rfl)) rfl rfl rfl rfl rfl ?_
 refine simL_val (q_and rfl rfl rfl) rfl rfl rfl ?_
 refine simL_val (q_move rfl rfl) rfl rfl rfl ?_
 refine simL_valc (b := (!decide (x1_0 = (2 : Int))) && (!decide (x1_0 = (3 : Int)))) (fun hb45v => RQ.sub (E' := [(3, .pointer (some ⟨b2v, 0, none⟩))]) ⟨rfl, trivial⟩ (q_fa rfl rfl Try.underlying33 rfl rfl Try.sizeOf3 rfl)) rfl rfl rfl rfl rfl ?_
 refine simL_valc (b := (!decide (x1_0 = (2 : Int))) && (!decide (x1_0 = (3 : Int)))) (fun hb44v => RQ.sub (E' := [(15, .pointer (some ⟨b2v, 0, none⟩))]) ⟨lk_cv rfl hb44v, trivial⟩ (q_load rfl rfl Try.isAgg3 (.obj 0 rfl rfl))) rfl rfl rfl rfl rfl ?_
 refine simL_valc (b := (!decide (x1_0 = (2 : Int))) && (!decide (x1_0 = (3 : Int)))) (fun hb43v => RQ.sub (E' := [(16, .int .i64 x1_0)]) ⟨lk_cv rfl hb43v, trivial⟩ (q_neq rfl rfl rfl)) rfl rfl rfl rfl rfl ?_
 refine simL_val (q_and rfl rfl rfl) rfl rfl rfl ?_
 refine simL_val (q_asg rfl rfl) rfl rfl rfl (simL_nil (nrm_then ?_))
 refine sim_condb rfl (fun h3v => ?_) (fun h4v => ?_)
 refine sim_seq (sim_region ?_)
 refine simL_val (q_asg rfl rfl) rfl rfl rfl (simL_nil (nrm_then (sim_rtn ?_)))
 refine rtn_block ?_
 refine rtn_then ?_
 exact rtn_fn () rfl rfl rfl (.sel 2 rfl (.nil _))
 refine sim_seq (sim_region ?_)
 refine simL_val (q_fa rfl rfl Try.underlying33 rfl rfl Try.sizeOf3 rfl) rfl rfl rfl ?_
 refine simL_val (q_load rfl rfl Try.isAgg3 (.obj 0 rfl rfl)) rfl rfl rfl ?_
 refine simL_bind (fun s5v hs7v => ?_)
 refine simL_eff (re_call (vs := [.int .i64 x1_1, .int .i64 1]) (cap := []) (A := []) (rst := [obj b2v 33 [.int .i64 x1_0, .int .i64 x1_1, .int .i64 x1_2, str x1_3, str x1_4, str x1_5], obj b1v 65 [], F]) rfl rfl rfl rfl rfl rfl Try.call43 (.sel 0 rfl (.sel 0 rfl (.sel 0 rfl (.nil _)))) (codec_within.calls _ _ x1_1 (1 : Int) ) hs7v) rfl rfl rfl ?_
 intro y6v
 refine simL_val (q_not rfl rfl) rfl rfl rfl ?_
 refine simL_val (q_move rfl rfl) rfl rfl rfl ?_
 refine simL_cut' 5 (S := Bool) (Unit) (fun s y => [(3, .pointer (some ⟨b2v, 0, none⟩)), (29, .bool s)]) (fun s y => [obj b2v 33 [.int .i64 x1_0, .int .i64 x1_1, .int .i64 x1_2, str x1_3, str x1_4, str x1_5], F]) ?_ ?_
 refine simL_caseb (fun hb13v => ?_) (fun hb14v => ?_)
 rw [hb13v]
 refine simL_skipd rfl rfl rfl rfl rfl rfl ?_
 refine simL_skipd rfl rfl rfl rfl rfl rfl ?_
 refine simL_skipd rfl rfl rfl rfl rfl rfl ?_
 refine simL_skipd rfl rfl rfl rfl rfl rfl ?_
 refine simL_val (q_pick rfl rfl rfl rfl rfl) rfl rfl rfl (simL_nil ?_)
 exact nrm_cut (s := true) () ⟨rfl, rfl, trivial⟩ (.sel 0 rfl (.sel 1 rfl (.nil _)))
 rw [hb14v]
 refine simL_valg (q_fa rfl rfl Try.underlying33 rfl rfl Try.sizeOf3 rfl) rfl rfl rfl rfl rfl rfl ?_
 refine simL_valg (q_load rfl rfl Try.isAgg3 (.obj 0 rfl rfl)) rfl rfl rfl rfl rfl rfl ?_
 refine simL_bind (fun s10v hs12v => ?_)
 refine simL_effg (re_call (vs := [.int .i64 x1_2, .int .i64 1]) (cap := []) (A := []) (rst := [obj b2v 33 [.int .i64 x1_0, .int .i64 x1_1, .int .i64 x1_2, str x1_3, str x1_4, str x1_5], obj b1v 65 [], F]) rfl rfl rfl rfl rfl rfl Try.call43 (.sel 0 rfl (.sel 0 rfl (.sel 0 rfl (.nil _)))) (codec_within.calls _ _ x1_2 (1 : Int) ) hs12v) rfl rfl rfl rfl rfl rfl ?_
 intro y11v
 refine simL_valg (q_not rfl rfl) rfl rfl rfl rfl rfl rfl ?_
 refine simL_val (q_pick rfl rfl rfl rfl rfl) rfl rfl rfl (simL_nil ?_)
 exact nrm_cut (s := !s10v) () ⟨rfl, rfl, trivial⟩ (.sel 0 rfl (.sel 1 rfl (.nil _)))
 intro s8v y9v
 refine simL_val (q_asg rfl rfl) rfl rfl rfl (simL_nil (nrm_then ?_))
 refine sim_condb rfl (fun h15v => ?_) (fun h16v => ?_)
 refine sim_seq (sim_region ?_)
 refine simL_val (q_asg rfl rfl) rfl rfl rfl (simL_nil (nrm_then (sim_rtn ?_)))
 refine rtn_block ?_
 refine rtn_then ?_
 exact rtn_fn () rfl rfl rfl (.sel 1 rfl (.nil _))
 refine sim_seq (sim_region ?_)
 refine simL_val (q_fa rfl rfl Try.underlying33 rfl rfl Try.sizeOf9 rfl) rfl rfl rfl ?_
 refine simL_val (q_load rfl rfl Try.isAgg9 (.obj 0 rfl rfl)) rfl rfl rfl ?_
 refine simL_val (q_lens rfl rfl rfl Try.underlying9) rfl rfl rfl ?_
 refine simL_val (q_gtr rfl rfl rfl) rfl rfl rfl ?_
 refine simL_val (q_move rfl rfl) rfl rfl rfl ?_
 refine simL_valc (b := decide ((64 : Int) < (x1_3.length : Int))) (fun hb42v => RQ.sub (E' := [(3, .pointer (some ⟨b2v, 0, none⟩))]) ⟨rfl, trivial⟩ (q_fa rfl rfl Try.underlying33 rfl rfl Try.sizeOf9 rfl)) rfl rfl rfl rfl rfl ?_
 refine simL_valc (b := decide ((64 : Int) < (x1_3.length : Int))) (fun hb41v => RQ.sub (E' := [(36, .pointer (some ⟨b2v, 4, none⟩))]) ⟨lk_cv rfl hb41v, trivial⟩ (q_load rfl rfl Try.isAgg9 (.obj 0 rfl rfl))) rfl rfl rfl rfl rfl ?_
 refine simL_valc (b := decide ((64 : Int) < (x1_3.length : Int))) (fun hb40v => RQ.sub (E' := [(37, str x1_4)]) ⟨lk_cv rfl hb40v, trivial⟩ (q_lens rfl rfl rfl Try.underlying9)) rfl rfl rfl rfl rfl ?_
 refine simL_valc (b := decide ((64 : Int) < (x1_3.length : Int))) (fun hb39v => RQ.sub (E' := [(38, .int .i64 (x1_4.length : Int))]) ⟨lk_cv rfl hb39v, trivial⟩ (q_gtr rfl rfl rfl)) rfl rfl rfl rfl rfl ?_
 refine simL_val (q_or rfl rfl rfl) rfl rfl rfl ?_
 refine simL_val (q_move rfl rfl) rfl rfl rfl ?_
 refine simL_valc (b := (decide ((64 : Int) < (x1_3.length : Int))) || (decide ((1024 : Int) < (x1_4.length : Int)))) (fun hb38v => RQ.sub (E' := [(3, .pointer (some ⟨b2v, 0, none⟩))]) ⟨rfl, trivial⟩ (q_fa rfl rfl Try.underlying33 rfl rfl Try.sizeOf9 rfl)) rfl rfl rfl rfl rfl ?_
 refine simL_valc (b := (decide ((64 : Int) < (x1_3.length : Int))) || (decide ((1024 : Int) < (x1_4.length : Int)))) (fun hb37v => RQ.sub (E' := [(42, .pointer (some ⟨b2v, 5, none⟩))]) ⟨lk_cv rfl hb37v, trivial⟩ (q_load rfl rfl Try.isAgg9 (.obj 0 rfl rfl))) rfl rfl rfl rfl rfl ?_
 refine simL_valc (b := (decide ((64 : Int) < (x1_3.length : Int))) || (decide ((1024 : Int) < (x1_4.length : Int)))) (fun hb36v => RQ.sub (E' := [(43, str x1_5)]) ⟨lk_cv rfl hb36v, trivial⟩ (q_lens rfl rfl rfl Try.underlying9)) rfl rfl rfl rfl rfl ?_
 refine simL_valc (b := (decide ((64 : Int) < (x1_3.length : Int))) || (decide ((1024 : Int) < (x1_4.length : Int)))) (fun hb35v => RQ.sub (E' := [(44, .int .i64 (x1_5.length : Int))]) ⟨lk_cv rfl hb35v, trivial⟩ (q_gtr rfl rfl rfl)) rfl rfl rfl rfl rfl ?_
 refine simL_val (q_or rfl rfl rfl) rfl rfl rfl ?_
 refine simL_val (q_asg rfl rfl) rfl rfl rfl (simL_nil (nrm_then ?_))
 refine sim_condb rfl (fun h17v => ?_) (fun h18v => ?_)
 refine sim_seq (sim_region ?_)
 refine simL_val (q_asg rfl rfl) rfl rfl rfl (simL_nil (nrm_then (sim_rtn ?_)))
 refine rtn_block ?_
 refine rtn_then ?_
 exact rtn_fn () rfl rfl rfl (.sel 1 rfl (.nil _))
 refine sim_seq (sim_region ?_)
 refine simL_val (q_fa rfl rfl Try.underlying33 rfl rfl Try.sizeOf9 rfl) rfl rfl rfl ?_
 refine simL_val (q_load rfl rfl Try.isAgg9 (.obj 0 rfl rfl)) rfl rfl rfl ?_
 refine simL_val (q_eqs rfl rfl rfl) rfl rfl rfl ?_
 refine simL_val (q_move rfl rfl) rfl rfl rfl ?_
 refine simL_cut' 9 (S := Bool) (Unit) (fun s y => [(3, .pointer (some ⟨b2v, 0, none⟩)), (60, .bool s)]) (fun s y => [obj b2v 33 [.int .i64 x1_0, .int .i64 x1_1, .int .i64 x1_2, str x1_3, str x1_4, str x1_5], F]) ?_ ?_
 refine simL_casep (fun hb24v => ?_) (fun hb25v => ?_)
 rw [hb24v]
 refine simL_skipd rfl rfl rfl rfl rfl rfl ?_
 refine simL_skipd rfl rfl rfl rfl rfl rfl ?_
 refine simL_skipd rfl rfl rfl rfl rfl rfl ?_
 refine simL_skipd rfl rfl rfl rfl rfl rfl ?_
 refine simL_skipu rfl rfl rfl rfl rfl ?_
 refine simL_skipu rfl rfl rfl rfl rfl ?_
 refine simL_skipu rfl rfl rfl rfl rfl ?_
 refine simL_skipd rfl rfl rfl rfl rfl rfl ?_
 refine simL_val (q_pick rfl rfl rfl rfl rfl) rfl rfl rfl (simL_nil ?_)
 exact nrm_cut (s := true) () ⟨rfl, rfl, trivial⟩ (.sel 0 rfl (.sel 0 rfl (.nil _)))
 rw [hb25v]
 refine simL_valg (q_fa rfl rfl Try.underlying33 rfl rfl Try.sizeOf3 rfl) rfl rfl rfl rfl rfl rfl ?_
 refine simL_valg (q_load rfl rfl Try.isAgg3 (.obj 0 rfl rfl)) rfl rfl rfl rfl rfl rfl ?_
 refine simL_valg (q_eql rfl rfl rfl) rfl rfl rfl rfl rfl rfl ?_
 refine simL_valg (q_move rfl rfl) rfl rfl rfl rfl rfl rfl ?_
 refine simL_valc (b := decide (x1_0 = (3 : Int))) (fun hb23v => RQ.sub (E' := [(3, .pointer (some ⟨b2v, 0, none⟩))]) ⟨rfl, trivial⟩ (q_fa rfl rfl Try.underlying33 rfl rfl Try.sizeOf9 rfl)) rfl rfl rfl rfl rfl ?_
 refine simL_valc (b := decide (x1_0 = (3 : Int))) (fun hb22v => RQ.sub (E' := [(56, .pointer (some ⟨b2v, 4, none⟩))]) ⟨lk_cv rfl hb22v, trivial⟩ (q_load rfl rfl Try.isAgg9 (.obj 0 rfl rfl))) rfl rfl rfl rfl rfl ?_
 refine simL_valc (b := decide (x1_0 = (3 : Int))) (fun hb21v => RQ.sub (E' := [(57, str x1_4)]) ⟨lk_cv rfl hb21v, trivial⟩ (q_nes rfl rfl rfl)) rfl rfl rfl rfl rfl ?_
 refine simL_valg (q_and rfl rfl rfl) rfl rfl rfl rfl rfl rfl ?_
 refine simL_val (q_pick rfl rfl rfl rfl rfl) rfl rfl rfl (simL_nil ?_)
 exact nrm_cut (s := (decide (x1_0 = (3 : Int))) && (!decide (x1_4 = ([] : List UInt8)))) () ⟨rfl, rfl, trivial⟩ (.sel 0 rfl (.sel 0 rfl (.nil _)))
 intro s19v y20v
 refine simL_val (q_move rfl rfl) rfl rfl rfl ?_
 refine simL_cut' 9 (S := Bool) (Unit) (fun s y => [(70, .bool s)]) (fun s y => [F]) ?_ ?_
 refine simL_caseb (fun hb31v => ?_) (fun hb32v => ?_)
 rw [hb31v]
 refine simL_skipd rfl rfl rfl rfl rfl rfl ?_
 refine simL_skipd rfl rfl rfl rfl rfl rfl ?_
 refine simL_skipd rfl rfl rfl rfl rfl rfl ?_
 refine simL_skipd rfl rfl rfl rfl rfl rfl ?_
 refine simL_skipu rfl rfl rfl rfl rfl ?_
 refine simL_skipu rfl rfl rfl rfl rfl ?_
 refine simL_skipu rfl rfl rfl rfl rfl ?_
 refine simL_skipd rfl rfl rfl rfl rfl rfl ?_
 refine simL_val (q_pick rfl rfl rfl rfl rfl) rfl rfl rfl (simL_nil ?_)
 exact nrm_cut (s := true) () ⟨rfl, trivial⟩ (.sel 1 rfl (.nil _))
 rw [hb32v]
 refine simL_valg (q_fa rfl rfl Try.underlying33 rfl rfl Try.sizeOf3 rfl) rfl rfl rfl rfl rfl rfl ?_
 refine simL_valg (q_load rfl rfl Try.isAgg3 (.obj 0 rfl rfl)) rfl rfl rfl rfl rfl rfl ?_
 refine simL_valg (q_neq rfl rfl rfl) rfl rfl rfl rfl rfl rfl ?_
 refine simL_valg (q_move rfl rfl) rfl rfl rfl rfl rfl rfl ?_
 refine simL_valc (b := !decide (x1_0 = (4 : Int))) (fun hb30v => RQ.sub (E' := [(3, .pointer (some ⟨b2v, 0, none⟩))]) ⟨rfl, trivial⟩ (q_fa rfl rfl Try.underlying33 rfl rfl Try.sizeOf9 rfl)) rfl rfl rfl rfl rfl ?_
 refine simL_valc (b := !decide (x1_0 = (4 : Int))) (fun hb29v => RQ.sub (E' := [(66, .pointer (some ⟨b2v, 5, none⟩))]) ⟨lk_cv rfl hb29v, trivial⟩ (q_load rfl rfl Try.isAgg9 (.obj 0 rfl rfl))) rfl rfl rfl rfl rfl ?_
 refine simL_valc (b := !decide (x1_0 = (4 : Int))) (fun hb28v => RQ.sub (E' := [(67, str x1_5)]) ⟨lk_cv rfl hb28v, trivial⟩ (q_nes rfl rfl rfl)) rfl rfl rfl rfl rfl ?_
 refine simL_valg (q_and rfl rfl rfl) rfl rfl rfl rfl rfl rfl ?_
 refine simL_val (q_pick rfl rfl rfl rfl rfl) rfl rfl rfl (simL_nil ?_)
 exact nrm_cut (s := (!decide (x1_0 = (4 : Int))) && (!decide (x1_5 = ([] : List UInt8)))) () ⟨rfl, trivial⟩ (.sel 1 rfl (.nil _))
 intro s26v y27v
 refine simL_val (q_asg rfl rfl) rfl rfl rfl (simL_nil (nrm_then ?_))
 refine sim_condb rfl (fun h33v => ?_) (fun h34v => ?_)
 refine sim_seq (sim_region ?_)
 refine simL_val (q_asg rfl rfl) rfl rfl rfl (simL_nil (nrm_then (sim_rtn ?_)))
 refine rtn_block ?_
 refine rtn_then ?_
 exact rtn_fn () rfl rfl rfl (.sel 0 rfl (.nil _))
 refine sim_skip ?_
 refine nrm_block (nrm_then (sim_seq (sim_region ?_)))
 refine simL_val (q_asg rfl rfl) rfl rfl rfl (simL_nil (nrm_then (sim_rtn ?_)))
 exact rtn_fn () rfl rfl rfl (.sel 0 rfl (.nil _))
def codec_Commands_Check.v (x1_0 : Int) (x1_1 : Int) (x1_2 : Int) (x1_3 : List UInt8) (x1_4 : List UInt8) (x1_5 : List UInt8) : Int := (codec_Commands_Check.f x1_0 x1_1 x1_2 x1_3 x1_4 x1_5).getD 0
theorem codec_Commands_Check.tot (x1_0 : Int) (x1_1 : Int) (x1_2 : Int) (x1_3 : List UInt8) (x1_4 : List UInt8) (x1_5 : List UInt8) : codec_Commands_Check.f x1_0 x1_1 x1_2 x1_3 x1_4 x1_5 = some (codec_Commands_Check.v x1_0 x1_1 x1_2 x1_3 x1_4 x1_5) := by
  have h : ∃ r, codec_Commands_Check.f x1_0 x1_1 x1_2 x1_3 x1_4 x1_5 = some r := by
    unfold codec_Commands_Check.f
    repeat' (first | exact ⟨_, rfl⟩ | split | simp only [Option.bind_some, codec_within.tot])
  obtain ⟨r, h⟩ := h
  unfold codec_Commands_Check.v
  rw [h]; rfl

def kv_operations_1.f (x0_0 : List ((List UInt8) × (List UInt8))) (x0_1 : List ((Int) × (Int × Int × Int × List UInt8))) (x1_0 : Int) (x1_1 : Int) (x1_2 : Int) (x1_3 : List UInt8) (x1_4 : List UInt8) (x1_5 : List UInt8) : Option (Int × List UInt8 × (List ((List UInt8) × (List UInt8))) × (List ((Int) × (Int × Int × Int × List UInt8)))) := if ((!((mget x0_0 x1_3).isSome)) && (decide ((128 : Int) ≤ (x0_0.length : Int)))) = true then (some (5, ([] : List UInt8), x0_0, x0_1)) else (some (1, ([] : List UInt8), mput x0_0 x1_3 x1_4, x0_1))
theorem kv_operations_1.calls (W : World) (F : HA) (b0 : Nat) (m0_0 : Nat) (x0_0 : List ((List UInt8) × (List UInt8))) (m0_1 : Nat) (x0_1 : List ((Int) × (Int × Int × Int × List UInt8))) (x1_0 : Int) (x1_1 : Int) (x1_2 : Int) (x1_3 : List UInt8) (x1_4 : List UInt8) (x1_5 : List UInt8)  :
    Fn Try.prog W 44 [.pointer (some ⟨b0, 0, none⟩), .agg #[.int .i64 x1_0, .int .i64 x1_1, .int .i64 x1_2, str x1_3, str x1_4, str x1_5]] [obj b0 63 [.map (some m0_0), .map (some m0_1)], mapO m0_0 enc9 enc9 x0_0, mapO m0_1 enc3 enc42 x0_1] F (kv_operations_1.f x0_0 x0_1 x1_0 x1_1 x1_2 x1_3 x1_4 x1_5) (fun (r : Int × List UInt8 × (List ((List UInt8) × (List UInt8))) × (List ((Int) × (Int × Int × Int × List UInt8)))) (y : Nat × Nat) => .agg #[.int .i64 r.1, str r.2.1]) (fun r y => [obj b0 63 [.map (some y.1), .map (some y.2)], mapO y.1 enc9 enc9 r.2.2.1, mapO y.2 enc3 enc42 r.2.2.2]) := by
 unfold kv_operations_1.f
 refine fn_intro 37 Try.func44 rfl Try.ntmps44 rfl ?_
 refine sim_seq (sim_region ?_)
 refine simL_eff (re_box rfl rfl rfl) rfl rfl rfl ?_
 intro b1v
 refine simL_eff (re_alloc rfl Try.zeroValue28 rfl) rfl rfl rfl ?_
 intro b2v
 refine simL_nil (nrm_then (sim_seq (sim_seq ?_)))
 refine sim_draw (Γ := Unit) () [[], [0], [0, 1], [0, 1, 2], [], [4], [0, 1, 2, 3, 4, 5], [0, 1, 2, 3, 4, 5, 6], [0, 1, 2, 3, 4, 5, 6, 7], [0, 1, 2, 3, 4, 5, 6, 7], [0, 1, 2, 3, 4, 5, 6, 7, 8], [0, 1, 2, 3, 4, 5, 6, 7, 8, 9, 10]] [] [0, 1, 2, 3, 4, 5, 6, 7, 8, 9, 10, 11] (fun i => [[0], [0], [0], [0], [0], [0], [0], [0], [0], [0], [0], [0]].getD i []) (fun i => [[], [], [], [], [], [], [], [], [], [], [], []].getD i []) (fun γ i => [.pointer (some ⟨b0, 0, none⟩), .pointer (some ⟨b0, 0, none⟩), .pointer (some ⟨b0, 0, none⟩), .map (some m0_0), .pointer (some ⟨b1v, 3, none⟩), str x1_3, .tuple #[str ((mget x0_0 x1_3).getD ([] : List UInt8)), .bool ((mget x0_0 x1_3).isSome)], .tuple #[str ((mget x0_0 x1_3).getD ([] : List UInt8)), .bool ((mget x0_0 x1_3).isSome)], str ((mget x0_0 x1_3).getD ([] : List UInt8)), .bool ((mget x0_0 x1_3).isSome), str ((mget x0_0 x1_3).getD ([] : List UInt8)), .bool ((mget x0_0 x1_3).isSome)].getD i undef) (fun j γ => [[obj b2v 28 [.int .i64 0, str ([] : List UInt8)], obj b1v 33 [.int .i64 x1_0, .int .i64 x1_1, .int .i64 x1_2, str x1_3, str x1_4, str x1_5], obj b0 63 [.map (some m0_0), .map (some m0_1)], mapO m0_0 enc9 enc9 x0_0, mapO m0_1 enc3 enc42 x0_1, F]].getD j []) (fun γ => [(0, .pointer (some ⟨b0, 0, none⟩)), (3, .pointer (some ⟨b1v, 0, none⟩)), (4, .pointer (some ⟨b2v, 0, none⟩)), (6, .bool ((mget x0_0 x1_3).isSome))]) mixed (by decide) (by decide) (by decide) (by decide) (by decide) (by decide) (by decide) 37 rfl (by decide) (by decide) (by decide) (Ent.refl _) ?_ ?_ (fun _ => ⟨rfl, rfl, rfl, rfl, trivial⟩) ?_
 exact (All.cons (fun γ => (All.cons (QOb.plain [(0, .pointer (some ⟨b0, 0, none⟩))] rfl rfl (.o rfl (by decide) .nil) (q_move rfl rfl) rfl) All.nil)) (All.cons (fun γ => (All.cons (QOb.plain [(8, .pointer (some ⟨b0, 0, none⟩))] rfl rfl (.w 0 rfl rfl rfl .nil) (q_nil rfl rfl) rfl) All.nil)) (All.cons (fun γ => (All.cons (QOb.plain [(9, .pointer (some ⟨b0, 0, none⟩))] rfl rfl (.w 1 rfl rfl rfl .nil) (q_fa rfl rfl Try.underlying63 rfl rfl Try.sizeOf60 rfl) rfl) All.nil)) (All.cons (fun γ => (All.cons (QOb.plain [(10, .pointer (some ⟨b0, 0, none⟩))] rfl rfl (.w 2 rfl rfl rfl .nil) (q_load rfl rfl Try.isAgg60 (.obj 2 rfl rfl)) rfl) All.nil)) (All.cons (fun γ => (All.cons (QOb.plain [(3, .pointer (some ⟨b1v, 0, none⟩))] rfl rfl (.o rfl (by decide) .nil) (q_fa rfl rfl Try.underlying33 rfl rfl Try.sizeOf9 rfl) rfl) All.nil)) (All.cons (fun γ => (All.cons (QOb.plain [(12, .pointer (some ⟨b1v, 3, none⟩))] rfl rfl (.w 4 rfl rfl rfl .nil) (q_load rfl rfl Try.isAgg9 (.obj 1 rfl rfl)) rfl) All.nil)) (All.cons (fun γ => (All.cons (QOb.plain [(11, .map (some m0_0)), (13, str x1_3)] rfl rfl (.w 3 rfl rfl rfl (.w 5 rfl rfl rfl .nil)) ((q_mlook2 (ek := enc9) (ev := enc9) (z := ([] : List UInt8)) 3 x1_3 rfl rfl rfl Try.underlying60 key9 Try.zeroValue9 rfl : RQ _ _ _ _ (.tuple #[str ((mget x0_0 x1_3).getD ([] : List UInt8)), .bool ((mget x0_0 x1_3).isSome)]))) rfl) All.nil)) (All.cons (fun γ => (All.cons (QOb.plain [(14, .tuple #[str ((mget x0_0 x1_3).getD ([] : List UInt8)), .bool ((mget x0_0 x1_3).isSome)])] rfl rfl (.w 6 rfl rfl rfl .nil) (q_move rfl rfl) rfl) All.nil)) (All.cons (fun γ => (All.cons (QOb.plain [(7, .tuple #[str ((mget x0_0 x1_3).getD ([] : List UInt8)), .bool ((mget x0_0 x1_3).isSome)])] rfl rfl (.w 7 rfl rfl rfl .nil) (q_ext rfl rfl rfl) rfl) All.nil)) (All.cons (fun γ => (All.cons (QOb.plain [(7, .tuple #[str ((mget x0_0 x1_3).getD ([] : List UInt8)), .bool ((mget x0_0 x1_3).isSome)])] rfl rfl (.w 7 rfl rfl rfl .nil) (q_ext rfl rfl rfl) rfl) All.nil)) (All.cons (fun γ => (All.cons (QOb.plain [(15, str ((mget x0_0 x1_3).getD ([] : List UInt8)))] rfl rfl (.w 8 rfl rfl rfl .nil) (q_asg rfl rfl) rfl) All.nil)) (All.cons (fun γ => (All.cons (QOb.plain [(16, .bool ((mget x0_0 x1_3).isSome))] rfl rfl (.w 9 rfl rfl rfl .nil) (q_asg rfl rfl) rfl) All.nil)) All.nil))))))))))))
 exact All.nil
 intro g3v
 refine nrm_then (sim_seq (sim_region ?_))
 refine simL_val (q_move rfl rfl) rfl rfl rfl ?_
 refine simL_val (q_not rfl rfl) rfl rfl rfl ?_
 refine simL_val (q_move rfl rfl) rfl rfl rfl ?_
 refine simL_valc (b := !((mget x0_0 x1_3).isSome)) (fun hb12v => RQ.sub (E' := [(0, .pointer (some ⟨b0, 0, none⟩))]) ⟨rfl, trivial⟩ (q_move rfl rfl)) rfl rfl rfl rfl rfl ?_
 refine simL_valc (b := !((mget x0_0 x1_3).isSome)) (fun hb11v => RQ.sub (E' := [(20, .pointer (some ⟨b0, 0, none⟩))]) ⟨lk_cv rfl hb11v, trivial⟩ (q_nil rfl rfl)) rfl rfl rfl rfl rfl ?_
 refine simL_valc (b := !((mget x0_0 x1_3).isSome)) (fun hb10v => RQ.sub (E' := [(21, .pointer (some ⟨b0, 0, none⟩))]) ⟨lk_cv rfl hb10v, trivial⟩ (q_fa rfl rfl Try.underlying63 rfl rfl Try.sizeOf60 rfl)) rfl rfl rfl rfl rfl ?_
 refine simL_valc (b := !((mget x0_0 x1_3).isSome)) (fun hb9v => RQ.sub (E' := [(22, .pointer (some ⟨b0, 0, none⟩))]) ⟨lk_cv rfl hb9v, trivial⟩ (q_load rfl rfl Try.isAgg60 (.obj 2 rfl rfl))) rfl rfl rfl rfl rfl ?_
 refine simL_valc (b := !((mget x0_0 x1_3).isSome)) (fun hb8v => RQ.sub (E' := [(23, .map (some m0_0))]) ⟨lk_cv rfl hb8v, trivial⟩ (q_mlen 3 rfl rfl rfl Try.underlying60 rfl)) rfl rfl rfl rfl rfl ?_
 refine simL_valc (b := !((mget x0_0 x1_3).isSome)) (fun hb7v => RQ.sub (E' := [(24, .int .i64 (x0_0.length : Int))]) ⟨lk_cv rfl hb7v, trivial⟩ (q_geq rfl rfl rfl)) rfl rfl rfl rfl rfl ?_
 refine simL_val (q_and rfl rfl rfl) rfl rfl rfl (simL_nil (nrm_then ?_))
 refine sim_condb rfl (fun h4v => ?_) (fun h5v => ?_)
 refine sim_seq (sim_region ?_)
 refine simL_val (q_build (v := .agg #[.int .i64 5, str ([] : List UInt8)]) rfl rfl (fun _ => by kernel_rfl)) rfl rfl rfl ?_
 refine simL_do (re_store 0 rfl rfl rfl Try.sizeOf28 rfl rfl (one_of (by rfl)) rfl rfl) rfl rfl ?_
 intro _
 refine simL_nil (nrm_then (sim_rtn ?_))
 refine rtn_then ?_
 exact rtn_fnC (vs := [.agg #[.int .i64 5, str ([] : List UInt8)]]) (m0_0, m0_1) rfl ⟨⟨b2v, rfl, load_agg 0 Try.isAgg28 Try.sizeOf28 rfl rfl⟩, trivial⟩ rfl (.sel 2 rfl (.sel 2 rfl (.sel 2 rfl (.sel 2 rfl (.nil _)))))
 refine sim_skip ?_
 refine nrm_then (sim_seq ?_)
 refine sim_draw (Γ := Unit) () [[], [0], [0, 1], [0, 1, 2], [], [4], [], [6], [0, 1, 2, 3, 4, 5, 6, 7]] [8] [0, 1, 2, 3, 4, 5, 6, 7] (fun i => [[0], [0], [0], [0], [0], [0], [0], [0], []].getD i []) (fun i => [[], [], [], [], [], [], [], [], [0, 1, 2, 3, 4, 5, 6, 7]].getD i []) (fun γ i => [.pointer (some ⟨b0, 0, none⟩), .pointer (some ⟨b0, 0, none⟩), .pointer (some ⟨b0, 0, none⟩), .map (some m0_0), .pointer (some ⟨b1v, 3, none⟩), str x1_3, .pointer (some ⟨b1v, 4, none⟩), str x1_4, undef].getD i undef) (fun j γ => [[obj b2v 28 [.int .i64 0, str ([] : List UInt8)], obj b1v 33 [.int .i64 x1_0, .int .i64 x1_1, .int .i64 x1_2, str x1_3, str x1_4, str x1_5], obj b0 63 [.map (some m0_0), .map (some m0_1)], mapO m0_0 enc9 enc9 x0_0, mapO m0_1 enc3 enc42 x0_1, F], [obj b2v 28 [.int .i64 0, str ([] : List UInt8)], obj b1v 33 [.int .i64 x1_0, .int .i64 x1_1, .int .i64 x1_2, str x1_3, str x1_4, str x1_5], obj b0 63 [.map (some m0_0), .map (some m0_1)], mapO m0_0 enc9 enc9 (mput x0_0 x1_3 x1_4), mapO m0_1 enc3 enc42 x0_1, F]].getD j []) (fun γ => [(4, .pointer (some ⟨b2v, 0, none⟩))]) mixed (by decide) (by decide) (by decide) (by decide) (by decide) (by decide) (by decide) 37 rfl (by decide) (by decide) (by decide) (Ent.refl _) ?_ ?_ (fun _ => ⟨rfl, trivial⟩) ?_
 exact (All.cons (fun γ => (All.cons (QOb.plain [(0, .pointer (some ⟨b0, 0, none⟩))] rfl rfl (.o rfl (by decide) .nil) (q_move rfl rfl) rfl) All.nil)) (All.cons (fun γ => (All.cons (QOb.plain [(28, .pointer (some ⟨b0, 0, none⟩))] rfl rfl (.w 0 rfl rfl rfl .nil) (q_nil rfl rfl) rfl) All.nil)) (All.cons (fun γ => (All.cons (QOb.plain [(29, .pointer (some ⟨b0, 0, none⟩))] rfl rfl (.w 1 rfl rfl rfl .nil) (q_fa rfl rfl Try.underlying63 rfl rfl Try.sizeOf60 rfl) rfl) All.nil)) (All.cons (fun γ => (All.cons (QOb.plain [(30, .pointer (some ⟨b0, 0, none⟩))] rfl rfl (.w 2 rfl rfl rfl .nil) (q_load rfl rfl Try.isAgg60 (.obj 2 rfl rfl)) rfl) All.nil)) (All.cons (fun γ => (All.cons (QOb.plain [(3, .pointer (some ⟨b1v, 0, none⟩))] rfl rfl (.o rfl (by decide) .nil) (q_fa rfl rfl Try.underlying33 rfl rfl Try.sizeOf9 rfl) rfl) All.nil)) (All.cons (fun γ => (All.cons (QOb.plain [(32, .pointer (some ⟨b1v, 3, none⟩))] rfl rfl (.w 4 rfl rfl rfl .nil) (q_load rfl rfl Try.isAgg9 (.obj 1 rfl rfl)) rfl) All.nil)) (All.cons (fun γ => (All.cons (QOb.plain [(3, .pointer (some ⟨b1v, 0, none⟩))] rfl rfl (.o rfl (by decide) .nil) (q_fa rfl rfl Try.underlying33 rfl rfl Try.sizeOf9 rfl) rfl) All.nil)) (All.cons (fun γ => (All.cons (QOb.plain [(34, .pointer (some ⟨b1v, 4, none⟩))] rfl rfl (.w 6 rfl rfl rfl .nil) (q_load rfl rfl Try.isAgg9 (.obj 1 rfl rfl)) rfl) All.nil)) All.nil))))))))
 exact (All.cons (fun γ => EOb.mk (Z := Unit) [(31, .map (some m0_0)), (33, str x1_3), (35, str x1_4)] (fun z => ()) rfl rfl (.w 3 rfl rfl rfl (.w 5 rfl rfl rfl (.w 7 rfl rfl rfl .nil))) (re_mput (ek := enc9) (ev := enc9) 3 x1_3 x1_4 rfl rfl rfl rfl Try.underlying60 key9 rfl) (fun _ => ⟨rfl, rfl, rfl, rfl, rfl, rfl, rfl, rfl, trivial⟩) (fun _ => .inl rfl) (fun z => Ent.refl _)) All.nil)
 intro g6v
 refine nrm_then (sim_seq (sim_region ?_))
 refine simL_val (q_build (v := .agg #[.int .i64 1, str ([] : List UInt8)]) rfl rfl (fun _ => by kernel_rfl)) rfl rfl rfl ?_
 refine simL_do (re_store 0 rfl rfl rfl Try.sizeOf28 rfl rfl (one_of (by rfl)) rfl rfl) rfl rfl ?_
 intro _
 refine simL_nil (nrm_then (sim_rtn ?_))
 exact rtn_fnC (vs := [.agg #[.int .i64 1, str ([] : List UInt8)]]) (m0_0, m0_1) rfl ⟨⟨b2v, rfl, load_agg 0 Try.isAgg28 Try.sizeOf28 rfl rfl⟩, trivial⟩ rfl (.sel 2 rfl (.sel 2 rfl (.sel 2 rfl (.sel 2 rfl (.nil _)))))
def kv_operations_1.v (x0_0 : List ((List UInt8) × (List UInt8))) (x0_1 : List ((Int) × (Int × Int × Int × List UInt8))) (x1_0 : Int) (x1_1 : Int) (x1_2 : Int) (x1_3 : List UInt8) (x1_4 : List UInt8) (x1_5 : List UInt8) : Int × List UInt8 × (List ((List UInt8) × (List UInt8))) × (List ((Int) × (Int × Int × Int × List UInt8))) := (kv_operations_1.f x0_0 x0_1 x1_0 x1_1 x1_2 x1_3 x1_4 x1_5).getD (0, [], [], [])
theorem kv_operations_1.tot (x0_0 : List ((List UInt8) × (List UInt8))) (x0_1 : List ((Int) × (Int × Int × Int × List UInt8))) (x1_0 : Int) (x1_1 : Int) (x1_2 : Int) (x1_3 : List UInt8) (x1_4 : List UInt8) (x1_5 : List UInt8) : kv_operations_1.f x0_0 x0_1 x1_0 x1_1 x1_2 x1_3 x1_4 x1_5 = some (kv_operations_1.v x0_0 x0_1 x1_0 x1_1 x1_2 x1_3 x1_4 x1_5) := by
  have h : ∃ r, kv_operations_1.f x0_0 x0_1 x1_0 x1_1 x1_2 x1_3 x1_4 x1_5 = some r := by
    unfold kv_operations_1.f
    repeat' (first | exact ⟨_, rfl⟩ | split | simp only [Option.bind_some])
  obtain ⟨r, h⟩ := h
  unfold kv_operations_1.v
  rw [h]; rfl

def kv_operations_2.f (x0_0 : List ((List UInt8) × (List UInt8))) (x0_1 : List ((Int) × (Int × Int × Int × List UInt8))) (x1_0 : Int) (x1_1 : Int) (x1_2 : Int) (x1_3 : List UInt8) (x1_4 : List UInt8) (x1_5 : List UInt8) : Option (Int × List UInt8 × (List ((List UInt8) × (List UInt8))) × (List ((Int) × (Int × Int × Int × List UInt8)))) := if (!((mget x0_0 x1_3).isSome)) = true then (some (2, ([] : List UInt8), x0_0, x0_1)) else (some (1, ([] : List UInt8), mdel x0_0 x1_3, x0_1))
theorem kv_operations_2.calls (W : World) (F : HA) (b0 : Nat) (m0_0 : Nat) (x0_0 : List ((List UInt8) × (List UInt8))) (m0_1 : Nat) (x0_1 : List ((Int) × (Int × Int × Int × List UInt8))) (x1_0 : Int) (x1_1 : Int) (x1_2 : Int) (x1_3 : List UInt8) (x1_4 : List UInt8) (x1_5 : List UInt8)  :
    Fn Try.prog W 45 [.pointer (some ⟨b0, 0, none⟩), .agg #[.int .i64 x1_0, .int .i64 x1_1, .int .i64 x1_2, str x1_3, str x1_4, str x1_5]] [obj b0 63 [.map (some m0_0), .map (some m0_1)], mapO m0_0 enc9 enc9 x0_0, mapO m0_1 enc3 enc42 x0_1] F (kv_operations_2.f x0_0 x0_1 x1_0 x1_1 x1_2 x1_3 x1_4 x1_5) (fun (r : Int × List UInt8 × (List ((List UInt8) × (List UInt8))) × (List ((Int) × (Int × Int × Int × List UInt8)))) (y : Nat × Nat) => .agg #[.int .i64 r.1, str r.2.1]) (fun r y => [obj b0 63 [.map (some y.1), .map (some y.2)], mapO y.1 enc9 enc9 r.2.2.1, mapO y.2 enc3 enc42 r.2.2.2]) := by
 unfold kv_operations_2.f
 refine fn_intro 27 Try.func45 rfl Try.ntmps45 rfl ?_
 refine sim_seq (sim_region ?_)
 refine simL_eff (re_box rfl rfl rfl) rfl rfl rfl ?_
 intro b1v
 refine simL_eff (re_alloc rfl Try.zeroValue28 rfl) rfl rfl rfl ?_
 intro b2v
 refine simL_nil (nrm_then (sim_seq (sim_seq ?_)))
 refine sim_draw (Γ := Unit) () [[], [0], [0, 1], [0, 1, 2], [], [4], [0, 1, 2, 3, 4, 5], [0, 1, 2, 3, 4, 5, 6], [0, 1, 2, 3, 4, 5, 6, 7], [0, 1, 2, 3, 4, 5, 6, 7], [0, 1, 2, 3, 4, 5, 6, 7, 8], [0, 1, 2, 3, 4, 5, 6, 7, 8, 9, 10]] [] [0, 1, 2, 3, 4, 5, 6, 7, 8, 9, 10, 11] (fun i => [[0], [0], [0], [0], [0], [0], [0], [0], [0], [0], [0], [0]].getD i []) (fun i => [[], [], [], [], [], [], [], [], [], [], [], []].getD i []) (fun γ i => [.pointer (some ⟨b0, 0, none⟩), .pointer (some ⟨b0, 0, none⟩), .pointer (some ⟨b0, 0, none⟩), .map (some m0_0), .pointer (some ⟨b1v, 3, none⟩), str x1_3, .tuple #[str ((mget x0_0 x1_3).getD ([] : List UInt8)), .bool ((mget x0_0 x1_3).isSome)], .tuple #[str ((mget x0_0 x1_3).getD ([] : List UInt8)), .bool ((mget x0_0 x1_3).isSome)], str ((mget x0_0 x1_3).getD ([] : List UInt8)), .bool ((mget x0_0 x1_3).isSome), str ((mget x0_0 x1_3).getD ([] : List UInt8)), .bool ((mget x0_0 x1_3).isSome)].getD i undef) (fun j γ => [[obj b2v 28 [.int .i64 0, str ([] : List UInt8)], obj b1v 33 [.int .i64 x1_0, .int .i64 x1_1, .int .i64 x1_2, str x1_3, str x1_4, str x1_5], obj b0 63 [.map (some m0_0), .map (some m0_1)], mapO m0_0 enc9 enc9 x0_0, mapO m0_1 enc3 enc42 x0_1, F]].getD j []) (fun γ => [(0, .pointer (some ⟨b0, 0, none⟩)), (3, .pointer (some ⟨b1v, 0, none⟩)), (4, .pointer (some ⟨b2v, 0, none⟩)), (6, .bool ((mget x0_0 x1_3).isSome))]) mixed (by decide) (by decide) (by decide) (by decide) (by decide) (by decide) (by decide) 27 rfl (by decide) (by decide) (by decide) (Ent.refl _) ?_ ?_ (fun _ => ⟨rfl, rfl, rfl, rfl, trivial⟩) ?_
 exact (All.cons (fun γ => (All.cons (QOb.plain [(0, .pointer (some ⟨b0, 0, none⟩))] rfl rfl (.o rfl (by decide) .nil) (q_move rfl rfl) rfl) All.nil)) (All.cons (fun γ => (All.cons (QOb.plain [(8, .pointer (some ⟨b0, 0, none⟩))] rfl rfl (.w 0 rfl rfl rfl .nil) (q_nil rfl rfl) rfl) All.nil)) (All.cons (fun γ => (All.cons (QOb.plain [(9, .pointer (some ⟨b0, 0, none⟩))] rfl rfl (.w 1 rfl rfl rfl .nil) (q_fa rfl rfl Try.underlying63 rfl rfl Try.sizeOf60 rfl) rfl) All.nil)) (All.cons (fun γ => (All.cons (QOb.plain [(10, .pointer (some ⟨b0, 0, none⟩))] rfl rfl (.w 2 rfl rfl rfl .nil) (q_load rfl rfl Try.isAgg60 (.obj 2 rfl rfl)) rfl) All.nil)) (All.cons (fun γ => (All.cons (QOb.plain [(3, .pointer (some ⟨b1v, 0, none⟩))] rfl rfl (.o rfl (by decide) .nil) (q_fa rfl rfl Try.underlying33 rfl rfl Try.sizeOf9 rfl) rfl) All.nil)) (All.cons (fun γ => (All.cons (QOb.plain [(12, .pointer (some ⟨b1v, 3, none⟩))] rfl rfl (.w 4 rfl rfl rfl .nil) (q_load rfl rfl Try.isAgg9 (.obj 1 rfl rfl)) rfl) All.nil)) (All.cons (fun γ => (All.cons (QOb.plain [(11, .map (some m0_0)), (13, str x1_3)] rfl rfl (.w 3 rfl rfl rfl (.w 5 rfl rfl rfl .nil)) ((q_mlook2 (ek := enc9) (ev := enc9) (z := ([] : List UInt8)) 3 x1_3 rfl rfl rfl Try.underlying60 key9 Try.zeroValue9 rfl : RQ _ _ _ _ (.tuple #[str ((mget x0_0 x1_3).getD ([] : List UInt8)), .bool ((mget x0_0 x1_3).isSome)]))) rfl) All.nil)) (All.cons (fun γ => (All.cons (QOb.plain [(14, .tuple #[str ((mget x0_0 x1_3).getD ([] : List UInt8)), .bool ((mget x0_0 x1_3).isSome)])] rfl rfl (.w 6 rfl rfl rfl .nil) (q_move rfl rfl) rfl) All.nil)) (All.cons (fun γ => (All.cons (QOb.plain [(7, .tuple #[str ((mget x0_0 x1_3).getD ([] : List UInt8)), .bool ((mget x0_0 x1_3).isSome)])] rfl rfl (.w 7 rfl rfl rfl .nil) (q_ext rfl rfl rfl) rfl) All.nil)) (All.cons (fun γ => (All.cons (QOb.plain [(7, .tuple #[str ((mget x0_0 x1_3).getD ([] : List UInt8)), .bool ((mget x0_0 x1_3).isSome)])] rfl rfl (.w 7 rfl rfl rfl .nil) (q_ext rfl rfl rfl) rfl) All.nil)) (All.cons (fun γ => (All.cons (QOb.plain [(15, str ((mget x0_0 x1_3).getD ([] : List UInt8)))] rfl rfl (.w 8 rfl rfl rfl .nil) (q_asg rfl rfl) rfl) All.nil)) (All.cons (fun γ => (All.cons (QOb.plain [(16, .bool ((mget x0_0 x1_3).isSome))] rfl rfl (.w 9 rfl rfl rfl .nil) (q_asg rfl rfl) rfl) All.nil)) All.nil))))))))))))
 exact All.nil
 intro g3v
 refine nrm_then (sim_seq (sim_region ?_))
 refine simL_val (q_move rfl rfl) rfl rfl rfl ?_
 refine simL_val (q_not rfl rfl) rfl rfl rfl (simL_nil (nrm_then ?_))
 refine sim_condb rfl (fun h4v => ?_) (fun h5v => ?_)
 refine sim_seq (sim_region ?_)
 refine simL_val (q_build (v := .agg #[.int .i64 2, str ([] : List UInt8)]) rfl rfl (fun _ => by kernel_rfl)) rfl rfl rfl ?_
 refine simL_do (re_store 0 rfl rfl rfl Try.sizeOf28 rfl rfl (one_of (by rfl)) rfl rfl) rfl rfl ?_
 intro _
 refine simL_nil (nrm_then (sim_rtn ?_))
 refine rtn_then ?_
 exact rtn_fnC (vs := [.agg #[.int .i64 2, str ([] : List UInt8)]]) (m0_0, m0_1) rfl ⟨⟨b2v, rfl, load_agg 0 Try.isAgg28 Try.sizeOf28 rfl rfl⟩, trivial⟩ rfl (.sel 2 rfl (.sel 2 rfl (.sel 2 rfl (.sel 2 rfl (.nil _)))))
 refine sim_skip ?_
 refine nrm_then (sim_seq ?_)
 refine sim_draw (Γ := Unit) () [[], [0], [0, 1], [0, 1, 2], [], [4], [0, 1, 2, 3, 4, 5]] [6] [0, 1, 2, 3, 4, 5] (fun i => [[0], [0], [0], [0], [0], [0], []].getD i []) (fun i => [[], [], [], [], [], [], [0, 1, 2, 3, 4, 5]].getD i []) (fun γ i => [.pointer (some ⟨b0, 0, none⟩), .pointer (some ⟨b0, 0, none⟩), .pointer (some ⟨b0, 0, none⟩), .map (some m0_0), .pointer (some ⟨b1v, 3, none⟩), str x1_3, undef].getD i undef) (fun j γ => [[obj b2v 28 [.int .i64 0, str ([] : List UInt8)], obj b1v 33 [.int .i64 x1_0, .int .i64 x1_1, .int .i64 x1_2, str x1_3, str x1_4, str x1_5], obj b0 63 [.map (some m0_0), .map (some m0_1)], mapO m0_0 enc9 enc9 x0_0, mapO m0_1 enc3 enc42 x0_1, F], [obj b2v 28 [.int .i64 0, str ([] : List UInt8)], obj b1v 33 [.int .i64 x1_0, .int .i64 x1_1, .int .i64 x1_2, str x1_3, str x1_4, str x1_5], obj b0 63 [.map (some m0_0), .map (some m0_1)], mapO m0_0 enc9 enc9 (mdel x0_0 x1_3), mapO m0_1 enc3 enc42 x0_1, F]].getD j []) (fun γ => [(4, .pointer (some ⟨b2v, 0, none⟩))]) mixed (by decide) (by decide) (by decide) (by decide) (by decide) (by decide) (by decide) 27 rfl (by decide) (by decide) (by decide) (Ent.refl _) ?_ ?_ (fun _ => ⟨rfl, trivial⟩) ?_
 exact (All.cons (fun γ => (All.cons (QOb.plain [(0, .pointer (some ⟨b0, 0, none⟩))] rfl rfl (.o rfl (by decide) .nil) (q_move rfl rfl) rfl) All.nil)) (All.cons (fun γ => (All.cons (QOb.plain [(20, .pointer (some ⟨b0, 0, none⟩))] rfl rfl (.w 0 rfl rfl rfl .nil) (q_nil rfl rfl) rfl) All.nil)) (All.cons (fun γ => (All.cons (QOb.plain [(21, .pointer (some ⟨b0, 0, none⟩))] rfl rfl (.w 1 rfl rfl rfl .nil) (q_fa rfl rfl Try.underlying63 rfl rfl Try.sizeOf60 rfl) rfl) All.nil)) (All.cons (fun γ => (All.cons (QOb.plain [(22, .pointer (some ⟨b0, 0, none⟩))] rfl rfl (.w 2 rfl rfl rfl .nil) (q_load rfl rfl Try.isAgg60 (.obj 2 rfl rfl)) rfl) All.nil)) (All.cons (fun γ => (All.cons (QOb.plain [(3, .pointer (some ⟨b1v, 0, none⟩))] rfl rfl (.o rfl (by decide) .nil) (q_fa rfl rfl Try.underlying33 rfl rfl Try.sizeOf9 rfl) rfl) All.nil)) (All.cons (fun γ => (All.cons (QOb.plain [(24, .pointer (some ⟨b1v, 3, none⟩))] rfl rfl (.w 4 rfl rfl rfl .nil) (q_load rfl rfl Try.isAgg9 (.obj 1 rfl rfl)) rfl) All.nil)) All.nil))))))
 exact (All.cons (fun γ => EOb.mk (Z := Unit) [(23, .map (some m0_0)), (25, str x1_3)] (fun z => ()) rfl rfl (.w 3 rfl rfl rfl (.w 5 rfl rfl rfl .nil)) (re_mdel (ek := enc9) (ev := enc9) 3 x1_3 rfl rfl rfl rfl Try.underlying60 key9 rfl) (fun _ => ⟨rfl, rfl, rfl, rfl, rfl, rfl, trivial⟩) (fun _ => .inl rfl) (fun z => Ent.refl _)) All.nil)
 intro g6v
 refine nrm_then (sim_seq (sim_region ?_))
 refine simL_val (q_build (v := .agg #[.int .i64 1, str ([] : List UInt8)]) rfl rfl (fun _ => by kernel_rfl)) rfl rfl rfl ?_
 refine simL_do (re_store 0 rfl rfl rfl Try.sizeOf28 rfl rfl (one_of (by rfl)) rfl rfl) rfl rfl ?_
 intro _
 refine simL_nil (nrm_then (sim_rtn ?_))
 exact rtn_fnC (vs := [.agg #[.int .i64 1, str ([] : List UInt8)]]) (m0_0, m0_1) rfl ⟨⟨b2v, rfl, load_agg 0 Try.isAgg28 Try.sizeOf28 rfl rfl⟩, trivial⟩ rfl (.sel 2 rfl (.sel 2 rfl (.sel 2 rfl (.sel 2 rfl (.nil _)))))
def kv_operations_2.v (x0_0 : List ((List UInt8) × (List UInt8))) (x0_1 : List ((Int) × (Int × Int × Int × List UInt8))) (x1_0 : Int) (x1_1 : Int) (x1_2 : Int) (x1_3 : List UInt8) (x1_4 : List UInt8) (x1_5 : List UInt8) : Int × List UInt8 × (List ((List UInt8) × (List UInt8))) × (List ((Int) × (Int × Int × Int × List UInt8))) := (kv_operations_2.f x0_0 x0_1 x1_0 x1_1 x1_2 x1_3 x1_4 x1_5).getD (0, [], [], [])
theorem kv_operations_2.tot (x0_0 : List ((List UInt8) × (List UInt8))) (x0_1 : List ((Int) × (Int × Int × Int × List UInt8))) (x1_0 : Int) (x1_1 : Int) (x1_2 : Int) (x1_3 : List UInt8) (x1_4 : List UInt8) (x1_5 : List UInt8) : kv_operations_2.f x0_0 x0_1 x1_0 x1_1 x1_2 x1_3 x1_4 x1_5 = some (kv_operations_2.v x0_0 x0_1 x1_0 x1_1 x1_2 x1_3 x1_4 x1_5) := by
  have h : ∃ r, kv_operations_2.f x0_0 x0_1 x1_0 x1_1 x1_2 x1_3 x1_4 x1_5 = some r := by
    unfold kv_operations_2.f
    repeat' (first | exact ⟨_, rfl⟩ | split | simp only [Option.bind_some])
  obtain ⟨r, h⟩ := h
  unfold kv_operations_2.v
  rw [h]; rfl

def kv_operations_3.f (x0_0 : List ((List UInt8) × (List UInt8))) (x0_1 : List ((Int) × (Int × Int × Int × List UInt8))) (x1_0 : Int) (x1_1 : Int) (x1_2 : Int) (x1_3 : List UInt8) (x1_4 : List UInt8) (x1_5 : List UInt8) : Option (Int × List UInt8 × (List ((List UInt8) × (List UInt8))) × (List ((Int) × (Int × Int × Int × List UInt8)))) := if (!((mget x0_0 x1_3).isSome)) = true then (some (2, ([] : List UInt8), x0_0, x0_1)) else (if ((mget x0_0 x1_3).getD ([] : List UInt8)) = x1_5 then (some (1, ([] : List UInt8), mput x0_0 x1_3 x1_4, x0_1)) else (some (3, ((mget x0_0 x1_3).getD ([] : List UInt8)), x0_0, x0_1)))
theorem kv_operations_3.calls (W : World) (F : HA) (b0 : Nat) (m0_0 : Nat) (x0_0 : List ((List UInt8) × (List UInt8))) (m0_1 : Nat) (x0_1 : List ((Int) × (Int × Int × Int × List UInt8))) (x1_0 : Int) (x1_1 : Int) (x1_2 : Int) (x1_3 : List UInt8) (x1_4 : List UInt8) (x1_5 : List UInt8)  :
    Fn Try.prog W 46 [.pointer (some ⟨b0, 0, none⟩), .agg #[.int .i64 x1_0, .int .i64 x1_1, .int .i64 x1_2, str x1_3, str x1_4, str x1_5]] [obj b0 63 [.map (some m0_0), .map (some m0_1)], mapO m0_0 enc9 enc9 x0_0, mapO m0_1 enc3 enc42 x0_1] F (kv_operations_3.f x0_0 x0_1 x1_0 x1_1 x1_2 x1_3 x1_4 x1_5) (fun (r : Int × List UInt8 × (List ((List UInt8) × (List UInt8))) × (List ((Int) × (Int × Int × Int × List UInt8)))) (y : Nat × Nat) => .agg #[.int .i64 r.1, str r.2.1]) (fun r y => [obj b0 63 [.map (some y.1), .map (some y.2)], mapO y.1 enc9 enc9 r.2.2.1, mapO y.2 enc3 enc42 r.2.2.2]) := by
 unfold kv_operations_3.f
 refine fn_intro 35 Try.func46 rfl Try.ntmps46 rfl ?_
 refine sim_seq (sim_region ?_)
 refine simL_eff (re_box rfl rfl rfl) rfl rfl rfl ?_
 intro b1v
 refine simL_eff (re_alloc rfl Try.zeroValue28 rfl) rfl rfl rfl ?_
 intro b2v
 refine simL_nil (nrm_then (sim_seq ?_))
 refine sim_draw (Γ := Unit) () [[], [0], [0, 1], [0, 1, 2], [], [4], [0, 1, 2, 3, 4, 5], [0, 1, 2, 3, 4, 5, 6], [0, 1, 2, 3, 4, 5, 6, 7], [0, 1, 2, 3, 4, 5, 6, 7], [0, 1, 2, 3, 4, 5, 6, 7, 8], [0, 1, 2, 3, 4, 5, 6, 7, 8, 9, 10]] [] [0, 1, 2, 3, 4, 5, 6, 7, 8, 9, 10, 11] (fun i => [[0], [0], [0], [0], [0], [0], [0], [0], [0], [0], [0], [0]].getD i []) (fun i => [[], [], [], [], [], [], [], [], [], [], [], []].getD i []) (fun γ i => [.pointer (some ⟨b0, 0, none⟩), .pointer (some ⟨b0, 0, none⟩), .pointer (some ⟨b0, 0, none⟩), .map (some m0_0), .pointer (some ⟨b1v, 3, none⟩), str x1_3, .tuple #[str ((mget x0_0 x1_3).getD ([] : List UInt8)), .bool ((mget x0_0 x1_3).isSome)], .tuple #[str ((mget x0_0 x1_3).getD ([] : List UInt8)), .bool ((mget x0_0 x1_3).isSome)], str ((mget x0_0 x1_3).getD ([] : List UInt8)), .bool ((mget x0_0 x1_3).isSome), str ((mget x0_0 x1_3).getD ([] : List UInt8)), .bool ((mget x0_0 x1_3).isSome)].getD i undef) (fun j γ => [[obj b2v 28 [.int .i64 0, str ([] : List UInt8)], obj b1v 33 [.int .i64 x1_0, .int .i64 x1_1, .int .i64 x1_2, str x1_3, str x1_4, str x1_5], obj b0 63 [.map (some m0_0), .map (some m0_1)], mapO m0_0 enc9 enc9 x0_0, mapO m0_1 enc3 enc42 x0_1, F]].getD j []) (fun γ => [(0, .pointer (some ⟨b0, 0, none⟩)), (3, .pointer (some ⟨b1v, 0, none⟩)), (4, .pointer (some ⟨b2v, 0, none⟩)), (5, str ((mget x0_0 x1_3).getD ([] : List UInt8))), (6, .bool ((mget x0_0 x1_3).isSome))]) mixed (by decide) (by decide) (by decide) (by decide) (by decide) (by decide) (by decide) 35 rfl (by decide) (by decide) (by decide) (Ent.refl _) ?_ ?_ (fun _ => ⟨rfl, rfl, rfl, rfl, rfl, trivial⟩) ?_
 exact (All.cons (fun γ => (All.cons (QOb.plain [(0, .pointer (some ⟨b0, 0, none⟩))] rfl rfl (.o rfl (by decide) .nil) (q_move rfl rfl) rfl) All.nil)) (All.cons (fun γ => (All.cons (QOb.plain [(8, .pointer (some ⟨b0, 0, none⟩))] rfl rfl (.w 0 rfl rfl rfl .nil) (q_nil rfl rfl) rfl) All.nil)) (All.cons (fun γ => (All.cons (QOb.plain [(9, .pointer (some ⟨b0, 0, none⟩))] rfl rfl (.w 1 rfl rfl rfl .nil) (q_fa rfl rfl Try.underlying63 rfl rfl Try.sizeOf60 rfl) rfl) All.nil)) (All.cons (fun γ => (All.cons (QOb.plain [(10, .pointer (some ⟨b0, 0, none⟩))] rfl rfl (.w 2 rfl rfl rfl .nil) (q_load rfl rfl Try.isAgg60 (.obj 2 rfl rfl)) rfl) All.nil)) (All.cons (fun γ => (All.cons (QOb.plain [(3, .pointer (some ⟨b1v, 0, none⟩))] rfl rfl (.o rfl (by decide) .nil) (q_fa rfl rfl Try.underlying33 rfl rfl Try.sizeOf9 rfl) rfl) All.nil)) (All.cons (fun γ => (All.cons (QOb.plain [(12, .pointer (some ⟨b1v, 3, none⟩))] rfl rfl (.w 4 rfl rfl rfl .nil) (q_load rfl rfl Try.isAgg9 (.obj 1 rfl rfl)) rfl) All.nil)) (All.cons (fun γ => (All.cons (QOb.plain [(11, .map (some m0_0)), (13, str x1_3)] rfl rfl (.w 3 rfl rfl rfl (.w 5 rfl rfl rfl .nil)) ((q_mlook2 (ek := enc9) (ev := enc9) (z := ([] : List UInt8)) 3 x1_3 rfl rfl rfl Try.underlying60 key9 Try.zeroValue9 rfl : RQ _ _ _ _ (.tuple #[str ((mget x0_0 x1_3).getD ([] : List UInt8)), .bool ((mget x0_0 x1_3).isSome)]))) rfl) All.nil)) (All.cons (fun γ => (All.cons (QOb.plain [(14, .tuple #[str ((mget x0_0 x1_3).getD ([] : List UInt8)), .bool ((mget x0_0 x1_3).isSome)])] rfl rfl (.w 6 rfl rfl rfl .nil) (q_move rfl rfl) rfl) All.nil)) (All.cons (fun γ => (All.cons (QOb.plain [(7, .tuple #[str ((mget x0_0 x1_3).getD ([] : List UInt8)), .bool ((mget x0_0 x1_3).isSome)])] rfl rfl (.w 7 rfl rfl rfl .nil) (q_ext rfl rfl rfl) rfl) All.nil)) (All.cons (fun γ => (All.cons (QOb.plain [(7, .tuple #[str ((mget x0_0 x1_3).getD ([] : List UInt8)), .bool ((mget x0_0 x1_3).isSome)])] rfl rfl (.w 7 rfl rfl rfl .nil) (q_ext rfl rfl rfl) rfl) All.nil)) (All.cons (fun γ => (All.cons (QOb.plain [(15, str ((mget x0_0 x1_3).getD ([] : List UInt8)))] rfl rfl (.w 8 rfl rfl rfl .nil) (q_asg rfl rfl) rfl) All.nil)) (All.cons (fun γ => (All.cons (QOb.plain [(16, .bool ((mget x0_0 x1_3).isSome))] rfl rfl (.w 9 rfl rfl rfl .nil) (q_asg rfl rfl) rfl) All.nil)) All.nil))))))))))))
 exact All.nil
 intro g3v
 refine nrm_then (sim_seq (sim_seq (sim_region ?_)))
 refine simL_val (q_move rfl rfl) rfl rfl rfl ?_
 refine simL_val (q_not rfl rfl) rfl rfl rfl (simL_nil (nrm_then ?_))
 refine sim_condb rfl (fun h4v => ?_) (fun h5v => ?_)
 refine sim_seq (sim_region ?_)
 refine simL_val (q_build (v := .agg #[.int .i64 2, str ([] : List UInt8)]) rfl rfl (fun _ => by kernel_rfl)) rfl rfl rfl ?_
 refine simL_do (re_store 0 rfl rfl rfl Try.sizeOf28 rfl rfl (one_of (by rfl)) rfl rfl) rfl rfl ?_
 intro _
 refine simL_nil (nrm_then (sim_rtn ?_))
 refine rtn_then ?_
 exact rtn_fnC (vs := [.agg #[.int .i64 2, str ([] : List UInt8)]]) (m0_0, m0_1) rfl ⟨⟨b2v, rfl, load_agg 0 Try.isAgg28 Try.sizeOf28 rfl rfl⟩, trivial⟩ rfl (.sel 2 rfl (.sel 2 rfl (.sel 2 rfl (.sel 2 rfl (.nil _)))))
 refine sim_skip ?_
 refine nrm_then (sim_seq (sim_seq (sim_region ?_)))
 refine simL_val (q_move rfl rfl) rfl rfl rfl ?_
 refine simL_val (q_fa rfl rfl Try.underlying33 rfl rfl Try.sizeOf9 rfl) rfl rfl rfl ?_
 refine simL_val (q_load rfl rfl Try.isAgg9 (.obj 1 rfl rfl)) rfl rfl rfl ?_
 refine simL_val (q_nes rfl rfl rfl) rfl rfl rfl (simL_nil (nrm_then ?_))
 refine sim_condn rfl (fun h6v => ?_) (fun h7v => ?_)
 refine sim_skip ?_
 refine nrm_then (sim_seq ?_)
 refine sim_draw (Γ := Unit) () [[], [0], [0, 1], [0, 1, 2], [], [4], [], [6], [0, 1, 2, 3, 4, 5, 6, 7]] [8] [0, 1, 2, 3, 4, 5, 6, 7] (fun i => [[0], [0], [0], [0], [0], [0], [0], [0], []].getD i []) (fun i => [[], [], [], [], [], [], [], [], [0, 1, 2, 3, 4, 5, 6, 7]].getD i []) (fun γ i => [.pointer (some ⟨b0, 0, none⟩), .pointer (some ⟨b0, 0, none⟩), .pointer (some ⟨b0, 0, none⟩), .map (some m0_0), .pointer (some ⟨b1v, 3, none⟩), str x1_3, .pointer (some ⟨b1v, 4, none⟩), str x1_4, undef].getD i undef) (fun j γ => [[obj b2v 28 [.int .i64 0, str ([] : List UInt8)], obj b1v 33 [.int .i64 x1_0, .int .i64 x1_1, .int .i64 x1_2, str x1_3, str x1_4, str x1_5], obj b0 63 [.map (some m0_0), .map (some m0_1)], mapO m0_0 enc9 enc9 x0_0, mapO m0_1 enc3 enc42 x0_1, F], [obj b2v 28 [.int .i64 0, str ([] : List UInt8)], obj b1v 33 [.int .i64 x1_0, .int .i64 x1_1, .int .i64 x1_2, str x1_3, str x1_4, str x1_5], obj b0 63 [.map (some m0_0), .map (some m0_1)], mapO m0_0 enc9 enc9 (mput x0_0 x1_3 x1_4), mapO m0_1 enc3 enc42 x0_1, F]].getD j []) (fun γ => [(4, .pointer (some ⟨b2v, 0, none⟩))]) mixed (by decide) (by decide) (by decide) (by decide) (by decide) (by decide) (by decide) 35 rfl (by decide) (by decide) (by decide) (Ent.refl _) ?_ ?_ (fun _ => ⟨rfl, trivial⟩) ?_
 exact (All.cons (fun γ => (All.cons (QOb.plain [(0, .pointer (some ⟨b0, 0, none⟩))] rfl rfl (.o rfl (by decide) .nil) (q_move rfl rfl) rfl) All.nil)) (All.cons (fun γ => (All.cons (QOb.plain [(26, .pointer (some ⟨b0, 0, none⟩))] rfl rfl (.w 0 rfl rfl rfl .nil) (q_nil rfl rfl) rfl) All.nil)) (All.cons (fun γ => (All.cons (QOb.plain [(27, .pointer (some ⟨b0, 0, none⟩))] rfl rfl (.w 1 rfl rfl rfl .nil) (q_fa rfl rfl Try.underlying63 rfl rfl Try.sizeOf60 rfl) rfl) All.nil)) (All.cons (fun γ => (All.cons (QOb.plain [(28, .pointer (some ⟨b0, 0, none⟩))] rfl rfl (.w 2 rfl rfl rfl .nil) (q_load rfl rfl Try.isAgg60 (.obj 2 rfl rfl)) rfl) All.nil)) (All.cons (fun γ => (All.cons (QOb.plain [(3, .pointer (some ⟨b1v, 0, none⟩))] rfl rfl (.o rfl (by decide) .nil) (q_fa rfl rfl Try.underlying33 rfl rfl Try.sizeOf9 rfl) rfl) All.nil)) (All.cons (fun γ => (All.cons (QOb.plain [(30, .pointer (some ⟨b1v, 3, none⟩))] rfl rfl (.w 4 rfl rfl rfl .nil) (q_load rfl rfl Try.isAgg9 (.obj 1 rfl rfl)) rfl) All.nil)) (All.cons (fun γ => (All.cons (QOb.plain [(3, .pointer (some ⟨b1v, 0, none⟩))] rfl rfl (.o rfl (by decide) .nil) (q_fa rfl rfl Try.underlying33 rfl rfl Try.sizeOf9 rfl) rfl) All.nil)) (All.cons (fun γ => (All.cons (QOb.plain [(32, .pointer (some ⟨b1v, 4, none⟩))] rfl rfl (.w 6 rfl rfl rfl .nil) (q_load rfl rfl Try.isAgg9 (.obj 1 rfl rfl)) rfl) All.nil)) All.nil))))))))
 exact (All.cons (fun γ => EOb.mk (Z := Unit) [(29, .map (some m0_0)), (31, str x1_3), (33, str x1_4)] (fun z => ()) rfl rfl (.w 3 rfl rfl rfl (.w 5 rfl rfl rfl (.w 7 rfl rfl rfl .nil))) (re_mput (ek := enc9) (ev := enc9) 3 x1_3 x1_4 rfl rfl rfl rfl Try.underlying60 key9 rfl) (fun _ => ⟨rfl, rfl, rfl, rfl, rfl, rfl, rfl, rfl, trivial⟩) (fun _ => .inl rfl) (fun z => Ent.refl _)) All.nil)
 intro g8v
 refine nrm_then (sim_seq (sim_region ?_))
 refine simL_val (q_build (v := .agg #[.int .i64 1, str ([] : List UInt8)]) rfl rfl (fun _ => by kernel_rfl)) rfl rfl rfl ?_
 refine simL_do (re_store 0 rfl rfl rfl Try.sizeOf28 rfl rfl (one_of (by rfl)) rfl rfl) rfl rfl ?_
 intro _
 refine simL_nil (nrm_then (sim_rtn ?_))
 exact rtn_fnC (vs := [.agg #[.int .i64 1, str ([] : List UInt8)]]) (m0_0, m0_1) rfl ⟨⟨b2v, rfl, load_agg 0 Try.isAgg28 Try.sizeOf28 rfl rfl⟩, trivial⟩ rfl (.sel 2 rfl (.sel 2 rfl (.sel 2 rfl (.sel 2 rfl (.nil _)))))
 refine sim_seq (sim_region ?_)
 refine simL_val (q_move rfl rfl) rfl rfl rfl ?_
 refine simL_val (q_build (v := .agg #[.int .i64 3, str ((mget x0_0 x1_3).getD ([] : List UInt8))]) rfl rfl (fun _ => by kernel_rfl)) rfl rfl rfl ?_
 refine simL_do (re_store 0 rfl rfl rfl Try.sizeOf28 rfl rfl (one_of (by rfl)) rfl rfl) rfl rfl ?_
 intro _
 refine simL_nil (nrm_then (sim_rtn ?_))
 refine rtn_then ?_
 exact rtn_fnC (vs := [.agg #[.int .i64 3, str ((mget x0_0 x1_3).getD ([] : List UInt8))]]) (m0_0, m0_1) rfl ⟨⟨b2v, rfl, load_agg 0 Try.isAgg28 Try.sizeOf28 rfl rfl⟩, trivial⟩ rfl (.sel 2 rfl (.sel 2 rfl (.sel 2 rfl (.sel 2 rfl (.nil _)))))
def kv_operations_3.v (x0_0 : List ((List UInt8) × (List UInt8))) (x0_1 : List ((Int) × (Int × Int × Int × List UInt8))) (x1_0 : Int) (x1_1 : Int) (x1_2 : Int) (x1_3 : List UInt8) (x1_4 : List UInt8) (x1_5 : List UInt8) : Int × List UInt8 × (List ((List UInt8) × (List UInt8))) × (List ((Int) × (Int × Int × Int × List UInt8))) := (kv_operations_3.f x0_0 x0_1 x1_0 x1_1 x1_2 x1_3 x1_4 x1_5).getD (0, [], [], [])
theorem kv_operations_3.tot (x0_0 : List ((List UInt8) × (List UInt8))) (x0_1 : List ((Int) × (Int × Int × Int × List UInt8))) (x1_0 : Int) (x1_1 : Int) (x1_2 : Int) (x1_3 : List UInt8) (x1_4 : List UInt8) (x1_5 : List UInt8) : kv_operations_3.f x0_0 x0_1 x1_0 x1_1 x1_2 x1_3 x1_4 x1_5 = some (kv_operations_3.v x0_0 x0_1 x1_0 x1_1 x1_2 x1_3 x1_4 x1_5) := by
  have h : ∃ r, kv_operations_3.f x0_0 x0_1 x1_0 x1_1 x1_2 x1_3 x1_4 x1_5 = some r := by
    unfold kv_operations_3.f
    repeat' (first | exact ⟨_, rfl⟩ | split | simp only [Option.bind_some])
  obtain ⟨r, h⟩ := h
  unfold kv_operations_3.v
  rw [h]; rfl

def kv_operations.f  : Option (Unit) := some ()
theorem kv_operations.calls (W : World) (F : HA)   :
    Fn Try.prog W 27 [] [] F (kv_operations.f ) (fun (r : Unit) (y : Nat) => .map (some y)) (fun r y => [mapO y enc3 enc68 (mput (mput (mput ([] : List ((Int) × (Option Nat))) (2 : Int) (some 44)) (3 : Int) (some 45)) (4 : Int) (some 46))]) := by
 unfold kv_operations.f
 refine fn_intro 3 Try.func27 rfl Try.ntmps27 rfl ?_
 refine sim_seq (sim_region ?_)
 refine simL_val (q_asg rfl rfl) rfl rfl rfl (simL_nil (nrm_then (sim_seq (sim_region ?_))))
 refine simL_eff (re_mkmap (ek := enc3) (ev := enc68) rfl) rfl rfl rfl ?_
 intro b1v
 refine simL_do (re_mins (ek := enc3) (ev := enc68) 0 (2 : Int) (some 44) rfl rfl rfl rfl Try.underlying69 key3 rfl) rfl rfl ?_
 intro _
 refine simL_do (re_mins (ek := enc3) (ev := enc68) 0 (3 : Int) (some 45) rfl rfl rfl rfl Try.underlying69 key3 rfl) rfl rfl ?_
 intro _
 refine simL_do (re_mins (ek := enc3) (ev := enc68) 0 (4 : Int) (some 46) rfl rfl rfl rfl Try.underlying69 key3 rfl) rfl rfl ?_
 intro _
 refine simL_val (q_move rfl rfl) rfl rfl rfl ?_
 refine simL_val (q_asg rfl rfl) rfl rfl rfl (simL_nil (nrm_then (sim_rtn ?_)))
 exact rtn_fn b1v rfl rfl rfl (.sel 0 rfl (.sel 0 rfl (.nil _)))

def kv_Store_Do.f (x0_0 : List ((List UInt8) × (List UInt8))) (x0_1 : List ((Int) × (Int × Int × Int × List UInt8))) (x1_0 : Int) (x1_1 : Int) (x1_2 : Int) (x1_3 : List UInt8) (x1_4 : List UInt8) (x1_5 : List UInt8) : Option (Int × List UInt8 × Int × (List ((List UInt8) × (List UInt8))) × (List ((Int) × (Int × Int × Int × List UInt8)))) := (codec_Commands_Check.f x1_0 x1_1 x1_2 x1_3 x1_4 x1_5).bind fun s3v => (if s3v = (0 : Int) then (if (((mget x0_1 x1_1).isSome) && (decide (x1_2 = ((mget x0_1 x1_1).getD ((0 : Int), (0 : Int), (0 : Int), ([] : List UInt8))).2.1))) = true then (some (((mget x0_1 x1_1).getD ((0 : Int), (0 : Int), (0 : Int), ([] : List UInt8))).2.2.1, ((mget x0_1 x1_1).getD ((0 : Int), (0 : Int), (0 : Int), ([] : List UInt8))).2.2.2, 0, x0_0, x0_1)) else (if (((mget x0_1 x1_1).isSome) && (decide (x1_2 < ((mget x0_1 x1_1).getD ((0 : Int), (0 : Int), (0 : Int), ([] : List UInt8))).2.1))) = true then (some (4, ([] : List UInt8), 0, x0_0, x0_1)) else (if ((!((mget x0_1 x1_1).isSome)) && (decide ((32 : Int) ≤ (x0_1.length : Int)))) = true then (some (5, ([] : List UInt8), 0, x0_0, x0_1)) else ((if x1_0 = (2 : Int) then ((kv_operations.f).bind fun s19v => ((kv_operations_1.f x0_0 x0_1 x1_0 x1_1 x1_2 x1_3 x1_4 x1_5).bind fun s22v => (some (s22v.1, s22v.2.1, s22v.2.2.1, s22v.2.2.2)))) else (if x1_0 = (3 : Int) then ((kv_operations.f).bind fun s28v => ((kv_operations_2.f x0_0 x0_1 x1_0 x1_1 x1_2 x1_3 x1_4 x1_5).bind fun s31v => (some (s31v.1, s31v.2.1, s31v.2.2.1, s31v.2.2.2)))) else (if x1_0 = (4 : Int) then ((kv_operations.f).bind fun s37v => ((kv_operations_3.f x0_0 x0_1 x1_0 x1_1 x1_2 x1_3 x1_4 x1_5).bind fun s40v => (some (s40v.1, s40v.2.1, s40v.2.2.1, s40v.2.2.2)))) else (none)))).bind fun s16v => (some (s16v.1, s16v.2.1, 0, s16v.2.2.1, mput s16v.2.2.2 x1_1 (x1_1, x1_2, s16v.1, s16v.2.1))))))) else (some (0, ([] : List UInt8), s3v, x0_0, x0_1)))
theorem kv_Store_Do.calls (W : World) (F : HA) (b0 : Nat) (m0_0 : Nat) (x0_0 : List ((List UInt8) × (List UInt8))) (m0_1 : Nat) (x0_1 : List ((Int) × (Int × Int × Int × List UInt8))) (x1_0 : Int) (x1_1 : Int) (x1_2 : Int) (x1_3 : List UInt8) (x1_4 : List UInt8) (x1_5 : List UInt8)  :
    Fn Try.prog W 12 [.pointer (some ⟨b0, 0, none⟩), .agg #[.int .i64 x1_0, .int .i64 x1_1, .int .i64 x1_2, str x1_3, str x1_4, str x1_5]] [obj b0 63 [.map (some m0_0), .map (some m0_1)], mapO m0_0 enc9 enc9 x0_0, mapO m0_1 enc3 enc42 x0_1] F (kv_Store_Do.f x0_0 x0_1 x1_0 x1_1 x1_2 x1_3 x1_4 x1_5) (fun (r : Int × List UInt8 × Int × (List ((List UInt8) × (List UInt8))) × (List ((Int) × (Int × Int × Int × List UInt8)))) (y : Nat × Nat) => .tuple #[.agg #[.int .i64 r.1, str r.2.1], .int .i64 r.2.2.1]) (fun r y => [obj b0 63 [.map (some y.1), .map (some y.2)], mapO y.1 enc9 enc9 r.2.2.2.1, mapO y.2 enc3 enc42 r.2.2.2.2]) := by
 unfold kv_Store_Do.f
 refine fn_intro 80 Try.func12 rfl Try.ntmps12 rfl ?_
 refine sim_seq (sim_region ?_)
 refine simL_eff (re_box rfl rfl rfl) rfl rfl rfl ?_
 intro b1v
 refine simL_eff (re_alloc rfl Try.zeroValue28 rfl) rfl rfl rfl ?_
 intro b2v
 refine simL_val (q_asg rfl rfl) rfl rfl rfl (simL_nil (nrm_then (sim_seq (sim_seq (sim_region ?_)))))
 refine simL_val (q_build (v := .agg #[]) rfl rfl (fun _ => by kernel_rfl)) rfl rfl rfl ?_
 refine simL_val (q_loado 1 rfl rfl Try.isAgg33 Try.sizeOf33 rfl rfl) rfl rfl rfl ?_
 refine simL_bind (fun s3v hs5v => ?_)
 refine simL_eff (re_call (vs := [.agg #[], .agg #[.int .i64 x1_0, .int .i64 x1_1, .int .i64 x1_2, str x1_3, str x1_4, str x1_5]]) (cap := []) (A := []) (rst := [obj b2v 28 [.int .i64 0, str ([] : List UInt8)], obj b1v 33 [.int .i64 x1_0, .int .i64 x1_1, .int .i64 x1_2, str x1_3, str x1_4, str x1_5], obj b0 63 [.map (some m0_0), .map (some m0_1)], mapO m0_0 enc9 enc9 x0_0, mapO m0_1 enc3 enc42 x0_1, F]) rfl rfl rfl rfl rfl rfl Try.call26 (.sel 0 rfl (.sel 0 rfl (.sel 0 rfl (.sel 0 rfl (.sel 0 rfl (.sel 0 rfl (.nil _))))))) (codec_Commands_Check.calls _ _ x1_0 x1_1 x1_2 x1_3 x1_4 x1_5 ) hs5v) rfl rfl rfl ?_
 intro y4v
 refine simL_val (q_asg rfl rfl) rfl rfl rfl (simL_nil (nrm_then (sim_seq (sim_region ?_))))
 refine simL_val (q_move rfl rfl) rfl rfl rfl ?_
 refine simL_val (q_neq rfl rfl rfl) rfl rfl rfl (simL_nil (nrm_then ?_))
 refine sim_condn rfl (fun h6v => ?_) (fun h7v => ?_)
 refine sim_skip ?_
 refine nrm_then (sim_seq ?_)
 refine sim_draw (Γ := Nat) 0 [[], [0], [0, 1], [0, 1, 2], [], [4], [0, 1, 2, 3, 4, 5], [0, 1, 2, 3, 4, 5, 6], [0, 1, 2, 3, 4, 5, 6, 7], [0, 1, 2, 3, 4, 5, 6, 7], [], [0, 1, 2, 3, 4, 5, 6, 7, 8, 10], [0, 1, 2, 3, 4, 5, 6, 7, 8, 9, 10, 11]] [10, 11] [0, 1, 2, 3, 4, 5, 6, 7, 8, 9, 12] (fun i => [[0, 1], [0, 1], [0, 1], [0, 1], [0, 1], [0, 1], [0, 1], [0, 1], [0, 1], [0, 1, 2], [], [], [2]].getD i []) (fun i => [[], [], [], [], [], [], [], [], [], [], [0, 1, 2, 3, 4, 5, 6, 7, 8, 9], [0, 1, 2, 3, 4, 5, 6, 7, 8, 9, 10], []].getD i []) (fun γ i => [.pointer (some ⟨b0, 0, none⟩), .pointer (some ⟨b0, 0, none⟩), .pointer (some ⟨b0, 1, none⟩), .map (some m0_1), .pointer (some ⟨b1v, 1, none⟩), .int .i64 x1_1, .tuple #[.agg #[.int .i64 (((mget x0_1 x1_1).getD ((0 : Int), (0 : Int), (0 : Int), ([] : List UInt8))).1), .int .i64 (((mget x0_1 x1_1).getD ((0 : Int), (0 : Int), (0 : Int), ([] : List UInt8))).2.1), .int .i64 (((mget x0_1 x1_1).getD ((0 : Int), (0 : Int), (0 : Int), ([] : List UInt8))).2.2.1), str (((mget x0_1 x1_1).getD ((0 : Int), (0 : Int), (0 : Int), ([] : List UInt8))).2.2.2)], .bool ((mget x0_1 x1_1).isSome)], .tuple #[.agg #[.int .i64 (((mget x0_1 x1_1).getD ((0 : Int), (0 : Int), (0 : Int), ([] : List UInt8))).1), .int .i64 (((mget x0_1 x1_1).getD ((0 : Int), (0 : Int), (0 : Int), ([] : List UInt8))).2.1), .int .i64 (((mget x0_1 x1_1).getD ((0 : Int), (0 : Int), (0 : Int), ([] : List UInt8))).2.2.1), str (((mget x0_1 x1_1).getD ((0 : Int), (0 : Int), (0 : Int), ([] : List UInt8))).2.2.2)], .bool ((mget x0_1 x1_1).isSome)], .agg #[.int .i64 (((mget x0_1 x1_1).getD ((0 : Int), (0 : Int), (0 : Int), ([] : List UInt8))).1), .int .i64 (((mget x0_1 x1_1).getD ((0 : Int), (0 : Int), (0 : Int), ([] : List UInt8))).2.1), .int .i64 (((mget x0_1 x1_1).getD ((0 : Int), (0 : Int), (0 : Int), ([] : List UInt8))).2.2.1), str (((mget x0_1 x1_1).getD ((0 : Int), (0 : Int), (0 : Int), ([] : List UInt8))).2.2.2)], .bool ((mget x0_1 x1_1).isSome), .pointer (some ⟨γ, 0, none⟩), undef, .bool ((mget x0_1 x1_1).isSome)].getD i undef) (fun j γ => [[obj b2v 28 [.int .i64 0, str ([] : List UInt8)], obj b1v 33 [.int .i64 x1_0, .int .i64 x1_1, .int .i64 x1_2, str x1_3, str x1_4, str x1_5], obj b0 63 [.map (some m0_0), .map (some m0_1)], mapO m0_0 enc9 enc9 x0_0, mapO m0_1 enc3 enc42 x0_1, F], [obj γ 42 [.int .i64 0, .int .i64 0, .int .i64 0, str ([] : List UInt8)], obj b2v 28 [.int .i64 0, str ([] : List UInt8)], obj b1v 33 [.int .i64 x1_0, .int .i64 x1_1, .int .i64 x1_2, str x1_3, str x1_4, str x1_5], obj b0 63 [.map (some m0_0), .map (some m0_1)], mapO m0_0 enc9 enc9 x0_0, mapO m0_1 enc3 enc42 x0_1, F], [obj γ 42 [.int .i64 (((mget x0_1 x1_1).getD ((0 : Int), (0 : Int), (0 : Int), ([] : List UInt8))).1), .int .i64 (((mget x0_1 x1_1).getD ((0 : Int), (0 : Int), (0 : Int), ([] : List UInt8))).2.1), .int .i64 (((mget x0_1 x1_1).getD ((0 : Int), (0 : Int), (0 : Int), ([] : List UInt8))).2.2.1), str (((mget x0_1 x1_1).getD ((0 : Int), (0 : Int), (0 : Int), ([] : List UInt8))).2.2.2)], obj b2v 28 [.int .i64 0, str ([] : List UInt8)], obj b1v 33 [.int .i64 x1_0, .int .i64 x1_1, .int .i64 x1_2, str x1_3, str x1_4, str x1_5], obj b0 63 [.map (some m0_0), .map (some m0_1)], mapO m0_0 enc9 enc9 x0_0, mapO m0_1 enc3 enc42 x0_1, F]].getD j []) (fun γ => [(0, .pointer (some ⟨b0, 0, none⟩)), (3, .pointer (some ⟨b1v, 0, none⟩)), (4, .pointer (some ⟨b2v, 0, none⟩)), (7, .pointer (some ⟨γ, 0, none⟩)), (8, .bool ((mget x0_1 x1_1).isSome))]) mixed (by decide) (by decide) (by decide) (by decide) (by decide) (by decide) (by decide) 80 rfl (by decide) (by decide) (by decide) (Ent.refl _) ?_ ?_ (fun _ => ⟨rfl, rfl, rfl, rfl, rfl, trivial⟩) ?_
 exact (All.cons (fun γ => (All.cons (QOb.plain [(0, .pointer (some ⟨b0, 0, none⟩))] rfl rfl (.o rfl (by decide) .nil) (q_move rfl rfl) rfl) (All.cons (QOb.plain [(0, .pointer (some ⟨b0, 0, none⟩))] rfl rfl (.o rfl (by decide) .nil) (q_move rfl rfl) rfl) All.nil))) (All.cons (fun γ => (All.cons (QOb.plain [(18, .pointer (some ⟨b0, 0, none⟩))] rfl rfl (.w 0 rfl rfl rfl .nil) (q_nil rfl rfl) rfl) (All.cons (QOb.plain [(18, .pointer (some ⟨b0, 0, none⟩))] rfl rfl (.w 0 rfl rfl rfl .nil) (q_nil rfl rfl) rfl) All.nil))) (All.cons (fun γ => (All.cons (QOb.plain [(19, .pointer (some ⟨b0, 0, none⟩))] rfl rfl (.w 1 rfl rfl rfl .nil) (q_fa rfl rfl Try.underlying63 rfl rfl Try.sizeOf61 rfl) rfl) (All.cons (QOb.plain [(19, .pointer (some ⟨b0, 0, none⟩))] rfl rfl (.w 1 rfl rfl rfl .nil) (q_fa rfl rfl Try.underlying63 rfl rfl Try.sizeOf61 rfl) rfl) All.nil))) (All.cons (fun γ => (All.cons (QOb.plain [(20, .pointer (some ⟨b0, 1, none⟩))] rfl rfl (.w 2 rfl rfl rfl .nil) (q_load rfl rfl Try.isAgg61 (.obj 2 rfl rfl)) rfl) (All.cons (QOb.plain [(20, .pointer (some ⟨b0, 1, none⟩))] rfl rfl (.w 2 rfl rfl rfl .nil) (q_load rfl rfl Try.isAgg61 (.obj 3 rfl rfl)) rfl) All.nil))) (All.cons (fun γ => (All.cons (QOb.plain [(3, .pointer (some ⟨b1v, 0, none⟩))] rfl rfl (.o rfl (by decide) .nil) (q_fa rfl rfl Try.underlying33 rfl rfl Try.sizeOf3 rfl) rfl) (All.cons (QOb.plain [(3, .pointer (some ⟨b1v, 0, none⟩))] rfl rfl (.o rfl (by decide) .nil) (q_fa rfl rfl Try.underlying33 rfl rfl Try.sizeOf3 rfl) rfl) All.nil))) (All.cons (fun γ => (All.cons (QOb.plain [(22, .pointer (some ⟨b1v, 1, none⟩))] rfl rfl (.w 4 rfl rfl rfl .nil) (q_load rfl rfl Try.isAgg3 (.obj 1 rfl rfl)) rfl) (All.cons (QOb.plain [(22, .pointer (some ⟨b1v, 1, none⟩))] rfl rfl (.w 4 rfl rfl rfl .nil) (q_load rfl rfl Try.isAgg3 (.obj 2 rfl rfl)) rfl) All.nil))) (All.cons (fun γ => (All.cons (QOb.plain [(21, .map (some m0_1)), (23, .int .i64 x1_1)] rfl rfl (.w 3 rfl rfl rfl (.w 5 rfl rfl rfl .nil)) ((q_mlook2 (ek := enc3) (ev := enc42) (z := ((0 : Int), (0 : Int), (0 : Int), ([] : List UInt8))) 4 x1_1 rfl rfl rfl Try.underlying61 key3 Try.zeroValue42 rfl : RQ _ _ _ _ (.tuple #[.agg #[.int .i64 (((mget x0_1 x1_1).getD ((0 : Int), (0 : Int), (0 : Int), ([] : List UInt8))).1), .int .i64 (((mget x0_1 x1_1).getD ((0 : Int), (0 : Int), (0 : Int), ([] : List UInt8))).2.1), .int .i64 (((mget x0_1 x1_1).getD ((0 : Int), (0 : Int), (0 : Int), ([] : List UInt8))).2.2.1), str (((mget x0_1 x1_1).getD ((0 : Int), (0 : Int), (0 : Int), ([] : List UInt8))).2.2.2)], .bool ((mget x0_1 x1_1).isSome)]))) rfl) (All.cons (QOb.plain [(21, .map (some m0_1)), (23, .int .i64 x1_1)] rfl rfl (.w 3 rfl rfl rfl (.w 5 rfl rfl rfl .nil)) ((q_mlook2 (ek := enc3) (ev := enc42) (z := ((0 : Int), (0 : Int), (0 : Int), ([] : List UInt8))) 5 x1_1 rfl rfl rfl Try.underlying61 key3 Try.zeroValue42 rfl : RQ _ _ _ _ (.tuple #[.agg #[.int .i64 (((mget x0_1 x1_1).getD ((0 : Int), (0 : Int), (0 : Int), ([] : List UInt8))).1), .int .i64 (((mget x0_1 x1_1).getD ((0 : Int), (0 : Int), (0 : Int), ([] : List UInt8))).2.1), .int .i64 (((mget x0_1 x1_1).getD ((0 : Int), (0 : Int), (0 : Int), ([] : List UInt8))).2.2.1), str (((mget x0_1 x1_1).getD ((0 : Int), (0 : Int), (0 : Int), ([] : List UInt8))).2.2.2)], .bool ((mget x0_1 x1_1).isSome)]))) rfl) All.nil))) (All.cons (fun γ => (All.cons (QOb.plain [(24, .tuple #[.agg #[.int .i64 (((mget x0_1 x1_1).getD ((0 : Int), (0 : Int), (0 : Int), ([] : List UInt8))).1), .int .i64 (((mget x0_1 x1_1).getD ((0 : Int), (0 : Int), (0 : Int), ([] : List UInt8))).2.1), .int .i64 (((mget x0_1 x1_1).getD ((0 : Int), (0 : Int), (0 : Int), ([] : List UInt8))).2.2.1), str (((mget x0_1 x1_1).getD ((0 : Int), (0 : Int), (0 : Int), ([] : List UInt8))).2.2.2)], .bool ((mget x0_1 x1_1).isSome)])] rfl rfl (.w 6 rfl rfl rfl .nil) (q_move rfl rfl) rfl) (All.cons (QOb.plain [(24, .tuple #[.agg #[.int .i64 (((mget x0_1 x1_1).getD ((0 : Int), (0 : Int), (0 : Int), ([] : List UInt8))).1), .int .i64 (((mget x0_1 x1_1).getD ((0 : Int), (0 : Int), (0 : Int), ([] : List UInt8))).2.1), .int .i64 (((mget x0_1 x1_1).getD ((0 : Int), (0 : Int), (0 : Int), ([] : List UInt8))).2.2.1), str (((mget x0_1 x1_1).getD ((0 : Int), (0 : Int), (0 : Int), ([] : List UInt8))).2.2.2)], .bool ((mget x0_1 x1_1).isSome)])] rfl rfl (.w 6 rfl rfl rfl .nil) (q_move rfl rfl) rfl) All.nil))) (All.cons (fun γ => (All.cons (QOb.plain [(17, .tuple #[.agg #[.int .i64 (((mget x0_1 x1_1).getD ((0 : Int), (0 : Int), (0 : Int), ([] : List UInt8))).1), .int .i64 (((mget x0_1 x1_1).getD ((0 : Int), (0 : Int), (0 : Int), ([] : List UInt8))).2.1), .int .i64 (((mget x0_1 x1_1).getD ((0 : Int), (0 : Int), (0 : Int), ([] : List UInt8))).2.2.1), str (((mget x0_1 x1_1).getD ((0 : Int), (0 : Int), (0 : Int), ([] : List UInt8))).2.2.2)], .bool ((mget x0_1 x1_1).isSome)])] rfl rfl (.w 7 rfl rfl rfl .nil) (q_ext rfl rfl rfl) rfl) (All.cons (QOb.plain [(17, .tuple #[.agg #[.int .i64 (((mget x0_1 x1_1).getD ((0 : Int), (0 : Int), (0 : Int), ([] : List UInt8))).1), .int .i64 (((mget x0_1 x1_1).getD ((0 : Int), (0 : Int), (0 : Int), ([] : List UInt8))).2.1), .int .i64 (((mget x0_1 x1_1).getD ((0 : Int), (0 : Int), (0 : Int), ([] : List UInt8))).2.2.1), str (((mget x0_1 x1_1).getD ((0 : Int), (0 : Int), (0 : Int), ([] : List UInt8))).2.2.2)], .bool ((mget x0_1 x1_1).isSome)])] rfl rfl (.w 7 rfl rfl rfl .nil) (q_ext rfl rfl rfl) rfl) All.nil))) (All.cons (fun γ => (All.cons (QOb.plain [(17, .tuple #[.agg #[.int .i64 (((mget x0_1 x1_1).getD ((0 : Int), (0 : Int), (0 : Int), ([] : List UInt8))).1), .int .i64 (((mget x0_1 x1_1).getD ((0 : Int), (0 : Int), (0 : Int), ([] : List UInt8))).2.1), .int .i64 (((mget x0_1 x1_1).getD ((0 : Int), (0 : Int), (0 : Int), ([] : List UInt8))).2.2.1), str (((mget x0_1 x1_1).getD ((0 : Int), (0 : Int), (0 : Int), ([] : List UInt8))).2.2.2)], .bool ((mget x0_1 x1_1).isSome)])] rfl rfl (.w 7 rfl rfl rfl .nil) (q_ext rfl rfl rfl) rfl) (All.cons (QOb.plain [(17, .tuple #[.agg #[.int .i64 (((mget x0_1 x1_1).getD ((0 : Int), (0 : Int), (0 : Int), ([] : List UInt8))).1), .int .i64 (((mget x0_1 x1_1).getD ((0 : Int), (0 : Int), (0 : Int), ([] : List UInt8))).2.1), .int .i64 (((mget x0_1 x1_1).getD ((0 : Int), (0 : Int), (0 : Int), ([] : List UInt8))).2.2.1), str (((mget x0_1 x1_1).getD ((0 : Int), (0 : Int), (0 : Int), ([] : List UInt8))).2.2.2)], .bool ((mget x0_1 x1_1).isSome)])] rfl rfl (.w 7 rfl rfl rfl .nil) (q_ext rfl rfl rfl) rfl) (All.cons (QOb.plain [(17, .tuple #[.agg #[.int .i64 (((mget x0_1 x1_1).getD ((0 : Int), (0 : Int), (0 : Int), ([] : List UInt8))).1), .int .i64 (((mget x0_1 x1_1).getD ((0 : Int), (0 : Int), (0 : Int), ([] : List UInt8))).2.1), .int .i64 (((mget x0_1 x1_1).getD ((0 : Int), (0 : Int), (0 : Int), ([] : List UInt8))).2.2.1), str (((mget x0_1 x1_1).getD ((0 : Int), (0 : Int), (0 : Int), ([] : List UInt8))).2.2.2)], .bool ((mget x0_1 x1_1).isSome)])] rfl rfl (.w 7 rfl rfl rfl .nil) (q_ext rfl rfl rfl) rfl) All.nil)))) (All.cons (fun γ => (All.cons (QOb.plain [(26, .bool ((mget x0_1 x1_1).isSome))] rfl rfl (.w 9 rfl rfl rfl .nil) (q_asg rfl rfl) rfl) All.nil)) All.nil)))))))))))
 exact (All.cons (fun γ => EOb.mk (Z := Nat) [] (fun z => z) rfl rfl .nil (re_alloc rfl Try.zeroValue42 rfl) (fun _ => ⟨rfl, rfl, rfl, rfl, rfl, rfl, rfl, rfl, rfl, rfl, trivial⟩) (fun _ => .inr rfl) (fun z => Ent.refl _)) (All.cons (fun γ => EOb.mk (Z := Unit) [(7, .pointer (some ⟨γ, 0, none⟩)), (25, .agg #[.int .i64 (((mget x0_1 x1_1).getD ((0 : Int), (0 : Int), (0 : Int), ([] : List UInt8))).1), .int .i64 (((mget x0_1 x1_1).getD ((0 : Int), (0 : Int), (0 : Int), ([] : List UInt8))).2.1), .int .i64 (((mget x0_1 x1_1).getD ((0 : Int), (0 : Int), (0 : Int), ([] : List UInt8))).2.2.1), str (((mget x0_1 x1_1).getD ((0 : Int), (0 : Int), (0 : Int), ([] : List UInt8))).2.2.2)])] (fun z => γ) rfl rfl (.w 10 rfl rfl rfl (.w 8 rfl rfl rfl .nil)) (re_store 0 rfl rfl rfl Try.sizeOf42 rfl rfl (one_of (by rfl)) rfl rfl) (fun _ => ⟨rfl, rfl, rfl, rfl, rfl, rfl, rfl, rfl, rfl, rfl, rfl, trivial⟩) (fun _ => .inl rfl) (fun z => Ent.refl _)) All.nil))
 intro g9v
 refine nrm_then (sim_seq ?_)
 refine sim_block ?_
 refine sim_seq (sim_region ?_)
 refine simL_val (q_move rfl rfl) rfl rfl rfl ?_
 refine simL_val (q_move rfl rfl) rfl rfl rfl ?_
 refine simL_valc (b := (mget x0_1 x1_1).isSome) (fun hb61v => RQ.sub (E' := [(3, .pointer (some ⟨b1v, 0, none⟩))]) ⟨rfl, trivial⟩ (q_fa rfl rfl Try.underlying33 rfl rfl Try.sizeOf3 rfl)) rfl rfl rfl rfl rfl ?_
 refine simL_valc (b := (mget x0_1 x1_1).isSome) (fun hb60v => RQ.sub (E' := [(30, .pointer (some ⟨b1v, 2, none⟩))]) ⟨lk_cv rfl hb60v, trivial⟩ (q_load rfl rfl Try.isAgg3 (.obj 2 rfl rfl))) rfl rfl rfl rfl rfl ?_
 refine simL_valc (b := (mget x0_1 x1_1).isSome) (fun hb59v => RQ.sub (E' := [(7, .pointer (some ⟨g9v, 0, none⟩))]) ⟨rfl, trivial⟩ (q_fa rfl rfl Try.underlying42 rfl rfl Try.sizeOf3 rfl)) rfl rfl rfl rfl rfl ?_
 refine simL_valc (b := (mget x0_1 x1_1).isSome) (fun hb58v => RQ.sub (E' := [(32, .pointer (some ⟨g9v, 1, none⟩))]) ⟨lk_cv rfl hb58v, trivial⟩ (q_load rfl rfl Try.isAgg3 (.obj 0 rfl rfl))) rfl rfl rfl rfl rfl ?_
 refine simL_valc (b := (mget x0_1 x1_1).isSome) (fun hb57v => RQ.sub (E' := [(31, .int .i64 x1_2), (33, .int .i64 (((mget x0_1 x1_1).getD ((0 : Int), (0 : Int), (0 : Int), ([] : List UInt8))).2.1))]) ⟨lk_cv rfl hb57v, lk_cv rfl hb57v, trivial⟩ (q_eql rfl rfl rfl)) rfl rfl rfl rfl rfl ?_
 refine simL_val (q_and rfl rfl rfl) rfl rfl rfl ?_
 refine simL_val (q_asg rfl rfl) rfl rfl rfl (simL_nil (nrm_then ?_))
 refine sim_condb rfl (fun h10v => ?_) (fun h11v => ?_)
 refine sim_seq (sim_region ?_)
 refine simL_val (q_fa rfl rfl Try.underlying42 rfl rfl Try.sizeOf28 rfl) rfl rfl rfl ?_
 refine simL_val (q_loads (vs := [.int .i64 (((mget x0_1 x1_1).getD ((0 : Int), (0 : Int), (0 : Int), ([] : List UInt8))).2.2.1), str (((mget x0_1 x1_1).getD ((0 : Int), (0 : Int), (0 : Int), ([] : List UInt8))).2.2.2)]) rfl rfl Try.isAgg28 Try.sizeOf28 rfl (cells_obj 0 rfl (cells_lit rfl))) rfl rfl rfl ?_
 refine simL_do (re_store 1 rfl rfl rfl Try.sizeOf28 rfl rfl (one_of (by rfl)) rfl rfl) rfl rfl ?_
 intro _
 refine simL_val (q_asg rfl rfl) rfl rfl rfl (simL_nil (nrm_then (sim_rtn ?_)))
 refine rtn_block ?_
 refine rtn_then ?_
 exact rtn_fnC (vs := [.agg #[.int .i64 (((mget x0_1 x1_1).getD ((0 : Int), (0 : Int), (0 : Int), ([] : List UInt8))).2.2.1), str (((mget x0_1 x1_1).getD ((0 : Int), (0 : Int), (0 : Int), ([] : List UInt8))).2.2.2)], .int .i64 0]) (m0_0, m0_1) rfl ⟨⟨b2v, rfl, load_agg 1 Try.isAgg28 Try.sizeOf28 rfl rfl⟩, rfl, trivial⟩ rfl (.sel 3 rfl (.sel 3 rfl (.sel 3 rfl (.sel 3 rfl (.nil _)))))
 refine sim_seq (sim_region ?_)
 refine simL_val (q_move rfl rfl) rfl rfl rfl ?_
 refine simL_val (q_move rfl rfl) rfl rfl rfl ?_
 refine simL_valc (b := (mget x0_1 x1_1).isSome) (fun hb56v => RQ.sub (E' := [(3, .pointer (some ⟨b1v, 0, none⟩))]) ⟨rfl, trivial⟩ (q_fa rfl rfl Try.underlying33 rfl rfl Try.sizeOf3 rfl)) rfl rfl rfl rfl rfl ?_
 refine simL_valc (b := (mget x0_1 x1_1).isSome) (fun hb55v => RQ.sub (E' := [(41, .pointer (some ⟨b1v, 2, none⟩))]) ⟨lk_cv rfl hb55v, trivial⟩ (q_load rfl rfl Try.isAgg3 (.obj 2 rfl rfl))) rfl rfl rfl rfl rfl ?_
 refine simL_valc (b := (mget x0_1 x1_1).isSome) (fun hb54v => RQ.sub (E' := [(7, .pointer (some ⟨g9v, 0, none⟩))]) ⟨rfl, trivial⟩ (q_fa rfl rfl Try.underlying42 rfl rfl Try.sizeOf3 rfl)) rfl rfl rfl rfl rfl ?_
 refine simL_valc (b := (mget x0_1 x1_1).isSome) (fun hb53v => RQ.sub (E' := [(43, .pointer (some ⟨g9v, 1, none⟩))]) ⟨lk_cv rfl hb53v, trivial⟩ (q_load rfl rfl Try.isAgg3 (.obj 0 rfl rfl))) rfl rfl rfl rfl rfl ?_
 refine simL_valc (b := (mget x0_1 x1_1).isSome) (fun hb52v => RQ.sub (E' := [(42, .int .i64 x1_2), (44, .int .i64 (((mget x0_1 x1_1).getD ((0 : Int), (0 : Int), (0 : Int), ([] : List UInt8))).2.1))]) ⟨lk_cv rfl hb52v, lk_cv rfl hb52v, trivial⟩ (q_lss rfl rfl rfl)) rfl rfl rfl rfl rfl ?_
 refine simL_val (q_and rfl rfl rfl) rfl rfl rfl ?_
 refine simL_val (q_asg rfl rfl) rfl rfl rfl (simL_nil (nrm_then ?_))
 refine sim_condb rfl (fun h12v => ?_) (fun h13v => ?_)
 refine sim_seq (sim_region ?_)
 refine simL_val (q_build (v := .agg #[.int .i64 4, str ([] : List UInt8)]) rfl rfl (fun _ => by kernel_rfl)) rfl rfl rfl ?_
 refine simL_do (re_store 1 rfl rfl rfl Try.sizeOf28 rfl rfl (one_of (by rfl)) rfl rfl) rfl rfl ?_
 intro _
 refine simL_val (q_asg rfl rfl) rfl rfl rfl (simL_nil (nrm_then (sim_rtn ?_)))
 refine rtn_block ?_
 refine rtn_then ?_
 exact rtn_fnC (vs := [.agg #[.int .i64 4, str ([] : List UInt8)], .int .i64 0]) (m0_0, m0_1) rfl ⟨⟨b2v, rfl, load_agg 1 Try.isAgg28 Try.sizeOf28 rfl rfl⟩, rfl, trivial⟩ rfl (.sel 3 rfl (.sel 3 rfl (.sel 3 rfl (.sel 3 rfl (.nil _)))))
 refine sim_seq (sim_region ?_)
 refine simL_val (q_move rfl rfl) rfl rfl rfl ?_
 refine simL_val (q_not rfl rfl) rfl rfl rfl ?_
 refine simL_val (q_move rfl rfl) rfl rfl rfl ?_
 refine simL_valc (b := !((mget x0_1 x1_1).isSome)) (fun hb51v => RQ.sub (E' := [(0, .pointer (some ⟨b0, 0, none⟩))]) ⟨rfl, trivial⟩ (q_move rfl rfl)) rfl rfl rfl rfl rfl ?_
 refine simL_valc (b := !((mget x0_1 x1_1).isSome)) (fun hb50v => RQ.sub (E' := [(52, .pointer (some ⟨b0, 0, none⟩))]) ⟨lk_cv rfl hb50v, trivial⟩ (q_nil rfl rfl)) rfl rfl rfl rfl rfl ?_
 refine simL_valc (b := !((mget x0_1 x1_1).isSome)) (fun hb49v => RQ.sub (E' := [(53, .pointer (some ⟨b0, 0, none⟩))]) ⟨lk_cv rfl hb49v, trivial⟩ (q_fa rfl rfl Try.underlying63 rfl rfl Try.sizeOf61 rfl)) rfl rfl rfl rfl rfl ?_
 refine simL_valc (b := !((mget x0_1 x1_1).isSome)) (fun hb48v => RQ.sub (E' := [(54, .pointer (some ⟨b0, 1, none⟩))]) ⟨lk_cv rfl hb48v, trivial⟩ (q_load rfl rfl Try.isAgg61 (.obj 3 rfl rfl))) rfl rfl rfl rfl rfl ?_
 refine simL_valc (b := !((mget x0_1 x1_1).isSome)) (fun hb47v => RQ.sub (E' := [(55, .map (some m0_1))]) ⟨lk_cv rfl hb47v, trivial⟩ (q_mlen 5 rfl rfl rfl Try.underlying61 rfl)) rfl rfl rfl rfl rfl ?_
 refine simL_valc (b := !((mget x0_1 x1_1).isSome)) (fun hb46v => RQ.sub (E' := [(56, .int .i64 (x0_1.length : Int))]) ⟨lk_cv rfl hb46v, trivial⟩ (q_geq rfl rfl rfl)) rfl rfl rfl rfl rfl ?_
 refine simL_val (q_and rfl rfl rfl) rfl rfl rfl ?_
 refine simL_val (q_asg rfl rfl) rfl rfl rfl (simL_nil (nrm_then ?_))
 refine sim_condb rfl (fun h14v => ?_) (fun h15v => ?_)
 refine sim_seq (sim_region ?_)
 refine simL_val (q_build (v := .agg #[.int .i64 5, str ([] : List UInt8)]) rfl rfl (fun _ => by kernel_rfl)) rfl rfl rfl ?_
 refine simL_do (re_store 1 rfl rfl rfl Try.sizeOf28 rfl rfl (one_of (by rfl)) rfl rfl) rfl rfl ?_
 intro _
 refine simL_val (q_asg rfl rfl) rfl rfl rfl (simL_nil (nrm_then (sim_rtn ?_)))
 refine rtn_block ?_
 refine rtn_then ?_
 exact rtn_fnC (vs := [.agg #[.int .i64 5, str ([] : List UInt8)], .int .i64 0]) (m0_0, m0_1) rfl ⟨⟨b2v, rfl, load_agg 1 Try.isAgg28 Try.sizeOf28 rfl rfl⟩, rfl, trivial⟩ rfl (.sel 3 rfl (.sel 3 rfl (.sel 3 rfl (.sel 3 rfl (.nil _)))))
 refine sim_skip ?_
 refine nrm_block (nrm_then ?_)
 refine sim_cut (S := Int × List UInt8 × (List ((List UInt8) × (List UInt8))) × (List ((Int) × (Int × Int × Int × List UInt8)))) (Nat × Nat × Nat) (fun s y => [(0, .pointer (some ⟨b0, 0, none⟩)), (3, .pointer (some ⟨b1v, 0, none⟩)), (4, .pointer (some ⟨b2v, 0, none⟩)), (9, .pointer (some ⟨y.1, 0, none⟩))]) (fun s y => [obj b0 63 [.map (some y.2.1), .map (some y.2.2)], obj b2v 28 [.int .i64 0, str ([] : List UInt8)], obj b1v 33 [.int .i64 x1_0, .int .i64 x1_1, .int .i64 x1_2, str x1_3, str x1_4, str x1_5], obj y.1 28 [.int .i64 s.1, str s.2.1], mapO y.2.1 enc9 enc9 s.2.2.1, mapO y.2.2 enc3 enc42 s.2.2.2, F]) ?_ ?_
 refine sim_if (fun hk18v => ?_) (fun hk18v => ?_)
 refine sim_bind (fun s19v hs21v => ?_)
 refine sim_bind (fun s22v hs24v => ?_)
 refine sim_drawI (Γ := Nat × (Nat × Nat) × Nat) (0, (0, 0), 0) [[], [], [1], [0, 1, 2], [], [], [0, 1, 2, 3, 4, 5], [], [0, 1, 2, 3, 4, 5, 6, 7]] [0, 6, 7, 8] [1, 2, 3, 4, 5] [[], [0], [0, 6], [7], [0, 7], [0, 6, 7], [0, 6, 7, 8]] 6 (fun i => [[0, 3], [0, 1, 3, 4], [0, 1, 3, 4], [1, 4], [0, 1, 3, 4], [0, 1, 3, 4], [1, 4], [0, 1, 2], [5]].getD i []) (fun i s => ([[1, 0, 0, 4, 0, 0, 0], [], [], [], [], [], [0, 2, 0, 0, 5, 0, 0], [3, 4, 5, 0, 0, 0, 0], [0, 0, 0, 0, 0, 6, 0]].getD i []).getD s 0) (fun i => [[1, 2, 4, 5, 7], [], [], [], [], [], [0, 1, 2, 3, 4, 5, 7], [0, 1, 2, 3, 4, 5, 6], [0, 1, 2, 3, 4, 5, 6, 7]].getD i []) (fun γ i => [.map (some γ.1), .pointer (some ⟨b1v, 0, none⟩), .int .i64 x1_0, .func (.func 44) #[] #[], .pointer (some ⟨b0, 0, none⟩), .agg #[.int .i64 x1_0, .int .i64 x1_1, .int .i64 x1_2, str x1_3, str x1_4, str x1_5], .agg #[.int .i64 s22v.1, str s22v.2.1], .pointer (some ⟨γ.2.2, 0, none⟩), undef].getD i undef) (fun j γ => [[obj g9v 42 [.int .i64 (((mget x0_1 x1_1).getD ((0 : Int), (0 : Int), (0 : Int), ([] : List UInt8))).1), .int .i64 (((mget x0_1 x1_1).getD ((0 : Int), (0 : Int), (0 : Int), ([] : List UInt8))).2.1), .int .i64 (((mget x0_1 x1_1).getD ((0 : Int), (0 : Int), (0 : Int), ([] : List UInt8))).2.2.1), str (((mget x0_1 x1_1).getD ((0 : Int), (0 : Int), (0 : Int), ([] : List UInt8))).2.2.2)], obj b2v 28 [.int .i64 0, str ([] : List UInt8)], obj b1v 33 [.int .i64 x1_0, .int .i64 x1_1, .int .i64 x1_2, str x1_3, str x1_4, str x1_5], obj b0 63 [.map (some m0_0), .map (some m0_1)], mapO m0_0 enc9 enc9 x0_0, mapO m0_1 enc3 enc42 x0_1, F], [mapO γ.1 enc3 enc68 (mput (mput (mput ([] : List ((Int) × (Option Nat))) (2 : Int) (some 44)) (3 : Int) (some 45)) (4 : Int) (some 46)), obj g9v 42 [.int .i64 (((mget x0_1 x1_1).getD ((0 : Int), (0 : Int), (0 : Int), ([] : List UInt8))).1), .int .i64 (((mget x0_1 x1_1).getD ((0 : Int), (0 : Int), (0 : Int), ([] : List UInt8))).2.1), .int .i64 (((mget x0_1 x1_1).getD ((0 : Int), (0 : Int), (0 : Int), ([] : List UInt8))).2.2.1), str (((mget x0_1 x1_1).getD ((0 : Int), (0 : Int), (0 : Int), ([] : List UInt8))).2.2.2)], obj b2v 28 [.int .i64 0, str ([] : List UInt8)], obj b1v 33 [.int .i64 x1_0, .int .i64 x1_1, .int .i64 x1_2, str x1_3, str x1_4, str x1_5], obj b0 63 [.map (some m0_0), .map (some m0_1)], mapO m0_0 enc9 enc9 x0_0, mapO m0_1 enc3 enc42 x0_1, F], [obj b0 63 [.map (some γ.2.1.1), .map (some γ.2.1.2)], mapO γ.2.1.1 enc9 enc9 s22v.2.2.1, mapO γ.2.1.2 enc3 enc42 s22v.2.2.2, mapO γ.1 enc3 enc68 (mput (mput (mput ([] : List ((Int) × (Option Nat))) (2 : Int) (some 44)) (3 : Int) (some 45)) (4 : Int) (some 46)), obj g9v 42 [.int .i64 (((mget x0_1 x1_1).getD ((0 : Int), (0 : Int), (0 : Int), ([] : List UInt8))).1), .int .i64 (((mget x0_1 x1_1).getD ((0 : Int), (0 : Int), (0 : Int), ([] : List UInt8))).2.1), .int .i64 (((mget x0_1 x1_1).getD ((0 : Int), (0 : Int), (0 : Int), ([] : List UInt8))).2.2.1), str (((mget x0_1 x1_1).getD ((0 : Int), (0 : Int), (0 : Int), ([] : List UInt8))).2.2.2)], obj b2v 28 [.int .i64 0, str ([] : List UInt8)], obj b1v 33 [.int .i64 x1_0, .int .i64 x1_1, .int .i64 x1_2, str x1_3, str x1_4, str x1_5], F], [obj γ.2.2 28 [.int .i64 0, str ([] : List UInt8)], obj g9v 42 [.int .i64 (((mget x0_1 x1_1).getD ((0 : Int), (0 : Int), (0 : Int), ([] : List UInt8))).1), .int .i64 (((mget x0_1 x1_1).getD ((0 : Int), (0 : Int), (0 : Int), ([] : List UInt8))).2.1), .int .i64 (((mget x0_1 x1_1).getD ((0 : Int), (0 : Int), (0 : Int), ([] : List UInt8))).2.2.1), str (((mget x0_1 x1_1).getD ((0 : Int), (0 : Int), (0 : Int), ([] : List UInt8))).2.2.2)], obj b2v 28 [.int .i64 0, str ([] : List UInt8)], obj b1v 33 [.int .i64 x1_0, .int .i64 x1_1, .int .i64 x1_2, str x1_3, str x1_4, str x1_5], obj b0 63 [.map (some m0_0), .map (some m0_1)], mapO m0_0 enc9 enc9 x0_0, mapO m0_1 enc3 enc42 x0_1, F], [obj γ.2.2 28 [.int .i64 0, str ([] : List UInt8)], mapO γ.1 enc3 enc68 (mput (mput (mput ([] : List ((Int) × (Option Nat))) (2 : Int) (some 44)) (3 : Int) (some 45)) (4 : Int) (some 46)), obj g9v 42 [.int .i64 (((mget x0_1 x1_1).getD ((0 : Int), (0 : Int), (0 : Int), ([] : List UInt8))).1), .int .i64 (((mget x0_1 x1_1).getD ((0 : Int), (0 : Int), (0 : Int), ([] : List UInt8))).2.1), .int .i64 (((mget x0_1 x1_1).getD ((0 : Int), (0 : Int), (0 : Int), ([] : List UInt8))).2.2.1), str (((mget x0_1 x1_1).getD ((0 : Int), (0 : Int), (0 : Int), ([] : List UInt8))).2.2.2)], obj b2v 28 [.int .i64 0, str ([] : List UInt8)], obj b1v 33 [.int .i64 x1_0, .int .i64 x1_1, .int .i64 x1_2, str x1_3, str x1_4, str x1_5], obj b0 63 [.map (some m0_0), .map (some m0_1)], mapO m0_0 enc9 enc9 x0_0, mapO m0_1 enc3 enc42 x0_1, F], [obj γ.2.2 28 [.int .i64 0, str ([] : List UInt8)], obj b0 63 [.map (some γ.2.1.1), .map (some γ.2.1.2)], mapO γ.2.1.1 enc9 enc9 s22v.2.2.1, mapO γ.2.1.2 enc3 enc42 s22v.2.2.2, mapO γ.1 enc3 enc68 (mput (mput (mput ([] : List ((Int) × (Option Nat))) (2 : Int) (some 44)) (3 : Int) (some 45)) (4 : Int) (some 46)), obj g9v 42 [.int .i64 (((mget x0_1 x1_1).getD ((0 : Int), (0 : Int), (0 : Int), ([] : List UInt8))).1), .int .i64 (((mget x0_1 x1_1).getD ((0 : Int), (0 : Int), (0 : Int), ([] : List UInt8))).2.1), .int .i64 (((mget x0_1 x1_1).getD ((0 : Int), (0 : Int), (0 : Int), ([] : List UInt8))).2.2.1), str (((mget x0_1 x1_1).getD ((0 : Int), (0 : Int), (0 : Int), ([] : List UInt8))).2.2.2)], obj b2v 28 [.int .i64 0, str ([] : List UInt8)], obj b1v 33 [.int .i64 x1_0, .int .i64 x1_1, .int .i64 x1_2, str x1_3, str x1_4, str x1_5], F], [obj γ.2.2 28 [.int .i64 s22v.1, str s22v.2.1], obj b0 63 [.map (some γ.2.1.1), .map (some γ.2.1.2)], mapO γ.2.1.1 enc9 enc9 s22v.2.2.1, mapO γ.2.1.2 enc3 enc42 s22v.2.2.2, mapO γ.1 enc3 enc68 (mput (mput (mput ([] : List ((Int) × (Option Nat))) (2 : Int) (some 44)) (3 : Int) (some 45)) (4 : Int) (some 46)), obj g9v 42 [.int .i64 (((mget x0_1 x1_1).getD ((0 : Int), (0 : Int), (0 : Int), ([] : List UInt8))).1), .int .i64 (((mget x0_1 x1_1).getD ((0 : Int), (0 : Int), (0 : Int), ([] : List UInt8))).2.1), .int .i64 (((mget x0_1 x1_1).getD ((0 : Int), (0 : Int), (0 : Int), ([] : List UInt8))).2.2.1), str (((mget x0_1 x1_1).getD ((0 : Int), (0 : Int), (0 : Int), ([] : List UInt8))).2.2.2)], obj b2v 28 [.int .i64 0, str ([] : List UInt8)], obj b1v 33 [.int .i64 x1_0, .int .i64 x1_1, .int .i64 x1_2, str x1_3, str x1_4, str x1_5], F]].getD j []) (fun γ => [(0, .pointer (some ⟨b0, 0, none⟩)), (3, .pointer (some ⟨b1v, 0, none⟩)), (4, .pointer (some ⟨b2v, 0, none⟩)), (9, .pointer (some ⟨γ.2.2, 0, none⟩))]) mixed (by decide) (by decide) (by decide) (by decide) (by decide) (by decide) 80 rfl (by decide) (by decide) (by decide) (by decide) (by decide) (by decide) (Ent.refl _) ?_ ?_ (fun _ => ⟨rfl, rfl, rfl, rfl, trivial⟩) ?_
 exact (All.cons (fun γ => (All.cons (QOb.plain [(3, .pointer (some ⟨b1v, 0, none⟩))] rfl rfl (.o rfl (by decide) .nil) (q_fa rfl rfl Try.underlying33 rfl rfl Try.sizeOf3 rfl) rfl) (All.cons (QOb.plain [(3, .pointer (some ⟨b1v, 0, none⟩))] rfl rfl (.o rfl (by decide) .nil) (q_fa rfl rfl Try.underlying33 rfl rfl Try.sizeOf3 rfl) rfl) (All.cons (QOb.plain [(3, .pointer (some ⟨b1v, 0, none⟩))] rfl rfl (.o rfl (by decide) .nil) (q_fa rfl rfl Try.underlying33 rfl rfl Try.sizeOf3 rfl) rfl) (All.cons (QOb.plain [(3, .pointer (some ⟨b1v, 0, none⟩))] rfl rfl (.o rfl (by decide) .nil) (q_fa rfl rfl Try.underlying33 rfl rfl Try.sizeOf3 rfl) rfl) All.nil))))) (All.cons (fun γ => (All.cons (QOb.plain [(61, .pointer (some ⟨b1v, 0, none⟩))] rfl rfl (.w 1 rfl rfl rfl .nil) (q_load rfl rfl Try.isAgg3 (.obj 2 rfl rfl)) rfl) (All.cons (QOb.plain [(61, .pointer (some ⟨b1v, 0, none⟩))] rfl rfl (.w 1 rfl rfl rfl .nil) (q_load rfl rfl Try.isAgg3 (.obj 3 rfl rfl)) rfl) (All.cons (QOb.plain [(61, .pointer (some ⟨b1v, 0, none⟩))] rfl rfl (.w 1 rfl rfl rfl .nil) (q_load rfl rfl Try.isAgg3 (.obj 3 rfl rfl)) rfl) (All.cons (QOb.plain [(61, .pointer (some ⟨b1v, 0, none⟩))] rfl rfl (.w 1 rfl rfl rfl .nil) (q_load rfl rfl Try.isAgg3 (.obj 4 rfl rfl)) rfl) All.nil))))) (All.cons (fun γ => (All.cons (QOb.plain [(60, .map (some γ.1)), (62, .int .i64 x1_0)] rfl rfl (.w 0 rfl rfl rfl (.w 2 rfl rfl rfl .nil)) ((RQ.eq (by rw [hk18v]; rfl) (q_mlook (ek := enc3) (ev := enc68) (z := none) 0 x1_0 rfl rfl rfl Try.underlying69 key3 Try.zeroValue68 rfl) : RQ _ _ _ _ (.func (.func 44) #[] #[]))) rfl) (All.cons (QOb.plain [(60, .map (some γ.1)), (62, .int .i64 x1_0)] rfl rfl (.w 0 rfl rfl rfl (.w 2 rfl rfl rfl .nil)) ((RQ.eq (by rw [hk18v]; rfl) (q_mlook (ek := enc3) (ev := enc68) (z := none) 1 x1_0 rfl rfl rfl Try.underlying69 key3 Try.zeroValue68 rfl) : RQ _ _ _ _ (.func (.func 44) #[] #[]))) rfl) All.nil))) (All.cons (fun γ => (All.cons (QOb.plain [(0, .pointer (some ⟨b0, 0, none⟩))] rfl rfl (.o rfl (by decide) .nil) (q_move rfl rfl) rfl) (All.cons (QOb.plain [(0, .pointer (some ⟨b0, 0, none⟩))] rfl rfl (.o rfl (by decide) .nil) (q_move rfl rfl) rfl) (All.cons (QOb.plain [(0, .pointer (some ⟨b0, 0, none⟩))] rfl rfl (.o rfl (by decide) .nil) (q_move rfl rfl) rfl) (All.cons (QOb.plain [(0, .pointer (some ⟨b0, 0, none⟩))] rfl rfl (.o rfl (by decide) .nil) (q_move rfl rfl) rfl) All.nil))))) (All.cons (fun γ => (All.cons (QOb.plain [(3, .pointer (some ⟨b1v, 0, none⟩))] rfl rfl (.o rfl (by decide) .nil) (q_loado 2 rfl rfl Try.isAgg33 Try.sizeOf33 rfl rfl) rfl) (All.cons (QOb.plain [(3, .pointer (some ⟨b1v, 0, none⟩))] rfl rfl (.o rfl (by decide) .nil) (q_loado 3 rfl rfl Try.isAgg33 Try.sizeOf33 rfl rfl) rfl) (All.cons (QOb.plain [(3, .pointer (some ⟨b1v, 0, none⟩))] rfl rfl (.o rfl (by decide) .nil) (q_loado 3 rfl rfl Try.isAgg33 Try.sizeOf33 rfl rfl) rfl) (All.cons (QOb.plain [(3, .pointer (some ⟨b1v, 0, none⟩))] rfl rfl (.o rfl (by decide) .nil) (q_loado 4 rfl rfl Try.isAgg33 Try.sizeOf33 rfl rfl) rfl) All.nil))))) All.nil)))))
 exact (All.cons (fun γ => (All.cons (EObI.mk (Z := Nat) [] (fun z => (z, γ.2.1, γ.2.2)) rfl rfl .nil (re_call (vs := []) (cap := []) (A := []) (rst := [obj g9v 42 [.int .i64 (((mget x0_1 x1_1).getD ((0 : Int), (0 : Int), (0 : Int), ([] : List UInt8))).1), .int .i64 (((mget x0_1 x1_1).getD ((0 : Int), (0 : Int), (0 : Int), ([] : List UInt8))).2.1), .int .i64 (((mget x0_1 x1_1).getD ((0 : Int), (0 : Int), (0 : Int), ([] : List UInt8))).2.2.1), str (((mget x0_1 x1_1).getD ((0 : Int), (0 : Int), (0 : Int), ([] : List UInt8))).2.2.2)], obj b2v 28 [.int .i64 0, str ([] : List UInt8)], obj b1v 33 [.int .i64 x1_0, .int .i64 x1_1, .int .i64 x1_2, str x1_3, str x1_4, str x1_5], obj b0 63 [.map (some m0_0), .map (some m0_1)], mapO m0_0 enc9 enc9 x0_0, mapO m0_1 enc3 enc42 x0_1, F]) rfl rfl rfl rfl rfl rfl Try.call27 (.sel 0 rfl (.sel 0 rfl (.sel 0 rfl (.sel 0 rfl (.sel 0 rfl (.sel 0 rfl (.sel 0 rfl (.nil _)))))))) (kv_operations.calls _ _  ) hs21v) (fun _ => ⟨rfl, rfl, rfl, rfl, rfl, trivial⟩) (fun _ => .inr rfl) (fun z => (.sel 0 rfl (.sel 0 rfl (.sel 0 rfl (.sel 0 rfl (.sel 0 rfl (.sel 0 rfl (.sel 0 rfl (.sel 0 rfl (.nil _))))))))))) (All.cons (EObI.mk (Z := Nat) [] (fun z => (z, γ.2.1, γ.2.2)) rfl rfl .nil (re_call (vs := []) (cap := []) (A := []) (rst := [obj γ.2.2 28 [.int .i64 0, str ([] : List UInt8)], obj g9v 42 [.int .i64 (((mget x0_1 x1_1).getD ((0 : Int), (0 : Int), (0 : Int), ([] : List UInt8))).1), .int .i64 (((mget x0_1 x1_1).getD ((0 : Int), (0 : Int), (0 : Int), ([] : List UInt8))).2.1), .int .i64 (((mget x0_1 x1_1).getD ((0 : Int), (0 : Int), (0 : Int), ([] : List UInt8))).2.2.1), str (((mget x0_1 x1_1).getD ((0 : Int), (0 : Int), (0 : Int), ([] : List UInt8))).2.2.2)], obj b2v 28 [.int .i64 0, str ([] : List UInt8)], obj b1v 33 [.int .i64 x1_0, .int .i64 x1_1, .int .i64 x1_2, str x1_3, str x1_4, str x1_5], obj b0 63 [.map (some m0_0), .map (some m0_1)], mapO m0_0 enc9 enc9 x0_0, mapO m0_1 enc3 enc42 x0_1, F]) rfl rfl rfl rfl rfl rfl Try.call27 (.sel 0 rfl (.sel 0 rfl (.sel 0 rfl (.sel 0 rfl (.sel 0 rfl (.sel 0 rfl (.sel 0 rfl (.sel 0 rfl (.nil _))))))))) (kv_operations.calls _ _  ) hs21v) (fun _ => ⟨rfl, rfl, rfl, rfl, rfl, trivial⟩) (fun _ => .inr rfl) (fun z => (.sel 1 rfl (.sel 0 rfl (.sel 0 rfl (.sel 0 rfl (.sel 0 rfl (.sel 0 rfl (.sel 0 rfl (.sel 0 rfl (.sel 0 rfl (.nil _)))))))))))) All.nil))) (All.cons (fun γ => (All.cons (EObI.mk (Z := Nat × Nat) [(63, .func (.func 44) #[] #[]), (64, .pointer (some ⟨b0, 0, none⟩)), (65, .agg #[.int .i64 x1_0, .int .i64 x1_1, .int .i64 x1_2, str x1_3, str x1_4, str x1_5])] (fun z => (γ.1, z, γ.2.2)) rfl rfl (.w 3 rfl rfl rfl (.w 4 rfl rfl rfl (.w 5 rfl rfl rfl .nil))) (re_call (vs := [.pointer (some ⟨b0, 0, none⟩), .agg #[.int .i64 x1_0, .int .i64 x1_1, .int .i64 x1_2, str x1_3, str x1_4, str x1_5]]) (cap := []) (A := [obj b0 63 [.map (some m0_0), .map (some m0_1)], mapO m0_0 enc9 enc9 x0_0, mapO m0_1 enc3 enc42 x0_1]) (rst := [mapO γ.1 enc3 enc68 (mput (mput (mput ([] : List ((Int) × (Option Nat))) (2 : Int) (some 44)) (3 : Int) (some 45)) (4 : Int) (some 46)), obj g9v 42 [.int .i64 (((mget x0_1 x1_1).getD ((0 : Int), (0 : Int), (0 : Int), ([] : List UInt8))).1), .int .i64 (((mget x0_1 x1_1).getD ((0 : Int), (0 : Int), (0 : Int), ([] : List UInt8))).2.1), .int .i64 (((mget x0_1 x1_1).getD ((0 : Int), (0 : Int), (0 : Int), ([] : List UInt8))).2.2.1), str (((mget x0_1 x1_1).getD ((0 : Int), (0 : Int), (0 : Int), ([] : List UInt8))).2.2.2)], obj b2v 28 [.int .i64 0, str ([] : List UInt8)], obj b1v 33 [.int .i64 x1_0, .int .i64 x1_1, .int .i64 x1_2, str x1_3, str x1_4, str x1_5], F]) rfl rfl rfl rfl rfl rfl Try.call44 (.sel 4 rfl (.sel 4 rfl (.sel 4 rfl (.sel 0 rfl (.sel 0 rfl (.sel 0 rfl (.sel 0 rfl (.sel 0 rfl (.nil _))))))))) (kv_operations_1.calls _ _ b0 m0_0 x0_0 m0_1 x0_1 x1_0 x1_1 x1_2 x1_3 x1_4 x1_5 ) hs24v) (fun _ => ⟨rfl, rfl, rfl, rfl, rfl, rfl, rfl, trivial⟩) (fun _ => .inr rfl) (fun z => (.sel 0 rfl (.sel 0 rfl (.sel 0 rfl (.sel 0 rfl (.sel 0 rfl (.sel 0 rfl (.sel 0 rfl (.sel 0 rfl (.nil _))))))))))) (All.cons (EObI.mk (Z := Nat × Nat) [(63, .func (.func 44) #[] #[]), (64, .pointer (some ⟨b0, 0, none⟩)), (65, .agg #[.int .i64 x1_0, .int .i64 x1_1, .int .i64 x1_2, str x1_3, str x1_4, str x1_5])] (fun z => (γ.1, z, γ.2.2)) rfl rfl (.w 3 rfl rfl rfl (.w 4 rfl rfl rfl (.w 5 rfl rfl rfl .nil))) (re_call (vs := [.pointer (some ⟨b0, 0, none⟩), .agg #[.int .i64 x1_0, .int .i64 x1_1, .int .i64 x1_2, str x1_3, str x1_4, str x1_5]]) (cap := []) (A := [obj b0 63 [.map (some m0_0), .map (some m0_1)], mapO m0_0 enc9 enc9 x0_0, mapO m0_1 enc3 enc42 x0_1]) (rst := [obj γ.2.2 28 [.int .i64 0, str ([] : List UInt8)], mapO γ.1 enc3 enc68 (mput (mput (mput ([] : List ((Int) × (Option Nat))) (2 : Int) (some 44)) (3 : Int) (some 45)) (4 : Int) (some 46)), obj g9v 42 [.int .i64 (((mget x0_1 x1_1).getD ((0 : Int), (0 : Int), (0 : Int), ([] : List UInt8))).1), .int .i64 (((mget x0_1 x1_1).getD ((0 : Int), (0 : Int), (0 : Int), ([] : List UInt8))).2.1), .int .i64 (((mget x0_1 x1_1).getD ((0 : Int), (0 : Int), (0 : Int), ([] : List UInt8))).2.2.1), str (((mget x0_1 x1_1).getD ((0 : Int), (0 : Int), (0 : Int), ([] : List UInt8))).2.2.2)], obj b2v 28 [.int .i64 0, str ([] : List UInt8)], obj b1v 33 [.int .i64 x1_0, .int .i64 x1_1, .int .i64 x1_2, str x1_3, str x1_4, str x1_5], F]) rfl rfl rfl rfl rfl rfl Try.call44 (.sel 5 rfl (.sel 5 rfl (.sel 5 rfl (.sel 0 rfl (.sel 0 rfl (.sel 0 rfl (.sel 0 rfl (.sel 0 rfl (.sel 0 rfl (.nil _)))))))))) (kv_operations_1.calls _ _ b0 m0_0 x0_0 m0_1 x0_1 x1_0 x1_1 x1_2 x1_3 x1_4 x1_5 ) hs24v) (fun _ => ⟨rfl, rfl, rfl, rfl, rfl, rfl, rfl, trivial⟩) (fun _ => .inr rfl) (fun z => (.sel 3 rfl (.sel 0 rfl (.sel 0 rfl (.sel 0 rfl (.sel 0 rfl (.sel 0 rfl (.sel 0 rfl (.sel 0 rfl (.sel 0 rfl (.nil _)))))))))))) All.nil))) (All.cons (fun γ => (All.cons (EObI.mk (Z := Nat) [] (fun z => (γ.1, γ.2.1, z)) rfl rfl .nil (re_alloc rfl Try.zeroValue28 rfl) (fun _ => ⟨rfl, rfl, rfl, rfl, rfl, rfl, rfl, trivial⟩) (fun _ => .inr rfl) (fun z => (.sel 0 rfl (.sel 0 rfl (.sel 0 rfl (.sel 0 rfl (.sel 0 rfl (.sel 0 rfl (.sel 0 rfl (.sel 0 rfl (.nil _))))))))))) (All.cons (EObI.mk (Z := Nat) [] (fun z => (γ.1, γ.2.1, z)) rfl rfl .nil (re_alloc rfl Try.zeroValue28 rfl) (fun _ => ⟨rfl, rfl, rfl, rfl, rfl, rfl, rfl, trivial⟩) (fun _ => .inr rfl) (fun z => (.sel 0 rfl (.sel 0 rfl (.sel 0 rfl (.sel 0 rfl (.sel 0 rfl (.sel 0 rfl (.sel 0 rfl (.sel 0 rfl (.sel 0 rfl (.nil _)))))))))))) (All.cons (EObI.mk (Z := Nat) [] (fun z => (γ.1, γ.2.1, z)) rfl rfl .nil (re_alloc rfl Try.zeroValue28 rfl) (fun _ => ⟨rfl, rfl, rfl, rfl, rfl, rfl, rfl, trivial⟩) (fun _ => .inr rfl) (fun z => (.sel 0 rfl (.sel 0 rfl (.sel 0 rfl (.sel 0 rfl (.sel 0 rfl (.sel 0 rfl (.sel 0 rfl (.sel 0 rfl (.sel 0 rfl (.nil _)))))))))))) All.nil)))) (All.cons (fun γ => (All.cons (EObI.mk (Z := Unit) [(9, .pointer (some ⟨γ.2.2, 0, none⟩)), (66, .agg #[.int .i64 s22v.1, str s22v.2.1])] (fun z => (γ.1, γ.2.1, γ.2.2)) rfl rfl (.w 7 rfl rfl rfl (.w 6 rfl rfl rfl .nil)) (re_store 0 rfl rfl rfl Try.sizeOf28 rfl rfl (one_of (by rfl)) rfl rfl) (fun _ => ⟨rfl, rfl, rfl, rfl, rfl, rfl, rfl, rfl, trivial⟩) (fun _ => .inl rfl) (fun z => (.sel 0 rfl (.sel 0 rfl (.sel 0 rfl (.sel 0 rfl (.sel 0 rfl (.sel 0 rfl (.sel 0 rfl (.sel 0 rfl (.sel 0 rfl (.nil _)))))))))))) All.nil)) All.nil))))
 intro g26v
 exact nrm_cut (s := (s22v.1, s22v.2.1, s22v.2.2.1, s22v.2.2.2)) (g26v.2.2, g26v.2.1.1, g26v.2.1.2) ⟨rfl, rfl, rfl, rfl, trivial⟩ (.sel 1 rfl (.sel 5 rfl (.sel 5 rfl (.sel 0 rfl (.sel 0 rfl (.sel 0 rfl (.sel 2 rfl (.nil _))))))))
 refine sim_if (fun hk27v => ?_) (fun hk27v => ?_)
 refine sim_bind (fun s28v hs30v => ?_)
 refine sim_bind (fun s31v hs33v => ?_)
 refine sim_drawI (Γ := Nat × (Nat × Nat) × Nat) (0, (0, 0), 0) [[], [], [1], [0, 1, 2], [], [], [0, 1, 2, 3, 4, 5], [], [0, 1, 2, 3, 4, 5, 6, 7]] [0, 6, 7, 8] [1, 2, 3, 4, 5] [[], [0], [0, 6], [7], [0, 7], [0, 6, 7], [0, 6, 7, 8]] 6 (fun i => [[0, 3], [0, 1, 3, 4], [0, 1, 3, 4], [1, 4], [0, 1, 3, 4], [0, 1, 3, 4], [1, 4], [0, 1, 2], [5]].getD i []) (fun i s => ([[1, 0, 0, 4, 0, 0, 0], [], [], [], [], [], [0, 2, 0, 0, 5, 0, 0], [3, 4, 5, 0, 0, 0, 0], [0, 0, 0, 0, 0, 6, 0]].getD i []).getD s 0) (fun i => [[1, 2, 4, 5, 7], [], [], [], [], [], [0, 1, 2, 3, 4, 5, 7], [0, 1, 2, 3, 4, 5, 6], [0, 1, 2, 3, 4, 5, 6, 7]].getD i []) (fun γ i => [.map (some γ.1), .pointer (some ⟨b1v, 0, none⟩), .int .i64 x1_0, .func (.func 45) #[] #[], .pointer (some ⟨b0, 0, none⟩), .agg #[.int .i64 x1_0, .int .i64 x1_1, .int .i64 x1_2, str x1_3, str x1_4, str x1_5], .agg #[.int .i64 s31v.1, str s31v.2.1], .pointer (some ⟨γ.2.2, 0, none⟩), undef].getD i undef) (fun j γ => [[obj g9v 42 [.int .i64 (((mget x0_1 x1_1).getD ((0 : Int), (0 : Int), (0 : Int), ([] : List UInt8))).1), .int .i64 (((mget x0_1 x1_1).getD ((0 : Int), (0 : Int), (0 : Int), ([] : List UInt8))).2.1), .int .i64 (((mget x0_1 x1_1).getD ((0 : Int), (0 : Int), (0 : Int), ([] : List UInt8))).2.2.1), str (((mget x0_1 x1_1).getD ((0 : Int), (0 : Int), (0 : Int), ([] : List UInt8))).2.2.2)], obj b2v 28 [.int .i64 0, str ([] : List UInt8)], obj b1v 33 [.int .i64 x1_0, .int .i64 x1_1, .int .i64 x1_2, str x1_3, str x1_4, str x1_5], obj b0 63 [.map (some m0_0), .map (some m0_1)], mapO m0_0 enc9 enc9 x0_0, mapO m0_1 enc3 enc42 x0_1, F], [mapO γ.1 enc3 enc68 (mput (mput (mput ([] : List ((Int) × (Option Nat))) (2 : Int) (some 44)) (3 : Int) (some 45)) (4 : Int) (some 46)), obj g9v 42 [.int .i64 (((mget x0_1 x1_1).getD ((0 : Int), (0 : Int), (0 : Int), ([] : List UInt8))).1), .int .i64 (((mget x0_1 x1_1).getD ((0 : Int), (0 : Int), (0 : Int), ([] : List UInt8))).2.1), .int .i64 (((mget x0_1 x1_1).getD ((0 : Int), (0 : Int), (0 : Int), ([] : List UInt8))).2.2.1), str (((mget x0_1 x1_1).getD ((0 : Int), (0 : Int), (0 : Int), ([] : List UInt8))).2.2.2)], obj b2v 28 [.int .i64 0, str ([] : List UInt8)], obj b1v 33 [.int .i64 x1_0, .int .i64 x1_1, .int .i64 x1_2, str x1_3, str x1_4, str x1_5], obj b0 63 [.map (some m0_0), .map (some m0_1)], mapO m0_0 enc9 enc9 x0_0, mapO m0_1 enc3 enc42 x0_1, F], [obj b0 63 [.map (some γ.2.1.1), .map (some γ.2.1.2)], mapO γ.2.1.1 enc9 enc9 s31v.2.2.1, mapO γ.2.1.2 enc3 enc42 s31v.2.2.2, mapO γ.1 enc3 enc68 (mput (mput (mput ([] : List ((Int) × (Option Nat))) (2 : Int) (some 44)) (3 : Int) (some 45)) (4 : Int) (some 46)), obj g9v 42 [.int .i64 (((mget x0_1 x1_1).getD ((0 : Int), (0 : Int), (0 : Int), ([] : List UInt8))).1), .int .i64 (((mget x0_1 x1_1).getD ((0 : Int), (0 : Int), (0 : Int), ([] : List UInt8))).2.1), .int .i64 (((mget x0_1 x1_1).getD ((0 : Int), (0 : Int), (0 : Int), ([] : List UInt8))).2.2.1), str (((mget x0_1 x1_1).getD ((0 : Int), (0 : Int), (0 : Int), ([] : List UInt8))).2.2.2)], obj b2v 28 [.int .i64 0, str ([] : List UInt8)], obj b1v 33 [.int .i64 x1_0, .int .i64 x1_1, .int .i64 x1_2, str x1_3, str x1_4, str x1_5], F], [obj γ.2.2 28 [.int .i64 0, str ([] : List UInt8)], obj g9v 42 [.int .i64 (((mget x0_1 x1_1).getD ((0 : Int), (0 : Int), (0 : Int), ([] : List UInt8))).1), .int .i64 (((mget x0_1 x1_1).getD ((0 : Int), (0 : Int), (0 : Int), ([] : List UInt8))).2.1), .int .i64 (((mget x0_1 x1_1).getD ((0 : Int), (0 : Int), (0 : Int), ([] : List UInt8))).2.2.1), str (((mget x0_1 x1_1).getD ((0 : Int), (0 : Int), (0 : Int), ([] : List UInt8))).2.2.2)], obj b2v 28 [.int .i64 0, str ([] : List UInt8)], obj b1v 33 [.int .i64 x1_0, .int .i64 x1_1, .int .i64 x1_2, str x1_3, str x1_4, str x1_5], obj b0 63 [.map (some m0_0), .map (some m0_1)], mapO m0_0 enc9 enc9 x0_0, mapO m0_1 enc3 enc42 x0_1, F], [obj γ.2.2 28 [.int .i64 0, str ([] : List UInt8)], mapO γ.1 enc3 enc68 (mput (mput (mput ([] : List ((Int) × (Option Nat))) (2 : Int) (some 44)) (3 : Int) (some 45)) (4 : Int) (some 46)), obj g9v 42 [.int .i64 (((mget x0_1 x1_1).getD ((0 : Int), (0 : Int), (0 : Int), ([] : List UInt8))).1), .int .i64 (((mget x0_1 x1_1).getD ((0 : Int), (0 : Int), (0 : Int), ([] : List UInt8))).2.1), .int .i64 (((mget x0_1 x1_1).getD ((0 : Int), (0 : Int), (0 : Int), ([] : List UInt8))).2.2.1), str (((mget x0_1 x1_1).getD ((0 : Int), (0 : Int), (0 : Int), ([] : List UInt8))).2.2.2)], obj b2v 28 [.int .i64 0, str ([] : List UInt8)], obj b1v 33 [.int .i64 x1_0, .int .i64 x1_1, .int .i64 x1_2, str x1_3, str x1_4, str x1_5], obj b0 63 [.map (some m0_0), .map (some m0_1)], mapO m0_0 enc9 enc9 x0_0, mapO m0_1 enc3 enc42 x0_1, F], [obj γ.2.2 28 [.int .i64 0, str ([] : List UInt8)], obj b0 63 [.map (some γ.2.1.1), .map (some γ.2.1.2)], mapO γ.2.1.1 enc9 enc9 s31v.2.2.1, mapO γ.2.1.2 enc3 enc42 s31v.2.2.2, mapO γ.1 enc3 enc68 (mput (mput (mput ([] : List ((Int) × (Option Nat))) (2 : Int) (some 44)) (3 : Int) (some 45)) (4 : Int) (some 46)), obj g9v 42 [.int .i64 (((mget x0_1 x1_1).getD ((0 : Int), (0 : Int), (0 : Int), ([] : List UInt8))).1), .int .i64 (((mget x0_1 x1_1).getD ((0 : Int), (0 : Int), (0 : Int), ([] : List UInt8))).2.1), .int .i64 (((mget x0_1 x1_1).getD ((0 : Int), (0 : Int), (0 : Int), ([] : List UInt8))).2.2.1), str (((mget x0_1 x1_1).getD ((0 : Int), (0 : Int), (0 : Int), ([] : List UInt8))).2.2.2)], obj b2v 28 [.int .i64 0, str ([] : List UInt8)], obj b1v 33 [.int .i64 x1_0, .int .i64 x1_1, .int .i64 x1_2, str x1_3, str x1_4, str x1_5], F], [obj γ.2.2 28 [.int .i64 s31v.1, str s31v.2.1], obj b0 63 [.map (some γ.2.1.1), .map (some γ.2.1.2)], mapO γ.2.1.1 enc9 enc9 s31v.2.2.1, mapO γ.2.1.2 enc3 enc42 s31v.2.2.2, mapO γ.1 enc3 enc68 (mput (mput (mput ([] : List ((Int) × (Option Nat))) (2 : Int) (some 44)) (3 : Int) (some 45)) (4 : Int) (some 46)), obj g9v 42 [.int .i64 (((mget x0_1 x1_1).getD ((0 : Int), (0 : Int), (0 : Int), ([] : List UInt8))).1), .int .i64 (((mget x0_1 x1_1).getD ((0 : Int), (0 : Int), (0 : Int), ([] : List UInt8))).2.1), .int .i64 (((mget x0_1 x1_1).getD ((0 : Int), (0 : Int), (0 : Int), ([] : List UInt8))).2.2.1), str (((mget x0_1 x1_1).getD ((0 : Int), (0 : Int), (0 : Int), ([] : List UInt8))).2.2.2)], obj b2v 28 [.int .i64 0, str ([] : List UInt8)], obj b1v 33 [.int .i64 x1_0, .int .i64 x1_1, .int .i64 x1_2, str x1_3, str x1_4, str x1_5], F]].getD j []) (fun γ => [(0, .pointer (some ⟨b0, 0, none⟩)), (3, .pointer (some ⟨b1v, 0, none⟩)), (4, .pointer (some ⟨b2v, 0, none⟩)), (9, .pointer (some ⟨γ.2.2, 0, none⟩))]) mixed (by decide) (by decide) (by decide) (by decide) (by decide) (by decide) 80 rfl (by decide) (by decide) (by decide) (by decide) (by decide) (by decide) (Ent.refl _) ?_ ?_ (fun _ => ⟨rfl, rfl, rfl, rfl, trivial⟩) ?_
 exact (All.cons (fun γ => (All.cons (QOb.plain [(3, .pointer (some ⟨b1v, 0, none⟩))] rfl rfl (.o rfl (by decide) .nil) (q_fa rfl rfl Try.underlying33 rfl rfl Try.sizeOf3 rfl) rfl) (All.cons (QOb.plain [(3, .pointer (some ⟨b1v, 0, none⟩))] rfl rfl (.o rfl (by decide) .nil) (q_fa rfl rfl Try.underlying33 rfl rfl Try.sizeOf3 rfl) rfl) (All.cons (QOb.plain [(3, .pointer (some ⟨b1v, 0, none⟩))] rfl rfl (.o rfl (by decide) .nil) (q_fa rfl rfl Try.underlying33 rfl rfl Try.sizeOf3 rfl) rfl) (All.cons (QOb.plain [(3, .pointer (some ⟨b1v, 0, none⟩))] rfl rfl (.o rfl (by decide) .nil) (q_fa rfl rfl Try.underlying33 rfl rfl Try.sizeOf3 rfl) rfl) All.nil))))) (All.cons (fun γ => (All.cons (QOb.plain [(61, .pointer (some ⟨b1v, 0, none⟩))] rfl rfl (.w 1 rfl rfl rfl .nil) (q_load rfl rfl Try.isAgg3 (.obj 2 rfl rfl)) rfl) (All.cons (QOb.plain [(61, .pointer (some ⟨b1v, 0, none⟩))] rfl rfl (.w 1 rfl rfl rfl .nil) (q_load rfl rfl Try.isAgg3 (.obj 3 rfl rfl)) rfl) (All.cons (QOb.plain [(61, .pointer (some ⟨b1v, 0, none⟩))] rfl rfl (.w 1 rfl rfl rfl .nil) (q_load rfl rfl Try.isAgg3 (.obj 3 rfl rfl)) rfl) (All.cons (QOb.plain [(61, .pointer (some ⟨b1v, 0, none⟩))] rfl rfl (.w 1 rfl rfl rfl .nil) (q_load rfl rfl Try.isAgg3 (.obj 4 rfl rfl)) rfl) All.nil))))) (All.cons (fun γ => (All.cons (QOb.plain [(60, .map (some γ.1)), (62, .int .i64 x1_0)] rfl rfl (.w 0 rfl rfl rfl (.w 2 rfl rfl rfl .nil)) ((RQ.eq (by rw [hk27v]; rfl) (q_mlook (ek := enc3) (ev := enc68) (z := none) 0 x1_0 rfl rfl rfl Try.underlying69 key3 Try.zeroValue68 rfl) : RQ _ _ _ _ (.func (.func 45) #[] #[]))) rfl) (All.cons (QOb.plain [(60, .map (some γ.1)), (62, .int .i64 x1_0)] rfl rfl (.w 0 rfl rfl rfl (.w 2 rfl rfl rfl .nil)) ((RQ.eq (by rw [hk27v]; rfl) (q_mlook (ek := enc3) (ev := enc68) (z := none) 1 x1_0 rfl rfl rfl Try.underlying69 key3 Try.zeroValue68 rfl) : RQ _ _ _ _ (.func (.func 45) #[] #[]))) rfl) All.nil))) (All.cons (fun γ => (All.cons (QOb.plain [(0, .pointer (some ⟨b0, 0, none⟩))] rfl rfl (.o rfl (by decide) .nil) (q_move rfl rfl) rfl) (All.cons (QOb.plain [(0, .pointer (some ⟨b0, 0, none⟩))] rfl rfl (.o rfl (by decide) .nil) (q_move rfl rfl) rfl) (All.cons (QOb.plain [(0, .pointer (some ⟨b0, 0, none⟩))] rfl rfl (.o rfl (by decide) .nil) (q_move rfl rfl) rfl) (All.cons (QOb.plain [(0, .pointer (some ⟨b0, 0, none⟩))] rfl rfl (.o rfl (by decide) .nil) (q_move rfl rfl) rfl) All.nil))))) (All.cons (fun γ => (All.cons (QOb.plain [(3, .pointer (some ⟨b1v, 0, none⟩))] rfl rfl (.o rfl (by decide) .nil) (q_loado 2 rfl rfl Try.isAgg33 Try.sizeOf33 rfl rfl) rfl) (All.cons (QOb.plain [(3, .pointer (some ⟨b1v, 0, none⟩))] rfl rfl (.o rfl (by decide) .nil) (q_loado 3 rfl rfl Try.isAgg33 Try.sizeOf33 rfl rfl) rfl) (All.cons (QOb.plain [(3, .pointer (some ⟨b1v, 0, none⟩))] rfl rfl (.o rfl (by decide) .nil) (q_loado 3 rfl rfl Try.isAgg33 Try.sizeOf33 rfl rfl) rfl) (All.cons (QOb.plain [(3, .pointer (some ⟨b1v, 0, none⟩))] rfl rfl (.o rfl (by decide) .nil) (q_loado 4 rfl rfl Try.isAgg33 Try.sizeOf33 rfl rfl) rfl) All.nil))))) All.nil)))))
 exact (All.cons (fun γ => (All.cons (EObI.mk (Z := Nat) [] (fun z => (z, γ.2.1, γ.2.2)) rfl rfl .nil (re_call (vs := []) (cap := []) (A := []) (rst := [obj g9v 42 [.int .i64 (((mget x0_1 x1_1).getD ((0 : Int), (0 : Int), (0 : Int), ([] : List UInt8))).1), .int .i64 (((mget x0_1 x1_1).getD ((0 : Int), (0 : Int), (0 : Int), ([] : List UInt8))).2.1), .int .i64 (((mget x0_1 x1_1).getD ((0 : Int), (0 : Int), (0 : Int), ([] : List UInt8))).2.2.1), str (((mget x0_1 x1_1).getD ((0 : Int), (0 : Int), (0 : Int), ([] : List UInt8))).2.2.2)], obj b2v 28 [.int .i64 0, str ([] : List UInt8)], obj b1v 33 [.int .i64 x1_0, .int .i64 x1_1, .int .i64 x1_2, str x1_3, str x1_4, str x1_5], obj b0 63 [.map (some m0_0), .map (some m0_1)], mapO m0_0 enc9 enc9 x0_0, mapO m0_1 enc3 enc42 x0_1, F]) rfl rfl rfl rfl rfl rfl Try.call27 (.sel 0 rfl (.sel 0 rfl (.sel 0 rfl (.sel 0 rfl (.sel 0 rfl (.sel 0 rfl (.sel 0 rfl (.nil _)))))))) (kv_operations.calls _ _  ) hs30v) (fun _ => ⟨rfl, rfl, rfl, rfl, rfl, trivial⟩) (fun _ => .inr rfl) (fun z => (.sel 0 rfl (.sel 0 rfl (.sel 0 rfl (.sel 0 rfl (.sel 0 rfl (.sel 0 rfl (.sel 0 rfl (.sel 0 rfl (.nil _))))))))))) (All.cons (EObI.mk (Z := Nat) [] (fun z => (z, γ.2.1, γ.2.2)) rfl rfl .nil (re_call (vs := []) (cap := []) (A := []) (rst := [obj γ.2.2 28 [.int .i64 0, str ([] : List UInt8)], obj g9v 42 [.int .i64 (((mget x0_1 x1_1).getD ((0 : Int), (0 : Int), (0 : Int), ([] : List UInt8))).1), .int .i64 (((mget x0_1 x1_1).getD ((0 : Int), (0 : Int), (0 : Int), ([] : List UInt8))).2.1), .int .i64 (((mget x0_1 x1_1).getD ((0 : Int), (0 : Int), (0 : Int), ([] : List UInt8))).2.2.1), str (((mget x0_1 x1_1).getD ((0 : Int), (0 : Int), (0 : Int), ([] : List UInt8))).2.2.2)], obj b2v 28 [.int .i64 0, str ([] : List UInt8)], obj b1v 33 [.int .i64 x1_0, .int .i64 x1_1, .int .i64 x1_2, str x1_3, str x1_4, str x1_5], obj b0 63 [.map (some m0_0), .map (some m0_1)], mapO m0_0 enc9 enc9 x0_0, mapO m0_1 enc3 enc42 x0_1, F]) rfl rfl rfl rfl rfl rfl Try.call27 (.sel 0 rfl (.sel 0 rfl (.sel 0 rfl (.sel 0 rfl (.sel 0 rfl (.sel 0 rfl (.sel 0 rfl (.sel 0 rfl (.nil _))))))))) (kv_operations.calls _ _  ) hs30v) (fun _ => ⟨rfl, rfl, rfl, rfl, rfl, trivial⟩) (fun _ => .inr rfl) (fun z => (.sel 1 rfl (.sel 0 rfl (.sel 0 rfl (.sel 0 rfl (.sel 0 rfl (.sel 0 rfl (.sel 0 rfl (.sel 0 rfl (.sel 0 rfl (.nil _)))))))))))) All.nil))) (All.cons (fun γ => (All.cons (EObI.mk (Z := Nat × Nat) [(63, .func (.func 45) #[] #[]), (64, .pointer (some ⟨b0, 0, none⟩)), (65, .agg #[.int .i64 x1_0, .int .i64 x1_1, .int .i64 x1_2, str x1_3, str x1_4, str x1_5])] (fun z => (γ.1, z, γ.2.2)) rfl rfl (.w 3 rfl rfl rfl (.w 4 rfl rfl rfl (.w 5 rfl rfl rfl .nil))) (re_call (vs := [.pointer (some ⟨b0, 0, none⟩), .agg #[.int .i64 x1_0, .int .i64 x1_1, .int .i64 x1_2, str x1_3, str x1_4, str x1_5]]) (cap := []) (A := [obj b0 63 [.map (some m0_0), .map (some m0_1)], mapO m0_0 enc9 enc9 x0_0, mapO m0_1 enc3 enc42 x0_1]) (rst := [mapO γ.1 enc3 enc68 (mput (mput (mput ([] : List ((Int) × (Option Nat))) (2 : Int) (some 44)) (3 : Int) (some 45)) (4 : Int) (some 46)), obj g9v 42 [.int .i64 (((mget x0_1 x1_1).getD ((0 : Int), (0 : Int), (0 : Int), ([] : List UInt8))).1), .int .i64 (((mget x0_1 x1_1).getD ((0 : Int), (0 : Int), (0 : Int), ([] : List UInt8))).2.1), .int .i64 (((mget x0_1 x1_1).getD ((0 : Int), (0 : Int), (0 : Int), ([] : List UInt8))).2.2.1), str (((mget x0_1 x1_1).getD ((0 : Int), (0 : Int), (0 : Int), ([] : List UInt8))).2.2.2)], obj b2v 28 [.int .i64 0, str ([] : List UInt8)], obj b1v 33 [.int .i64 x1_0, .int .i64 x1_1, .int .i64 x1_2, str x1_3, str x1_4, str x1_5], F]) rfl rfl rfl rfl rfl rfl Try.call45 (.sel 4 rfl (.sel 4 rfl (.sel 4 rfl (.sel 0 rfl (.sel 0 rfl (.sel 0 rfl (.sel 0 rfl (.sel 0 rfl (.nil _))))))))) (kv_operations_2.calls _ _ b0 m0_0 x0_0 m0_1 x0_1 x1_0 x1_1 x1_2 x1_3 x1_4 x1_5 ) hs33v) (fun _ => ⟨rfl, rfl, rfl, rfl, rfl, rfl, rfl, trivial⟩) (fun _ => .inr rfl) (fun z => (.sel 0 rfl (.sel 0 rfl (.sel 0 rfl (.sel 0 rfl (.sel 0 rfl (.sel 0 rfl (.sel 0 rfl (.sel 0 rfl (.nil _))))))))))) (All.cons (EObI.mk (Z := Nat × Nat) [(63, .func (.func 45) #[] #[]), (64, .pointer (some ⟨b0, 0, none⟩)), (65, .agg #[.int .i64 x1_0, .int .i64 x1_1, .int .i64 x1_2, str x1_3, str x1_4, str x1_5])] (fun z => (γ.1, z, γ.2.2)) rfl rfl (.w 3 rfl rfl rfl (.w 4 rfl rfl rfl (.w 5 rfl rfl rfl .nil))) (re_call (vs := [.pointer (some ⟨b0, 0, none⟩), .agg #[.int .i64 x1_0, .int .i64 x1_1, .int .i64 x1_2, str x1_3, str x1_4, str x1_5]]) (cap := []) (A := [obj b0 63 [.map (some m0_0), .map (some m0_1)], mapO m0_0 enc9 enc9 x0_0, mapO m0_1 enc3 enc42 x0_1]) (rst := [obj γ.2.2 28 [.int .i64 0, str ([] : List UInt8)], mapO γ.1 enc3 enc68 (mput (mput (mput ([] : List ((Int) × (Option Nat))) (2 : Int) (some 44)) (3 : Int) (some 45)) (4 : Int) (some 46)), obj g9v 42 [.int .i64 (((mget x0_1 x1_1).getD ((0 : Int), (0 : Int), (0 : Int), ([] : List UInt8))).1), .int .i64 (((mget x0_1 x1_1).getD ((0 : Int), (0 : Int), (0 : Int), ([] : List UInt8))).2.1), .int .i64 (((mget x0_1 x1_1).getD ((0 : Int), (0 : Int), (0 : Int), ([] : List UInt8))).2.2.1), str (((mget x0_1 x1_1).getD ((0 : Int), (0 : Int), (0 : Int), ([] : List UInt8))).2.2.2)], obj b2v 28 [.int .i64 0, str ([] : List UInt8)], obj b1v 33 [.int .i64 x1_0, .int .i64 x1_1, .int .i64 x1_2, str x1_3, str x1_4, str x1_5], F]) rfl rfl rfl rfl rfl rfl Try.call45 (.sel 5 rfl (.sel 5 rfl (.sel 5 rfl (.sel 0 rfl (.sel 0 rfl (.sel 0 rfl (.sel 0 rfl (.sel 0 rfl (.sel 0 rfl (.nil _)))))))))) (kv_operations_2.calls _ _ b0 m0_0 x0_0 m0_1 x0_1 x1_0 x1_1 x1_2 x1_3 x1_4 x1_5 ) hs33v) (fun _ => ⟨rfl, rfl, rfl, rfl, rfl, rfl, rfl, trivial⟩) (fun _ => .inr rfl) (fun z => (.sel 3 rfl (.sel 0 rfl (.sel 0 rfl (.sel 0 rfl (.sel 0 rfl (.sel 0 rfl (.sel 0 rfl (.sel 0 rfl (.sel 0 rfl (.nil _)))))))))))) All.nil))) (All.cons (fun γ => (All.cons (EObI.mk (Z := Nat) [] (fun z => (γ.1, γ.2.1, z)) rfl rfl .nil (re_alloc rfl Try.zeroValue28 rfl) (fun _ => ⟨rfl, rfl, rfl, rfl, rfl, rfl, rfl, trivial⟩) (fun _ => .inr rfl) (fun z => (.sel 0 rfl (.sel 0 rfl (.sel 0 rfl (.sel 0 rfl (.sel 0 rfl (.sel 0 rfl (.sel 0 rfl (.sel 0 rfl (.nil _))))))))))) (All.cons (EObI.mk (Z := Nat) [] (fun z => (γ.1, γ.2.1, z)) rfl rfl .nil (re_alloc rfl Try.zeroValue28 rfl) (fun _ => ⟨rfl, rfl, rfl, rfl, rfl, rfl, rfl, trivial⟩) (fun _ => .inr rfl) (fun z => (.sel 0 rfl (.sel 0 rfl (.sel 0 rfl (.sel 0 rfl (.sel 0 rfl (.sel 0 rfl (.sel 0 rfl (.sel 0 rfl (.sel 0 rfl (.nil _)))))))))))) (All.cons (EObI.mk (Z := Nat) [] (fun z => (γ.1, γ.2.1, z)) rfl rfl .nil (re_alloc rfl Try.zeroValue28 rfl) (fun _ => ⟨rfl, rfl, rfl, rfl, rfl, rfl, rfl, trivial⟩) (fun _ => .inr rfl) (fun z => (.sel 0 rfl (.sel 0 rfl (.sel 0 rfl (.sel 0 rfl (.sel 0 rfl (.sel 0 rfl (.sel 0 rfl (.sel 0 rfl (.sel 0 rfl (.nil _)))))))))))) All.nil)))) (All.cons (fun γ => (All.cons (EObI.mk (Z := Unit) [(9, .pointer (some ⟨γ.2.2, 0, none⟩)), (66, .agg #[.int .i64 s31v.1, str s31v.2.1])] (fun z => (γ.1, γ.2.1, γ.2.2)) rfl rfl (.w 7 rfl rfl rfl (.w 6 rfl rfl rfl .nil)) (re_store 0 rfl rfl rfl Try.sizeOf28 rfl rfl (one_of (by rfl)) rfl rfl) (fun _ => ⟨rfl, rfl, rfl, rfl, rfl, rfl, rfl, rfl, trivial⟩) (fun _ => .inl rfl) (fun z => (.sel 0 rfl (.sel 0 rfl (.sel 0 rfl (.sel 0 rfl (.sel 0 rfl (.sel 0 rfl (.sel 0 rfl (.sel 0 rfl (.sel 0 rfl (.nil _)))))))))))) All.nil)) All.nil))))
 intro g35v
 exact nrm_cut (s := (s31v.1, s31v.2.1, s31v.2.2.1, s31v.2.2.2)) (g35v.2.2, g35v.2.1.1, g35v.2.1.2) ⟨rfl, rfl, rfl, rfl, trivial⟩ (.sel 1 rfl (.sel 5 rfl (.sel 5 rfl (.sel 0 rfl (.sel 0 rfl (.sel 0 rfl (.sel 2 rfl (.nil _))))))))
 refine sim_if (fun hk36v => ?_) (fun hk36v => ?_)
 refine sim_bind (fun s37v hs39v => ?_)
 refine sim_bind (fun s40v hs42v => ?_)
 refine sim_drawI (Γ := Nat × (Nat × Nat) × Nat) (0, (0, 0), 0) [[], [], [1], [0, 1, 2], [], [], [0, 1, 2, 3, 4, 5], [], [0, 1, 2, 3, 4, 5, 6, 7]] [0, 6, 7, 8] [1, 2, 3, 4, 5] [[], [0], [0, 6], [7], [0, 7], [0, 6, 7], [0, 6, 7, 8]] 6 (fun i => [[0, 3], [0, 1, 3, 4], [0, 1, 3, 4], [1, 4], [0, 1, 3, 4], [0, 1, 3, 4], [1, 4], [0, 1, 2], [5]].getD i []) (fun i s => ([[1, 0, 0, 4, 0, 0, 0], [], [], [], [], [], [0, 2, 0, 0, 5, 0, 0], [3, 4, 5, 0, 0, 0, 0], [0, 0, 0, 0, 0, 6, 0]].getD i []).getD s 0) (fun i => [[1, 2, 4, 5, 7], [], [], [], [], [], [0, 1, 2, 3, 4, 5, 7], [0, 1, 2, 3, 4, 5, 6], [0, 1, 2, 3, 4, 5, 6, 7]].getD i []) (fun γ i => [.map (some γ.1), .pointer (some ⟨b1v, 0, none⟩), .int .i64 x1_0, .func (.func 46) #[] #[], .pointer (some ⟨b0, 0, none⟩), .agg #[.int .i64 x1_0, .int .i64 x1_1, .int .i64 x1_2, str x1_3, str x1_4, str x1_5], .agg #[.int .i64 s40v.1, str s40v.2.1], .pointer (some ⟨γ.2.2, 0, none⟩), undef].getD i undef) (fun j γ => [[obj g9v 42 [.int .i64 (((mget x0_1 x1_1).getD ((0 : Int), (0 : Int), (0 : Int), ([] : List UInt8))).1), .int .i64 (((mget x0_1 x1_1).getD ((0 : Int), (0 : Int), (0 : Int), ([] : List UInt8))).2.1), .int .i64 (((mget x0_1 x1_1).getD ((0 : Int), (0 : Int), (0 : Int), ([] : List UInt8))).2.2.1), str (((mget x0_1 x1_1).getD ((0 : Int), (0 : Int), (0 : Int), ([] : List UInt8))).2.2.2)], obj b2v 28 [.int .i64 0, str ([] : List UInt8)], obj b1v 33 [.int .i64 x1_0, .int .i64 x1_1, .int .i64 x1_2, str x1_3, str x1_4, str x1_5], obj b0 63 [.map (some m0_0), .map (some m0_1)], mapO m0_0 enc9 enc9 x0_0, mapO m0_1 enc3 enc42 x0_1, F], [mapO γ.1 enc3 enc68 (mput (mput (mput ([] : List ((Int) × (Option Nat))) (2 : Int) (some 44)) (3 : Int) (some 45)) (4 : Int) (some 46)), obj g9v 42 [.int .i64 (((mget x0_1 x1_1).getD ((0 : Int), (0 : Int), (0 : Int), ([] : List UInt8))).1), .int .i64 (((mget x0_1 x1_1).getD ((0 : Int), (0 : Int), (0 : Int), ([] : List UInt8))).2.1), .int .i64 (((mget x0_1 x1_1).getD ((0 : Int), (0 : Int), (0 : Int), ([] : List UInt8))).2.2.1), str (((mget x0_1 x1_1).getD ((0 : Int), (0 : Int), (0 : Int), ([] : List UInt8))).2.2.2)], obj b2v 28 [.int .i64 0, str ([] : List UInt8)], obj b1v 33 [.int .i64 x1_0, .int .i64 x1_1, .int .i64 x1_2, str x1_3, str x1_4, str x1_5], obj b0 63 [.map (some m0_0), .map (some m0_1)], mapO m0_0 enc9 enc9 x0_0, mapO m0_1 enc3 enc42 x0_1, F], [obj b0 63 [.map (some γ.2.1.1), .map (some γ.2.1.2)], mapO γ.2.1.1 enc9 enc9 s40v.2.2.1, mapO γ.2.1.2 enc3 enc42 s40v.2.2.2, mapO γ.1 enc3 enc68 (mput (mput (mput ([] : List ((Int) × (Option Nat))) (2 : Int) (some 44)) (3 : Int) (some 45)) (4 : Int) (some 46)), obj g9v 42 [.int .i64 (((mget x0_1 x1_1).getD ((0 : Int), (0 : Int), (0 : Int), ([] : List UInt8))).1), .int .i64 (((mget x0_1 x1_1).getD ((0 : Int), (0 : Int), (0 : Int), ([] : List UInt8))).2.1), .int .i64 (((mget x0_1 x1_1).getD ((0 : Int), (0 : Int), (0 : Int), ([] : List UInt8))).2.2.1), str (((mget x0_1 x1_1).getD ((0 : Int), (0 : Int), (0 : Int), ([] : List UInt8))).2.2.2)], obj b2v 28 [.int .i64 0, str ([] : List UInt8)], obj b1v 33 [.int .i64 x1_0, .int .i64 x1_1, .int .i64 x1_2, str x1_3, str x1_4, str x1_5], F], [obj γ.2.2 28 [.int .i64 0, str ([] : List UInt8)], obj g9v 42 [.int .i64 (((mget x0_1 x1_1).getD ((0 : Int), (0 : Int), (0 : Int), ([] : List UInt8))).1), .int .i64 (((mget x0_1 x1_1).getD ((0 : Int), (0 : Int), (0 : Int), ([] : List UInt8))).2.1), .int .i64 (((mget x0_1 x1_1).getD ((0 : Int), (0 : Int), (0 : Int), ([] : List UInt8))).2.2.1), str (((mget x0_1 x1_1).getD ((0 : Int), (0 : Int), (0 : Int), ([] : List UInt8))).2.2.2)], obj b2v 28 [.int .i64 0, str ([] : List UInt8)], obj b1v 33 [.int .i64 x1_0, .int .i64 x1_1, .int .i64 x1_2, str x1_3, str x1_4, str x1_5], obj b0 63 [.map (some m0_0), .map (some m0_1)], mapO m0_0 enc9 enc9 x0_0, mapO m0_1 enc3 enc42 x0_1, F], [obj γ.2.2 28 [.int .i64 0, str ([] : List UInt8)], mapO γ.1 enc3 enc68 (mput (mput (mput ([] : List ((Int) × (Option Nat))) (2 : Int) (some 44)) (3 : Int) (some 45)) (4 : Int) (some 46)), obj g9v 42 [.int .i64 (((mget x0_1 x1_1).getD ((0 : Int), (0 : Int), (0 : Int), ([] : List UInt8))).1), .int .i64 (((mget x0_1 x1_1).getD ((0 : Int), (0 : Int), (0 : Int), ([] : List UInt8))).2.1), .int .i64 (((mget x0_1 x1_1).getD ((0 : Int), (0 : Int), (0 : Int), ([] : List UInt8))).2.2.1), str (((mget x0_1 x1_1).getD ((0 : Int), (0 : Int), (0 : Int), ([] : List UInt8))).2.2.2)], obj b2v 28 [.int .i64 0, str ([] : List UInt8)], obj b1v 33 [.int .i64 x1_0, .int .i64 x1_1, .int .i64 x1_2, str x1_3, str x1_4, str x1_5], obj b0 63 [.map (some m0_0), .map (some m0_1)], mapO m0_0 enc9 enc9 x0_0, mapO m0_1 enc3 enc42 x0_1, F], [obj γ.2.2 28 [.int .i64 0, str ([] : List UInt8)], obj b0 63 [.map (some γ.2.1.1), .map (some γ.2.1.2)], mapO γ.2.1.1 enc9 enc9 s40v.2.2.1, mapO γ.2.1.2 enc3 enc42 s40v.2.2.2, mapO γ.1 enc3 enc68 (mput (mput (mput ([] : List ((Int) × (Option Nat))) (2 : Int) (some 44)) (3 : Int) (some 45)) (4 : Int) (some 46)), obj g9v 42 [.int .i64 (((mget x0_1 x1_1).getD ((0 : Int), (0 : Int), (0 : Int), ([] : List UInt8))).1), .int .i64 (((mget x0_1 x1_1).getD ((0 : Int), (0 : Int), (0 : Int), ([] : List UInt8))).2.1), .int .i64 (((mget x0_1 x1_1).getD ((0 : Int), (0 : Int), (0 : Int), ([] : List UInt8))).2.2.1), str (((mget x0_1 x1_1).getD ((0 : Int), (0 : Int), (0 : Int), ([] : List UInt8))).2.2.2)], obj b2v 28 [.int .i64 0, str ([] : List UInt8)], obj b1v 33 [.int .i64 x1_0, .int .i64 x1_1, .int .i64 x1_2, str x1_3, str x1_4, str x1_5], F], [obj γ.2.2 28 [.int .i64 s40v.1, str s40v.2.1], obj b0 63 [.map (some γ.2.1.1), .map (some γ.2.1.2)], mapO γ.2.1.1 enc9 enc9 s40v.2.2.1, mapO γ.2.1.2 enc3 enc42 s40v.2.2.2, mapO γ.1 enc3 enc68 (mput (mput (mput ([] : List ((Int) × (Option Nat))) (2 : Int) (some 44)) (3 : Int) (some 45)) (4 : Int) (some 46)), obj g9v 42 [.int .i64 (((mget x0_1 x1_1).getD ((0 : Int), (0 : Int), (0 : Int), ([] : List UInt8))).1), .int .i64 (((mget x0_1 x1_1).getD ((0 : Int), (0 : Int), (0 : Int), ([] : List UInt8))).2.1), .int .i64 (((mget x0_1 x1_1).getD ((0 : Int), (0 : Int), (0 : Int), ([] : List UInt8))).2.2.1), str (((mget x0_1 x1_1).getD ((0 : Int), (0 : Int), (0 : Int), ([] : List UInt8))).2.2.2)], obj b2v 28 [.int .i64 0, str ([] : List UInt8)], obj b1v 33 [.int .i64 x1_0, .int .i64 x1_1, .int .i64 x1_2, str x1_3, str x1_4, str x1_5], F]].getD j []) (fun γ => [(0, .pointer (some ⟨b0, 0, none⟩)), (3, .pointer (some ⟨b1v, 0, none⟩)), (4, .pointer (some ⟨b2v, 0, none⟩)), (9, .pointer (some ⟨γ.2.2, 0, none⟩))]) mixed (by decide) (by decide) (by decide) (by decide) (by decide) (by decide) 80 rfl (by decide) (by decide) (by decide) (by decide) (by decide) (by decide) (Ent.refl _) ?_ ?_ (fun _ => ⟨rfl, rfl, rfl, rfl, trivial⟩) ?_
 exact (All.cons (fun γ => (All.cons (QOb.plain [(3, .pointer (some ⟨b1v, 0, none⟩))] rfl rfl (.o rfl (by decide) .nil) (q_fa rfl rfl Try.underlying33 rfl rfl Try.sizeOf3 rfl) rfl) (All.cons (QOb.plain [(3, .pointer (some ⟨b1v, 0, none⟩))] rfl rfl (.o rfl (by decide) .nil) (q_fa rfl rfl Try.underlying33 rfl rfl Try.sizeOf3 rfl) rfl) (All.cons (QOb.plain [(3, .pointer (some ⟨b1v, 0, none⟩))] rfl rfl (.o rfl (by decide) .nil) (q_fa rfl rfl Try.underlying33 rfl rfl Try.sizeOf3 rfl) rfl) (All.cons (QOb.plain [(3, .pointer (some ⟨b1v, 0, none⟩))] rfl rfl (.o rfl (by decide) .nil) (q_fa rfl rfl Try.underlying33 rfl rfl Try.sizeOf3 rfl) rfl) All.nil))))) (All.cons (fun γ => (All.cons (QOb.plain [(61, .pointer (some ⟨b1v, 0, none⟩))] rfl rfl (.w 1 rfl rfl rfl .nil) (q_load rfl rfl Try.isAgg3 (.obj 2 rfl rfl)) rfl) (All.cons (QOb.plain [(61, .pointer (some ⟨b1v, 0, none⟩))] rfl rfl (.w 1 rfl rfl rfl .nil) (q_load rfl rfl Try.isAgg3 (.obj 3 rfl rfl)) rfl) (All.cons (QOb.plain [(61, .pointer (some ⟨b1v, 0, none⟩))] rfl rfl (.w 1 rfl rfl rfl .nil) (q_load rfl rfl Try.isAgg3 (.obj 3 rfl rfl)) rfl) (All.cons (QOb.plain [(61, .pointer (some ⟨b1v, 0, none⟩))] rfl rfl (.w 1 rfl rfl rfl .nil) (q_load rfl rfl Try.isAgg3 (.obj 4 rfl rfl)) rfl) All.nil))))) (All.cons (fun γ => (All.cons (QOb.plain [(60, .map (some γ.1)), (62, .int .i64 x1_0)] rfl rfl (.w 0 rfl rfl rfl (.w 2 rfl rfl rfl .nil)) ((RQ.eq (by rw [hk36v]; rfl) (q_mlook (ek := enc3) (ev := enc68) (z := none) 0 x1_0 rfl rfl rfl Try.underlying69 key3 Try.zeroValue68 rfl) : RQ _ _ _ _ (.func (.func 46) #[] #[]))) rfl) (All.cons (QOb.plain [(60, .map (some γ.1)), (62, .int .i64 x1_0)] rfl rfl (.w 0 rfl rfl rfl (.w 2 rfl rfl rfl .nil)) ((RQ.eq (by rw [hk36v]; rfl) (q_mlook (ek := enc3) (ev := enc68) (z := none) 1 x1_0 rfl rfl rfl Try.underlying69 key3 Try.zeroValue68 rfl) : RQ _ _ _ _ (.func (.func 46) #[] #[]))) rfl) All.nil))) (All.cons (fun γ => (All.cons (QOb.plain [(0, .pointer (some ⟨b0, 0, none⟩))] rfl rfl (.o rfl (by decide) .nil) (q_move rfl rfl) rfl) (All.cons (QOb.plain [(0, .pointer (some ⟨b0, 0, none⟩))] rfl rfl (.o rfl (by decide) .nil) (q_move rfl rfl) rfl) (All.cons (QOb.plain [(0, .pointer (some ⟨b0, 0, none⟩))] rfl rfl (.o rfl (by decide) .nil) (q_move rfl rfl) rfl) (All.cons (QOb.plain [(0, .pointer (some ⟨b0, 0, none⟩))] rfl rfl (.o rfl (by decide) .nil) (q_move rfl rfl) rfl) All.nil))))) (All.cons (fun γ => (All.cons (QOb.plain [(3, .pointer (some ⟨b1v, 0, none⟩))] rfl rfl (.o rfl (by decide) .nil) (q_loado 2 rfl rfl Try.isAgg33 Try.sizeOf33 rfl rfl) rfl) (All.cons (QOb.plain [(3, .pointer (some ⟨b1v, 0, none⟩))] rfl rfl (.o rfl (by decide) .nil) (q_loado 3 rfl rfl Try.isAgg33 Try.sizeOf33 rfl rfl) rfl) (All.cons (QOb.plain [(3, .pointer (some ⟨b1v, 0, none⟩))] rfl rfl (.o rfl (by decide) .nil) (q_loado 3 rfl rfl Try.isAgg33 Try.sizeOf33 rfl rfl) rfl) (All.cons (QOb.plain [(3, .pointer (some ⟨b1v, 0, none⟩))] rfl rfl (.o rfl (by decide) .nil) (q_loado 4 rfl rfl Try.isAgg33 Try.sizeOf33 rfl rfl) rfl) All.nil))))) All.nil)))))
 exact (All.cons (fun γ => (All.cons (EObI.mk (Z := Nat) [] (fun z => (z, γ.2.1, γ.2.2)) rfl rfl .nil (re_call (vs := []) (cap := []) (A := []) (rst := [obj g9v 42 [.int .i64 (((mget x0_1 x1_1).getD ((0 : Int), (0 : Int), (0 : Int), ([] : List UInt8))).1), .int .i64 (((mget x0_1 x1_1).getD ((0 : Int), (0 : Int), (0 : Int), ([] : List UInt8))).2.1), .int .i64 (((mget x0_1 x1_1).getD ((0 : Int), (0 : Int), (0 : Int), ([] : List UInt8))).2.2.1), str (((mget x0_1 x1_1).getD ((0 : Int), (0 : Int), (0 : Int), ([] : List UInt8))).2.2.2)], obj b2v 28 [.int .i64 0, str ([] : List UInt8)], obj b1v 33 [.int .i64 x1_0, .int .i64 x1_1, .int .i64 x1_2, str x1_3, str x1_4, str x1_5], obj b0 63 [.map (some m0_0), .map (some m0_1)], mapO m0_0 enc9 enc9 x0_0, mapO m0_1 enc3 enc42 x0_1, F]) rfl rfl rfl rfl rfl rfl Try.call27 (.sel 0 rfl (.sel 0 rfl (.sel 0 rfl (.sel 0 rfl (.sel 0 rfl (.sel 0 rfl (.sel 0 rfl (.nil _)))))))) (kv_operations.calls _ _  ) hs39v) (fun _ => ⟨rfl, rfl, rfl, rfl, rfl, trivial⟩) (fun _ => .inr rfl) (fun z => (.sel 0 rfl (.sel 0 rfl (.sel 0 rfl (.sel 0 rfl (.sel 0 rfl (.sel 0 rfl (.sel 0 rfl (.sel 0 rfl (.nil _))))))))))) (All.cons (EObI.mk (Z := Nat) [] (fun z => (z, γ.2.1, γ.2.2)) rfl rfl .nil (re_call (vs := []) (cap := []) (A := []) (rst := [obj γ.2.2 28 [.int .i64 0, str ([] : List UInt8)], obj g9v 42 [.int .i64 (((mget x0_1 x1_1).getD ((0 : Int), (0 : Int), (0 : Int), ([] : List UInt8))).1), .int .i64 (((mget x0_1 x1_1).getD ((0 : Int), (0 : Int), (0 : Int), ([] : List UInt8))).2.1), .int .i64 (((mget x0_1 x1_1).getD ((0 : Int), (0 : Int), (0 : Int), ([] : List UInt8))).2.2.1), str (((mget x0_1 x1_1).getD ((0 : Int), (0 : Int), (0 : Int), ([] : List UInt8))).2.2.2)], obj b2v 28 [.int .i64 0, str ([] : List UInt8)], obj b1v 33 [.int .i64 x1_0, .int .i64 x1_1, .int .i64 x1_2, str x1_3, str x1_4, str x1_5], obj b0 63 [.map (some m0_0), .map (some m0_1)], mapO m0_0 enc9 enc9 x0_0, mapO m0_1 enc3 enc42 x0_1, F]) rfl rfl rfl rfl rfl rfl Try.call27 (.sel 0 rfl (.sel 0 rfl (.sel 0 rfl (.sel 0 rfl (.sel 0 rfl (.sel 0 rfl (.sel 0 rfl (.sel 0 rfl (.nil _))))))))) (kv_operations.calls _ _  ) hs39v) (fun _ => ⟨rfl, rfl, rfl, rfl, rfl, trivial⟩) (fun _ => .inr rfl) (fun z => (.sel 1 rfl (.sel 0 rfl (.sel 0 rfl (.sel 0 rfl (.sel 0 rfl (.sel 0 rfl (.sel 0 rfl (.sel 0 rfl (.sel 0 rfl (.nil _)))))))))))) All.nil))) (All.cons (fun γ => (All.cons (EObI.mk (Z := Nat × Nat) [(63, .func (.func 46) #[] #[]), (64, .pointer (some ⟨b0, 0, none⟩)), (65, .agg #[.int .i64 x1_0, .int .i64 x1_1, .int .i64 x1_2, str x1_3, str x1_4, str x1_5])] (fun z => (γ.1, z, γ.2.2)) rfl rfl (.w 3 rfl rfl rfl (.w 4 rfl rfl rfl (.w 5 rfl rfl rfl .nil))) (re_call (vs := [.pointer (some ⟨b0, 0, none⟩), .agg #[.int .i64 x1_0, .int .i64 x1_1, .int .i64 x1_2, str x1_3, str x1_4, str x1_5]]) (cap := []) (A := [obj b0 63 [.map (some m0_0), .map (some m0_1)], mapO m0_0 enc9 enc9 x0_0, mapO m0_1 enc3 enc42 x0_1]) (rst := [mapO γ.1 enc3 enc68 (mput (mput (mput ([] : List ((Int) × (Option Nat))) (2 : Int) (some 44)) (3 : Int) (some 45)) (4 : Int) (some 46)), obj g9v 42 [.int .i64 (((mget x0_1 x1_1).getD ((0 : Int), (0 : Int), (0 : Int), ([] : List UInt8))).1), .int .i64 (((mget x0_1 x1_1).getD ((0 : Int), (0 : Int), (0 : Int), ([] : List UInt8))).2.1), .int .i64 (((mget x0_1 x1_1).getD ((0 : Int), (0 : Int), (0 : Int), ([] : List UInt8))).2.2.1), str (((mget x0_1 x1_1).getD ((0 : Int), (0 : Int), (0 : Int), ([] : List UInt8))).2.2.2)], obj b2v 28 [.int .i64 0, str ([] : List UInt8)], obj b1v 33 [.int .i64 x1_0, .int .i64 x1_1, .int .i64 x1_2, str x1_3, str x1_4, str x1_5], F]) rfl rfl rfl rfl rfl rfl Try.call46 (.sel 4 rfl (.sel 4 rfl (.sel 4 rfl (.sel 0 rfl (.sel 0 rfl (.sel 0 rfl (.sel 0 rfl (.sel 0 rfl (.nil _))))))))) (kv_operations_3.calls _ _ b0 m0_0 x0_0 m0_1 x0_1 x1_0 x1_1 x1_2 x1_3 x1_4 x1_5 ) hs42v) (fun _ => ⟨rfl, rfl, rfl, rfl, rfl, rfl, rfl, trivial⟩) (fun _ => .inr rfl) (fun z => (.sel 0 rfl (.sel 0 rfl (.sel 0 rfl (.sel 0 rfl (.sel 0 rfl (.sel 0 rfl (.sel 0 rfl (.sel 0 rfl (.nil _))))))))))) (All.cons (EObI.mk (Z := Nat × Nat) [(63, .func (.func 46) #[] #[]), (64, .pointer (some ⟨b0, 0, none⟩)), (65, .agg #[.int .i64 x1_0, .int .i64 x1_1, .int .i64 x1_2, str x1_3, str x1_4, str x1_5])] (fun z => (γ.1, z, γ.2.2)) rfl rfl (.w 3 rfl rfl rfl (.w 4 rfl rfl rfl (.w 5 rfl rfl rfl .nil))) (re_call (vs := [.pointer (some ⟨b0, 0, none⟩), .agg #[.int .i64 x1_0, .int .i64 x1_1, .int .i64 x1_2, str x1_3, str x1_4, str x1_5]]) (cap := []) (A := [obj b0 63 [.map (some m0_0), .map (some m0_1)], mapO m0_0 enc9 enc9 x0_0, mapO m0_1 enc3 enc42 x0_1]) (rst := [obj γ.2.2 28 [.int .i64 0, str ([] : List UInt8)], mapO γ.1 enc3 enc68 (mput (mput (mput ([] : List ((Int) × (Option Nat))) (2 : Int) (some 44)) (3 : Int) (some 45)) (4 : Int) (some 46)), obj g9v 42 [.int .i64 (((mget x0_1 x1_1).getD ((0 : Int), (0 : Int), (0 : Int), ([] : List UInt8))).1), .int .i64 (((mget x0_1 x1_1).getD ((0 : Int), (0 : Int), (0 : Int), ([] : List UInt8))).2.1), .int .i64 (((mget x0_1 x1_1).getD ((0 : Int), (0 : Int), (0 : Int), ([] : List UInt8))).2.2.1), str (((mget x0_1 x1_1).getD ((0 : Int), (0 : Int), (0 : Int), ([] : List UInt8))).2.2.2)], obj b2v 28 [.int .i64 0, str ([] : List UInt8)], obj b1v 33 [.int .i64 x1_0, .int .i64 x1_1, .int .i64 x1_2, str x1_3, str x1_4, str x1_5], F]) rfl rfl rfl rfl rfl rfl Try.call46 (.sel 5 rfl (.sel 5 rfl (.sel 5 rfl (.sel 0 rfl (.sel 0 rfl (.sel 0 rfl (.sel 0 rfl (.sel 0 rfl (.sel 0 rfl (.nil _)))))))))) (kv_operations_3.calls _ _ b0 m0_0 x0_0 m0_1 x0_1 x1_0 x1_1 x1_2 x1_3 x1_4 x1_5 ) hs42v) (fun _ => ⟨rfl, rfl, rfl, rfl, rfl, rfl, rfl, trivial⟩) (fun _ => .inr rfl) (fun z => (.sel 3 rfl (.sel 0 rfl (.sel 0 rfl (.sel 0 rfl (.sel 0 rfl (.sel 0 rfl (.sel 0 rfl (.sel 0 rfl (.sel 0 rfl (.nil _)))))))))))) All.nil))) (All.cons (fun γ => (All.cons (EObI.mk (Z := Nat) [] (fun z => (γ.1, γ.2.1, z)) rfl rfl .nil (re_alloc rfl Try.zeroValue28 rfl) (fun _ => ⟨rfl, rfl, rfl, rfl, rfl, rfl, rfl, trivial⟩) (fun _ => .inr rfl) (fun z => (.sel 0 rfl (.sel 0 rfl (.sel 0 rfl (.sel 0 rfl (.sel 0 rfl (.sel 0 rfl (.sel 0 rfl (.sel 0 rfl (.nil _))))))))))) (All.cons (EObI.mk (Z := Nat) [] (fun z => (γ.1, γ.2.1, z)) rfl rfl .nil (re_alloc rfl Try.zeroValue28 rfl) (fun _ => ⟨rfl, rfl, rfl, rfl, rfl, rfl, rfl, trivial⟩) (fun _ => .inr rfl) (fun z => (.sel 0 rfl (.sel 0 rfl (.sel 0 rfl (.sel 0 rfl (.sel 0 rfl (.sel 0 rfl (.sel 0 rfl (.sel 0 rfl (.sel 0 rfl (.nil _)))))))))))) (All.cons (EObI.mk (Z := Nat) [] (fun z => (γ.1, γ.2.1, z)) rfl rfl .nil (re_alloc rfl Try.zeroValue28 rfl) (fun _ => ⟨rfl, rfl, rfl, rfl, rfl, rfl, rfl, trivial⟩) (fun _ => .inr rfl) (fun z => (.sel 0 rfl (.sel 0 rfl (.sel 0 rfl (.sel 0 rfl (.sel 0 rfl (.sel 0 rfl (.sel 0 rfl (.sel 0 rfl (.sel 0 rfl (.nil _)))))))))))) All.nil)))) (All.cons (fun γ => (All.cons (EObI.mk (Z := Unit) [(9, .pointer (some ⟨γ.2.2, 0, none⟩)), (66, .agg #[.int .i64 s40v.1, str s40v.2.1])] (fun z => (γ.1, γ.2.1, γ.2.2)) rfl rfl (.w 7 rfl rfl rfl (.w 6 rfl rfl rfl .nil)) (re_store 0 rfl rfl rfl Try.sizeOf28 rfl rfl (one_of (by rfl)) rfl rfl) (fun _ => ⟨rfl, rfl, rfl, rfl, rfl, rfl, rfl, rfl, trivial⟩) (fun _ => .inl rfl) (fun z => (.sel 0 rfl (.sel 0 rfl (.sel 0 rfl (.sel 0 rfl (.sel 0 rfl (.sel 0 rfl (.sel 0 rfl (.sel 0 rfl (.sel 0 rfl (.nil _)))))))))))) All.nil)) All.nil))))
 intro g44v
 exact nrm_cut (s := (s40v.1, s40v.2.1, s40v.2.2.1, s40v.2.2.2)) (g44v.2.2, g44v.2.1.1, g44v.2.1.2) ⟨rfl, rfl, rfl, rfl, trivial⟩ (.sel 1 rfl (.sel 5 rfl (.sel 5 rfl (.sel 0 rfl (.sel 0 rfl (.sel 0 rfl (.sel 2 rfl (.nil _))))))))
 exact sim_none
 intro s16v y17v
 refine sim_seq ?_
 refine sim_draw (Γ := Unit) () [[], [0], [0, 1], [0, 1, 2], [], [4], [], [6], [], [8], [], [6, 7, 8, 9, 10], [0, 1, 2, 3, 4, 5, 6, 7, 8, 9, 10, 11]] [12] [0, 1, 2, 3, 4, 5, 6, 7, 8, 9, 10, 11] (fun i => [[0], [0], [0], [0], [0], [0], [0], [0], [0], [0], [0], [0], []].getD i []) (fun i => [[], [], [], [], [], [], [], [], [], [], [], [], [0, 1, 2, 3, 4, 5, 6, 7, 8, 9, 10, 11]].getD i []) (fun γ i => [.pointer (some ⟨b0, 0, none⟩), .pointer (some ⟨b0, 0, none⟩), .pointer (some ⟨b0, 1, none⟩), .map (some y17v.2.2), .pointer (some ⟨b1v, 1, none⟩), .int .i64 x1_1, .pointer (some ⟨b1v, 1, none⟩), .int .i64 x1_1, .pointer (some ⟨b1v, 2, none⟩), .int .i64 x1_2, .agg #[.int .i64 s16v.1, str s16v.2.1], .agg #[.int .i64 x1_1, .int .i64 x1_2, .int .i64 s16v.1, str s16v.2.1], undef].getD i undef) (fun j γ => [[obj b0 63 [.map (some y17v.2.1), .map (some y17v.2.2)], obj b2v 28 [.int .i64 0, str ([] : List UInt8)], obj b1v 33 [.int .i64 x1_0, .int .i64 x1_1, .int .i64 x1_2, str x1_3, str x1_4, str x1_5], obj y17v.1 28 [.int .i64 s16v.1, str s16v.2.1], mapO y17v.2.1 enc9 enc9 s16v.2.2.1, mapO y17v.2.2 enc3 enc42 s16v.2.2.2, F], [obj b0 63 [.map (some y17v.2.1), .map (some y17v.2.2)], obj b2v 28 [.int .i64 0, str ([] : List UInt8)], obj b1v 33 [.int .i64 x1_0, .int .i64 x1_1, .int .i64 x1_2, str x1_3, str x1_4, str x1_5], obj y17v.1 28 [.int .i64 s16v.1, str s16v.2.1], mapO y17v.2.1 enc9 enc9 s16v.2.2.1, mapO y17v.2.2 enc3 enc42 (mput s16v.2.2.2 x1_1 (x1_1, x1_2, s16v.1, s16v.2.1)), F]].getD j []) (fun γ => [(4, .pointer (some ⟨b2v, 0, none⟩)), (9, .pointer (some ⟨y17v.1, 0, none⟩))]) mixed (by decide) (by decide) (by decide) (by decide) (by decide) (by decide) (by decide) 80 rfl (by decide) (by decide) (by decide) (Ent.refl _) ?_ ?_ (fun _ => ⟨rfl, rfl, trivial⟩) ?_
 exact (All.cons (fun γ => (All.cons (QOb.plain [(0, .pointer (some ⟨b0, 0, none⟩))] rfl rfl (.o rfl (by decide) .nil) (q_move rfl rfl) rfl) All.nil)) (All.cons (fun γ => (All.cons (QOb.plain [(67, .pointer (some ⟨b0, 0, none⟩))] rfl rfl (.w 0 rfl rfl rfl .nil) (q_nil rfl rfl) rfl) All.nil)) (All.cons (fun γ => (All.cons (QOb.plain [(68, .pointer (some ⟨b0, 0, none⟩))] rfl rfl (.w 1 rfl rfl rfl .nil) (q_fa rfl rfl Try.underlying63 rfl rfl Try.sizeOf61 rfl) rfl) All.nil)) (All.cons (fun γ => (All.cons (QOb.plain [(69, .pointer (some ⟨b0, 1, none⟩))] rfl rfl (.w 2 rfl rfl rfl .nil) (q_load rfl rfl Try.isAgg61 (.obj 0 rfl rfl)) rfl) All.nil)) (All.cons (fun γ => (All.cons (QOb.plain [(3, .pointer (some ⟨b1v, 0, none⟩))] rfl rfl (.o rfl (by decide) .nil) (q_fa rfl rfl Try.underlying33 rfl rfl Try.sizeOf3 rfl) rfl) All.nil)) (All.cons (fun γ => (All.cons (QOb.plain [(71, .pointer (some ⟨b1v, 1, none⟩))] rfl rfl (.w 4 rfl rfl rfl .nil) (q_load rfl rfl Try.isAgg3 (.obj 2 rfl rfl)) rfl) All.nil)) (All.cons (fun γ => (All.cons (QOb.plain [(3, .pointer (some ⟨b1v, 0, none⟩))] rfl rfl (.o rfl (by decide) .nil) (q_fa rfl rfl Try.underlying33 rfl rfl Try.sizeOf3 rfl) rfl) All.nil)) (All.cons (fun γ => (All.cons (QOb.plain [(73, .pointer (some ⟨b1v, 1, none⟩))] rfl rfl (.w 6 rfl rfl rfl .nil) (q_load rfl rfl Try.isAgg3 (.obj 2 rfl rfl)) rfl) All.nil)) (All.cons (fun γ => (All.cons (QOb.plain [(3, .pointer (some ⟨b1v, 0, none⟩))] rfl rfl (.o rfl (by decide) .nil) (q_fa rfl rfl Try.underlying33 rfl rfl Try.sizeOf3 rfl) rfl) All.nil)) (All.cons (fun γ => (All.cons (QOb.plain [(75, .pointer (some ⟨b1v, 2, none⟩))] rfl rfl (.w 8 rfl rfl rfl .nil) (q_load rfl rfl Try.isAgg3 (.obj 2 rfl rfl)) rfl) All.nil)) (All.cons (fun γ => (All.cons (QOb.plain [(9, .pointer (some ⟨y17v.1, 0, none⟩))] rfl rfl (.o rfl (by decide) .nil) (q_loado 3 rfl rfl Try.isAgg28 Try.sizeOf28 rfl rfl) rfl) All.nil)) (All.cons (fun γ => (All.cons (QOb.plain [(74, .int .i64 x1_1), (76, .int .i64 x1_2), (77, .agg #[.int .i64 s16v.1, str s16v.2.1])] rfl rfl (.w 7 rfl rfl rfl (.w 9 rfl rfl rfl (.w 10 rfl rfl rfl .nil))) (q_build (v := .agg #[.int .i64 x1_1, .int .i64 x1_2, .int .i64 s16v.1, str s16v.2.1]) rfl rfl (fun _ => by kernel_rfl)) rfl) All.nil)) All.nil))))))))))))
 exact (All.cons (fun γ => EOb.mk (Z := Unit) [(70, .map (some y17v.2.2)), (72, .int .i64 x1_1), (78, .agg #[.int .i64 x1_1, .int .i64 x1_2, .int .i64 s16v.1, str s16v.2.1])] (fun z => ()) rfl rfl (.w 3 rfl rfl rfl (.w 5 rfl rfl rfl (.w 11 rfl rfl rfl .nil))) (re_mput (ek := enc3) (ev := enc42) 5 x1_1 (x1_1, x1_2, s16v.1, s16v.2.1) rfl rfl rfl rfl Try.underlying61 key3 rfl) (fun _ => ⟨rfl, rfl, rfl, rfl, rfl, rfl, rfl, rfl, rfl, rfl, rfl, rfl, trivial⟩) (fun _ => .inl rfl) (fun z => Ent.refl _)) All.nil)
 intro g45v
 refine nrm_then (sim_seq (sim_region ?_))
 refine simL_val (q_loado 3 rfl rfl Try.isAgg28 Try.sizeOf28 rfl rfl) rfl rfl rfl ?_
 refine simL_do (re_store 1 rfl rfl rfl Try.sizeOf28 rfl rfl (one_of (by rfl)) rfl rfl) rfl rfl ?_
 intro _
 refine simL_val (q_asg rfl rfl) rfl rfl rfl (simL_nil (nrm_then (sim_rtn ?_)))
 exact rtn_fnC (vs := [.agg #[.int .i64 s16v.1, str s16v.2.1], .int .i64 0]) (y17v.2.1, y17v.2.2) rfl ⟨⟨b2v, rfl, load_agg 1 Try.isAgg28 Try.sizeOf28 rfl rfl⟩, rfl, trivial⟩ rfl (.sel 0 rfl (.sel 3 rfl (.sel 3 rfl (.sel 3 rfl (.nil _)))))
 refine sim_seq (sim_region ?_)
 refine simL_val (q_build (v := .agg #[.int .i64 0, str ([] : List UInt8)]) rfl rfl (fun _ => by kernel_rfl)) rfl rfl rfl ?_
 refine simL_val (q_move rfl rfl) rfl rfl rfl ?_
 refine simL_do (re_store 0 rfl rfl rfl Try.sizeOf28 rfl rfl (one_of (by rfl)) rfl rfl) rfl rfl ?_
 intro _
 refine simL_val (q_asg rfl rfl) rfl rfl rfl (simL_nil (nrm_then (sim_rtn ?_)))
 refine rtn_then ?_
 exact rtn_fnC (vs := [.agg #[.int .i64 0, str ([] : List UInt8)], .int .i64 s3v]) (m0_0, m0_1) rfl ⟨⟨b2v, rfl, load_agg 0 Try.isAgg28 Try.sizeOf28 rfl rfl⟩, rfl, trivial⟩ rfl (.sel 2 rfl (.sel 2 rfl (.sel 2 rfl (.sel 2 rfl (.nil _)))))

def kv_Store_Get.f (x0_0 : List ((List UInt8) × (List UInt8))) (x0_1 : List ((Int) × (Int × Int × Int × List UInt8))) (x1 : List UInt8) : Option (Int × List UInt8) := if (!((mget x0_0 x1).isSome)) = true then (some (2, ([] : List UInt8))) else (some (1, ((mget x0_0 x1).getD ([] : List UInt8))))
theorem kv_Store_Get.calls (W : World) (F : HA) (b0 : Nat) (m0_0 : Nat) (x0_0 : List ((List UInt8) × (List UInt8))) (m0_1 : Nat) (x0_1 : List ((Int) × (Int × Int × Int × List UInt8))) (x1 : List UInt8)  :
    Fn Try.prog W 19 [.pointer (some ⟨b0, 0, none⟩), str x1] [obj b0 63 [.map (some m0_0), .map (some m0_1)], mapO m0_0 enc9 enc9 x0_0, mapO m0_1 enc3 enc42 x0_1] F (kv_Store_Get.f x0_0 x0_1 x1) (fun (r : Int × List UInt8) (y : Unit) => .agg #[.int .i64 r.1, str r.2]) (fun r y => [obj b0 63 [.map (some m0_0), .map (some m0_1)], mapO m0_0 enc9 enc9 x0_0, mapO m0_1 enc3 enc42 x0_1]) := by
 unfold kv_Store_Get.f
 refine fn_intro 21 Try.func19 rfl Try.ntmps19 rfl ?_
 refine sim_seq (sim_region ?_)
 refine simL_eff (re_alloc rfl Try.zeroValue28 rfl) rfl rfl rfl ?_
 intro b1v
 refine simL_nil (nrm_then (sim_seq (sim_region ?_)))
 refine simL_val (q_move rfl rfl) rfl rfl rfl ?_
 refine simL_val (q_nil rfl rfl) rfl rfl rfl ?_
 refine simL_val (q_fa rfl rfl Try.underlying63 rfl rfl Try.sizeOf60 rfl) rfl rfl rfl ?_
 refine simL_val (q_load rfl rfl Try.isAgg60 (.obj 1 rfl rfl)) rfl rfl rfl ?_
 refine simL_val (q_move rfl rfl) rfl rfl rfl ?_
 refine simL_val ((q_mlook2 (ek := enc9) (ev := enc9) (z := ([] : List UInt8)) 2 x1 rfl rfl rfl Try.underlying60 key9 Try.zeroValue9 rfl : RQ _ _ _ _ (.tuple #[str ((mget x0_0 x1).getD ([] : List UInt8)), .bool ((mget x0_0 x1).isSome)]))) rfl rfl rfl ?_
 refine simL_val (q_move rfl rfl) rfl rfl rfl ?_
 refine simL_val (q_ext rfl rfl rfl) rfl rfl rfl ?_
 refine simL_val (q_ext rfl rfl rfl) rfl rfl rfl ?_
 refine simL_val (q_asg rfl rfl) rfl rfl rfl ?_
 refine simL_val (q_asg rfl rfl) rfl rfl rfl (simL_nil (nrm_then (sim_seq (sim_seq (sim_region ?_)))))
 refine simL_val (q_move rfl rfl) rfl rfl rfl ?_
 refine simL_val (q_not rfl rfl) rfl rfl rfl (simL_nil (nrm_then ?_))
 refine sim_condb rfl (fun h2v => ?_) (fun h3v => ?_)
 refine sim_seq (sim_region ?_)
 refine simL_val (q_build (v := .agg #[.int .i64 2, str ([] : List UInt8)]) rfl rfl (fun _ => by kernel_rfl)) rfl rfl rfl ?_
 refine simL_do (re_store 0 rfl rfl rfl Try.sizeOf28 rfl rfl (one_of (by rfl)) rfl rfl) rfl rfl ?_
 intro _
 refine simL_nil (nrm_then (sim_rtn ?_))
 refine rtn_then ?_
 exact rtn_fnC (vs := [.agg #[.int .i64 2, str ([] : List UInt8)]]) () rfl ⟨⟨b1v, rfl, load_agg 0 Try.isAgg28 Try.sizeOf28 rfl rfl⟩, trivial⟩ rfl (.sel 1 rfl (.sel 1 rfl (.sel 1 rfl (.sel 1 rfl (.nil _)))))
 refine sim_skip ?_
 refine nrm_then (sim_seq (sim_region ?_))
 refine simL_val (q_move rfl rfl) rfl rfl rfl ?_
 refine simL_val (q_build (v := .agg #[.int .i64 1, str ((mget x0_0 x1).getD ([] : List UInt8))]) rfl rfl (fun _ => by kernel_rfl)) rfl rfl rfl ?_
 refine simL_do (re_store 0 rfl rfl rfl Try.sizeOf28 rfl rfl (one_of (by rfl)) rfl rfl) rfl rfl ?_
 intro _
 refine simL_nil (nrm_then (sim_rtn ?_))
 exact rtn_fnC (vs := [.agg #[.int .i64 1, str ((mget x0_0 x1).getD ([] : List UInt8))]]) () rfl ⟨⟨b1v, rfl, load_agg 0 Try.isAgg28 Try.sizeOf28 rfl rfl⟩, trivial⟩ rfl (.sel 1 rfl (.sel 1 rfl (.sel 1 rfl (.sel 1 rfl (.nil _)))))
def kv_Store_Get.v (x0_0 : List ((List UInt8) × (List UInt8))) (x0_1 : List ((Int) × (Int × Int × Int × List UInt8))) (x1 : List UInt8) : Int × List UInt8 := (kv_Store_Get.f x0_0 x0_1 x1).getD (0, [])
theorem kv_Store_Get.tot (x0_0 : List ((List UInt8) × (List UInt8))) (x0_1 : List ((Int) × (Int × Int × Int × List UInt8))) (x1 : List UInt8) : kv_Store_Get.f x0_0 x0_1 x1 = some (kv_Store_Get.v x0_0 x0_1 x1) := by
  have h : ∃ r, kv_Store_Get.f x0_0 x0_1 x1 = some r := by
    unfold kv_Store_Get.f
    repeat' (first | exact ⟨_, rfl⟩ | split | simp only [Option.bind_some])
  obtain ⟨r, h⟩ := h
  unfold kv_Store_Get.v
  rw [h]; rfl

def synodref_Num.f (x0 : Int) : Option (Int) := some x0
theorem synodref_Num.calls (W : World) (F : HA) (x0 : Int)  :
    Fn Try.prog W 13 [.int .i64 x0] [] F (synodref_Num.f x0) (fun (r : Int) (y : Unit) => .int .i64 r) (fun r y => []) := by
 unfold synodref_Num.f
 refine fn_intro 4 Try.func13 rfl Try.ntmps13 rfl ?_
 refine sim_seq (sim_region ?_)
 refine simL_val (q_asg rfl rfl) rfl rfl rfl (simL_nil (nrm_then (sim_seq (sim_region ?_))))
 refine simL_val (q_move rfl rfl) rfl rfl rfl ?_
 refine simL_val (q_asg rfl rfl) rfl rfl rfl (simL_nil (nrm_then (sim_rtn ?_)))
 exact rtn_fn () rfl rfl rfl (.sel 0 rfl (.nil _))
def synodref_Num.v (x0 : Int) : Int := (synodref_Num.f x0).getD 0
theorem synodref_Num.tot (x0 : Int) : synodref_Num.f x0 = some (synodref_Num.v x0) := by
  have h : ∃ r, synodref_Num.f x0 = some r := by
    unfold synodref_Num.f
    repeat' (first | exact ⟨_, rfl⟩ | split | simp only [Option.bind_some])
  obtain ⟨r, h⟩ := h
  unfold synodref_Num.v
  rw [h]; rfl

def kv_Store_Len.f (x0_0 : List ((List UInt8) × (List UInt8))) (x0_1 : List ((Int) × (Int × Int × Int × List UInt8))) : Option (Int) := some (x0_0.length : Int)
theorem kv_Store_Len.calls (W : World) (F : HA) (b0 : Nat) (m0_0 : Nat) (x0_0 : List ((List UInt8) × (List UInt8))) (m0_1 : Nat) (x0_1 : List ((Int) × (Int × Int × Int × List UInt8)))  :
    Fn Try.prog W 25 [.pointer (some ⟨b0, 0, none⟩)] [obj b0 63 [.map (some m0_0), .map (some m0_1)], mapO m0_0 enc9 enc9 x0_0, mapO m0_1 enc3 enc42 x0_1] F (kv_Store_Len.f x0_0 x0_1) (fun (r : Int) (y : Unit) => .int .i64 r) (fun r y => [obj b0 63 [.map (some m0_0), .map (some m0_1)], mapO m0_0 enc9 enc9 x0_0, mapO m0_1 enc3 enc42 x0_1]) := by
 unfold kv_Store_Len.f
 refine fn_intro 8 Try.func25 rfl Try.ntmps25 rfl ?_
 refine sim_seq (sim_region ?_)
 refine simL_val (q_asg rfl rfl) rfl rfl rfl (simL_nil (nrm_then (sim_seq (sim_region ?_))))
 refine simL_val (q_move rfl rfl) rfl rfl rfl ?_
 refine simL_val (q_nil rfl rfl) rfl rfl rfl ?_
 refine simL_val (q_fa rfl rfl Try.underlying63 rfl rfl Try.sizeOf60 rfl) rfl rfl rfl ?_
 refine simL_val (q_load rfl rfl Try.isAgg60 (.obj 0 rfl rfl)) rfl rfl rfl ?_
 refine simL_val (q_mlen 1 rfl rfl rfl Try.underlying60 rfl) rfl rfl rfl ?_
 refine simL_val (q_asg rfl rfl) rfl rfl rfl (simL_nil (nrm_then (sim_rtn ?_)))
 exact rtn_fn () rfl rfl rfl (.sel 0 rfl (.sel 0 rfl (.sel 0 rfl (.sel 0 rfl (.nil _)))))
def kv_Store_Len.v (x0_0 : List ((List UInt8) × (List UInt8))) (x0_1 : List ((Int) × (Int × Int × Int × List UInt8))) : Int := (kv_Store_Len.f x0_0 x0_1).getD 0
theorem kv_Store_Len.tot (x0_0 : List ((List UInt8) × (List UInt8))) (x0_1 : List ((Int) × (Int × Int × Int × List UInt8))) : kv_Store_Len.f x0_0 x0_1 = some (kv_Store_Len.v x0_0 x0_1) := by
  have h : ∃ r, kv_Store_Len.f x0_0 x0_1 = some r := by
    unfold kv_Store_Len.f
    repeat' (first | exact ⟨_, rfl⟩ | split | simp only [Option.bind_some])
  obtain ⟨r, h⟩ := h
  unfold kv_Store_Len.v
  rw [h]; rfl

def synodlaw11_first.f  : Option (Bool) := (kv_New.f).bind fun s1v => ((kv_Store_Do.f s1v.1 s1v.2 (2 : Int) (1 : Int) (1 : Int) ([97] : List UInt8) ([120] : List UInt8) ([] : List UInt8)).bind fun s4v => ((kv_Store_Do.f s4v.2.2.2.1 s4v.2.2.2.2 (2 : Int) (1 : Int) (1 : Int) ([97] : List UInt8) ([121] : List UInt8) ([] : List UInt8)).bind fun s8v => ((kv_Store_Do.f s8v.2.2.2.1 s8v.2.2.2.2 (4 : Int) (2 : Int) (1 : Int) ([97] : List UInt8) ([122] : List UInt8) ([121] : List UInt8)).bind fun s12v => ((kv_Store_Do.f s12v.2.2.2.1 s12v.2.2.2.2 (1 : Int) (0 : Int) (0 : Int) ([] : List UInt8) ([] : List UInt8) ([] : List UInt8)).bind fun s16v => ((if (((decide (s4v.1 = (1 : Int)) && (decide (s4v.2.1 = ([] : List UInt8)))) && (decide (s8v.1 = s4v.1) && (decide (s8v.2.1 = s4v.2.1)))) && (decide (s12v.1 = (3 : Int)) && (decide (s12v.2.1 = ([120] : List UInt8))))) = true then ((kv_Store_Get.f s16v.2.2.2.1 s16v.2.2.2.2 ([97] : List UInt8)).bind fun s22v => (some (decide (s22v.1 = (1 : Int)) && (decide (s22v.2 = ([120] : List UInt8)))))) else (some false)).bind fun s20v => ((if s20v = true then ((synodref_Num.f s4v.2.2.1).bind fun s29v => (some (decide (s29v = (0 : Int))))) else (some false)).bind fun s27v => ((if s27v = true then ((synodref_Num.f s16v.2.2.1).bind fun s36v => (some (decide (s36v = (6 : Int))))) else (some false)).bind fun s34v => ((if s34v = true then ((kv_Store_Len.f s16v.2.2.2.1 s16v.2.2.2.2).bind fun s43v => (some (decide (s43v = (1 : Int))))) else (some false)).bind fun s41v => (some s41v)))))))))
theorem synodlaw11_first.calls (W : World) (F : HA)   :
    Fn Try.prog W 9 [] [] F (synodlaw11_first.f ) (fun (r : Bool) (y : Unit) => .bool r) (fun r y => []) := by
 unfold synodlaw11_first.f
 refine fn_intro 71 Try.func9 rfl Try.ntmps9 rfl ?_
 refine sim_seq (sim_region ?_)
 refine simL_val (q_asg rfl rfl) rfl rfl rfl (simL_nil (nrm_then (sim_seq (sim_region ?_))))
 refine simL_bind (fun s1v hs3v => ?_)
 refine simL_eff (re_call (vs := []) (cap := []) (A := []) (rst := [F]) rfl rfl rfl rfl rfl rfl Try.call11 (.sel 0 rfl (.nil _)) (kv_New.calls _ _  ) hs3v) rfl rfl rfl ?_
 intro y2v
 refine simL_val (q_asg rfl rfl) rfl rfl rfl (simL_nil (nrm_then (sim_seq (sim_seq (sim_region ?_)))))
 refine simL_val (q_move rfl rfl) rfl rfl rfl ?_
 refine simL_val (q_eqp rfl rfl rfl Try.underlying25) rfl rfl rfl (simL_nil (nrm_then ?_))
 refine sim_false rfl ?_
 refine sim_skip ?_
 refine nrm_then (sim_seq (sim_region ?_))
 refine simL_val (q_move rfl rfl) rfl rfl rfl ?_
 refine simL_val (q_build (v := .agg #[.int .i64 2, .int .i64 1, .int .i64 1, str ([97] : List UInt8), str ([120] : List UInt8), str ([] : List UInt8)]) rfl rfl (fun _ => by kernel_rfl)) rfl rfl rfl ?_
 refine simL_bind (fun s4v hs6v => ?_)
 refine simL_eff (re_call (vs := [.pointer (some ⟨y2v.1, 0, none⟩), .agg #[.int .i64 2, .int .i64 1, .int .i64 1, str ([97] : List UInt8), str ([120] : List UInt8), str ([] : List UInt8)]]) (cap := []) (A := [obj y2v.1 63 [.map (some y2v.2.1), .map (some y2v.2.2)], mapO y2v.2.1 enc9 enc9 s1v.1, mapO y2v.2.2 enc3 enc42 s1v.2]) (rst := [F]) rfl rfl rfl rfl rfl rfl Try.call12 (.sel 0 rfl (.sel 0 rfl (.sel 0 rfl (.sel 0 rfl (.nil _))))) (kv_Store_Do.calls _ _ y2v.1 y2v.2.1 s1v.1 y2v.2.2 s1v.2 (2 : Int) (1 : Int) (1 : Int) ([97] : List UInt8) ([120] : List UInt8) ([] : List UInt8) ) hs6v) rfl rfl rfl ?_
 intro y5v
 refine simL_val (q_move rfl rfl) rfl rfl rfl ?_
 refine simL_val (q_ext rfl rfl rfl) rfl rfl rfl ?_
 refine simL_val (q_ext rfl rfl rfl) rfl rfl rfl ?_
 refine simL_eff (re_alloc rfl Try.zeroValue28 rfl) rfl rfl rfl ?_
 intro b7v
 refine simL_do (re_store 0 rfl rfl rfl Try.sizeOf28 rfl rfl (one_of (by rfl)) rfl rfl) rfl rfl ?_
 intro _
 refine simL_val (q_asg rfl rfl) rfl rfl rfl (simL_nil (nrm_then (sim_seq (sim_region ?_))))
 refine simL_val (q_move rfl rfl) rfl rfl rfl ?_
 refine simL_val (q_build (v := .agg #[.int .i64 2, .int .i64 1, .int .i64 1, str ([97] : List UInt8), str ([121] : List UInt8), str ([] : List UInt8)]) rfl rfl (fun _ => by kernel_rfl)) rfl rfl rfl ?_
 refine simL_bind (fun s8v hs10v => ?_)
 refine simL_eff (re_call (vs := [.pointer (some ⟨y2v.1, 0, none⟩), .agg #[.int .i64 2, .int .i64 1, .int .i64 1, str ([97] : List UInt8), str ([121] : List UInt8), str ([] : List UInt8)]]) (cap := []) (A := [obj y2v.1 63 [.map (some y5v.1), .map (some y5v.2)], mapO y5v.1 enc9 enc9 s4v.2.2.2.1, mapO y5v.2 enc3 enc42 s4v.2.2.2.2]) (rst := [obj b7v 28 [.int .i64 s4v.1, str s4v.2.1], F]) rfl rfl rfl rfl rfl rfl Try.call12 (.sel 1 rfl (.sel 1 rfl (.sel 1 rfl (.sel 0 rfl (.sel 0 rfl (.nil _)))))) (kv_Store_Do.calls _ _ y2v.1 y5v.1 s4v.2.2.2.1 y5v.2 s4v.2.2.2.2 (2 : Int) (1 : Int) (1 : Int) ([97] : List UInt8) ([121] : List UInt8) ([] : List UInt8) ) hs10v) rfl rfl rfl ?_
 intro y9v
 refine simL_val (q_move rfl rfl) rfl rfl rfl ?_
 refine simL_val (q_ext rfl rfl rfl) rfl rfl rfl ?_
 refine simL_val (q_ext rfl rfl rfl) rfl rfl rfl ?_
 refine simL_eff (re_alloc rfl Try.zeroValue28 rfl) rfl rfl rfl ?_
 intro b11v
 refine simL_do (re_store 0 rfl rfl rfl Try.sizeOf28 rfl rfl (one_of (by rfl)) rfl rfl) rfl rfl ?_
 intro _
 refine simL_val (q_asg rfl rfl) rfl rfl rfl (simL_nil (nrm_then (sim_seq (sim_region ?_))))
 refine simL_val (q_move rfl rfl) rfl rfl rfl ?_
 refine simL_val (q_build (v := .agg #[.int .i64 4, .int .i64 2, .int .i64 1, str ([97] : List UInt8), str ([122] : List UInt8), str ([121] : List UInt8)]) rfl rfl (fun _ => by kernel_rfl)) rfl rfl rfl ?_
 refine simL_bind (fun s12v hs14v => ?_)
 refine simL_eff (re_call (vs := [.pointer (some ⟨y2v.1, 0, none⟩), .agg #[.int .i64 4, .int .i64 2, .int .i64 1, str ([97] : List UInt8), str ([122] : List UInt8), str ([121] : List UInt8)]]) (cap := []) (A := [obj y2v.1 63 [.map (some y9v.1), .map (some y9v.2)], mapO y9v.1 enc9 enc9 s8v.2.2.2.1, mapO y9v.2 enc3 enc42 s8v.2.2.2.2]) (rst := [obj b11v 28 [.int .i64 s8v.1, str s8v.2.1], obj b7v 28 [.int .i64 s4v.1, str s4v.2.1], F]) rfl rfl rfl rfl rfl rfl Try.call12 (.sel 1 rfl (.sel 1 rfl (.sel 1 rfl (.sel 0 rfl (.sel 0 rfl (.sel 0 rfl (.nil _))))))) (kv_Store_Do.calls _ _ y2v.1 y9v.1 s8v.2.2.2.1 y9v.2 s8v.2.2.2.2 (4 : Int) (2 : Int) (1 : Int) ([97] : List UInt8) ([122] : List UInt8) ([121] : List UInt8) ) hs14v) rfl rfl rfl ?_
 intro y13v
 refine simL_val (q_move rfl rfl) rfl rfl rfl ?_
 refine simL_val (q_ext rfl rfl rfl) rfl rfl rfl ?_
 refine simL_val (q_ext rfl rfl rfl) rfl rfl rfl ?_
 refine simL_eff (re_alloc rfl Try.zeroValue28 rfl) rfl rfl rfl ?_
 intro b15v
 refine simL_do (re_store 0 rfl rfl rfl Try.sizeOf28 rfl rfl (one_of (by rfl)) rfl rfl) rfl rfl ?_
 intro _
 refine simL_val (q_asg rfl rfl) rfl rfl rfl (simL_nil (nrm_then (sim_seq (sim_region ?_))))
 refine simL_val (q_move rfl rfl) rfl rfl rfl ?_
 refine simL_val (q_build (v := .agg #[.int .i64 1, .int .i64 0, .int .i64 0, str ([] : List UInt8), str ([] : List UInt8), str ([] : List UInt8)]) rfl rfl (fun _ => by kernel_rfl)) rfl rfl rfl ?_
 refine simL_bind (fun s16v hs18v => ?_)
 refine simL_eff (re_call (vs := [.pointer (some ⟨y2v.1, 0, none⟩), .agg #[.int .i64 1, .int .i64 0, .int .i64 0, str ([] : List UInt8), str ([] : List UInt8), str ([] : List UInt8)]]) (cap := []) (A := [obj y2v.1 63 [.map (some y13v.1), .map (some y13v.2)], mapO y13v.1 enc9 enc9 s12v.2.2.2.1, mapO y13v.2 enc3 enc42 s12v.2.2.2.2]) (rst := [obj b15v 28 [.int .i64 s12v.1, str s12v.2.1], obj b11v 28 [.int .i64 s8v.1, str s8v.2.1], obj b7v 28 [.int .i64 s4v.1, str s4v.2.1], F]) rfl rfl rfl rfl rfl rfl Try.call12 (.sel 1 rfl (.sel 1 rfl (.sel 1 rfl (.sel 0 rfl (.sel 0 rfl (.sel 0 rfl (.sel 0 rfl (.nil _)))))))) (kv_Store_Do.calls _ _ y2v.1 y13v.1 s12v.2.2.2.1 y13v.2 s12v.2.2.2.2 (1 : Int) (0 : Int) (0 : Int) ([] : List UInt8) ([] : List UInt8) ([] : List UInt8) ) hs18v) rfl rfl rfl ?_
 intro y17v
 refine simL_val (q_move rfl rfl) rfl rfl rfl ?_
 refine simL_val (q_ext rfl rfl rfl) rfl rfl rfl ?_
 refine simL_val (q_ext rfl rfl rfl) rfl rfl rfl ?_
 refine simL_eff (re_alloc rfl Try.zeroValue28 rfl) rfl rfl rfl ?_
 intro b19v
 refine simL_do (re_store 0 rfl rfl rfl Try.sizeOf28 rfl rfl (one_of (by rfl)) rfl rfl) rfl rfl ?_
 intro _
 refine simL_val (q_asg rfl rfl) rfl rfl rfl (simL_nil (nrm_then (sim_seq (sim_region ?_))))
 refine simL_val (q_loado 6 rfl rfl Try.isAgg28 Try.sizeOf28 rfl rfl) rfl rfl rfl ?_
 refine simL_val (q_build (v := .agg #[.int .i64 1, str ([] : List UInt8)]) rfl rfl (fun _ => by kernel_rfl)) rfl rfl rfl ?_
 refine simL_val (q_eqagg rfl rfl rfl (by kernel_rfl) (fun d w => eqi_struct Try.underlying28 (by kernel_rfl) (eqf_cons (by rfl) (part_of Try.isAgg3 rfl) (part_of Try.isAgg3 rfl) (eqi_int Try.underlying3) (eqf_last (by rfl) (part_of Try.isAgg9 rfl) (part_of Try.isAgg9 rfl) (eqi_str Try.underlying9))))) rfl rfl rfl ?_
 refine simL_val (q_move rfl rfl) rfl rfl rfl ?_
 refine simL_valc (b := decide (s4v.1 = (1 : Int)) && (decide (s4v.2.1 = ([] : List UInt8)))) (fun hb53v => RQ.sub (E' := [(4, .pointer (some ⟨b11v, 0, none⟩))]) ⟨rfl, trivial⟩ (q_loado 5 rfl rfl Try.isAgg28 Try.sizeOf28 rfl rfl)) rfl rfl rfl rfl rfl ?_
 refine simL_valc (b := decide (s4v.1 = (1 : Int)) && (decide (s4v.2.1 = ([] : List UInt8)))) (fun hb52v => RQ.sub (E' := [(2, .pointer (some ⟨b7v, 0, none⟩))]) ⟨rfl, trivial⟩ (q_loado 6 rfl rfl Try.isAgg28 Try.sizeOf28 rfl rfl)) rfl rfl rfl rfl rfl ?_
 refine simL_valc (b := decide (s4v.1 = (1 : Int)) && (decide (s4v.2.1 = ([] : List UInt8)))) (fun hb51v => RQ.sub (E' := [(41, .agg #[.int .i64 s8v.1, str s8v.2.1]), (42, .agg #[.int .i64 s4v.1, str s4v.2.1])]) ⟨lk_cv rfl hb51v, lk_cv rfl hb51v, trivial⟩ (q_eqagg rfl rfl rfl (by kernel_rfl) (fun d w => eqi_struct Try.underlying28 (by kernel_rfl) (eqf_cons (by rfl) (part_of Try.isAgg3 rfl) (part_of Try.isAgg3 rfl) (eqi_int Try.underlying3) (eqf_last (by rfl) (part_of Try.isAgg9 rfl) (part_of Try.isAgg9 rfl) (eqi_str Try.underlying9)))))) rfl rfl rfl rfl rfl ?_
 refine simL_val (q_and rfl rfl rfl) rfl rfl rfl ?_
 refine simL_val (q_move rfl rfl) rfl rfl rfl ?_
 refine simL_valc (b := (decide (s4v.1 = (1 : Int)) && (decide (s4v.2.1 = ([] : List UInt8)))) && (decide (s8v.1 = s4v.1) && (decide (s8v.2.1 = s4v.2.1)))) (fun hb50v => RQ.sub (E' := [(6, .pointer (some ⟨b15v, 0, none⟩))]) ⟨rfl, trivial⟩ (q_loado 4 rfl rfl Try.isAgg28 Try.sizeOf28 rfl rfl)) rfl rfl rfl rfl rfl ?_
 refine simL_valc (b := (decide (s4v.1 = (1 : Int)) && (decide (s4v.2.1 = ([] : List UInt8)))) && (decide (s8v.1 = s4v.1) && (decide (s8v.2.1 = s4v.2.1)))) (fun hb49v => RQ.sub (E' := []) trivial (q_build (v := .agg #[.int .i64 3, str ([120] : List UInt8)]) rfl rfl (fun _ => by kernel_rfl))) rfl rfl rfl rfl rfl ?_
 refine simL_valc (b := (decide (s4v.1 = (1 : Int)) && (decide (s4v.2.1 = ([] : List UInt8)))) && (decide (s8v.1 = s4v.1) && (decide (s8v.2.1 = s4v.2.1)))) (fun hb48v => RQ.sub (E' := [(46, .agg #[.int .i64 s12v.1, str s12v.2.1]), (47, .agg #[.int .i64 3, str ([120] : List UInt8)])]) ⟨lk_cv rfl hb48v, lk_cv rfl hb48v, trivial⟩ (q_eqagg rfl rfl rfl (by kernel_rfl) (fun d w => eqi_struct Try.underlying28 (by kernel_rfl) (eqf_cons (by rfl) (part_of Try.isAgg3 rfl) (part_of Try.isAgg3 rfl) (eqi_int Try.underlying3) (eqf_last (by rfl) (part_of Try.isAgg9 rfl) (part_of Try.isAgg9 rfl) (eqi_str Try.underlying9)))))) rfl rfl rfl rfl rfl ?_
 refine simL_val (q_and rfl rfl rfl) rfl rfl rfl ?_
 refine simL_val (q_move rfl rfl) rfl rfl rfl ?_
 refine simL_cut' 5 (S := Bool) (Unit) (fun s y => [(1, .pointer (some ⟨y2v.1, 0, none⟩)), (3, .int .i64 s4v.2.2.1), (9, .int .i64 s16v.2.2.1), (55, .bool s)]) (fun s y => [obj y2v.1 63 [.map (some y17v.1), .map (some y17v.2)], mapO y17v.1 enc9 enc9 s16v.2.2.2.1, mapO y17v.2 enc3 enc42 s16v.2.2.2.2, F]) ?_ ?_
 refine simL_caseb (fun hb25v => ?_) (fun hb26v => ?_)
 rw [hb25v]
 refine simL_valg (q_move rfl rfl) rfl rfl rfl rfl rfl rfl ?_
 refine simL_bind (fun s22v hs24v => ?_)
 refine simL_effg (re_call (vs := [.pointer (some ⟨y2v.1, 0, none⟩), str ([97] : List UInt8)]) (cap := []) (A := [obj y2v.1 63 [.map (some y17v.1), .map (some y17v.2)], mapO y17v.1 enc9 enc9 s16v.2.2.2.1, mapO y17v.2 enc3 enc42 s16v.2.2.2.2]) (rst := [obj b19v 28 [.int .i64 s16v.1, str s16v.2.1], obj b15v 28 [.int .i64 s12v.1, str s12v.2.1], obj b11v 28 [.int .i64 s8v.1, str s8v.2.1], obj b7v 28 [.int .i64 s4v.1, str s4v.2.1], F]) rfl rfl rfl rfl rfl rfl Try.call19 (.sel 1 rfl (.sel 1 rfl (.sel 1 rfl (.sel 0 rfl (.sel 0 rfl (.sel 0 rfl (.sel 0 rfl (.sel 0 rfl (.nil _))))))))) (kv_Store_Get.calls _ _ y2v.1 y17v.1 s16v.2.2.2.1 y17v.2 s16v.2.2.2.2 ([97] : List UInt8) ) hs24v) rfl rfl rfl rfl rfl rfl ?_
 intro y23v
 refine simL_valg (q_build (v := .agg #[.int .i64 1, str ([120] : List UInt8)]) rfl rfl (fun _ => by kernel_rfl)) rfl rfl rfl rfl rfl rfl ?_
 refine simL_valg (q_eqagg rfl rfl rfl (by kernel_rfl) (fun d w => eqi_struct Try.underlying28 (by kernel_rfl) (eqf_cons (by rfl) (part_of Try.isAgg3 rfl) (part_of Try.isAgg3 rfl) (eqi_int Try.underlying3) (eqf_last (by rfl) (part_of Try.isAgg9 rfl) (part_of Try.isAgg9 rfl) (eqi_str Try.underlying9))))) rfl rfl rfl rfl rfl rfl ?_
 refine simL_val (q_pick rfl rfl rfl rfl rfl) rfl rfl rfl (simL_nil ?_)
 exact nrm_cut (s := decide (s22v.1 = (1 : Int)) && (decide (s22v.2 = ([120] : List UInt8)))) () ⟨rfl, rfl, rfl, rfl, trivial⟩ (.sel 0 rfl (.sel 0 rfl (.sel 0 rfl (.sel 4 rfl (.nil _)))))
 rw [hb26v]
 refine simL_skipd rfl rfl rfl rfl rfl rfl ?_
 refine simL_skipd rfl rfl rfl rfl rfl rfl ?_
 refine simL_skipd rfl rfl rfl rfl rfl rfl ?_
 refine simL_skipd rfl rfl rfl rfl rfl rfl ?_
 refine simL_val (q_pick rfl rfl rfl rfl rfl) rfl rfl rfl (simL_nil ?_)
 exact nrm_cut (s := false) () ⟨rfl, rfl, rfl, rfl, trivial⟩ (.sel 1 rfl (.sel 1 rfl (.sel 1 rfl (.sel 4 rfl (.nil _)))))
 intro s20v y21v
 refine simL_val (q_move rfl rfl) rfl rfl rfl ?_
 refine simL_cut' 4 (S := Bool) (Unit) (fun s y => [(1, .pointer (some ⟨y2v.1, 0, none⟩)), (9, .int .i64 s16v.2.2.1), (60, .bool s)]) (fun s y => [obj y2v.1 63 [.map (some y17v.1), .map (some y17v.2)], mapO y17v.1 enc9 enc9 s16v.2.2.2.1, mapO y17v.2 enc3 enc42 s16v.2.2.2.2, F]) ?_ ?_
 refine simL_caseb (fun hb32v => ?_) (fun hb33v => ?_)
 rw [hb32v]
 refine simL_valg (q_move rfl rfl) rfl rfl rfl rfl rfl rfl ?_
 refine simL_bind (fun s29v hs31v => ?_)
 refine simL_effg (re_call (vs := [.int .i64 s4v.2.2.1]) (cap := []) (A := []) (rst := [obj y2v.1 63 [.map (some y17v.1), .map (some y17v.2)], mapO y17v.1 enc9 enc9 s16v.2.2.2.1, mapO y17v.2 enc3 enc42 s16v.2.2.2.2, F]) rfl rfl rfl rfl rfl rfl Try.call13 (.sel 0 rfl (.sel 0 rfl (.sel 0 rfl (.sel 0 rfl (.nil _))))) (synodref_Num.calls _ _ s4v.2.2.1 ) hs31v) rfl rfl rfl rfl rfl rfl ?_
 intro y30v
 refine simL_valg (q_eql rfl rfl rfl) rfl rfl rfl rfl rfl rfl ?_
 refine simL_val (q_pick rfl rfl rfl rfl rfl) rfl rfl rfl (simL_nil ?_)
 exact nrm_cut (s := decide (s29v = (0 : Int))) () ⟨rfl, rfl, rfl, trivial⟩ (.sel 0 rfl (.sel 0 rfl (.sel 0 rfl (.sel 0 rfl (.nil _)))))
 rw [hb33v]
 refine simL_skipd rfl rfl rfl rfl rfl rfl ?_
 refine simL_skipd rfl rfl rfl rfl rfl rfl ?_
 refine simL_skipd rfl rfl rfl rfl rfl rfl ?_
 refine simL_val (q_pick rfl rfl rfl rfl rfl) rfl rfl rfl (simL_nil ?_)
 exact nrm_cut (s := false) () ⟨rfl, rfl, rfl, trivial⟩ (.sel 0 rfl (.sel 0 rfl (.sel 0 rfl (.sel 0 rfl (.nil _)))))
 intro s27v y28v
 refine simL_val (q_move rfl rfl) rfl rfl rfl ?_
 refine simL_cut' 4 (S := Bool) (Unit) (fun s y => [(1, .pointer (some ⟨y2v.1, 0, none⟩)), (65, .bool s)]) (fun s y => [obj y2v.1 63 [.map (some y17v.1), .map (some y17v.2)], mapO y17v.1 enc9 enc9 s16v.2.2.2.1, mapO y17v.2 enc3 enc42 s16v.2.2.2.2, F]) ?_ ?_
 refine simL_caseb (fun hb39v => ?_) (fun hb40v => ?_)
 rw [hb39v]
 refine simL_valg (q_move rfl rfl) rfl rfl rfl rfl rfl rfl ?_
 refine simL_bind (fun s36v hs38v => ?_)
 refine simL_effg (re_call (vs := [.int .i64 s16v.2.2.1]) (cap := []) (A := []) (rst := [obj y2v.1 63 [.map (some y17v.1), .map (some y17v.2)], mapO y17v.1 enc9 enc9 s16v.2.2.2.1, mapO y17v.2 enc3 enc42 s16v.2.2.2.2, F]) rfl rfl rfl rfl rfl rfl Try.call13 (.sel 0 rfl (.sel 0 rfl (.sel 0 rfl (.sel 0 rfl (.nil _))))) (synodref_Num.calls _ _ s16v.2.2.1 ) hs38v) rfl rfl rfl rfl rfl rfl ?_
 intro y37v
 refine simL_valg (q_eql rfl rfl rfl) rfl rfl rfl rfl rfl rfl ?_
 refine simL_val (q_pick rfl rfl rfl rfl rfl) rfl rfl rfl (simL_nil ?_)
 exact nrm_cut (s := decide (s36v = (6 : Int))) () ⟨rfl, rfl, trivial⟩ (.sel 0 rfl (.sel 0 rfl (.sel 0 rfl (.sel 0 rfl (.nil _)))))
 rw [hb40v]
 refine simL_skipd rfl rfl rfl rfl rfl rfl ?_
 refine simL_skipd rfl rfl rfl rfl rfl rfl ?_
 refine simL_skipd rfl rfl rfl rfl rfl rfl ?_
 refine simL_val (q_pick rfl rfl rfl rfl rfl) rfl rfl rfl (simL_nil ?_)
 exact nrm_cut (s := false) () ⟨rfl, rfl, trivial⟩ (.sel 0 rfl (.sel 0 rfl (.sel 0 rfl (.sel 0 rfl (.nil _)))))
 intro s34v y35v
 refine simL_val (q_move rfl rfl) rfl rfl rfl ?_
 refine simL_cut' 4 (S := Bool) (Unit) (fun s y => [(70, .bool s)]) (fun s y => [F]) ?_ ?_
 refine simL_caseb (fun hb46v => ?_) (fun hb47v => ?_)
 rw [hb46v]
 refine simL_valg (q_move rfl rfl) rfl rfl rfl rfl rfl rfl ?_
 refine simL_bind (fun s43v hs45v => ?_)
 refine simL_effg (re_call (vs := [.pointer (some ⟨y2v.1, 0, none⟩)]) (cap := []) (A := [obj y2v.1 63 [.map (some y17v.1), .map (some y17v.2)], mapO y17v.1 enc9 enc9 s16v.2.2.2.1, mapO y17v.2 enc3 enc42 s16v.2.2.2.2]) (rst := [F]) rfl rfl rfl rfl rfl rfl Try.call25 (.sel 0 rfl (.sel 0 rfl (.sel 0 rfl (.sel 0 rfl (.nil _))))) (kv_Store_Len.calls _ _ y2v.1 y17v.1 s16v.2.2.2.1 y17v.2 s16v.2.2.2.2 ) hs45v) rfl rfl rfl rfl rfl rfl ?_
 intro y44v
 refine simL_valg (q_eql rfl rfl rfl) rfl rfl rfl rfl rfl rfl ?_
 refine simL_val (q_pick rfl rfl rfl rfl rfl) rfl rfl rfl (simL_nil ?_)
 exact nrm_cut (s := decide (s43v = (1 : Int))) () ⟨rfl, trivial⟩ (.sel 3 rfl (.nil _))
 rw [hb47v]
 refine simL_skipd rfl rfl rfl rfl rfl rfl ?_
 refine simL_skipd rfl rfl rfl rfl rfl rfl ?_
 refine simL_skipd rfl rfl rfl rfl rfl rfl ?_
 refine simL_val (q_pick rfl rfl rfl rfl rfl) rfl rfl rfl (simL_nil ?_)
 exact nrm_cut (s := false) () ⟨rfl, trivial⟩ (.sel 3 rfl (.nil _))
 intro s41v y42v
 refine simL_val (q_asg rfl rfl) rfl rfl rfl (simL_nil (nrm_then (sim_rtn ?_)))
 exact rtn_fn () rfl rfl rfl (.sel 0 rfl (.nil _))

def synodlaw11_few.l0 (x0 : List (Ty33)) : Nat → Int → Int → Option (Int)
  | 0, _, _ => none
  | k + 1, z5v, z6v => if ((decide (z6v < (x0.length : Int))) && (decide (z6v < (400 : Int)))) = true then (if 0 ≤ z6v ∧ z6v < (x0.length : Int) then (if 0 ≤ z6v ∧ z6v < (x0.length : Int) then (if 0 ≤ z6v ∧ z6v < (x0.length : Int) then (synodlaw11_few.l0 x0 k (min (IntKind.i64.wrap ((IntKind.i64.wrap ((IntKind.i64.wrap (z5v + (min (((x0.getD z6v.toNat dz33).2.2.2.1).length : Int) (40000 : Int)))) + (min (((x0.getD z6v.toNat dz33).2.2.2.2.1).length : Int) (40000 : Int)))) + (min (((x0.getD z6v.toNat dz33).2.2.2.2.2).length : Int) (40000 : Int)))) (80000 : Int)) (IntKind.i64.wrap (z6v + 1))) else none) else none) else none) else (some z5v)
def synodlaw11_few.f (k : Nat) (x0 : List (Ty33)) : Option (Bool) := (synodlaw11_few.l0 x0 k 0 0).bind fun s1v => (some ((decide ((x0.length : Int) ≤ (400 : Int))) && (decide (s1v ≤ (40000 : Int)))))
theorem synodlaw11_few.calls (W : World) (F : HA) (k : Nat) (a0 : Option Addr) (c0 : Nat) (x0 : List (Ty33)) (h0 : RdV F 6 (V33 tt) a0 x0) (hc0 : x0.length ≤ c0) (hm0 : c0 ≤ maxLen) :
    Fn Try.prog W 10 [.slice a0 x0.length c0] [] F (synodlaw11_few.f k x0) (fun (r : Bool) (y : Unit) => .bool r) (fun r y => []) := by
 unfold synodlaw11_few.f
 refine fn_intro 49 Try.func10 rfl Try.ntmps10 rfl ?_
 refine sim_seq (sim_region ?_)
 refine simL_val (q_asg rfl rfl) rfl rfl rfl (simL_nil (nrm_then (sim_seq (sim_region ?_))))
 refine simL_val (q_asg rfl rfl) rfl rfl rfl (simL_nil (nrm_then ?_))
 refine sim_cut (S := Int) (Unit) (fun s y => [(0, .slice a0 x0.length c0), (3, .int .i64 s)]) (fun s y => [F]) ?_ ?_
 refine sim_seq (sim_region ?_)
 refine simL_val (q_asg rfl rfl) rfl rfl rfl (simL_nil (nrm_then ?_))
 refine sim_block ?_
 refine sim_loop (S := Int × Int) (Unit) (fun k s => synodlaw11_few.l0 x0 k s.1 s.2) (fun s y => [(0, .slice a0 x0.length c0), (3, .int .i64 s.1), (4, .int .i64 s.2)]) (fun s y => [F]) (fun _ => by rw [synodlaw11_few.l0]) ?_ k (0, 0) () ⟨rfl, rfl, rfl, trivial⟩ (.sel 0 rfl (.nil _))
 intro k s3v y4v
 refine sim_eq (by rw [synodlaw11_few.l0]) ?_
 refine sim_seq (sim_seq (sim_region ?_))
 refine simL_val (q_move rfl rfl) rfl rfl rfl ?_
 refine simL_val (q_move rfl rfl) rfl rfl rfl ?_
 refine simL_val (q_len rfl rfl rfl Try.underlying22) rfl rfl rfl ?_
 refine simL_val (q_lss rfl rfl rfl) rfl rfl rfl ?_
 refine simL_val (q_move rfl rfl) rfl rfl rfl ?_
 refine simL_valc (b := decide (s3v.2 < (x0.length : Int))) (fun hb35v => RQ.sub (E' := [(4, .int .i64 s3v.2)]) ⟨rfl, trivial⟩ (q_move rfl rfl)) rfl rfl rfl rfl rfl ?_
 refine simL_valc (b := decide (s3v.2 < (x0.length : Int))) (fun hb34v => RQ.sub (E' := [(10, .int .i64 s3v.2)]) ⟨lk_cv rfl hb34v, trivial⟩ (q_lss rfl rfl rfl)) rfl rfl rfl rfl rfl ?_
 refine simL_val (q_and rfl rfl rfl) rfl rfl rfl (simL_nil (nrm_then ?_))
 refine sim_condb rfl (fun h7v => ?_) (fun h8v => ?_)
 refine sim_skip ?_
 refine nrm_then (sim_seq ?_)
 refine sim_block ?_
 refine sim_seq ?_
 refine sim_ask (fun hi9v => ?_)
 obtain ⟨b10v, b10vo, r13v, ha11v, hV14v, hlr15v, hcell16v⟩ := RdV.pos h0 (Up.refl _) rfl (i := s3v.2.toNat) (by omega) dz33
 obtain rfl := hV14v
 refine sim_ask (fun hi17v => ?_)
 obtain ⟨b18v, b18vo, r21v, ha19v, hV22v, hlr23v, hcell24v⟩ := RdV.pos h0 (Up.refl _) rfl (i := s3v.2.toNat) (by omega) dz33
 obtain rfl := hV22v
 refine sim_ask (fun hi25v => ?_)
 obtain ⟨b26v, b26vo, r29v, ha27v, hV30v, hlr31v, hcell32v⟩ := RdV.pos h0 (Up.refl _) rfl (i := s3v.2.toNat) (by omega) dz33
 obtain rfl := hV30v
 refine sim_draw (Γ := Unit) () [[], [], [], [1, 2], [1, 2, 3], [1, 2, 3, 4], [1, 2, 3, 4, 5], [1, 2, 3, 4, 5, 6], [0, 1, 2, 3, 4, 5, 6, 7], [], [], [9, 10], [9, 10, 11], [9, 10, 11, 12], [9, 10, 11, 12, 13], [9, 10, 11, 12, 13, 14], [0, 1, 2, 3, 4, 5, 6, 7, 8, 9, 10, 11, 12, 13, 14, 15], [], [], [17, 18], [17, 18, 19], [17, 18, 19, 20], [17, 18, 19, 20, 21], [17, 18, 19, 20, 21, 22], [0, 1, 2, 3, 4, 5, 6, 7, 8, 9, 10, 11, 12, 13, 14, 15, 16, 17, 18, 19, 20, 21, 22, 23], [0, 1, 2, 3, 4, 5, 6, 7, 8, 9, 10, 11, 12, 13, 14, 15, 16, 17, 18, 19, 20, 21, 22, 23, 24]] [] [0, 1, 2, 3, 4, 5, 6, 7, 8, 9, 10, 11, 12, 13, 14, 15, 16, 17, 18, 19, 20, 21, 22, 23, 24, 25] (fun i => [[0], [0], [0], [0], [0], [0], [0], [0], [0], [0], [0], [0], [0], [0], [0], [0], [0], [0], [0], [0], [0], [0], [0], [0], [0], [0]].getD i []) (fun i => [[], [], [], [], [], [], [], [], [], [], [], [], [], [], [], [], [], [], [], [], [], [], [], [], [], []].getD i []) (fun γ i => [.int .i64 s3v.1, .slice a0 x0.length c0, .int .i64 s3v.2, .pointer (some ⟨b10v, b10vo + s3v.2.toNat * 6, none⟩), .pointer (some ⟨b10v, b10vo + s3v.2.toNat * 6 + 3, none⟩), str ((x0.getD s3v.2.toNat dz33).2.2.2.1), .int .i64 (((x0.getD s3v.2.toNat dz33).2.2.2.1).length : Int), .int .i64 (min (((x0.getD s3v.2.toNat dz33).2.2.2.1).length : Int) (40000 : Int)), .int .i64 (IntKind.i64.wrap (s3v.1 + (min (((x0.getD s3v.2.toNat dz33).2.2.2.1).length : Int) (40000 : Int)))), .slice a0 x0.length c0, .int .i64 s3v.2, .pointer (some ⟨b18v, b18vo + s3v.2.toNat * 6, none⟩), .pointer (some ⟨b18v, b18vo + s3v.2.toNat * 6 + 4, none⟩), str ((x0.getD s3v.2.toNat dz33).2.2.2.2.1), .int .i64 (((x0.getD s3v.2.toNat dz33).2.2.2.2.1).length : Int), .int .i64 (min (((x0.getD s3v.2.toNat dz33).2.2.2.2.1).length : Int) (40000 : Int)), .int .i64 (IntKind.i64.wrap ((IntKind.i64.wrap (s3v.1 + (min (((x0.getD s3v.2.toNat dz33).2.2.2.1).length : Int) (40000 : Int)))) + (min (((x0.getD s3v.2.toNat dz33).2.2.2.2.1).length : Int) (40000 : Int)))), .slice a0 x0.length c0, .int .i64 s3v.2, .pointer (some ⟨b26v, b26vo + s3v.2.toNat * 6, none⟩), .pointer (some ⟨b26v, b26vo + s3v.2.toNat * 6 + 5, none⟩), str ((x0.getD s3v.2.toNat dz33).2.2.2.2.2), .int .i64 (((x0.getD s3v.2.toNat dz33).2.2.2.2.2).length : Int), .int .i64 (min (((x0.getD s3v.2.toNat dz33).2.2.2.2.2).length : Int) (40000 : Int)), .int .i64 (IntKind.i64.wrap ((IntKind.i64.wrap ((IntKind.i64.wrap (s3v.1 + (min (((x0.getD s3v.2.toNat dz33).2.2.2.1).length : Int) (40000 : Int)))) + (min (((x0.getD s3v.2.toNat dz33).2.2.2.2.1).length : Int) (40000 : Int)))) + (min (((x0.getD s3v.2.toNat dz33).2.2.2.2.2).length : Int) (40000 : Int)))), .int .i64 (IntKind.i64.wrap ((IntKind.i64.wrap ((IntKind.i64.wrap (s3v.1 + (min (((x0.getD s3v.2.toNat dz33).2.2.2.1).length : Int) (40000 : Int)))) + (min (((x0.getD s3v.2.toNat dz33).2.2.2.2.1).length : Int) (40000 : Int)))) + (min (((x0.getD s3v.2.toNat dz33).2.2.2.2.2).length : Int) (40000 : Int))))].getD i undef) (fun j γ => [[F]].getD j []) (fun γ => [(0, .slice a0 x0.length c0), (3, .int .i64 (IntKind.i64.wrap ((IntKind.i64.wrap ((IntKind.i64.wrap (s3v.1 + (min (((x0.getD s3v.2.toNat dz33).2.2.2.1).length : Int) (40000 : Int)))) + (min (((x0.getD s3v.2.toNat dz33).2.2.2.2.1).length : Int) (40000 : Int)))) + (min (((x0.getD s3v.2.toNat dz33).2.2.2.2.2).length : Int) (40000 : Int))))), (4, .int .i64 s3v.2), (10, cv ((decide (s3v.2 < (x0.length : Int))) == true) (.int .i64 s3v.2)), (11, cv ((decide (s3v.2 < (x0.length : Int))) == true) (.bool (decide (s3v.2 < (400 : Int)))))]) mixed (by decide) (by decide) (by decide) (by decide) (by decide) (by decide) (by decide) 49 rfl (by decide) (by decide) (by decide) (Ent.refl _) ?_ ?_ (fun _ => ⟨rfl, rfl, rfl, rfl, rfl, trivial⟩) ?_
 exact (All.cons (fun γ => (All.cons (QOb.plain [(3, .int .i64 s3v.1)] rfl rfl (.o rfl (by decide) .nil) (q_move rfl rfl) rfl) All.nil)) (All.cons (fun γ => (All.cons (QOb.plain [(0, .slice a0 x0.length c0)] rfl rfl (.o rfl (by decide) .nil) (q_move rfl rfl) rfl) All.nil)) (All.cons (fun γ => (All.cons (QOb.plain [(4, .int .i64 s3v.2)] rfl rfl (.o rfl (by decide) .nil) (q_move rfl rfl) rfl) All.nil)) (All.cons (fun γ => (All.cons (QOb.plain [(16, .slice a0 x0.length c0), (17, .int .i64 s3v.2)] rfl rfl (.w 1 rfl rfl rfl (.w 2 rfl rfl rfl .nil)) (q_idx rfl rfl rfl ha11v Try.underlying22 Try.sizeOf33 hi9v.1 hi9v.2) rfl) All.nil)) (All.cons (fun γ => (All.cons (QOb.plain [(18, .pointer (some ⟨b10v, b10vo + s3v.2.toNat * 6, none⟩))] rfl rfl (.w 3 rfl rfl rfl .nil) (q_fa rfl rfl Try.underlying33 rfl rfl Try.sizeOf9 rfl) rfl) All.nil)) (All.cons (fun γ => (All.cons (QOb.plain [(19, .pointer (some ⟨b10v, b10vo + s3v.2.toNat * 6 + 3, none⟩))] rfl rfl (.w 4 rfl rfl rfl .nil) (q_load rfl rfl Try.isAgg9 (hcell16v 0 rfl 3 _ rfl)) rfl) All.nil)) (All.cons (fun γ => (All.cons (QOb.plain [(20, str ((x0.getD s3v.2.toNat dz33).2.2.2.1))] rfl rfl (.w 5 rfl rfl rfl .nil) (q_lens rfl rfl rfl Try.underlying9) rfl) All.nil)) (All.cons (fun γ => (All.cons (QOb.plain [(21, .int .i64 (((x0.getD s3v.2.toNat dz33).2.2.2.1).length : Int))] rfl rfl (.w 6 rfl rfl rfl .nil) (q_min rfl rfl rfl) rfl) All.nil)) (All.cons (fun γ => (All.cons (QOb.plain [(15, .int .i64 s3v.1), (22, .int .i64 (min (((x0.getD s3v.2.toNat dz33).2.2.2.1).length : Int) (40000 : Int)))] rfl rfl (.w 0 rfl rfl rfl (.w 7 rfl rfl rfl .nil)) (q_add rfl rfl rfl) rfl) All.nil)) (All.cons (fun γ => (All.cons (QOb.plain [(0, .slice a0 x0.length c0)] rfl rfl (.o rfl (by decide) .nil) (q_move rfl rfl) rfl) All.nil)) (All.cons (fun γ => (All.cons (QOb.plain [(4, .int .i64 s3v.2)] rfl rfl (.o rfl (by decide) .nil) (q_move rfl rfl) rfl) All.nil)) (All.cons (fun γ => (All.cons (QOb.plain [(24, .slice a0 x0.length c0), (25, .int .i64 s3v.2)] rfl rfl (.w 9 rfl rfl rfl (.w 10 rfl rfl rfl .nil)) (q_idx rfl rfl rfl ha19v Try.underlying22 Try.sizeOf33 hi17v.1 hi17v.2) rfl) All.nil)) (All.cons (fun γ => (All.cons (QOb.plain [(26, .pointer (some ⟨b18v, b18vo + s3v.2.toNat * 6, none⟩))] rfl rfl (.w 11 rfl rfl rfl .nil) (q_fa rfl rfl Try.underlying33 rfl rfl Try.sizeOf9 rfl) rfl) All.nil)) (All.cons (fun γ => (All.cons (QOb.plain [(27, .pointer (some ⟨b18v, b18vo + s3v.2.toNat * 6 + 4, none⟩))] rfl rfl (.w 12 rfl rfl rfl .nil) (q_load rfl rfl Try.isAgg9 (hcell24v 0 rfl 4 _ rfl)) rfl) All.nil)) (All.cons (fun γ => (All.cons (QOb.plain [(28, str ((x0.getD s3v.2.toNat dz33).2.2.2.2.1))] rfl rfl (.w 13 rfl rfl rfl .nil) (q_lens rfl rfl rfl Try.underlying9) rfl) All.nil)) (All.cons (fun γ => (All.cons (QOb.plain [(29, .int .i64 (((x0.getD s3v.2.toNat dz33).2.2.2.2.1).length : Int))] rfl rfl (.w 14 rfl rfl rfl .nil) (q_min rfl rfl rfl) rfl) All.nil)) (All.cons (fun γ => (All.cons (QOb.plain [(23, .int .i64 (IntKind.i64.wrap (s3v.1 + (min (((x0.getD s3v.2.toNat dz33).2.2.2.1).length : Int) (40000 : Int))))), (30, .int .i64 (min (((x0.getD s3v.2.toNat dz33).2.2.2.2.1).length : Int) (40000 : Int)))] rfl rfl (.w 8 rfl rfl rfl (.w 15 rfl rfl rfl .nil)) (q_add rfl rfl rfl) rfl) All.nil)) (All.cons (fun γ => (All.cons (QOb.plain [(0, .slice a0 x0.length c0)] rfl rfl (.o rfl (by decide) .nil) (q_move rfl rfl) rfl) All.nil)) (All.cons (fun γ => (All.cons (QOb.plain [(4, .int .i64 s3v.2)] rfl rfl (.o rfl (by decide) .nil) (q_move rfl rfl) rfl) All.nil)) (All.cons (fun γ => (All.cons (QOb.plain [(32, .slice a0 x0.length c0), (33, .int .i64 s3v.2)] rfl rfl (.w 17 rfl rfl rfl (.w 18 rfl rfl rfl .nil)) (q_idx rfl rfl rfl ha27v Try.underlying22 Try.sizeOf33 hi25v.1 hi25v.2) rfl) All.nil)) (All.cons (fun γ => (All.cons (QOb.plain [(34, .pointer (some ⟨b26v, b26vo + s3v.2.toNat * 6, none⟩))] rfl rfl (.w 19 rfl rfl rfl .nil) (q_fa rfl rfl Try.underlying33 rfl rfl Try.sizeOf9 rfl) rfl) All.nil)) (All.cons (fun γ => (All.cons (QOb.plain [(35, .pointer (some ⟨b26v, b26vo + s3v.2.toNat * 6 + 5, none⟩))] rfl rfl (.w 20 rfl rfl rfl .nil) (q_load rfl rfl Try.isAgg9 (hcell32v 0 rfl 5 _ rfl)) rfl) All.nil)) (All.cons (fun γ => (All.cons (QOb.plain [(36, str ((x0.getD s3v.2.toNat dz33).2.2.2.2.2))] rfl rfl (.w 21 rfl rfl rfl .nil) (q_lens rfl rfl rfl Try.underlying9) rfl) All.nil)) (All.cons (fun γ => (All.cons (QOb.plain [(37, .int .i64 (((x0.getD s3v.2.toNat dz33).2.2.2.2.2).length : Int))] rfl rfl (.w 22 rfl rfl rfl .nil) (q_min rfl rfl rfl) rfl) All.nil)) (All.cons (fun γ => (All.cons (QOb.plain [(31, .int .i64 (IntKind.i64.wrap ((IntKind.i64.wrap (s3v.1 + (min (((x0.getD s3v.2.toNat dz33).2.2.2.1).length : Int) (40000 : Int)))) + (min (((x0.getD s3v.2.toNat dz33).2.2.2.2.1).length : Int) (40000 : Int))))), (38, .int .i64 (min (((x0.getD s3v.2.toNat dz33).2.2.2.2.2).length : Int) (40000 : Int)))] rfl rfl (.w 16 rfl rfl rfl (.w 23 rfl rfl rfl .nil)) (q_add rfl rfl rfl) rfl) All.nil)) (All.cons (fun γ => (All.cons (QOb.plain [(39, .int .i64 (IntKind.i64.wrap ((IntKind.i64.wrap ((IntKind.i64.wrap (s3v.1 + (min (((x0.getD s3v.2.toNat dz33).2.2.2.1).length : Int) (40000 : Int)))) + (min (((x0.getD s3v.2.toNat dz33).2.2.2.2.1).length : Int) (40000 : Int)))) + (min (((x0.getD s3v.2.toNat dz33).2.2.2.2.2).length : Int) (40000 : Int)))))] rfl rfl (.w 24 rfl rfl rfl .nil) (q_asg rfl rfl) rfl) All.nil)) All.nil))))))))))))))))))))))))))
 exact All.nil
 intro g33v
 refine nrm_then (sim_region ?_)
 refine simL_val (q_move rfl rfl) rfl rfl rfl ?_
 refine simL_val (q_min rfl rfl rfl) rfl rfl rfl ?_
 refine simL_val (q_asg rfl rfl) rfl rfl rfl (simL_nil (nrm_block (nrm_then (sim_region ?_))))
 refine simL_val (q_move rfl rfl) rfl rfl rfl ?_
 refine simL_val (q_add rfl rfl rfl) rfl rfl rfl ?_
 refine simL_val (q_asg rfl rfl) rfl rfl rfl (simL_nil ?_)
 exact nrm_again (s := (min (IntKind.i64.wrap ((IntKind.i64.wrap ((IntKind.i64.wrap (s3v.1 + (min (((x0.getD s3v.2.toNat dz33).2.2.2.1).length : Int) (40000 : Int)))) + (min (((x0.getD s3v.2.toNat dz33).2.2.2.2.1).length : Int) (40000 : Int)))) + (min (((x0.getD s3v.2.toNat dz33).2.2.2.2.2).length : Int) (40000 : Int)))) (80000 : Int), IntKind.i64.wrap (s3v.2 + 1))) () ⟨rfl, rfl, rfl, trivial⟩ (.sel 0 rfl (.nil _))
 refine sim_exi ?_
 refine exi_then ?_
 refine exi_loop ?_
 refine exi_here ?_
 exact nrm_cut (s := s3v.1) () ⟨rfl, rfl, trivial⟩ (.sel 0 rfl (.nil _))
 intro s1v y2v
 refine sim_seq (sim_region ?_)
 refine simL_val (q_move rfl rfl) rfl rfl rfl ?_
 refine simL_val (q_len rfl rfl rfl Try.underlying22) rfl rfl rfl ?_
 refine simL_val (q_leq rfl rfl rfl) rfl rfl rfl ?_
 refine simL_val (q_move rfl rfl) rfl rfl rfl ?_
 refine simL_valc (b := decide ((x0.length : Int) ≤ (400 : Int))) (fun hb37v => RQ.sub (E' := [(3, .int .i64 s1v)]) ⟨rfl, trivial⟩ (q_move rfl rfl)) rfl rfl rfl rfl rfl ?_
 refine simL_valc (b := decide ((x0.length : Int) ≤ (400 : Int))) (fun hb36v => RQ.sub (E' := [(46, .int .i64 s1v)]) ⟨lk_cv rfl hb36v, trivial⟩ (q_leq rfl rfl rfl)) rfl rfl rfl rfl rfl ?_
 refine simL_val (q_and rfl rfl rfl) rfl rfl rfl ?_
 refine simL_val (q_asg rfl rfl) rfl rfl rfl (simL_nil (nrm_then (sim_rtn ?_)))
 exact rtn_fn () rfl rfl rfl (.sel 0 rfl (.nil _))

def synodref3_within.f (x0 : Int) (x1 : Int) (x2 : Int) : Option (Bool) := some ((decide (x1 ≤ x0)) && (decide (x0 ≤ x2)))
theorem synodref3_within.calls (W : World) (F : HA) (x0 : Int) (x1 : Int) (x2 : Int)  :
    Fn Try.prog W 57 [.int .i64 x0, .int .i64 x1, .int .i64 x2] [] F (synodref3_within.f x0 x1 x2) (fun (r : Bool) (y : Unit) => .bool r) (fun r y => []) := by
 unfold synodref3_within.f
 refine fn_intro 15 Try.func57 rfl Try.ntmps57 rfl ?_
 refine sim_seq (sim_region ?_)
 refine simL_val (q_asg rfl rfl) rfl rfl rfl (simL_nil (nrm_then (sim_seq (sim_region ?_))))
 refine simL_val (q_move rfl rfl) rfl rfl rfl ?_
 refine simL_val (q_move rfl rfl) rfl rfl rfl ?_
 refine simL_val (q_geq rfl rfl rfl) rfl rfl rfl ?_
 refine simL_val (q_move rfl rfl) rfl rfl rfl ?_
 refine simL_valc (b := decide (x1 ≤ x0)) (fun hb3v => RQ.sub (E' := [(0, .int .i64 x0)]) ⟨rfl, trivial⟩ (q_move rfl rfl)) rfl rfl rfl rfl rfl ?_
 refine simL_valc (b := decide (x1 ≤ x0)) (fun hb2v => RQ.sub (E' := [(2, .int .i64 x2)]) ⟨rfl, trivial⟩ (q_move rfl rfl)) rfl rfl rfl rfl rfl ?_
 refine simL_valc (b := decide (x1 ≤ x0)) (fun hb1v => RQ.sub (E' := [(11, .int .i64 x0), (12, .int .i64 x2)]) ⟨lk_cv rfl hb1v, lk_cv rfl hb1v, trivial⟩ (q_leq rfl rfl rfl)) rfl rfl rfl rfl rfl ?_
 refine simL_val (q_and rfl rfl rfl) rfl rfl rfl ?_
 refine simL_val (q_asg rfl rfl) rfl rfl rfl (simL_nil (nrm_then (sim_rtn ?_)))
 exact rtn_fn () rfl rfl rfl (.sel 0 rfl (.nil _))
def synodref3_within.v (x0 : Int) (x1 : Int) (x2 : Int) : Bool := (synodref3_within.f x0 x1 x2).getD false
theorem synodref3_within.tot (x0 : Int) (x1 : Int) (x2 : Int) : synodref3_within.f x0 x1 x2 = some (synodref3_within.v x0 x1 x2) := by
  have h : ∃ r, synodref3_within.f x0 x1 x2 = some r := by
    unfold synodref3_within.f
    repeat' (first | exact ⟨_, rfl⟩ | split | simp only [Option.bind_some])
  obtain ⟨r, h⟩ := h
  unfold synodref3_within.v
  rw [h]; rfl

def synodref3_CheckCommand.f (x0_0 : Int) (x0_1 : Int) (x0_2 : Int) (x0_3 : List UInt8) (x0_4 : List UInt8) (x0_5 : List UInt8) : Option (Int) := (synodref3_within.f x0_0 (2 : Int) (4 : Int)).bind fun s2v => (if (!s2v) = true then (some 6) else ((synodref3_within.f x0_1 (1 : Int) (4611686018427387904 : Int)).bind fun s7v => ((if (!s7v) = true then (some true) else ((synodref3_within.f x0_2 (1 : Int) (4611686018427387904 : Int)).bind fun s12v => (some (!s12v)))).bind fun s10v => (if s10v = true then (some 1) else (if (((decide ((64 : Int) < (x0_3.length : Int))) || (decide ((1024 : Int) < (x0_4.length : Int)))) || (decide ((1024 : Int) < (x0_5.length : Int)))) = true then (some 3) else ((if x0_3 = ([] : List UInt8) then (some true) else (some ((decide (x0_0 = (3 : Int))) && (!decide (x0_4 = ([] : List UInt8)))))).bind fun s21v => ((if s21v = true then (some true) else (some ((!decide (x0_0 = (4 : Int))) && (!decide (x0_5 = ([] : List UInt8)))))).bind fun s28v => (if s28v = true then (some 4) else (some 0)))))))))
theorem synodref3_CheckCommand.calls (W : World) (F : HA) (x0_0 : Int) (x0_1 : Int) (x0_2 : Int) (x0_3 : List UInt8) (x0_4 : List UInt8) (x0_5 : List UInt8)  :
    Fn Try.prog W 35 [.agg #[.int .i64 x0_0, .int .i64 x0_1, .int .i64 x0_2, str x0_3, str x0_4, str x0_5]] [] F (synodref3_CheckCommand.f x0_0 x0_1 x0_2 x0_3 x0_4 x0_5) (fun (r : Int) (y : Unit) => .int .i64 r) (fun r y => []) := by
 unfold synodref3_CheckCommand.f
 refine fn_intro 56 Try.func35 rfl Try.ntmps35 rfl ?_
 refine sim_seq (sim_region ?_)
 refine simL_eff (re_box rfl rfl rfl) rfl rfl rfl ?_
 intro b1v
 refine simL_val (q_asg rfl rfl) rfl rfl rfl (simL_nil (nrm_then (sim_seq (sim_seq (sim_region ?_)))))
 refine simL_val (q_fa rfl rfl Try.underlying33 rfl rfl Try.sizeOf3 rfl) rfl rfl rfl ?_
 refine simL_val (q_load rfl rfl Try.isAgg3 (.obj 0 rfl rfl)) rfl rfl rfl ?_
 refine simL_bind (fun s2v hs4v => ?_)
 refine simL_eff (re_call (vs := [.int .i64 x0_0, .int .i64 2, .int .i64 4]) (cap := []) (A := []) (rst := [obj b1v 33 [.int .i64 x0_0, .int .i64 x0_1, .int .i64 x0_2, str x0_3, str x0_4, str x0_5], F]) rfl rfl rfl rfl rfl rfl Try.call57 (.sel 0 rfl (.sel 0 rfl (.nil _))) (synodref3_within.calls _ _ x0_0 (2 : Int) (4 : Int) ) hs4v) rfl rfl rfl ?_
 intro y3v
 refine simL_val (q_not rfl rfl) rfl rfl rfl (simL_nil (nrm_then ?_))
 refine sim_condb rfl (fun h5v => ?_) (fun h6v => ?_)
 refine sim_seq (sim_region ?_)
 refine simL_val (q_asg rfl rfl) rfl rfl rfl (simL_nil (nrm_then (sim_rtn ?_)))
 refine rtn_then ?_
 exact rtn_fn () rfl rfl rfl (.sel 1 rfl (.nil _))
 refine sim_skip ?_
 refine nrm_then (sim_seq (sim_seq (sim_region ?_)))
 refine simL_val (q_fa rfl rfl Try.underlying33 rfl rfl Try.sizeOf3 rfl) rfl rfl rfl ?_
 refine simL_val (q_load rfl rfl Try.isAgg3 (.obj 0 rfl rfl)) rfl rfl rfl ?_
 refine simL_bind (fun s7v hs9v => ?_)
 refine simL_eff (re_call (vs := [.int .i64 x0_1, .int .i64 1, .int .i64 4611686018427387904]) (cap := []) (A := []) (rst := [obj b1v 33 [.int .i64 x0_0, .int .i64 x0_1, .int .i64 x0_2, str x0_3, str x0_4, str x0_5], F]) rfl rfl rfl rfl rfl rfl Try.call57 (.sel 0 rfl (.sel 0 rfl (.nil _))) (synodref3_within.calls _ _ x0_1 (1 : Int) (4611686018427387904 : Int) ) hs9v) rfl rfl rfl ?_
 intro y8v
 refine simL_val (q_not rfl rfl) rfl rfl rfl ?_
 refine simL_val (q_move rfl rfl) rfl rfl rfl ?_
 refine simL_cut' 5 (S := Bool) (Unit) (fun s y => [(1, .pointer (some ⟨b1v, 0, none⟩)), (16, .bool s)]) (fun s y => [obj b1v 33 [.int .i64 x0_0, .int .i64 x0_1, .int .i64 x0_2, str x0_3, str x0_4, str x0_5], F]) ?_ ?_
 refine simL_caseb (fun hb15v => ?_) (fun hb16v => ?_)
 rw [hb15v]
 refine simL_skipd rfl rfl rfl rfl rfl rfl ?_
 refine simL_skipd rfl rfl rfl rfl rfl rfl ?_
 refine simL_skipd rfl rfl rfl rfl rfl rfl ?_
 refine simL_skipd rfl rfl rfl rfl rfl rfl ?_
 refine simL_val (q_pick rfl rfl rfl rfl rfl) rfl rfl rfl (simL_nil ?_)
 exact nrm_cut (s := true) () ⟨rfl, rfl, trivial⟩ (.sel 0 rfl (.sel 0 rfl (.nil _)))
 rw [hb16v]
 refine simL_valg (q_fa rfl rfl Try.underlying33 rfl rfl Try.sizeOf3 rfl) rfl rfl rfl rfl rfl rfl ?_
 refine simL_valg (q_load rfl rfl Try.isAgg3 (.obj 0 rfl rfl)) rfl rfl rfl rfl rfl rfl ?_
 refine simL_bind (fun s12v hs14v => ?_)
 refine simL_effg (re_call (vs := [.int .i64 x0_2, .int .i64 1, .int .i64 4611686018427387904]) (cap := []) (A := []) (rst := [obj b1v 33 [.int .i64 x0_0, .int .i64 x0_1, .int .i64 x0_2, str x0_3, str x0_4, str x0_5], F]) rfl rfl rfl rfl rfl rfl Try.call57 (.sel 0 rfl (.sel 0 rfl (.nil _))) (synodref3_within.calls _ _ x0_2 (1 : Int) (4611686018427387904 : Int) ) hs14v) rfl rfl rfl rfl rfl rfl ?_
 intro y13v
 refine simL_valg (q_not rfl rfl) rfl rfl rfl rfl rfl rfl ?_
 refine simL_val (q_pick rfl rfl rfl rfl rfl) rfl rfl rfl (simL_nil ?_)
 exact nrm_cut (s := !s12v) () ⟨rfl, rfl, trivial⟩ (.sel 0 rfl (.sel 0 rfl (.nil _)))
 intro s10v y11v
 refine simL_nil (nrm_then ?_)
 refine sim_condb rfl (fun h17v => ?_) (fun h18v => ?_)
 refine sim_seq (sim_region ?_)
 refine simL_val (q_asg rfl rfl) rfl rfl rfl (simL_nil (nrm_then (sim_rtn ?_)))
 refine rtn_then ?_
 exact rtn_fn () rfl rfl rfl (.sel 1 rfl (.nil _))
 refine sim_skip ?_
 refine nrm_then (sim_seq (sim_seq (sim_region ?_)))
 refine simL_val (q_fa rfl rfl Try.underlying33 rfl rfl Try.sizeOf9 rfl) rfl rfl rfl ?_
 refine simL_val (q_load rfl rfl Try.isAgg9 (.obj 0 rfl rfl)) rfl rfl rfl ?_
 refine simL_val (q_lens rfl rfl rfl Try.underlying9) rfl rfl rfl ?_
 refine simL_val (q_gtr rfl rfl rfl) rfl rfl rfl ?_
 refine simL_val (q_move rfl rfl) rfl rfl rfl ?_
 refine simL_valc (b := decide ((64 : Int) < (x0_3.length : Int))) (fun hb44v => RQ.sub (E' := [(1, .pointer (some ⟨b1v, 0, none⟩))]) ⟨rfl, trivial⟩ (q_fa rfl rfl Try.underlying33 rfl rfl Try.sizeOf9 rfl)) rfl rfl rfl rfl rfl ?_
 refine simL_valc (b := decide ((64 : Int) < (x0_3.length : Int))) (fun hb43v => RQ.sub (E' := [(22, .pointer (some ⟨b1v, 4, none⟩))]) ⟨lk_cv rfl hb43v, trivial⟩ (q_load rfl rfl Try.isAgg9 (.obj 0 rfl rfl))) rfl rfl rfl rfl rfl ?_
 refine simL_valc (b := decide ((64 : Int) < (x0_3.length : Int))) (fun hb42v => RQ.sub (E' := [(23, str x0_4)]) ⟨lk_cv rfl hb42v, trivial⟩ (q_lens rfl rfl rfl Try.underlying9)) rfl rfl rfl rfl rfl ?_
 refine simL_valc (b := decide ((64 : Int) < (x0_3.length : Int))) (fun hb41v => RQ.sub (E' := [(24, .int .i64 (x0_4.length : Int))]) ⟨lk_cv rfl hb41v, trivial⟩ (q_gtr rfl rfl rfl)) rfl rfl rfl rfl rfl ?_
 refine simL_val (q_or rfl rfl rfl) rfl rfl rfl ?_
 refine simL_val (q_move rfl rfl) rfl rfl rfl ?_
 refine simL_valc (b := (decide ((64 : Int) < (x0_3.length : Int))) || (decide ((1024 : Int) < (x0_4.length : Int)))) (fun hb40v => RQ.sub (E' := [(1, .pointer (some ⟨b1v, 0, none⟩))]) ⟨rfl, trivial⟩ (q_fa rfl rfl Try.underlying33 rfl rfl Try.sizeOf9 rfl)) rfl rfl rfl rfl rfl ?_
 refine simL_valc (b := (decide ((64 : Int) < (x0_3.length : Int))) || (decide ((1024 : Int) < (x0_4.length : Int)))) (fun hb39v => RQ.sub (E' := [(28, .pointer (some ⟨b1v, 5, none⟩))]) ⟨lk_cv rfl hb39v, trivial⟩ (q_load rfl rfl Try.isAgg9 (.obj 0 rfl rfl))) rfl rfl rfl rfl rfl ?_
 refine simL_valc (b := (decide ((64 : Int) < (x0_3.length : Int))) || (decide ((1024 : Int) < (x0_4.length : Int)))) (fun hb38v => RQ.sub (E' := [(29, str x0_5)]) ⟨lk_cv rfl hb38v, trivial⟩ (q_lens rfl rfl rfl Try.underlying9)) rfl rfl rfl rfl rfl ?_
 refine simL_valc (b := (decide ((64 : Int) < (x0_3.length : Int))) || (decide ((1024 : Int) < (x0_4.length : Int)))) (fun hb37v => RQ.sub (E' := [(30, .int .i64 (x0_5.length : Int))]) ⟨lk_cv rfl hb37v, trivial⟩ (q_gtr rfl rfl rfl)) rfl rfl rfl rfl rfl ?_
 refine simL_val (q_or rfl rfl rfl) rfl rfl rfl (simL_nil (nrm_then ?_))
 refine sim_condb rfl (fun h19v => ?_) (fun h20v => ?_)
 refine sim_seq (sim_region ?_)
 refine simL_val (q_asg rfl rfl) rfl rfl rfl (simL_nil (nrm_then (sim_rtn ?_)))
 refine rtn_then ?_
 exact rtn_fn () rfl rfl rfl (.sel 1 rfl (.nil _))
 refine sim_skip ?_
 refine nrm_then (sim_seq (sim_seq (sim_region ?_)))
 refine simL_val (q_fa rfl rfl Try.underlying33 rfl rfl Try.sizeOf9 rfl) rfl rfl rfl ?_
 refine simL_val (q_load rfl rfl Try.isAgg9 (.obj 0 rfl rfl)) rfl rfl rfl ?_
 refine simL_val (q_eqs rfl rfl rfl) rfl rfl rfl ?_
 refine simL_val (q_move rfl rfl) rfl rfl rfl ?_
 refine simL_cut' 9 (S := Bool) (Unit) (fun s y => [(1, .pointer (some ⟨b1v, 0, none⟩)), (45, .bool s)]) (fun s y => [obj b1v 33 [.int .i64 x0_0, .int .i64 x0_1, .int .i64 x0_2, str x0_3, str x0_4, str x0_5], F]) ?_ ?_
 refine simL_casep (fun hb26v => ?_) (fun hb27v => ?_)
 rw [hb26v]
 refine simL_skipd rfl rfl rfl rfl rfl rfl ?_
 refine simL_skipd rfl rfl rfl rfl rfl rfl ?_
 refine simL_skipd rfl rfl rfl rfl rfl rfl ?_
 refine simL_skipd rfl rfl rfl rfl rfl rfl ?_
 refine simL_skipu rfl rfl rfl rfl rfl ?_
 refine simL_skipu rfl rfl rfl rfl rfl ?_
 refine simL_skipu rfl rfl rfl rfl rfl ?_
 refine simL_skipd rfl rfl rfl rfl rfl rfl ?_
 refine simL_val (q_pick rfl rfl rfl rfl rfl) rfl rfl rfl (simL_nil ?_)
 exact nrm_cut (s := true) () ⟨rfl, rfl, trivial⟩ (.sel 0 rfl (.sel 0 rfl (.nil _)))
 rw [hb27v]
 refine simL_valg (q_fa rfl rfl Try.underlying33 rfl rfl Try.sizeOf3 rfl) rfl rfl rfl rfl rfl rfl ?_
 refine simL_valg (q_load rfl rfl Try.isAgg3 (.obj 0 rfl rfl)) rfl rfl rfl rfl rfl rfl ?_
 refine simL_valg (q_eql rfl rfl rfl) rfl rfl rfl rfl rfl rfl ?_
 refine simL_valg (q_move rfl rfl) rfl rfl rfl rfl rfl rfl ?_
 refine simL_valc (b := decide (x0_0 = (3 : Int))) (fun hb25v => RQ.sub (E' := [(1, .pointer (some ⟨b1v, 0, none⟩))]) ⟨rfl, trivial⟩ (q_fa rfl rfl Try.underlying33 rfl rfl Try.sizeOf9 rfl)) rfl rfl rfl rfl rfl ?_
 refine simL_valc (b := decide (x0_0 = (3 : Int))) (fun hb24v => RQ.sub (E' := [(41, .pointer (some ⟨b1v, 4, none⟩))]) ⟨lk_cv rfl hb24v, trivial⟩ (q_load rfl rfl Try.isAgg9 (.obj 0 rfl rfl))) rfl rfl rfl rfl rfl ?_
 refine simL_valc (b := decide (x0_0 = (3 : Int))) (fun hb23v => RQ.sub (E' := [(42, str x0_4)]) ⟨lk_cv rfl hb23v, trivial⟩ (q_nes rfl rfl rfl)) rfl rfl rfl rfl rfl ?_
 refine simL_valg (q_and rfl rfl rfl) rfl rfl rfl rfl rfl rfl ?_
 refine simL_val (q_pick rfl rfl rfl rfl rfl) rfl rfl rfl (simL_nil ?_)
 exact nrm_cut (s := (decide (x0_0 = (3 : Int))) && (!decide (x0_4 = ([] : List UInt8)))) () ⟨rfl, rfl, trivial⟩ (.sel 0 rfl (.sel 0 rfl (.nil _)))
 intro s21v y22v
 refine simL_val (q_move rfl rfl) rfl rfl rfl ?_
 refine simL_cut' 9 (S := Bool) (Unit) (fun s y => [(55, .bool s)]) (fun s y => [F]) ?_ ?_
 refine simL_caseb (fun hb33v => ?_) (fun hb34v => ?_)
 rw [hb33v]
 refine simL_skipd rfl rfl rfl rfl rfl rfl ?_
 refine simL_skipd rfl rfl rfl rfl rfl rfl ?_
 refine simL_skipd rfl rfl rfl rfl rfl rfl ?_
 refine simL_skipd rfl rfl rfl rfl rfl rfl ?_
 refine simL_skipu rfl rfl rfl rfl rfl ?_
 refine simL_skipu rfl rfl rfl rfl rfl ?_
 refine simL_skipu rfl rfl rfl rfl rfl ?_
 refine simL_skipd rfl rfl rfl rfl rfl rfl ?_
 refine simL_val (q_pick rfl rfl rfl rfl rfl) rfl rfl rfl (simL_nil ?_)
 exact nrm_cut (s := true) () ⟨rfl, trivial⟩ (.sel 1 rfl (.nil _))
 rw [hb34v]
 refine simL_valg (q_fa rfl rfl Try.underlying33 rfl rfl Try.sizeOf3 rfl) rfl rfl rfl rfl rfl rfl ?_
 refine simL_valg (q_load rfl rfl Try.isAgg3 (.obj 0 rfl rfl)) rfl rfl rfl rfl rfl rfl ?_
 refine simL_valg (q_neq rfl rfl rfl) rfl rfl rfl rfl rfl rfl ?_
 refine simL_valg (q_move rfl rfl) rfl rfl rfl rfl rfl rfl ?_
 refine simL_valc (b := !decide (x0_0 = (4 : Int))) (fun hb32v => RQ.sub (E' := [(1, .pointer (some ⟨b1v, 0, none⟩))]) ⟨rfl, trivial⟩ (q_fa rfl rfl Try.underlying33 rfl rfl Try.sizeOf9 rfl)) rfl rfl rfl rfl rfl ?_
 refine simL_valc (b := !decide (x0_0 = (4 : Int))) (fun hb31v => RQ.sub (E' := [(51, .pointer (some ⟨b1v, 5, none⟩))]) ⟨lk_cv rfl hb31v, trivial⟩ (q_load rfl rfl Try.isAgg9 (.obj 0 rfl rfl))) rfl rfl rfl rfl rfl ?_
 refine simL_valc (b := !decide (x0_0 = (4 : Int))) (fun hb30v => RQ.sub (E' := [(52, str x0_5)]) ⟨lk_cv rfl hb30v, trivial⟩ (q_nes rfl rfl rfl)) rfl rfl rfl rfl rfl ?_
 refine simL_valg (q_and rfl rfl rfl) rfl rfl rfl rfl rfl rfl ?_
 refine simL_val (q_pick rfl rfl rfl rfl rfl) rfl rfl rfl (simL_nil ?_)
 exact nrm_cut (s := (!decide (x0_0 = (4 : Int))) && (!decide (x0_5 = ([] : List UInt8)))) () ⟨rfl, trivial⟩ (.sel 1 rfl (.nil _))
 intro s28v y29v
 refine simL_nil (nrm_then ?_)
 refine sim_condb rfl (fun h35v => ?_) (fun h36v => ?_)
 refine sim_seq (sim_region ?_)
 refine simL_val (q_asg rfl rfl) rfl rfl rfl (simL_nil (nrm_then (sim_rtn ?_)))
 refine rtn_then ?_
 exact rtn_fn () rfl rfl rfl (.sel 0 rfl (.nil _))
 refine sim_skip ?_
 refine nrm_then (sim_seq (sim_region ?_))
 refine simL_val (q_asg rfl rfl) rfl rfl rfl (simL_nil (nrm_then (sim_rtn ?_)))
 exact rtn_fn () rfl rfl rfl (.sel 0 rfl (.nil _))
def synodref3_CheckCommand.v (x0_0 : Int) (x0_1 : Int) (x0_2 : Int) (x0_3 : List UInt8) (x0_4 : List UInt8) (x0_5 : List UInt8) : Int := (synodref3_CheckCommand.f x0_0 x0_1 x0_2 x0_3 x0_4 x0_5).getD 0
theorem synodref3_CheckCommand.tot (x0_0 : Int) (x0_1 : Int) (x0_2 : Int) (x0_3 : List UInt8) (x0_4 : List UInt8) (x0_5 : List UInt8) : synodref3_CheckCommand.f x0_0 x0_1 x0_2 x0_3 x0_4 x0_5 = some (synodref3_CheckCommand.v x0_0 x0_1 x0_2 x0_3 x0_4 x0_5) := by
  have h : ∃ r, synodref3_CheckCommand.f x0_0 x0_1 x0_2 x0_3 x0_4 x0_5 = some r := by
    unfold synodref3_CheckCommand.f
    repeat' (first | exact ⟨_, rfl⟩ | split | simp only [Option.bind_some, synodref3_within.tot])
  obtain ⟨r, h⟩ := h
  unfold synodref3_CheckCommand.v
  rw [h]; rfl
end Go.Proofs.Ytdaedoklkmdhcaa

/- Printed by gen.py: pure functions and the proofs that the Go functions simulate them. Conditions: as each theorem says. -/
import Derived.Test.YtdolffamgbcokaaSl12
import Derived.Test.YtdolffamgbcokaaProg
namespace Go.Proofs.Ytdolffamgbcokaa
open Go.RowKit
set_option linter.unusedVariables false
set_option maxRecDepth 20000
theorem elt5 : Elt Try.prog 5 1 1 [.int .u8 0] := .of (.int .u8 0) (by kernel_rfl) rfl rfl rfl rfl
theorem elt48 : Elt Try.prog 48 2 16 [.int .i64 0, .int .i64 0] := .of (.agg #[.int .i64 0, .int .i64 0]) (by kernel_rfl) rfl rfl rfl rfl
theorem elt62 : Elt Try.prog 62 5 56 [.int .i64 0, .int .i64 0, .int .i64 0, .bool false, .slice none 0 0] := .of (.agg #[.int .i64 0, .int .i64 0, .int .i64 0, .bool false, .slice none 0 0]) (by kernel_rfl) rfl rfl rfl rfl
theorem elt23 : Elt Try.prog 23 1 24 [.slice none 0 0] := .of (.slice none 0 0) (by kernel_rfl) rfl rfl rfl rfl
def V48 (_ : HA) (x : Int × Int) (r : List Value) : Prop := r = [.int .i64 x.1, .int .i64 x.2]
theorem V48.up {G F : HA} (_ : Up G F) : ∀ x r, V48 G x r → V48 F x r := fun _ _ h => h
def Ok48 (x : Int × Int) : Prop := okI .i64 x.1 ∧ okI .i64 x.2
def V62 (F : HA) (x : Int × Int × Int × Bool × List UInt8) (r : List Value) : Prop := ∃ (a4 : Option Addr) (c4 : Nat), r = [.int .i64 x.1, .int .i64 x.2.1, .int .i64 x.2.2.1, .bool x.2.2.2.1, .slice a4 x.2.2.2.2.length c4] ∧ (Rd F a4 (encB x.2.2.2.2) ∧ x.2.2.2.2.length ≤ c4 ∧ c4 ≤ maxLen)
theorem V62.up {G F : HA} (u : Up G F) : ∀ x r, V62 G x r → V62 F x r := by
  rintro x r ⟨a4, c4, e, ⟨h4, k4, m4⟩⟩
  exact ⟨a4, c4, e, ⟨h4.up u, k4, m4⟩⟩
def Ok62 (x : Int × Int × Int × Bool × List UInt8) : Prop := okI .i64 x.1 ∧ okI .i64 x.2.1 ∧ okI .i64 x.2.2.1 ∧ True ∧ x.2.2.2.2.length ≤ 140737488351232
def V23 (F : HA) (x : List UInt8) (r : List Value) : Prop := ∃ (a0 : Option Addr) (c0 : Nat), r = [.slice a0 x.length c0] ∧ (Rd F a0 (encB x) ∧ x.length ≤ c0 ∧ c0 ≤ maxLen)
theorem V23.up {G F : HA} (u : Up G F) : ∀ x r, V23 G x r → V23 F x r := by
  rintro x r ⟨a0, c0, e, ⟨h0, k0, m0⟩⟩
  exact ⟨a0, c0, e, ⟨h0.up u, k0, m0⟩⟩
def Ok23 (x : List UInt8) : Prop := x.length ≤ 140737488351232
theorem mixed : Try.prog.follows .mixedOrders = true := by kernel_rfl
def wire_Size.l0 : Nat → Int → Int → Option (Int)
  | 0, _, _ => none
  | k + 1, z7v, z8v => if (128 : Int) ≤ z7v then (wire_Size.l0 k (Int.fdiv z7v (2 ^ (min (7 : Int).toNat IntKind.i64.bits))) (IntKind.i64.wrap (z8v + 1))) else (some z8v)
def wire_Size.f (k : Nat) (x0 : Int) : Option (Int) := if ((decide (x0 < (0 : Int))) || (decide ((4611686018427387904 : Int) < x0))) = true then (some 0) else ((wire_Size.l0 k x0 1).bind fun s3v => (some s3v))
theorem wire_Size.calls (W : World) (F : HA) (k : Nat) (x0 : Int)  :
    Fn Try.prog W 15 [.int .i64 x0] [] F (wire_Size.f k x0) (fun (r : Int) (y : Unit) => .int .i64 r) (fun r y => []) := by
  unfold wire_Size.f
  refine fn_intro 17 Try.func15 rfl Try.ntmps15 rfl ?_
  refine sim_seq ?_
  refine sim_region ?_
  refine simL_val (q_asg rfl rfl) rfl rfl rfl ?_
  refine simL_nil ?_
  refine nrm_then ?_
  refine sim_seq ?_
  refine sim_seq ?_
  refine sim_region ?_
  refine simL_val (q_move rfl rfl) rfl rfl rfl ?_
  refine simL_val (q_lss rfl rfl rfl) rfl rfl rfl ?_
  refine simL_val (q_move rfl rfl) rfl rfl rfl ?_
  refine simL_valc (b := decide (x0 < (0 : Int))) (fun hb12v => RQ.sub (E' := [(0, .int .i64 x0)]) ⟨rfl, trivial⟩ (q_move rfl rfl)) rfl rfl rfl rfl rfl ?_
  refine simL_valc (b := decide (x0 < (0 : Int))) (fun hb11v => RQ.sub (E' := [(7, .int .i64 x0)]) ⟨lk_cv rfl hb11v, trivial⟩ (q_gtr rfl rfl rfl)) rfl rfl rfl rfl rfl ?_
  refine simL_val (q_or rfl rfl rfl) rfl rfl rfl ?_
  refine simL_nil ?_
  refine nrm_then ?_
  refine sim_condb rfl (fun h1v => ?_) (fun h2v => ?_)
  · refine sim_seq ?_
    refine sim_region ?_
    refine simL_val (q_asg rfl rfl) rfl rfl rfl ?_
    refine simL_nil ?_
    refine nrm_then ?_
    refine sim_rtn ?_
    refine rtn_then ?_
    exact rtn_fn () rfl rfl rfl (.sel 0 rfl (.nil _))
  · refine sim_skip ?_
    refine nrm_then ?_
    refine sim_seq ?_
    refine sim_region ?_
    refine simL_val (q_asg rfl rfl) rfl rfl rfl ?_
    refine simL_nil ?_
    refine nrm_then ?_
    refine sim_cut (S := Int) (Unit) (fun s y => [(3, .int .i64 s)]) (fun s y => [F]) ?_ ?_
    · refine sim_block ?_
      refine sim_loop (S := Int × Int) (Unit) (fun k s => wire_Size.l0 k s.1 s.2) (fun s y => [(0, .int .i64 s.1), (3, .int .i64 s.2)]) (fun s y => [F]) (fun _ => by rw [wire_Size.l0]) ?_ k (x0, 1) () ⟨rfl, rfl, trivial⟩ (.sel 0 rfl (.nil _))
      intro k s5v y6v
      refine sim_eq (by rw [wire_Size.l0]) ?_
      refine sim_seq ?_
      refine sim_seq ?_
      refine sim_region ?_
      refine simL_val (q_move rfl rfl) rfl rfl rfl ?_
      refine simL_val (q_geq rfl rfl rfl) rfl rfl rfl ?_
      refine simL_nil ?_
      refine nrm_then ?_
      refine sim_cond rfl (fun h9v => ?_) (fun h10v => ?_)
      · refine sim_skip ?_
        refine nrm_then ?_
        refine sim_block ?_
        refine sim_seq ?_
        refine sim_region ?_
        refine simL_val (q_move rfl rfl) rfl rfl rfl ?_
        refine simL_val (q_shr rfl rfl rfl (by decide)) rfl rfl rfl ?_
        refine simL_val (q_asg rfl rfl) rfl rfl rfl ?_
        refine simL_nil ?_
        refine nrm_then ?_
        refine sim_region ?_
        refine simL_val (q_move rfl rfl) rfl rfl rfl ?_
        refine simL_val (q_add rfl rfl rfl) rfl rfl rfl ?_
        refine simL_val (q_asg rfl rfl) rfl rfl rfl ?_
        refine simL_nil ?_
        refine nrm_block ?_
        exact nrm_again (s := (Int.fdiv s5v.1 (2 ^ (min (7 : Int).toNat IntKind.i64.bits)), IntKind.i64.wrap (s5v.2 + 1))) () ⟨rfl, rfl, trivial⟩ (.sel 0 rfl (.nil _))
      · refine sim_exi ?_
        refine exi_then ?_
        refine exi_loop ?_
        refine exi_here ?_
        exact nrm_cut (s := s5v.2) () ⟨rfl, trivial⟩ (.sel 0 rfl (.nil _))
    · intro s3v y4v
      refine sim_seq ?_
      refine sim_region ?_
      refine simL_val (q_move rfl rfl) rfl rfl rfl ?_
      refine simL_val (q_asg rfl rfl) rfl rfl rfl ?_
      refine simL_nil ?_
      refine nrm_then ?_
      refine sim_rtn ?_
      exact rtn_fn () rfl rfl rfl (.sel 0 rfl (.nil _))

def wire_sevens_1.l0 {S : Type} (step : S → Int → Option S) : Nat → Int → S → Option (Int × S)
  | 0, _, _ => none
  | k + 1, z5v, z6v => if (128 : Int) ≤ z5v then ((step z6v (IntKind.u8.wrap (bitsV .or .i64 (bitsV .and .i64 z5v 127) 128))).bind fun s9v => (wire_sevens_1.l0 step k (Int.fdiv z5v (2 ^ (min (7 : Int).toNat IntKind.i64.bits))) s9v)) else (some (z5v, z6v))
def wire_sevens_1.f {S : Type} (k : Nat) (step : S → Int → Option S) (s0 : S) (x1_0 : Int) : Option (S) := (wire_sevens_1.l0 step k x1_0 s0).bind fun s1v => ((step s1v.2 (IntKind.u8.wrap s1v.1)).bind fun s12v => (some s12v))
theorem wire_sevens_1.calls (W : World) (F : HA) (k : Nat) (S Y : Type) (l : Nat) (step : S → Int → Option S) (A : S → Y → HA) (s0 : S) (y0 : Y) (b1 : Nat) (x1_0 : Int) (hY : YieldOk Try.prog W l (fun (x : Int) => [.int .u8 x]) step A) :
    Fn Try.prog W 55 [.func (.yield l) #[] #[], .pointer (some ⟨b1, 0, none⟩)] [A s0 y0, obj b1 3 [.int .i64 x1_0]] F (wire_sevens_1.f k step s0 x1_0) (fun (r : S) (y : Y) => .tuple #[]) (fun r y => [A r y, obj b1 3 [.int .i64 x1_0]]) := by
  unfold wire_sevens_1.f
  refine fn_intro 20 Try.func55 rfl Try.ntmps55 rfl ?_
  refine sim_seq ?_
  refine sim_region ?_
  refine simL_val (q_load rfl rfl Try.isAgg3 (.obj 1 rfl rfl)) rfl rfl rfl ?_
  refine simL_val (q_asg rfl rfl) rfl rfl rfl ?_
  refine simL_nil ?_
  refine nrm_then ?_
  refine sim_cut (S := Int × S) (Y) (fun s y => [(0, .func (.yield l) #[] #[]), (3, .int .i64 s.1)]) (fun s y => [obj b1 3 [.int .i64 x1_0], A s.2 y, F]) ?_ ?_
  · refine sim_block ?_
    refine sim_loop (S := Int × S) (Y) (fun k s => wire_sevens_1.l0 step k s.1 s.2) (fun s y => [(0, .func (.yield l) #[] #[]), (3, .int .i64 s.1)]) (fun s y => [obj b1 3 [.int .i64 x1_0], A s.2 y, F]) (fun _ => by rw [wire_sevens_1.l0]) ?_ k (x1_0, s0) y0 ⟨rfl, rfl, trivial⟩ (.sel 1 rfl (.sel 0 rfl (.sel 0 rfl (.nil _))))
    intro k s3v y4v
    refine sim_eq (by rw [wire_sevens_1.l0]) ?_
    refine sim_seq ?_
    refine sim_seq ?_
    refine sim_region ?_
    refine simL_val (q_move rfl rfl) rfl rfl rfl ?_
    refine simL_val (q_geq rfl rfl rfl) rfl rfl rfl ?_
    refine simL_nil ?_
    refine nrm_then ?_
    refine sim_cond rfl (fun h7v => ?_) (fun h8v => ?_)
    · refine sim_skip ?_
      refine nrm_then ?_
      refine sim_block ?_
      refine sim_seq ?_
      refine sim_seq ?_
      refine sim_region ?_
      refine simL_val (q_move rfl rfl) rfl rfl rfl ?_
      refine simL_val (q_move rfl rfl) rfl rfl rfl ?_
      refine simL_val (q_and_ rfl rfl rfl) rfl rfl rfl ?_
      refine simL_val (q_or_ rfl rfl rfl) rfl rfl rfl ?_
      refine simL_val (q_conv rfl rfl Try.underlying3 Try.underlying5) rfl rfl rfl ?_
      refine simL_bind (fun s9v hs11v => ?_)
      refine simL_eff (re_yield (IntKind.u8.wrap (bitsV .or .i64 (bitsV .and .i64 s3v.1 127) 128)) 1 rfl rfl rfl rfl rfl rfl hY rfl hs11v) rfl rfl rfl ?_
      intro y10v
      refine simL_val (q_not rfl rfl) rfl rfl rfl ?_
      refine simL_nil ?_
      refine nrm_then ?_
      refine sim_false rfl ?_
      refine sim_skip ?_
      refine nrm_then ?_
      refine sim_region ?_
      refine simL_val (q_move rfl rfl) rfl rfl rfl ?_
      refine simL_val (q_shr rfl rfl rfl (by decide)) rfl rfl rfl ?_
      refine simL_val (q_asg rfl rfl) rfl rfl rfl ?_
      refine simL_nil ?_
      refine nrm_block ?_
      exact nrm_again (s := (Int.fdiv s3v.1 (2 ^ (min (7 : Int).toNat IntKind.i64.bits)), s9v)) y10v ⟨rfl, rfl, trivial⟩ (.sel 0 rfl (.sel 0 rfl (.sel 0 rfl (.nil _))))
    · refine sim_exi ?_
      refine exi_then ?_
      refine exi_loop ?_
      refine exi_here ?_
      exact nrm_cut (s := (s3v.1, s3v.2)) y4v ⟨rfl, rfl, trivial⟩ (.sel 0 rfl (.sel 0 rfl (.sel 0 rfl (.nil _))))
  · intro s1v y2v
    refine sim_region ?_
    refine simL_val (q_move rfl rfl) rfl rfl rfl ?_
    refine simL_val (q_move rfl rfl) rfl rfl rfl ?_
    refine simL_val (q_conv rfl rfl Try.underlying3 Try.underlying5) rfl rfl rfl ?_
    refine simL_bind (fun s12v hs14v => ?_)
    refine simL_eff (re_yield (IntKind.u8.wrap s1v.1) 1 rfl rfl rfl rfl rfl rfl hY rfl hs14v) rfl rfl rfl ?_
    intro y13v
    refine simL_nil ?_
    exact nrm_fn y13v rfl rfl rfl (.sel 1 rfl (.sel 0 rfl (.sel 0 rfl (.nil _))))

def wire_sevens.f (x0 : Int) : Option (Int) := some x0
theorem wire_sevens.calls (W : World) (F : HA) (x0 : Int)  :
    Fn Try.prog W 47 [.int .i64 x0] [] F (wire_sevens.f x0) (fun (r : Int) (y : Nat) => .func (.func 55) #[] #[.pointer (some ⟨y, 0, none⟩)]) (fun r y => [obj y 3 [.int .i64 r]]) := by
  unfold wire_sevens.f
  refine fn_intro 4 Try.func47 rfl Try.ntmps47 rfl ?_
  refine sim_seq ?_
  refine sim_region ?_
  refine simL_eff (re_box rfl rfl rfl) rfl rfl rfl ?_
  intro b1v
  refine simL_val (q_asg rfl rfl) rfl rfl rfl ?_
  refine simL_nil ?_
  refine nrm_then ?_
  refine sim_seq ?_
  refine sim_region ?_
  refine simL_val (q_mkfn rfl rfl rfl) rfl rfl rfl ?_
  refine simL_val (q_asg rfl rfl) rfl rfl rfl ?_
  refine simL_nil ?_
  refine nrm_then ?_
  refine sim_rtn ?_
  exact rtn_fn b1v rfl rfl rfl (.sel 0 rfl (.sel 0 rfl (.nil _)))

def wire_PutInt.f (k : Nat) (x0 : Int) : Option (List UInt8 × Int) := (wire_Size.f k x0).bind fun s1v => (if s1v = (0 : Int) then (some (([] : List UInt8), 1)) else (if 0 ≤ (0 : Int) ∧ (0 : Int) ≤ s1v ∧ s1v * 1 ≤ 140737488355328 then ((wire_sevens.f x0).bind fun s9v => ((wire_sevens_1.f k (fun (s13v : List UInt8) (x12v : Int) => if 0 ≤ x12v ∧ x12v < 256 then (if (s13v.length + ([(byte x12v)] : List UInt8).length) * 1 ≤ 140737488355328 then (some (s13v ++ ([(byte x12v)] : List UInt8))) else none) else none) (List.replicate (0 : Int).toNat (0 : UInt8)) s9v).bind fun s19v => (some (s19v, 0)))) else none))
theorem wire_PutInt.calls (W : World) (F : HA) (k : Nat) (x0 : Int)  :
    Fn Try.prog W 11 [.int .i64 x0] [] F (wire_PutInt.f k x0) (fun (r : List UInt8 × Int) (y : Option Addr × Nat) => .tuple #[.slice y.1 r.1.length y.2, .int .i64 r.2]) (fun r y => [Row 5 1 y.1 r.1.length y.2 (encB r.1)]) := by
  unfold wire_PutInt.f
  refine fn_introM 21 Try.func11 rfl Try.ntmps11 rfl ?_
  refine sim_seq ?_
  refine sim_region ?_
  refine simL_val (q_asg rfl rfl) rfl rfl rfl ?_
  refine simL_val (q_asg rfl rfl) rfl rfl rfl ?_
  refine simL_nil ?_
  refine nrm_then ?_
  refine sim_seq ?_
  refine sim_region ?_
  refine simL_val (q_move rfl rfl) rfl rfl rfl ?_
  refine simL_bind (fun s1v hs3v => ?_)
  refine simL_eff (re_call (vs := [.int .i64 x0]) (cap := []) (A := []) (rst := [F]) rfl rfl rfl rfl rfl rfl Try.call15 (.sel 0 rfl (.nil _)) (wire_Size.calls _ _ k x0 ) hs3v) rfl rfl rfl ?_
  intro y2v
  refine simL_val (q_asg rfl rfl) rfl rfl rfl ?_
  refine simL_nil ?_
  refine nrm_then ?_
  refine sim_seq ?_
  refine sim_seq ?_
  refine sim_region ?_
  refine simL_val (q_move rfl rfl) rfl rfl rfl ?_
  refine simL_val (q_eql rfl rfl rfl) rfl rfl rfl ?_
  refine simL_nil ?_
  refine nrm_then ?_
  refine sim_cond rfl (fun h4v => ?_) (fun h5v => ?_)
  · refine sim_seq ?_
    refine sim_region ?_
    refine simL_val (q_asg rfl rfl) rfl rfl rfl ?_
    refine simL_val (q_asg rfl rfl) rfl rfl rfl ?_
    refine simL_nil ?_
    refine nrm_then ?_
    refine sim_rtn ?_
    refine rtn_then ?_
    exact rtn_fnM [] (none, 0) rfl rfl rfl (.row_nil (.sel 0 rfl (.nil _)))
  · refine sim_skip ?_
    refine nrm_then ?_
    refine sim_seq ?_
    refine sim_region ?_
    refine simL_val (q_move rfl rfl) rfl rfl rfl ?_
    refine simL_ask (fun hb7v => ?_)
    refine simL_eff (re_makeb rfl rfl rfl Try.underlying23 elt5 hb7v.1 hb7v.2.1 hb7v.2.2) rfl rfl rfl ?_
    intro b6v
    refine simL_eff (re_alloc rfl Try.zeroValue23 rfl) rfl rfl rfl ?_
    intro b8v
    refine simL_do (re_store 0 rfl rfl rfl Try.sizeOf23 rfl rfl (one_of (by rfl)) rfl rfl) rfl rfl ?_
    intro _
    refine simL_nil ?_
    refine nrm_then ?_
    refine sim_seq ?_
    refine sim_seq ?_
    refine sim_region ?_
    refine simL_val (q_move rfl rfl) rfl rfl rfl ?_
    refine simL_bind (fun s9v hs11v => ?_)
    refine simL_eff (re_call (vs := [.int .i64 x0]) (cap := []) (A := []) (rst := [obj b8v 23 [.slice (some ⟨b6v, 0, none⟩) ((List.replicate (0 : Int).toNat (0 : UInt8)).length) s1v.toNat], Row 5 1 (some ⟨b6v, 0, none⟩) (List.replicate (0 : Int).toNat (0 : UInt8)).length s1v.toNat (encB (List.replicate (0 : Int).toNat (0 : UInt8))), F]) rfl rfl rfl rfl rfl rfl Try.call47 (.sel 0 rfl (.sel 0 rfl (.sel 0 rfl (.nil _)))) (wire_sevens.calls _ _ x0 ) hs11v) rfl rfl rfl ?_
    intro y10v
    refine simL_nil ?_
    refine nrm_then ?_
    refine sim_block ?_
    refine sim_range (S := List UInt8) (Y := Option Addr × Nat) (R' := List UInt8) (Y' := (Option Addr × Nat)) (ps := [15]) (Cap := [obj y10v 3 [.int .i64 s9v]]) (rst := []) (CapB := fun r y => [obj y10v 3 [.int .i64 s9v]]) (enc := fun (x : Int) => [.int .u8 x]) (oN := wire_sevens_1.f k (fun (s13v : List UInt8) (x12v : Int) => if 0 ≤ x12v ∧ x12v < 256 then (if (s13v.length + ([(byte x12v)] : List UInt8).length) * 1 ≤ 140737488355328 then (some (s13v ++ ([(byte x12v)] : List UInt8))) else none) else none) (List.replicate (0 : Int).toNat (0 : UInt8)) s9v) (fun s y => [obj b8v 23 [.slice y.1 s.length y.2], Row 5 1 y.1 s.length y.2 (encB s), F]) (List.replicate (0 : Int).toNat (0 : UInt8)) ((some ⟨b6v, 0, none⟩), s1v.toNat) (fun s13v x12v y14v => [(5, .pointer (some ⟨b8v, 0, none⟩)), (6, .int .u8 x12v)]) (fun r => r) (fun r y => y) rfl rfl Try.call55 (fun l A hY X => wire_sevens_1.calls _ _ k _ _ l _ A _ _ y10v s9v hY) rfl (fun _ => rfl) (.sel 1 rfl (.sel 1 rfl (.sel 1 rfl (.sel 0 rfl (.nil _))))) ?_ ?_ ?_
    · intro l s13v x12v y14v Fr
      refine sim_ent (H' := [obj b8v 23 [.slice y14v.1 s13v.length y14v.2], Row 5 1 y14v.1 s13v.length y14v.2 (encB s13v), F, Fr]) (Ent.refl _) ?_
      refine sim_region ?_
      refine simL_val (q_asg rfl rfl) rfl rfl rfl ?_
      refine simL_nil ?_
      exact nrm_cut () ⟨rfl, rfl, trivial⟩ (Ent.refl _)
    · intro l s13v x12v y14v Fr
      refine sim_ent (H' := [obj b8v 23 [.slice y14v.1 s13v.length y14v.2], Row 5 1 y14v.1 s13v.length y14v.2 (encB s13v), F, Fr]) (Ent.refl _) ?_
      refine sim_block ?_
      refine sim_region ?_
      refine simL_val (q_load rfl rfl Try.isAgg23 (.obj 0 rfl rfl)) rfl rfl rfl ?_
      refine simL_val (q_move rfl rfl) rfl rfl rfl ?_
      refine simL_ask (fun hb16v => ?_)
      refine simL_eff (re_litb (cs := [.int .u8 x12v]) ([(byte x12v)] : List UInt8) rfl rfl Try.underlying23 elt5 rfl (by kernel_rfl) rfl rfl (byte_lit1 hb16v)) rfl rfl rfl ?_
      intro b15v
      refine simL_ask (fun hb18v => ?_)
      refine simL_eff (re_appendb 2 rfl rfl rfl Try.underlying23 elt5 rfl (Rds.row 0 rfl) hb18v) rfl rfl rfl ?_
      intro y17v
      refine simL_do (re_store 1 rfl rfl rfl Try.sizeOf23 rfl rfl (one_of (by rfl)) rfl rfl) rfl rfl ?_
      intro _
      refine simL_nil ?_
      refine nrm_block ?_
      exact nrm_cut (s := s13v ++ ([(byte x12v)] : List UInt8)) (y17v.1, y17v.2) trivial (.sel 1 rfl (.sel 1 rfl (.sel 1 rfl (.sel 1 rfl (.nil _)))))
    · intro D21v s19v y20v
      refine nrm_ent (H' := [shutD D21v, obj b8v 23 [.slice y20v.1 s19v.length y20v.2], Row 5 1 y20v.1 s19v.length y20v.2 (encB s19v), F, obj y10v 3 [.int .i64 s9v]]) (Ent.refl _) ?_
      refine nrm_block ?_
      refine nrm_then ?_
      refine sim_seq ?_
      refine sim_region ?_
      refine simL_val (q_load rfl rfl Try.isAgg23 (.obj 1 rfl rfl)) rfl rfl rfl ?_
      refine simL_val (q_asg rfl rfl) rfl rfl rfl ?_
      refine simL_val (q_asg rfl rfl) rfl rfl rfl ?_
      refine simL_nil ?_
      refine nrm_then ?_
      refine sim_rtn ?_
      exact rtn_fnM [D21v] (y20v.1, y20v.2) rfl rfl rfl (.sel 0 rfl (.sel 1 rfl (.sel 1 rfl (.nil _))))

def wire_Int.l0 (x0 : List UInt8) (x1 : Int) : Nat → Int → Int → Option ((Unit) ⊕ (Int × Int × Int))
  | 0, _, _ => none
  | k + 1, z7v, z8v => if z8v < (9 : Int) then (if IntKind.i64.wrap ((x0.length : Int) - x1) ≤ z8v then (some (.inr (0, 0, 2))) else (if 0 ≤ IntKind.i64.wrap (x1 + z8v) ∧ IntKind.i64.wrap (x1 + z8v) < (x0.length : Int) then (if 0 ≤ IntKind.i64.wrap (7 * z8v) then (if (128 : Int) ≤ ((x0.getD (IntKind.i64.wrap (x1 + z8v)).toNat 0).toNat : Int) then (wire_Int.l0 x0 x1 k (bitsV .or .i64 z7v (IntKind.i64.wrap ((IntKind.i64.wrap (bitsV .and .u8 ((x0.getD (IntKind.i64.wrap (x1 + z8v)).toNat 0).toNat : Int) 127)) * 2 ^ (min (IntKind.i64.wrap (7 * z8v)).toNat IntKind.i64.bits)))) (IntKind.i64.wrap (z8v + 1))) else (if ((decide (((x0.getD (IntKind.i64.wrap (x1 + z8v)).toNat 0).toNat : Int) = (0 : Int))) && (decide ((0 : Int) < z8v))) = true then (some (.inr (0, 0, 4))) else (if (4611686018427387904 : Int) < bitsV .or .i64 z7v (IntKind.i64.wrap ((IntKind.i64.wrap (bitsV .and .u8 ((x0.getD (IntKind.i64.wrap (x1 + z8v)).toNat 0).toNat : Int) 127)) * 2 ^ (min (IntKind.i64.wrap (7 * z8v)).toNat IntKind.i64.bits))) then (some (.inr (0, 0, 1))) else (some (.inr (bitsV .or .i64 z7v (IntKind.i64.wrap ((IntKind.i64.wrap (bitsV .and .u8 ((x0.getD (IntKind.i64.wrap (x1 + z8v)).toNat 0).toNat : Int) 127)) * 2 ^ (min (IntKind.i64.wrap (7 * z8v)).toNat IntKind.i64.bits))), IntKind.i64.wrap (z8v + 1), 0)))))) else none) else none)) else (some (.inl ()))
def wire_Int.f (k : Nat) (x0 : List UInt8) (x1 : Int) : Option (Int × Int × Int) := if ((decide (x1 < (0 : Int))) || (decide ((x0.length : Int) ≤ x1))) = true then (some (0, 0, 2)) else (orR (wire_Int.l0 x0 x1 k 0 0) fun s3v => (some (0, 0, 4)))
theorem wire_Int.calls (W : World) (F : HA) (k : Nat) (a0 : Option Addr) (c0 : Nat) (x0 : List UInt8) (x1 : Int) (h0 : Rd F a0 (encB x0)) (hc0 : x0.length ≤ c0) (hm0 : c0 ≤ maxLen) :
    Fn Try.prog W 18 [.slice a0 x0.length c0, .int .i64 x1] [] F (wire_Int.f k x0 x1) (fun (r : Int × Int × Int) (y : Unit) => .tuple #[.int .i64 r.1, .int .i64 r.2.1, .int .i64 r.2.2]) (fun r y => []) := by
  unfold wire_Int.f
  refine fn_intro 55 Try.func18 rfl Try.ntmps18 rfl ?_
  refine sim_seq ?_
  refine sim_region ?_
  refine simL_val (q_asg rfl rfl) rfl rfl rfl ?_
  refine simL_val (q_asg rfl rfl) rfl rfl rfl ?_
  refine simL_val (q_asg rfl rfl) rfl rfl rfl ?_
  refine simL_nil ?_
  refine nrm_then ?_
  refine sim_seq ?_
  refine sim_seq ?_
  refine sim_region ?_
  refine simL_val (q_move rfl rfl) rfl rfl rfl ?_
  refine simL_val (q_lss rfl rfl rfl) rfl rfl rfl ?_
  refine simL_val (q_move rfl rfl) rfl rfl rfl ?_
  refine simL_valc (b := decide (x1 < (0 : Int))) (fun hb29v => RQ.sub (E' := [(1, .int .i64 x1)]) ⟨rfl, trivial⟩ (q_move rfl rfl)) rfl rfl rfl rfl rfl ?_
  refine simL_valc (b := decide (x1 < (0 : Int))) (fun hb28v => RQ.sub (E' := [(0, .slice a0 x0.length c0)]) ⟨rfl, trivial⟩ (q_move rfl rfl)) rfl rfl rfl rfl rfl ?_
  refine simL_valc (b := decide (x1 < (0 : Int))) (fun hb27v => RQ.sub (E' := [(14, .slice a0 x0.length c0)]) ⟨lk_cv rfl hb27v, trivial⟩ (q_len rfl rfl rfl Try.underlying23)) rfl rfl rfl rfl rfl ?_
  refine simL_valc (b := decide (x1 < (0 : Int))) (fun hb26v => RQ.sub (E' := [(13, .int .i64 x1), (15, .int .i64 (x0.length : Int))]) ⟨lk_cv rfl hb26v, lk_cv rfl hb26v, trivial⟩ (q_geq rfl rfl rfl)) rfl rfl rfl rfl rfl ?_
  refine simL_val (q_or rfl rfl rfl) rfl rfl rfl ?_
  refine simL_nil ?_
  refine nrm_then ?_
  refine sim_condb rfl (fun h1v => ?_) (fun h2v => ?_)
  · refine sim_seq ?_
    refine sim_region ?_
    refine simL_val (q_asg rfl rfl) rfl rfl rfl ?_
    refine simL_val (q_asg rfl rfl) rfl rfl rfl ?_
    refine simL_val (q_asg rfl rfl) rfl rfl rfl ?_
    refine simL_nil ?_
    refine nrm_then ?_
    refine sim_rtn ?_
    refine rtn_then ?_
    exact rtn_fn () rfl rfl rfl (.sel 0 rfl (.nil _))
  · refine sim_skip ?_
    refine nrm_then ?_
    refine sim_seq ?_
    refine sim_region ?_
    refine simL_val (q_asg rfl rfl) rfl rfl rfl ?_
    refine simL_nil ?_
    refine nrm_then ?_
    refine sim_cutR (S := Unit) (Unit) (fun s y => []) (fun s y => [F]) ?_ ?_
    · refine sim_seq ?_
      refine sim_region ?_
      refine simL_val (q_asg rfl rfl) rfl rfl rfl ?_
      refine simL_nil ?_
      refine nrm_then ?_
      refine sim_block ?_
      refine sim_loop (S := Int × Int) (Unit) (fun k s => wire_Int.l0 x0 x1 k s.1 s.2) (fun s y => [(0, .slice a0 x0.length c0), (1, .int .i64 x1), (7, .int .i64 s.1), (8, .int .i64 s.2)]) (fun s y => [F]) (fun _ => by rw [wire_Int.l0]) ?_ k (0, 0) () ⟨rfl, rfl, rfl, rfl, trivial⟩ (.sel 0 rfl (.nil _))
      intro k s5v y6v
      refine sim_eq (by rw [wire_Int.l0]) ?_
      refine sim_seq ?_
      refine sim_seq ?_
      refine sim_region ?_
      refine simL_val (q_move rfl rfl) rfl rfl rfl ?_
      refine simL_val (q_lss rfl rfl rfl) rfl rfl rfl ?_
      refine simL_nil ?_
      refine nrm_then ?_
      refine sim_cond rfl (fun h9v => ?_) (fun h10v => ?_)
      · refine sim_skip ?_
        refine nrm_then ?_
        refine sim_seq ?_
        refine sim_block ?_
        refine sim_seq ?_
        refine sim_seq ?_
        refine sim_region ?_
        refine simL_val (q_move rfl rfl) rfl rfl rfl ?_
        refine simL_val (q_move rfl rfl) rfl rfl rfl ?_
        refine simL_val (q_len rfl rfl rfl Try.underlying23) rfl rfl rfl ?_
        refine simL_val (q_move rfl rfl) rfl rfl rfl ?_
        refine simL_val (q_sub rfl rfl rfl) rfl rfl rfl ?_
        refine simL_val (q_geq rfl rfl rfl) rfl rfl rfl ?_
        refine simL_nil ?_
        refine nrm_then ?_
        refine sim_cond rfl (fun h11v => ?_) (fun h12v => ?_)
        · refine sim_seq ?_
          refine sim_region ?_
          refine simL_val (q_asg rfl rfl) rfl rfl rfl ?_
          refine simL_val (q_asg rfl rfl) rfl rfl rfl ?_
          refine simL_val (q_asg rfl rfl) rfl rfl rfl ?_
          refine simL_nil ?_
          refine nrm_then ?_
          refine sim_rtn ?_
          refine rtn_then ?_
          refine rtn_block ?_
          refine rtn_then ?_
          refine rtn_loop ?_
          refine rtn_block ?_
          refine rtn_cutR ?_
          exact rtn_fn () rfl rfl rfl (.sel 0 rfl (.nil _))
        · refine sim_skip ?_
          refine nrm_then ?_
          refine sim_seq ?_
          refine sim_region ?_
          refine simL_val (q_move rfl rfl) rfl rfl rfl ?_
          refine simL_val (q_move rfl rfl) rfl rfl rfl ?_
          refine simL_val (q_move rfl rfl) rfl rfl rfl ?_
          refine simL_val (q_add rfl rfl rfl) rfl rfl rfl ?_
          refine simL_ask (fun hi13v => ?_)
          obtain ⟨b14v, b14vo, ha15v⟩ := h0.pos (encB_ne (j := (IntKind.i64.wrap (x1 + s5v.2)).toNat) (by omega))
          refine simL_val (q_idx1 rfl rfl rfl ha15v Try.underlying23 Try.sizeOf5 hi13v.1 hi13v.2) rfl rfl rfl ?_
          refine simL_val (q_load rfl rfl Try.isAgg5 (h0.cell 0 rfl ha15v (encB_get (by omega)))) rfl rfl rfl ?_
          refine simL_val (q_asg rfl rfl) rfl rfl rfl ?_
          refine simL_nil ?_
          refine nrm_then ?_
          refine sim_seq ?_
          refine sim_region ?_
          refine simL_val (q_move rfl rfl) rfl rfl rfl ?_
          refine simL_val (q_move rfl rfl) rfl rfl rfl ?_
          refine simL_val (q_and_ rfl rfl rfl) rfl rfl rfl ?_
          refine simL_val (q_conv rfl rfl Try.underlying5 Try.underlying3) rfl rfl rfl ?_
          refine simL_val (q_move rfl rfl) rfl rfl rfl ?_
          refine simL_val (q_mul rfl rfl rfl) rfl rfl rfl ?_
          refine simL_ask (fun hb17v => ?_)
          refine simL_val (q_shl rfl rfl rfl hb17v) rfl rfl rfl ?_
          refine simL_val (q_or_ rfl rfl rfl) rfl rfl rfl ?_
          refine simL_val (q_asg rfl rfl) rfl rfl rfl ?_
          refine simL_nil ?_
          refine nrm_then ?_
          refine sim_seq ?_
          refine sim_seq ?_
          refine sim_region ?_
          refine simL_val (q_move rfl rfl) rfl rfl rfl ?_
          refine simL_val (q_geq rfl rfl rfl) rfl rfl rfl ?_
          refine simL_nil ?_
          refine nrm_then ?_
          refine sim_cond rfl (fun h18v => ?_) (fun h19v => ?_)
          · refine sim_exi ?_
            refine exi_then ?_
            refine exi_here ?_
            refine nrm_then ?_
            refine sim_region ?_
            refine simL_val (q_move rfl rfl) rfl rfl rfl ?_
            refine simL_val (q_add rfl rfl rfl) rfl rfl rfl ?_
            refine simL_val (q_asg rfl rfl) rfl rfl rfl ?_
            refine simL_nil ?_
            exact nrm_again (s := (bitsV .or .i64 s5v.1 (IntKind.i64.wrap ((IntKind.i64.wrap (bitsV .and .u8 ((x0.getD (IntKind.i64.wrap (x1 + s5v.2)).toNat 0).toNat : Int) 127)) * 2 ^ (min (IntKind.i64.wrap (7 * s5v.2)).toNat IntKind.i64.bits))), IntKind.i64.wrap (s5v.2 + 1))) () ⟨rfl, rfl, rfl, rfl, trivial⟩ (.sel 0 rfl (.nil _))
          · refine sim_skip ?_
            refine nrm_then ?_
            refine sim_seq ?_
            refine sim_seq ?_
            refine sim_region ?_
            refine simL_val (q_move rfl rfl) rfl rfl rfl ?_
            refine simL_val (q_eql rfl rfl rfl) rfl rfl rfl ?_
            refine simL_val (q_move rfl rfl) rfl rfl rfl ?_
            refine simL_valc (b := decide (((x0.getD (IntKind.i64.wrap (x1 + s5v.2)).toNat 0).toNat : Int) = (0 : Int))) (fun hb25v => RQ.sub (E' := [(8, .int .i64 s5v.2)]) ⟨rfl, trivial⟩ (q_move rfl rfl)) rfl rfl rfl rfl rfl ?_
            refine simL_valc (b := decide (((x0.getD (IntKind.i64.wrap (x1 + s5v.2)).toNat 0).toNat : Int) = (0 : Int))) (fun hb24v => RQ.sub (E' := [(47, .int .i64 s5v.2)]) ⟨lk_cv rfl hb24v, trivial⟩ (q_gtr rfl rfl rfl)) rfl rfl rfl rfl rfl ?_
            refine simL_val (q_and rfl rfl rfl) rfl rfl rfl ?_
            refine simL_nil ?_
            refine nrm_then ?_
            refine sim_condb rfl (fun h20v => ?_) (fun h21v => ?_)
            · refine sim_seq ?_
              refine sim_region ?_
              refine simL_val (q_asg rfl rfl) rfl rfl rfl ?_
              refine simL_val (q_asg rfl rfl) rfl rfl rfl ?_
              refine simL_val (q_asg rfl rfl) rfl rfl rfl ?_
              refine simL_nil ?_
              refine nrm_then ?_
              refine sim_rtn ?_
              refine rtn_then ?_
              refine rtn_block ?_
              refine rtn_then ?_
              refine rtn_loop ?_
              refine rtn_block ?_
              refine rtn_cutR ?_
              exact rtn_fn () rfl rfl rfl (.sel 0 rfl (.nil _))
            · refine sim_skip ?_
              refine nrm_then ?_
              refine sim_seq ?_
              refine sim_seq ?_
              refine sim_region ?_
              refine simL_val (q_move rfl rfl) rfl rfl rfl ?_
              refine simL_val (q_gtr rfl rfl rfl) rfl rfl rfl ?_
              refine simL_nil ?_
              refine nrm_then ?_
              refine sim_cond rfl (fun h22v => ?_) (fun h23v => ?_)
              · refine sim_seq ?_
                refine sim_region ?_
                refine simL_val (q_asg rfl rfl) rfl rfl rfl ?_
                refine simL_val (q_asg rfl rfl) rfl rfl rfl ?_
                refine simL_val (q_asg rfl rfl) rfl rfl rfl ?_
                refine simL_nil ?_
                refine nrm_then ?_
                refine sim_rtn ?_
                refine rtn_then ?_
                refine rtn_block ?_
                refine rtn_then ?_
                refine rtn_loop ?_
                refine rtn_block ?_
                refine rtn_cutR ?_
                exact rtn_fn () rfl rfl rfl (.sel 0 rfl (.nil _))
              · refine sim_skip ?_
                refine nrm_then ?_
                refine sim_seq ?_
                refine sim_region ?_
                refine simL_val (q_move rfl rfl) rfl rfl rfl ?_
                refine simL_val (q_move rfl rfl) rfl rfl rfl ?_
                refine simL_val (q_add rfl rfl rfl) rfl rfl rfl ?_
                refine simL_val (q_asg rfl rfl) rfl rfl rfl ?_
                refine simL_val (q_asg rfl rfl) rfl rfl rfl ?_
                refine simL_val (q_asg rfl rfl) rfl rfl rfl ?_
                refine simL_nil ?_
                refine nrm_then ?_
                refine sim_rtn ?_
                refine rtn_block ?_
                refine rtn_then ?_
                refine rtn_loop ?_
                refine rtn_block ?_
                refine rtn_cutR ?_
                exact rtn_fn () rfl rfl rfl (.sel 0 rfl (.nil _))
      · refine sim_exi ?_
        refine exi_then ?_
        refine exi_loop ?_
        refine exi_here ?_
        exact nrm_cutR (s := ()) () trivial (.sel 0 rfl (.nil _))
    · intro s3v y4v
      refine sim_seq ?_
      refine sim_region ?_
      refine simL_val (q_asg rfl rfl) rfl rfl rfl ?_
      refine simL_val (q_asg rfl rfl) rfl rfl rfl ?_
      refine simL_val (q_asg rfl rfl) rfl rfl rfl ?_
      refine simL_nil ?_
      refine nrm_then ?_
      refine sim_rtn ?_
      exact rtn_fn () rfl rfl rfl (.sel 0 rfl (.nil _))

def wire_fresh.f (x0 : List UInt8) : Option (List UInt8) := if 0 ≤ (x0.length : Int) ∧ (x0.length : Int) ≤ (x0.length : Int) ∧ (x0.length : Int) * 1 ≤ 140737488355328 then (some (copyB (List.replicate (x0.length : Int).toNat (0 : UInt8)) x0)) else none
theorem wire_fresh.calls (W : World) (F : HA) (a0 : Option Addr) (c0 : Nat) (x0 : List UInt8) (h0 : Rd F a0 (encB x0)) (hc0 : x0.length ≤ c0) (hm0 : c0 ≤ maxLen) :
    Fn Try.prog W 48 [.slice a0 x0.length c0] [] F (wire_fresh.f x0) (fun (r : List UInt8) (y : Option Addr × Nat) => .slice y.1 r.length y.2) (fun r y => [Row 5 1 y.1 r.length y.2 (encB r)]) := by
  unfold wire_fresh.f
  refine fn_intro 11 Try.func48 rfl Try.ntmps48 rfl ?_
  refine sim_seq ?_
  refine sim_region ?_
  refine simL_val (q_asg rfl rfl) rfl rfl rfl ?_
  refine simL_nil ?_
  refine nrm_then ?_
  refine sim_seq ?_
  refine sim_region ?_
  refine simL_val (q_move rfl rfl) rfl rfl rfl ?_
  refine simL_val (q_len rfl rfl rfl Try.underlying23) rfl rfl rfl ?_
  refine simL_ask (fun hb2v => ?_)
  refine simL_eff (re_makeb rfl rfl rfl Try.underlying23 elt5 hb2v.1 hb2v.2.1 hb2v.2.2) rfl rfl rfl ?_
  intro b1v
  refine simL_val (q_asg rfl rfl) rfl rfl rfl ?_
  refine simL_nil ?_
  refine nrm_then ?_
  refine sim_seq ?_
  refine sim_region ?_
  refine simL_val (q_move rfl rfl) rfl rfl rfl ?_
  refine simL_val (q_move rfl rfl) rfl rfl rfl ?_
  refine simL_eff (re_copyb 0 rfl rfl rfl Try.underlying23 elt5 rfl (h0.rds 1 rfl)) rfl rfl rfl ?_
  intro _
  refine simL_ren (.slice (some ⟨b1v, 0, none⟩) ((copyB (List.replicate (x0.length : Int).toNat (0 : UInt8)) x0).length) ((x0.length : Int).toNat)) (d := 6) rfl (slc_len (copyB_length _ _).symm) ?_
  refine simL_ren (.slice (some ⟨b1v, 0, none⟩) ((copyB (List.replicate (x0.length : Int).toNat (0 : UInt8)) x0).length) ((x0.length : Int).toNat)) (d := 3) rfl (slc_len (copyB_length _ _).symm) ?_
  refine simL_ren (.slice (some ⟨b1v, 0, none⟩) ((copyB (List.replicate (x0.length : Int).toNat (0 : UInt8)) x0).length) ((x0.length : Int).toNat)) (d := 7) rfl (slc_len (copyB_length _ _).symm) ?_
  refine simL_nil ?_
  refine nrm_then ?_
  refine sim_seq ?_
  refine sim_region ?_
  refine simL_val (q_move rfl rfl) rfl rfl rfl ?_
  refine simL_val (q_asg rfl rfl) rfl rfl rfl ?_
  refine simL_nil ?_
  refine nrm_then ?_
  refine sim_rtn ?_
  exact rtn_fn ((some ⟨b1v, 0, none⟩), (x0.length : Int).toNat) rfl rfl rfl (.sel 0 rfl (.sel 0 rfl (.nil _)))

def wire_NewReader.f (x0 : List UInt8) : Option (List UInt8 × Int × Int) := (wire_fresh.f x0).bind fun s1v => (some (s1v, 0, 0))
theorem wire_NewReader.calls (W : World) (F : HA) (a0 : Option Addr) (c0 : Nat) (x0 : List UInt8) (h0 : Rd F a0 (encB x0)) (hc0 : x0.length ≤ c0) (hm0 : c0 ≤ maxLen) :
    Fn Try.prog W 22 [.slice a0 x0.length c0] [] F (wire_NewReader.f x0) (fun (r : List UInt8 × Int × Int) (y : Nat × Option Addr × Nat) => .pointer (some ⟨y.1, 0, none⟩)) (fun r y => [obj y.1 78 [.slice y.2.1 r.1.length y.2.2, .int .i64 r.2.1, .int .i64 r.2.2], Row 5 1 y.2.1 r.1.length y.2.2 (encB r.1)]) := by
  unfold wire_NewReader.f
  refine fn_intro 7 Try.func22 rfl Try.ntmps22 rfl ?_
  refine sim_seq ?_
  refine sim_region ?_
  refine simL_val (q_asg rfl rfl) rfl rfl rfl ?_
  refine simL_nil ?_
  refine nrm_then ?_
  refine sim_seq ?_
  refine sim_region ?_
  refine simL_val (q_move rfl rfl) rfl rfl rfl ?_
  refine simL_bind (fun s1v hs3v => ?_)
  refine simL_eff (re_call (vs := [.slice a0 x0.length c0]) (cap := []) (A := []) (rst := [F]) rfl rfl rfl rfl rfl rfl Try.call48 (.sel 0 rfl (.nil _)) (wire_fresh.calls _ _ a0 c0 x0 (h0.lend 0 rfl) hc0 hm0) hs3v) rfl rfl rfl ?_
  intro y2v
  refine simL_val (q_build (v := .agg #[.slice y2v.1 s1v.length y2v.2, .int .i64 0, .int .i64 0]) rfl rfl (fun _ => by kernel_rfl)) rfl rfl rfl ?_
  refine simL_eff (re_box rfl rfl rfl) rfl rfl rfl ?_
  intro b4v
  refine simL_val (q_asg rfl rfl) rfl rfl rfl ?_
  refine simL_nil ?_
  refine nrm_then ?_
  refine sim_rtn ?_
  exact rtn_fn (b4v, y2v.1, y2v.2) rfl rfl rfl (.sel 0 rfl (.sel 0 rfl (.sel 0 rfl (.nil _))))

def wire_Reader_look.f (k : Nat) (x0_0 : List UInt8) (x0_1 : Int) (x0_2 : Int) : Option (Int × Int × Bool × Int × Int) := if x0_2 = (0 : Int) then ((wire_Int.f k x0_0 x0_1).bind fun s3v => (some (s3v.1, s3v.2.1, decide (s3v.2.2 = (0 : Int)), x0_1, s3v.2.2))) else (some (0, 0, false, x0_1, x0_2))
theorem wire_Reader_look.calls (W : World) (F : HA) (k : Nat) (b0 : Nat) (a0_0 : Option Addr) (c0_0 : Nat) (x0_0 : List UInt8) (x0_1 : Int) (x0_2 : Int) (h0_0 : Rd F a0_0 (encB x0_0)) (hc0_0 : x0_0.length ≤ c0_0) (hm0_0 : c0_0 ≤ maxLen) :
    Fn Try.prog W 54 [.pointer (some ⟨b0, 0, none⟩)] [obj b0 78 [.slice a0_0 x0_0.length c0_0, .int .i64 x0_1, .int .i64 x0_2]] F (wire_Reader_look.f k x0_0 x0_1 x0_2) (fun (r : Int × Int × Bool × Int × Int) (y : Unit) => .tuple #[.int .i64 r.1, .int .i64 r.2.1, .bool r.2.2.1]) (fun r y => [obj b0 78 [.slice a0_0 x0_0.length c0_0, .int .i64 r.2.2.2.1, .int .i64 r.2.2.2.2]]) := by
  unfold wire_Reader_look.f
  refine fn_intro 34 Try.func54 rfl Try.ntmps54 rfl ?_
  refine sim_seq ?_
  refine sim_region ?_
  refine simL_val (q_asg rfl rfl) rfl rfl rfl ?_
  refine simL_val (q_asg rfl rfl) rfl rfl rfl ?_
  refine simL_val (q_asg rfl rfl) rfl rfl rfl ?_
  refine simL_nil ?_
  refine nrm_then ?_
  refine sim_seq ?_
  refine sim_seq ?_
  refine sim_region ?_
  refine simL_val (q_move rfl rfl) rfl rfl rfl ?_
  refine simL_val (q_nil rfl rfl) rfl rfl rfl ?_
  refine simL_val (q_fa rfl rfl Try.underlying78 rfl rfl Try.sizeOf24 rfl) rfl rfl rfl ?_
  refine simL_val (q_load rfl rfl Try.isAgg24 (.obj 0 rfl rfl)) rfl rfl rfl ?_
  refine simL_val (q_neq rfl rfl rfl) rfl rfl rfl ?_
  refine simL_nil ?_
  refine nrm_then ?_
  refine sim_condn rfl (fun h1v => ?_) (fun h2v => ?_)
  · refine sim_skip ?_
    refine nrm_then ?_
    refine sim_seq ?_
    refine sim_bind (fun s3v hs5v => ?_)
    refine sim_draw (Γ := Unit) () [[], [0], [0, 1], [0, 1, 2], [], [4], [4, 5], [4, 5, 6], [0, 1, 2, 3, 4, 5, 6, 7], [0, 1, 2, 3, 4, 5, 6, 7, 8], [0, 1, 2, 3, 4, 5, 6, 7, 8, 9], [0, 1, 2, 3, 4, 5, 6, 7, 8, 9], [0, 1, 2, 3, 4, 5, 6, 7, 8, 9], [0, 1, 2, 3, 4, 5, 6, 7, 8, 9, 10], [0, 1, 2, 3, 4, 5, 6, 7, 8, 9, 10, 11, 13], [0, 1, 2, 3, 4, 5, 6, 7, 8, 9, 10, 11, 12, 13, 14]] [8] [0, 1, 2, 3, 4, 5, 6, 7, 9, 10, 11, 12, 13, 14, 15] (fun i => [[0], [0], [0], [0], [0], [0], [0], [0], [], [1], [1], [1], [1], [1], [1], [1]].getD i []) (fun i => [[], [], [], [], [], [], [], [], [0, 1, 2, 3, 4, 5, 6, 7], [], [], [], [], [], [], []].getD i []) (fun γ i => [.pointer (some ⟨b0, 0, none⟩), .pointer (some ⟨b0, 0, none⟩), .pointer (some ⟨b0, 0, none⟩), .slice a0_0 x0_0.length c0_0, .pointer (some ⟨b0, 0, none⟩), .pointer (some ⟨b0, 0, none⟩), .pointer (some ⟨b0, 1, none⟩), .int .i64 x0_1, .tuple #[.int .i64 s3v.1, .int .i64 s3v.2.1, .int .i64 s3v.2.2], .tuple #[.int .i64 s3v.1, .int .i64 s3v.2.1, .int .i64 s3v.2.2], .int .i64 s3v.1, .int .i64 s3v.2.1, .int .i64 s3v.2.2, .int .i64 s3v.1, .int .i64 s3v.2.1, .int .i64 s3v.2.2].getD i undef) (fun j γ => [[obj b0 78 [.slice a0_0 x0_0.length c0_0, .int .i64 x0_1, .int .i64 x0_2], F], [obj b0 78 [.slice a0_0 x0_0.length c0_0, .int .i64 x0_1, .int .i64 x0_2], F]].getD j []) (fun γ => [(0, .pointer (some ⟨b0, 0, none⟩)), (5, .int .i64 s3v.1), (6, .int .i64 s3v.2.1), (7, .int .i64 s3v.2.2)]) mixed (by decide) (by decide) (by decide) (by decide) (by decide) (by decide) (by decide) 34 rfl (by decide) (by decide) (by decide) (Ent.refl _) ?_ ?_ (fun _ => ⟨rfl, rfl, rfl, rfl, trivial⟩) ?_
    · exact (All.cons (fun γ => (All.cons (QOb.plain [(0, .pointer (some ⟨b0, 0, none⟩))] rfl rfl (.o rfl (by decide) .nil) (q_move rfl rfl) rfl) All.nil)) (All.cons (fun γ => (All.cons (QOb.plain [(14, .pointer (some ⟨b0, 0, none⟩))] rfl rfl (.w 0 rfl rfl rfl .nil) (q_nil rfl rfl) rfl) All.nil)) (All.cons (fun γ => (All.cons (QOb.plain [(15, .pointer (some ⟨b0, 0, none⟩))] rfl rfl (.w 1 rfl rfl rfl .nil) (q_fa rfl rfl Try.underlying78 rfl rfl Try.sizeOf23 rfl) rfl) All.nil)) (All.cons (fun γ => (All.cons (QOb.plain [(16, .pointer (some ⟨b0, 0, none⟩))] rfl rfl (.w 2 rfl rfl rfl .nil) (q_load rfl rfl Try.isAgg23 (.obj 0 rfl rfl)) rfl) All.nil)) (All.cons (fun γ => (All.cons (QOb.plain [(0, .pointer (some ⟨b0, 0, none⟩))] rfl rfl (.o rfl (by decide) .nil) (q_move rfl rfl) rfl) All.nil)) (All.cons (fun γ => (All.cons (QOb.plain [(18, .pointer (some ⟨b0, 0, none⟩))] rfl rfl (.w 4 rfl rfl rfl .nil) (q_nil rfl rfl) rfl) All.nil)) (All.cons (fun γ => (All.cons (QOb.plain [(19, .pointer (some ⟨b0, 0, none⟩))] rfl rfl (.w 5 rfl rfl rfl .nil) (q_fa rfl rfl Try.underlying78 rfl rfl Try.sizeOf3 rfl) rfl) All.nil)) (All.cons (fun γ => (All.cons (QOb.plain [(20, .pointer (some ⟨b0, 1, none⟩))] rfl rfl (.w 6 rfl rfl rfl .nil) (q_load rfl rfl Try.isAgg3 (.obj 0 rfl rfl)) rfl) All.nil)) (All.cons (fun γ => (All.cons (QOb.plain [(22, .tuple #[.int .i64 s3v.1, .int .i64 s3v.2.1, .int .i64 s3v.2.2])] rfl rfl (.w 8 rfl rfl rfl .nil) (q_move rfl rfl) rfl) All.nil)) (All.cons (fun γ => (All.cons (QOb.plain [(13, .tuple #[.int .i64 s3v.1, .int .i64 s3v.2.1, .int .i64 s3v.2.2])] rfl rfl (.w 9 rfl rfl rfl .nil) (q_ext rfl rfl rfl) rfl) All.nil)) (All.cons (fun γ => (All.cons (QOb.plain [(13, .tuple #[.int .i64 s3v.1, .int .i64 s3v.2.1, .int .i64 s3v.2.2])] rfl rfl (.w 9 rfl rfl rfl .nil) (q_ext rfl rfl rfl) rfl) All.nil)) (All.cons (fun γ => (All.cons (QOb.plain [(13, .tuple #[.int .i64 s3v.1, .int .i64 s3v.2.1, .int .i64 s3v.2.2])] rfl rfl (.w 9 rfl rfl rfl .nil) (q_ext rfl rfl rfl) rfl) All.nil)) (All.cons (fun γ => (All.cons (QOb.plain [(23, .int .i64 s3v.1)] rfl rfl (.w 10 rfl rfl rfl .nil) (q_asg rfl rfl) rfl) All.nil)) (All.cons (fun γ => (All.cons (QOb.plain [(24, .int .i64 s3v.2.1)] rfl rfl (.w 11 rfl rfl rfl .nil) (q_asg rfl rfl) rfl) All.nil)) (All.cons (fun γ => (All.cons (QOb.plain [(25, .int .i64 s3v.2.2)] rfl rfl (.w 12 rfl rfl rfl .nil) (q_asg rfl rfl) rfl) All.nil)) All.nil)))))))))))))))
    · exact (All.cons (fun γ => EOb.mk (Z := Unit) [(17, .slice a0_0 x0_0.length c0_0), (21, .int .i64 x0_1)] (fun z => ()) rfl rfl (.w 3 rfl rfl rfl (.w 7 rfl rfl rfl .nil)) (re_call (vs := [.slice a0_0 x0_0.length c0_0, .int .i64 x0_1]) (cap := []) (A := []) (rst := [obj b0 78 [.slice a0_0 x0_0.length c0_0, .int .i64 x0_1, .int .i64 x0_2], F]) rfl rfl rfl rfl rfl rfl Try.call18 (.sel 0 rfl (.sel 0 rfl (.nil _))) (wire_Int.calls _ _ k a0_0 c0_0 x0_0 x0_1 (h0_0.lend 1 rfl) hc0_0 hm0_0) hs5v) (fun _ => ⟨rfl, rfl, rfl, rfl, rfl, rfl, rfl, rfl, trivial⟩) (fun _ => .inr rfl) (fun z => Ent.refl _)) All.nil)
    · intro g6v
      refine nrm_then ?_
      refine sim_seq ?_
      refine sim_region ?_
      refine simL_val (q_move rfl rfl) rfl rfl rfl ?_
      refine simL_val (q_move rfl rfl) rfl rfl rfl ?_
      refine simL_val (q_nil rfl rfl) rfl rfl rfl ?_
      refine simL_val (q_fa rfl rfl Try.underlying78 rfl rfl Try.sizeOf24 rfl) rfl rfl rfl ?_
      refine simL_do (re_store 0 rfl rfl rfl Try.sizeOf24 rfl rfl (one_of (by rfl)) rfl rfl) rfl rfl ?_
      intro _
      refine simL_nil ?_
      refine nrm_then ?_
      refine sim_seq ?_
      refine sim_region ?_
      refine simL_val (q_move rfl rfl) rfl rfl rfl ?_
      refine simL_val (q_move rfl rfl) rfl rfl rfl ?_
      refine simL_val (q_move rfl rfl) rfl rfl rfl ?_
      refine simL_val (q_eql rfl rfl rfl) rfl rfl rfl ?_
      refine simL_val (q_asg rfl rfl) rfl rfl rfl ?_
      refine simL_val (q_asg rfl rfl) rfl rfl rfl ?_
      refine simL_val (q_asg rfl rfl) rfl rfl rfl ?_
      refine simL_nil ?_
      refine nrm_then ?_
      refine sim_rtn ?_
      exact rtn_fn () rfl rfl rfl (.sel 0 rfl (.sel 0 rfl (.nil _)))
  · refine sim_seq ?_
    refine sim_region ?_
    refine simL_val (q_asg rfl rfl) rfl rfl rfl ?_
    refine simL_val (q_asg rfl rfl) rfl rfl rfl ?_
    refine simL_val (q_asg rfl rfl) rfl rfl rfl ?_
    refine simL_nil ?_
    refine nrm_then ?_
    refine sim_rtn ?_
    refine rtn_then ?_
    exact rtn_fn () rfl rfl rfl (.sel 0 rfl (.sel 0 rfl (.nil _)))

def wire_Reader_Int.f (k : Nat) (x0_0 : List UInt8) (x0_1 : Int) (x0_2 : Int) : Option (Int × Int × Int) := (wire_Reader_look.f k x0_0 x0_1 x0_2).bind fun s1v => (if (!s1v.2.2.1) = true then (some (0, s1v.2.2.2.1, s1v.2.2.2.2)) else (some (s1v.1, IntKind.i64.wrap (s1v.2.2.2.1 + s1v.2.1), s1v.2.2.2.2)))
theorem wire_Reader_Int.calls (W : World) (F : HA) (k : Nat) (b0 : Nat) (a0_0 : Option Addr) (c0_0 : Nat) (x0_0 : List UInt8) (x0_1 : Int) (x0_2 : Int) (h0_0 : Rd F a0_0 (encB x0_0)) (hc0_0 : x0_0.length ≤ c0_0) (hm0_0 : c0_0 ≤ maxLen) :
    Fn Try.prog W 43 [.pointer (some ⟨b0, 0, none⟩)] [obj b0 78 [.slice a0_0 x0_0.length c0_0, .int .i64 x0_1, .int .i64 x0_2]] F (wire_Reader_Int.f k x0_0 x0_1 x0_2) (fun (r : Int × Int × Int) (y : Unit) => .int .i64 r.1) (fun r y => [obj b0 78 [.slice a0_0 x0_0.length c0_0, .int .i64 r.2.1, .int .i64 r.2.2]]) := by
  unfold wire_Reader_Int.f
  refine fn_intro 23 Try.func43 rfl Try.ntmps43 rfl ?_
  refine sim_seq ?_
  refine sim_region ?_
  refine simL_val (q_asg rfl rfl) rfl rfl rfl ?_
  refine simL_nil ?_
  refine nrm_then ?_
  refine sim_seq ?_
  refine sim_region ?_
  refine simL_val (q_move rfl rfl) rfl rfl rfl ?_
  refine simL_bind (fun s1v hs3v => ?_)
  refine simL_eff (re_call (vs := [.pointer (some ⟨b0, 0, none⟩)]) (cap := []) (A := [obj b0 78 [.slice a0_0 x0_0.length c0_0, .int .i64 x0_1, .int .i64 x0_2]]) (rst := [F]) rfl rfl rfl rfl rfl rfl Try.call54 (.sel 0 rfl (.sel 0 rfl (.nil _))) (wire_Reader_look.calls _ _ k b0 a0_0 c0_0 x0_0 x0_1 x0_2 (h0_0.lend 0 rfl) hc0_0 hm0_0) hs3v) rfl rfl rfl ?_
  intro y2v
  refine simL_val (q_move rfl rfl) rfl rfl rfl ?_
  refine simL_val (q_ext rfl rfl rfl) rfl rfl rfl ?_
  refine simL_val (q_ext rfl rfl rfl) rfl rfl rfl ?_
  refine simL_val (q_ext rfl rfl rfl) rfl rfl rfl ?_
  refine simL_val (q_asg rfl rfl) rfl rfl rfl ?_
  refine simL_val (q_asg rfl rfl) rfl rfl rfl ?_
  refine simL_val (q_asg rfl rfl) rfl rfl rfl ?_
  refine simL_nil ?_
  refine nrm_then ?_
  refine sim_seq ?_
  refine sim_seq ?_
  refine sim_region ?_
  refine simL_val (q_move rfl rfl) rfl rfl rfl ?_
  refine simL_val (q_not rfl rfl) rfl rfl rfl ?_
  refine simL_nil ?_
  refine nrm_then ?_
  refine sim_condb rfl (fun h4v => ?_) (fun h5v => ?_)
  · refine sim_seq ?_
    refine sim_region ?_
    refine simL_val (q_asg rfl rfl) rfl rfl rfl ?_
    refine simL_nil ?_
    refine nrm_then ?_
    refine sim_rtn ?_
    refine rtn_then ?_
    exact rtn_fn () rfl rfl rfl (.sel 0 rfl (.sel 0 rfl (.nil _)))
  · refine sim_skip ?_
    refine nrm_then ?_
    refine sim_seq ?_
    refine sim_region ?_
    refine simL_val (q_move rfl rfl) rfl rfl rfl ?_
    refine simL_val (q_nil rfl rfl) rfl rfl rfl ?_
    refine simL_val (q_fa rfl rfl Try.underlying78 rfl rfl Try.sizeOf3 rfl) rfl rfl rfl ?_
    refine simL_val (q_load rfl rfl Try.isAgg3 (.obj 0 rfl rfl)) rfl rfl rfl ?_
    refine simL_val (q_move rfl rfl) rfl rfl rfl ?_
    refine simL_val (q_add rfl rfl rfl) rfl rfl rfl ?_
    refine simL_val (q_nil rfl rfl) rfl rfl rfl ?_
    refine simL_val (q_fa rfl rfl Try.underlying78 rfl rfl Try.sizeOf3 rfl) rfl rfl rfl ?_
    refine simL_do (re_store 0 rfl rfl rfl Try.sizeOf3 rfl rfl (one_of (by rfl)) rfl rfl) rfl rfl ?_
    intro _
    refine simL_nil ?_
    refine nrm_then ?_
    refine sim_seq ?_
    refine sim_region ?_
    refine simL_val (q_move rfl rfl) rfl rfl rfl ?_
    refine simL_val (q_asg rfl rfl) rfl rfl rfl ?_
    refine simL_nil ?_
    refine nrm_then ?_
    refine sim_rtn ?_
    exact rtn_fn () rfl rfl rfl (.sel 0 rfl (.sel 0 rfl (.nil _)))

def wire_Reader_Bytes.f (k : Nat) (x0_0 : List UInt8) (x0_1 : Int) (x0_2 : Int) (x1 : Int) : Option (List UInt8 × Int × Int) := (wire_Reader_look.f k x0_0 x0_1 x0_2).bind fun s1v => (if (!s1v.2.2.1) = true then (some (([] : List UInt8), s1v.2.2.2.1, s1v.2.2.2.2)) else (if max x1 (0 : Int) < s1v.1 then (some (([] : List UInt8), s1v.2.2.2.1, 3)) else (if IntKind.i64.wrap ((IntKind.i64.wrap ((x0_0.length : Int) - s1v.2.2.2.1)) - s1v.2.1) < s1v.1 then (some (([] : List UInt8), s1v.2.2.2.1, 2)) else (if 0 ≤ IntKind.i64.wrap (s1v.2.2.2.1 + s1v.2.1) ∧ IntKind.i64.wrap (s1v.2.2.2.1 + s1v.2.1) ≤ IntKind.i64.wrap ((IntKind.i64.wrap (s1v.2.2.2.1 + s1v.2.1)) + s1v.1) ∧ IntKind.i64.wrap ((IntKind.i64.wrap (s1v.2.2.2.1 + s1v.2.1)) + s1v.1) ≤ (x0_0.length : Int) then ((wire_fresh.f (cut x0_0 (IntKind.i64.wrap (s1v.2.2.2.1 + s1v.2.1)) (IntKind.i64.wrap ((IntKind.i64.wrap (s1v.2.2.2.1 + s1v.2.1)) + s1v.1)))).bind fun s18v => (some (s18v, IntKind.i64.wrap ((IntKind.i64.wrap (s1v.2.2.2.1 + s1v.2.1)) + s1v.1), s1v.2.2.2.2))) else none))))
theorem wire_Reader_Bytes.calls (W : World) (F : HA) (k : Nat) (b0 : Nat) (a0_0 : Option Addr) (c0_0 : Nat) (x0_0 : List UInt8) (x0_1 : Int) (x0_2 : Int) (x1 : Int) (h0_0 : Rd F a0_0 (encB x0_0)) (hc0_0 : x0_0.length ≤ c0_0) (hm0_0 : c0_0 ≤ maxLen) :
    Fn Try.prog W 45 [.pointer (some ⟨b0, 0, none⟩), .int .i64 x1] [obj b0 78 [.slice a0_0 x0_0.length c0_0, .int .i64 x0_1, .int .i64 x0_2]] F (wire_Reader_Bytes.f k x0_0 x0_1 x0_2 x1) (fun (r : List UInt8 × Int × Int) (y : Option Addr × Nat) => .slice y.1 r.1.length y.2) (fun r y => [Row 5 1 y.1 r.1.length y.2 (encB r.1), obj b0 78 [.slice a0_0 x0_0.length c0_0, .int .i64 r.2.1, .int .i64 r.2.2]]) := by
  unfold wire_Reader_Bytes.f
  refine fn_intro 67 Try.func45 rfl Try.ntmps45 rfl ?_
  refine sim_seq ?_
  refine sim_region ?_
  refine simL_val (q_asg rfl rfl) rfl rfl rfl ?_
  refine simL_nil ?_
  refine nrm_then ?_
  refine sim_seq ?_
  refine sim_region ?_
  refine simL_val (q_move rfl rfl) rfl rfl rfl ?_
  refine simL_bind (fun s1v hs3v => ?_)
  refine simL_eff (re_call (vs := [.pointer (some ⟨b0, 0, none⟩)]) (cap := []) (A := [obj b0 78 [.slice a0_0 x0_0.length c0_0, .int .i64 x0_1, .int .i64 x0_2]]) (rst := [F]) rfl rfl rfl rfl rfl rfl Try.call54 (.sel 0 rfl (.sel 0 rfl (.nil _))) (wire_Reader_look.calls _ _ k b0 a0_0 c0_0 x0_0 x0_1 x0_2 (h0_0.lend 0 rfl) hc0_0 hm0_0) hs3v) rfl rfl rfl ?_
  intro y2v
  refine simL_val (q_move rfl rfl) rfl rfl rfl ?_
  refine simL_val (q_ext rfl rfl rfl) rfl rfl rfl ?_
  refine simL_val (q_ext rfl rfl rfl) rfl rfl rfl ?_
  refine simL_val (q_ext rfl rfl rfl) rfl rfl rfl ?_
  refine simL_val (q_asg rfl rfl) rfl rfl rfl ?_
  refine simL_val (q_asg rfl rfl) rfl rfl rfl ?_
  refine simL_val (q_asg rfl rfl) rfl rfl rfl ?_
  refine simL_nil ?_
  refine nrm_then ?_
  refine sim_seq ?_
  refine sim_block ?_
  refine sim_seq ?_
  refine sim_region ?_
  refine simL_val (q_move rfl rfl) rfl rfl rfl ?_
  refine simL_val (q_not rfl rfl) rfl rfl rfl ?_
  refine simL_val (q_asg rfl rfl) rfl rfl rfl ?_
  refine simL_nil ?_
  refine nrm_then ?_
  refine sim_condb rfl (fun h4v => ?_) (fun h5v => ?_)
  · refine sim_seq ?_
    refine sim_region ?_
    refine simL_val (q_asg rfl rfl) rfl rfl rfl ?_
    refine simL_nil ?_
    refine nrm_then ?_
    refine sim_rtn ?_
    refine rtn_block ?_
    refine rtn_then ?_
    exact rtn_fn (none, 0) rfl rfl rfl (.row_nil (.sel 0 rfl (.sel 0 rfl (.nil _))))
  · refine sim_seq ?_
    refine sim_region ?_
    refine simL_val (q_move rfl rfl) rfl rfl rfl ?_
    refine simL_val (q_move rfl rfl) rfl rfl rfl ?_
    refine simL_val (q_max rfl rfl rfl) rfl rfl rfl ?_
    refine simL_val (q_gtr rfl rfl rfl) rfl rfl rfl ?_
    refine simL_val (q_asg rfl rfl) rfl rfl rfl ?_
    refine simL_nil ?_
    refine nrm_then ?_
    refine sim_cond rfl (fun h6v => ?_) (fun h7v => ?_)
    · refine sim_seq ?_
      refine sim_region ?_
      refine simL_val (q_move rfl rfl) rfl rfl rfl ?_
      refine simL_val (q_nil rfl rfl) rfl rfl rfl ?_
      refine simL_val (q_fa rfl rfl Try.underlying78 rfl rfl Try.sizeOf24 rfl) rfl rfl rfl ?_
      refine simL_do (re_store 0 rfl rfl rfl Try.sizeOf24 rfl rfl (one_of (by rfl)) rfl rfl) rfl rfl ?_
      intro _
      refine simL_nil ?_
      refine nrm_then ?_
      refine sim_seq ?_
      refine sim_region ?_
      refine simL_val (q_asg rfl rfl) rfl rfl rfl ?_
      refine simL_nil ?_
      refine nrm_then ?_
      refine sim_rtn ?_
      refine rtn_block ?_
      refine rtn_then ?_
      exact rtn_fn (none, 0) rfl rfl rfl (.row_nil (.sel 0 rfl (.sel 0 rfl (.nil _))))
    · refine sim_seq ?_
      refine sim_draw (Γ := Unit) () [[], [], [1], [1, 2], [1, 2, 3], [1, 2, 3, 4], [], [6], [6, 7], [6, 7, 8], [1, 2, 3, 4, 5, 6, 7, 8, 9], [], [1, 2, 3, 4, 5, 6, 7, 8, 9, 10, 11], [0, 1, 2, 3, 4, 5, 6, 7, 8, 9, 10, 11, 12], [0, 1, 2, 3, 4, 5, 6, 7, 8, 9, 10, 11, 12, 13]] [] [0, 1, 2, 3, 4, 5, 6, 7, 8, 9, 10, 11, 12, 13, 14] (fun i => [[0], [0], [0], [0], [0], [0], [0], [0], [0], [0], [0], [0], [0], [0], [0]].getD i []) (fun i => [[], [], [], [], [], [], [], [], [], [], [], [], [], [], []].getD i []) (fun γ i => [.int .i64 s1v.1, .pointer (some ⟨b0, 0, none⟩), .pointer (some ⟨b0, 0, none⟩), .pointer (some ⟨b0, 0, none⟩), .slice a0_0 x0_0.length c0_0, .int .i64 (x0_0.length : Int), .pointer (some ⟨b0, 0, none⟩), .pointer (some ⟨b0, 0, none⟩), .pointer (some ⟨b0, 1, none⟩), .int .i64 s1v.2.2.2.1, .int .i64 (IntKind.i64.wrap ((x0_0.length : Int) - s1v.2.2.2.1)), .int .i64 s1v.2.1, .int .i64 (IntKind.i64.wrap ((IntKind.i64.wrap ((x0_0.length : Int) - s1v.2.2.2.1)) - s1v.2.1)), .bool (decide (IntKind.i64.wrap ((IntKind.i64.wrap ((x0_0.length : Int) - s1v.2.2.2.1)) - s1v.2.1) < s1v.1)), .bool (decide (IntKind.i64.wrap ((IntKind.i64.wrap ((x0_0.length : Int) - s1v.2.2.2.1)) - s1v.2.1) < s1v.1))].getD i undef) (fun j γ => [[obj b0 78 [.slice a0_0 x0_0.length c0_0, .int .i64 s1v.2.2.2.1, .int .i64 s1v.2.2.2.2], F]].getD j []) (fun γ => [(0, .pointer (some ⟨b0, 0, none⟩)), (5, .int .i64 s1v.1), (6, .int .i64 s1v.2.1), (26, .bool (decide (IntKind.i64.wrap ((IntKind.i64.wrap ((x0_0.length : Int) - s1v.2.2.2.1)) - s1v.2.1) < s1v.1)))]) mixed (by decide) (by decide) (by decide) (by decide) (by decide) (by decide) (by decide) 67 rfl (by decide) (by decide) (by decide) (Ent.refl _) ?_ ?_ (fun _ => ⟨rfl, rfl, rfl, rfl, trivial⟩) ?_
      · exact (All.cons (fun γ => (All.cons (QOb.plain [(5, .int .i64 s1v.1)] rfl rfl (.o rfl (by decide) .nil) (q_move rfl rfl) rfl) All.nil)) (All.cons (fun γ => (All.cons (QOb.plain [(0, .pointer (some ⟨b0, 0, none⟩))] rfl rfl (.o rfl (by decide) .nil) (q_move rfl rfl) rfl) All.nil)) (All.cons (fun γ => (All.cons (QOb.plain [(28, .pointer (some ⟨b0, 0, none⟩))] rfl rfl (.w 1 rfl rfl rfl .nil) (q_nil rfl rfl) rfl) All.nil)) (All.cons (fun γ => (All.cons (QOb.plain [(29, .pointer (some ⟨b0, 0, none⟩))] rfl rfl (.w 2 rfl rfl rfl .nil) (q_fa rfl rfl Try.underlying78 rfl rfl Try.sizeOf23 rfl) rfl) All.nil)) (All.cons (fun γ => (All.cons (QOb.plain [(30, .pointer (some ⟨b0, 0, none⟩))] rfl rfl (.w 3 rfl rfl rfl .nil) (q_load rfl rfl Try.isAgg23 (.obj 0 rfl rfl)) rfl) All.nil)) (All.cons (fun γ => (All.cons (QOb.plain [(31, .slice a0_0 x0_0.length c0_0)] rfl rfl (.w 4 rfl rfl rfl .nil) (q_len rfl rfl rfl Try.underlying23) rfl) All.nil)) (All.cons (fun γ => (All.cons (QOb.plain [(0, .pointer (some ⟨b0, 0, none⟩))] rfl rfl (.o rfl (by decide) .nil) (q_move rfl rfl) rfl) All.nil)) (All.cons (fun γ => (All.cons (QOb.plain [(33, .pointer (some ⟨b0, 0, none⟩))] rfl rfl (.w 6 rfl rfl rfl .nil) (q_nil rfl rfl) rfl) All.nil)) (All.cons (fun γ => (All.cons (QOb.plain [(34, .pointer (some ⟨b0, 0, none⟩))] rfl rfl (.w 7 rfl rfl rfl .nil) (q_fa rfl rfl Try.underlying78 rfl rfl Try.sizeOf3 rfl) rfl) All.nil)) (All.cons (fun γ => (All.cons (QOb.plain [(35, .pointer (some ⟨b0, 1, none⟩))] rfl rfl (.w 8 rfl rfl rfl .nil) (q_load rfl rfl Try.isAgg3 (.obj 0 rfl rfl)) rfl) All.nil)) (All.cons (fun γ => (All.cons (QOb.plain [(32, .int .i64 (x0_0.length : Int)), (36, .int .i64 s1v.2.2.2.1)] rfl rfl (.w 5 rfl rfl rfl (.w 9 rfl rfl rfl .nil)) (q_sub rfl rfl rfl) rfl) All.nil)) (All.cons (fun γ => (All.cons (QOb.plain [(6, .int .i64 s1v.2.1)] rfl rfl (.o rfl (by decide) .nil) (q_move rfl rfl) rfl) All.nil)) (All.cons (fun γ => (All.cons (QOb.plain [(37, .int .i64 (IntKind.i64.wrap ((x0_0.length : Int) - s1v.2.2.2.1))), (38, .int .i64 s1v.2.1)] rfl rfl (.w 10 rfl rfl rfl (.w 11 rfl rfl rfl .nil)) (q_sub rfl rfl rfl) rfl) All.nil)) (All.cons (fun γ => (All.cons (QOb.plain [(27, .int .i64 s1v.1), (39, .int .i64 (IntKind.i64.wrap ((IntKind.i64.wrap ((x0_0.length : Int) - s1v.2.2.2.1)) - s1v.2.1)))] rfl rfl (.w 0 rfl rfl rfl (.w 12 rfl rfl rfl .nil)) (q_gtr rfl rfl rfl) rfl) All.nil)) (All.cons (fun γ => (All.cons (QOb.plain [(40, .bool (decide (IntKind.i64.wrap ((IntKind.i64.wrap ((x0_0.length : Int) - s1v.2.2.2.1)) - s1v.2.1) < s1v.1)))] rfl rfl (.w 13 rfl rfl rfl .nil) (q_asg rfl rfl) rfl) All.nil)) All.nil)))))))))))))))
      · exact All.nil
      · intro g8v
        refine nrm_then ?_
        refine sim_cond rfl (fun h9v => ?_) (fun h10v => ?_)
        · refine sim_seq ?_
          refine sim_region ?_
          refine simL_val (q_move rfl rfl) rfl rfl rfl ?_
          refine simL_val (q_nil rfl rfl) rfl rfl rfl ?_
          refine simL_val (q_fa rfl rfl Try.underlying78 rfl rfl Try.sizeOf24 rfl) rfl rfl rfl ?_
          refine simL_do (re_store 0 rfl rfl rfl Try.sizeOf24 rfl rfl (one_of (by rfl)) rfl rfl) rfl rfl ?_
          intro _
          refine simL_nil ?_
          refine nrm_then ?_
          refine sim_seq ?_
          refine sim_region ?_
          refine simL_val (q_asg rfl rfl) rfl rfl rfl ?_
          refine simL_nil ?_
          refine nrm_then ?_
          refine sim_rtn ?_
          refine rtn_block ?_
          refine rtn_then ?_
          exact rtn_fn (none, 0) rfl rfl rfl (.row_nil (.sel 0 rfl (.sel 0 rfl (.nil _))))
        · refine sim_skip ?_
          refine nrm_block ?_
          refine nrm_then ?_
          refine sim_seq ?_
          refine sim_region ?_
          refine simL_val (q_move rfl rfl) rfl rfl rfl ?_
          refine simL_val (q_nil rfl rfl) rfl rfl rfl ?_
          refine simL_val (q_fa rfl rfl Try.underlying78 rfl rfl Try.sizeOf3 rfl) rfl rfl rfl ?_
          refine simL_val (q_load rfl rfl Try.isAgg3 (.obj 0 rfl rfl)) rfl rfl rfl ?_
          refine simL_val (q_move rfl rfl) rfl rfl rfl ?_
          refine simL_val (q_add rfl rfl rfl) rfl rfl rfl ?_
          refine simL_val (q_asg rfl rfl) rfl rfl rfl ?_
          refine simL_nil ?_
          refine nrm_then ?_
          refine sim_seq ?_
          refine sim_region ?_
          refine simL_val (q_move rfl rfl) rfl rfl rfl ?_
          refine simL_val (q_move rfl rfl) rfl rfl rfl ?_
          refine simL_val (q_move rfl rfl) rfl rfl rfl ?_
          refine simL_val (q_add rfl rfl rfl) rfl rfl rfl ?_
          refine simL_val (q_nil rfl rfl) rfl rfl rfl ?_
          refine simL_val (q_fa rfl rfl Try.underlying78 rfl rfl Try.sizeOf3 rfl) rfl rfl rfl ?_
          refine simL_do (re_store 0 rfl rfl rfl Try.sizeOf3 rfl rfl (one_of (by rfl)) rfl rfl) rfl rfl ?_
          intro _
          refine simL_nil ?_
          refine nrm_then ?_
          refine sim_seq ?_
          refine sim_ask (fun hb11v => ?_)
          obtain ⟨a12v, c13v, hS14v, hr15v, hc16v, hm17v⟩ := slice_pre (lo := IntKind.i64.wrap (s1v.2.2.2.1 + s1v.2.1)) (hi := IntKind.i64.wrap ((IntKind.i64.wrap (s1v.2.2.2.1 + s1v.2.1)) + s1v.1)) h0_0 hc0_0 hb11v
          refine sim_bind (fun s18v hs20v => ?_)
          refine sim_draw (Γ := (Option Addr × Nat)) (none, 0) [[], [0], [0, 1], [0, 1, 2], [], [], [5], [5, 6], [5, 6, 7], [0, 1, 2, 3, 4, 5, 6, 7, 8], [0, 1, 2, 3, 4, 5, 6, 7, 8, 9], [0, 1, 2, 3, 4, 5, 6, 7, 8, 9, 10]] [10] [0, 1, 2, 3, 4, 5, 6, 7, 8, 9, 11] (fun i => [[0], [0], [0], [0], [0], [0], [0], [0], [0], [0], [], [1]].getD i []) (fun i => [[], [], [], [], [], [], [], [], [], [], [0, 1, 2, 3, 4, 5, 6, 7, 8, 9], []].getD i []) (fun γ i => [.pointer (some ⟨b0, 0, none⟩), .pointer (some ⟨b0, 0, none⟩), .pointer (some ⟨b0, 0, none⟩), .slice a0_0 x0_0.length c0_0, .int .i64 (IntKind.i64.wrap (s1v.2.2.2.1 + s1v.2.1)), .pointer (some ⟨b0, 0, none⟩), .pointer (some ⟨b0, 0, none⟩), .pointer (some ⟨b0, 1, none⟩), .int .i64 (IntKind.i64.wrap ((IntKind.i64.wrap (s1v.2.2.2.1 + s1v.2.1)) + s1v.1)), .slice a12v ((cut x0_0 (IntKind.i64.wrap (s1v.2.2.2.1 + s1v.2.1)) (IntKind.i64.wrap ((IntKind.i64.wrap (s1v.2.2.2.1 + s1v.2.1)) + s1v.1))).length) c13v, .slice γ.1 s18v.length γ.2, .slice γ.1 s18v.length γ.2].getD i undef) (fun j γ => [[obj b0 78 [.slice a0_0 x0_0.length c0_0, .int .i64 (IntKind.i64.wrap ((IntKind.i64.wrap (s1v.2.2.2.1 + s1v.2.1)) + s1v.1)), .int .i64 s1v.2.2.2.2], F], [Row 5 1 γ.1 s18v.length γ.2 (encB s18v), obj b0 78 [.slice a0_0 x0_0.length c0_0, .int .i64 (IntKind.i64.wrap ((IntKind.i64.wrap (s1v.2.2.2.1 + s1v.2.1)) + s1v.1)), .int .i64 s1v.2.2.2.2], F]].getD j []) (fun γ => [(4, .slice γ.1 s18v.length γ.2)]) mixed (by decide) (by decide) (by decide) (by decide) (by decide) (by decide) (by decide) 67 rfl (by decide) (by decide) (by decide) (Ent.refl _) ?_ ?_ (fun _ => ⟨rfl, trivial⟩) ?_
          · exact (All.cons (fun γ => (All.cons (QOb.plain [(0, .pointer (some ⟨b0, 0, none⟩))] rfl rfl (.o rfl (by decide) .nil) (q_move rfl rfl) rfl) All.nil)) (All.cons (fun γ => (All.cons (QOb.plain [(56, .pointer (some ⟨b0, 0, none⟩))] rfl rfl (.w 0 rfl rfl rfl .nil) (q_nil rfl rfl) rfl) All.nil)) (All.cons (fun γ => (All.cons (QOb.plain [(57, .pointer (some ⟨b0, 0, none⟩))] rfl rfl (.w 1 rfl rfl rfl .nil) (q_fa rfl rfl Try.underlying78 rfl rfl Try.sizeOf23 rfl) rfl) All.nil)) (All.cons (fun γ => (All.cons (QOb.plain [(58, .pointer (some ⟨b0, 0, none⟩))] rfl rfl (.w 2 rfl rfl rfl .nil) (q_load rfl rfl Try.isAgg23 (.obj 0 rfl rfl)) rfl) All.nil)) (All.cons (fun γ => (All.cons (QOb.plain [(8, .int .i64 (IntKind.i64.wrap (s1v.2.2.2.1 + s1v.2.1)))] rfl rfl (.o rfl (by decide) .nil) (q_move rfl rfl) rfl) All.nil)) (All.cons (fun γ => (All.cons (QOb.plain [(0, .pointer (some ⟨b0, 0, none⟩))] rfl rfl (.o rfl (by decide) .nil) (q_move rfl rfl) rfl) All.nil)) (All.cons (fun γ => (All.cons (QOb.plain [(61, .pointer (some ⟨b0, 0, none⟩))] rfl rfl (.w 5 rfl rfl rfl .nil) (q_nil rfl rfl) rfl) All.nil)) (All.cons (fun γ => (All.cons (QOb.plain [(62, .pointer (some ⟨b0, 0, none⟩))] rfl rfl (.w 6 rfl rfl rfl .nil) (q_fa rfl rfl Try.underlying78 rfl rfl Try.sizeOf3 rfl) rfl) All.nil)) (All.cons (fun γ => (All.cons (QOb.plain [(63, .pointer (some ⟨b0, 1, none⟩))] rfl rfl (.w 7 rfl rfl rfl .nil) (q_load rfl rfl Try.isAgg3 (.obj 0 rfl rfl)) rfl) All.nil)) (All.cons (fun γ => (All.cons (QOb.plain [(59, .slice a0_0 x0_0.length c0_0), (60, .int .i64 (IntKind.i64.wrap (s1v.2.2.2.1 + s1v.2.1))), (64, .int .i64 (IntKind.i64.wrap ((IntKind.i64.wrap (s1v.2.2.2.1 + s1v.2.1)) + s1v.1)))] rfl rfl (.w 3 rfl rfl rfl (.w 4 rfl rfl rfl (.w 8 rfl rfl rfl .nil))) (q_sub_ro (l := x0_0) (lo' := IntKind.i64.wrap (s1v.2.2.2.1 + s1v.2.1)) (hi' := IntKind.i64.wrap ((IntKind.i64.wrap (s1v.2.2.2.1 + s1v.2.1)) + s1v.1)) rfl rfl rfl rfl Try.underlying23 Try.sizeOf5 (.inr ⟨_, rfl⟩) (.inr ⟨_, rfl⟩) hb11v hc0_0 hS14v) rfl) All.nil)) (All.cons (fun γ => (All.cons (QOb.plain [(66, .slice γ.1 s18v.length γ.2)] rfl rfl (.w 10 rfl rfl rfl .nil) (q_asg rfl rfl) rfl) All.nil)) All.nil)))))))))))
          · exact (All.cons (fun γ => EOb.mk (Z := Option Addr × Nat) [(65, .slice a12v ((cut x0_0 (IntKind.i64.wrap (s1v.2.2.2.1 + s1v.2.1)) (IntKind.i64.wrap ((IntKind.i64.wrap (s1v.2.2.2.1 + s1v.2.1)) + s1v.1))).length) c13v)] (fun z => z) rfl rfl (.w 9 rfl rfl rfl .nil) (re_call (vs := [.slice a12v ((cut x0_0 (IntKind.i64.wrap (s1v.2.2.2.1 + s1v.2.1)) (IntKind.i64.wrap ((IntKind.i64.wrap (s1v.2.2.2.1 + s1v.2.1)) + s1v.1))).length) c13v]) (cap := []) (A := []) (rst := [obj b0 78 [.slice a0_0 x0_0.length c0_0, .int .i64 (IntKind.i64.wrap ((IntKind.i64.wrap (s1v.2.2.2.1 + s1v.2.1)) + s1v.1)), .int .i64 s1v.2.2.2.2], F]) rfl rfl rfl rfl rfl rfl Try.call48 (.sel 0 rfl (.sel 0 rfl (.nil _))) (wire_fresh.calls _ _ a12v c13v (cut x0_0 (IntKind.i64.wrap (s1v.2.2.2.1 + s1v.2.1)) (IntKind.i64.wrap ((IntKind.i64.wrap (s1v.2.2.2.1 + s1v.2.1)) + s1v.1))) (hr15v.lend 1 rfl) hc16v (Nat.le_trans hm17v hm0_0)) hs20v) (fun _ => ⟨rfl, rfl, rfl, rfl, rfl, rfl, rfl, rfl, rfl, rfl, trivial⟩) (fun _ => .inr rfl) (fun z => Ent.refl _)) All.nil)
          · intro g21v
            refine nrm_then ?_
            refine sim_rtn ?_
            exact rtn_fn (g21v.1, g21v.2) rfl rfl rfl (.sel 0 rfl (.sel 0 rfl (.sel 0 rfl (.nil _))))

def wire_Reader_Text.f (k : Nat) (x0_0 : List UInt8) (x0_1 : Int) (x0_2 : Int) (x1 : Int) : Option (List UInt8 × Int × Int) := (wire_Reader_Bytes.f k x0_0 x0_1 x0_2 x1).bind fun s1v => (some (s1v.1, s1v.2.1, s1v.2.2))
theorem wire_Reader_Text.calls (W : World) (F : HA) (k : Nat) (b0 : Nat) (a0_0 : Option Addr) (c0_0 : Nat) (x0_0 : List UInt8) (x0_1 : Int) (x0_2 : Int) (x1 : Int) (h0_0 : Rd F a0_0 (encB x0_0)) (hc0_0 : x0_0.length ≤ c0_0) (hm0_0 : c0_0 ≤ maxLen) :
    Fn Try.prog W 46 [.pointer (some ⟨b0, 0, none⟩), .int .i64 x1] [obj b0 78 [.slice a0_0 x0_0.length c0_0, .int .i64 x0_1, .int .i64 x0_2]] F (wire_Reader_Text.f k x0_0 x0_1 x0_2 x1) (fun (r : List UInt8 × Int × Int) (y : Unit) => str r.1) (fun r y => [obj b0 78 [.slice a0_0 x0_0.length c0_0, .int .i64 r.2.1, .int .i64 r.2.2]]) := by
  unfold wire_Reader_Text.f
  refine fn_intro 9 Try.func46 rfl Try.ntmps46 rfl ?_
  refine sim_seq ?_
  refine sim_region ?_
  refine simL_val (q_asg rfl rfl) rfl rfl rfl ?_
  refine simL_nil ?_
  refine nrm_then ?_
  refine sim_seq ?_
  refine sim_region ?_
  refine simL_val (q_move rfl rfl) rfl rfl rfl ?_
  refine simL_val (q_move rfl rfl) rfl rfl rfl ?_
  refine simL_bind (fun s1v hs3v => ?_)
  refine simL_eff (re_call (vs := [.pointer (some ⟨b0, 0, none⟩), .int .i64 x1]) (cap := []) (A := [obj b0 78 [.slice a0_0 x0_0.length c0_0, .int .i64 x0_1, .int .i64 x0_2]]) (rst := [F]) rfl rfl rfl rfl rfl rfl Try.call45 (.sel 0 rfl (.sel 0 rfl (.nil _))) (wire_Reader_Bytes.calls _ _ k b0 a0_0 c0_0 x0_0 x0_1 x0_2 x1 (h0_0.lend 0 rfl) hc0_0 hm0_0) hs3v) rfl rfl rfl ?_
  intro y2v
  refine simL_val (q_tostr rfl rfl Try.underlying23 Try.underlying5 Try.underlying9 (Rds.row 0 rfl) rfl) rfl rfl rfl ?_
  refine simL_val (q_asg rfl rfl) rfl rfl rfl ?_
  refine simL_nil ?_
  refine nrm_then ?_
  refine sim_rtn ?_
  exact rtn_fn () rfl rfl rfl (.sel 1 rfl (.sel 1 rfl (.nil _)))

def wire_Reader_Bool.f (k : Nat) (x0_0 : List UInt8) (x0_1 : Int) (x0_2 : Int) : Option (Bool × Int × Int) := (wire_Reader_look.f k x0_0 x0_1 x0_2).bind fun s1v => (if (!s1v.2.2.1) = true then (some (false, s1v.2.2.2.1, s1v.2.2.2.2)) else (if (1 : Int) < s1v.1 then (some (false, s1v.2.2.2.1, 4)) else (some (decide (s1v.1 = (1 : Int)), IntKind.i64.wrap (s1v.2.2.2.1 + s1v.2.1), s1v.2.2.2.2))))
theorem wire_Reader_Bool.calls (W : World) (F : HA) (k : Nat) (b0 : Nat) (a0_0 : Option Addr) (c0_0 : Nat) (x0_0 : List UInt8) (x0_1 : Int) (x0_2 : Int) (h0_0 : Rd F a0_0 (encB x0_0)) (hc0_0 : x0_0.length ≤ c0_0) (hm0_0 : c0_0 ≤ maxLen) :
    Fn Try.prog W 44 [.pointer (some ⟨b0, 0, none⟩)] [obj b0 78 [.slice a0_0 x0_0.length c0_0, .int .i64 x0_1, .int .i64 x0_2]] F (wire_Reader_Bool.f k x0_0 x0_1 x0_2) (fun (r : Bool × Int × Int) (y : Unit) => .bool r.1) (fun r y => [obj b0 78 [.slice a0_0 x0_0.length c0_0, .int .i64 r.2.1, .int .i64 r.2.2]]) := by
  unfold wire_Reader_Bool.f
  refine fn_intro 29 Try.func44 rfl Try.ntmps44 rfl ?_
  refine sim_seq ?_
  refine sim_region ?_
  refine simL_val (q_asg rfl rfl) rfl rfl rfl ?_
  refine simL_nil ?_
  refine nrm_then ?_
  refine sim_seq ?_
  refine sim_region ?_
  refine simL_val (q_move rfl rfl) rfl rfl rfl ?_
  refine simL_bind (fun s1v hs3v => ?_)
  refine simL_eff (re_call (vs := [.pointer (some ⟨b0, 0, none⟩)]) (cap := []) (A := [obj b0 78 [.slice a0_0 x0_0.length c0_0, .int .i64 x0_1, .int .i64 x0_2]]) (rst := [F]) rfl rfl rfl rfl rfl rfl Try.call54 (.sel 0 rfl (.sel 0 rfl (.nil _))) (wire_Reader_look.calls _ _ k b0 a0_0 c0_0 x0_0 x0_1 x0_2 (h0_0.lend 0 rfl) hc0_0 hm0_0) hs3v) rfl rfl rfl ?_
  intro y2v
  refine simL_val (q_move rfl rfl) rfl rfl rfl ?_
  refine simL_val (q_ext rfl rfl rfl) rfl rfl rfl ?_
  refine simL_val (q_ext rfl rfl rfl) rfl rfl rfl ?_
  refine simL_val (q_ext rfl rfl rfl) rfl rfl rfl ?_
  refine simL_val (q_asg rfl rfl) rfl rfl rfl ?_
  refine simL_val (q_asg rfl rfl) rfl rfl rfl ?_
  refine simL_val (q_asg rfl rfl) rfl rfl rfl ?_
  refine simL_nil ?_
  refine nrm_then ?_
  refine sim_seq ?_
  refine sim_seq ?_
  refine sim_region ?_
  refine simL_val (q_move rfl rfl) rfl rfl rfl ?_
  refine simL_val (q_not rfl rfl) rfl rfl rfl ?_
  refine simL_nil ?_
  refine nrm_then ?_
  refine sim_condb rfl (fun h4v => ?_) (fun h5v => ?_)
  · refine sim_seq ?_
    refine sim_region ?_
    refine simL_val (q_asg rfl rfl) rfl rfl rfl ?_
    refine simL_nil ?_
    refine nrm_then ?_
    refine sim_rtn ?_
    refine rtn_then ?_
    exact rtn_fn () rfl rfl rfl (.sel 0 rfl (.sel 0 rfl (.nil _)))
  · refine sim_skip ?_
    refine nrm_then ?_
    refine sim_seq ?_
    refine sim_seq ?_
    refine sim_region ?_
    refine simL_val (q_move rfl rfl) rfl rfl rfl ?_
    refine simL_val (q_gtr rfl rfl rfl) rfl rfl rfl ?_
    refine simL_nil ?_
    refine nrm_then ?_
    refine sim_cond rfl (fun h6v => ?_) (fun h7v => ?_)
    · refine sim_seq ?_
      refine sim_region ?_
      refine simL_val (q_move rfl rfl) rfl rfl rfl ?_
      refine simL_val (q_nil rfl rfl) rfl rfl rfl ?_
      refine simL_val (q_fa rfl rfl Try.underlying78 rfl rfl Try.sizeOf24 rfl) rfl rfl rfl ?_
      refine simL_do (re_store 0 rfl rfl rfl Try.sizeOf24 rfl rfl (one_of (by rfl)) rfl rfl) rfl rfl ?_
      intro _
      refine simL_nil ?_
      refine nrm_then ?_
      refine sim_seq ?_
      refine sim_region ?_
      refine simL_val (q_asg rfl rfl) rfl rfl rfl ?_
      refine simL_nil ?_
      refine nrm_then ?_
      refine sim_rtn ?_
      refine rtn_then ?_
      exact rtn_fn () rfl rfl rfl (.sel 0 rfl (.sel 0 rfl (.nil _)))
    · refine sim_skip ?_
      refine nrm_then ?_
      refine sim_seq ?_
      refine sim_region ?_
      refine simL_val (q_move rfl rfl) rfl rfl rfl ?_
      refine simL_val (q_nil rfl rfl) rfl rfl rfl ?_
      refine simL_val (q_fa rfl rfl Try.underlying78 rfl rfl Try.sizeOf3 rfl) rfl rfl rfl ?_
      refine simL_val (q_load rfl rfl Try.isAgg3 (.obj 0 rfl rfl)) rfl rfl rfl ?_
      refine simL_val (q_move rfl rfl) rfl rfl rfl ?_
      refine simL_val (q_add rfl rfl rfl) rfl rfl rfl ?_
      refine simL_val (q_nil rfl rfl) rfl rfl rfl ?_
      refine simL_val (q_fa rfl rfl Try.underlying78 rfl rfl Try.sizeOf3 rfl) rfl rfl rfl ?_
      refine simL_do (re_store 0 rfl rfl rfl Try.sizeOf3 rfl rfl (one_of (by rfl)) rfl rfl) rfl rfl ?_
      intro _
      refine simL_nil ?_
      refine nrm_then ?_
      refine sim_seq ?_
      refine sim_region ?_
      refine simL_val (q_move rfl rfl) rfl rfl rfl ?_
      refine simL_val (q_eql rfl rfl rfl) rfl rfl rfl ?_
      refine simL_val (q_asg rfl rfl) rfl rfl rfl ?_
      refine simL_nil ?_
      refine nrm_then ?_
      refine sim_rtn ?_
      exact rtn_fn () rfl rfl rfl (.sel 0 rfl (.sel 0 rfl (.nil _)))

def synodref_SameBytes.l0 (x0 : List UInt8) (x1 : List UInt8) : Nat → Int → Option ((Unit) ⊕ (Bool))
  | 0, _ => none
  | k + 1, z7v => if z7v < (x0.length : Int) then (if 0 ≤ z7v ∧ z7v < (x0.length : Int) then (if 0 ≤ z7v ∧ z7v < (x1.length : Int) then (if ((x0.getD z7v.toNat 0).toNat : Int) = ((x1.getD z7v.toNat 0).toNat : Int) then (synodref_SameBytes.l0 x0 x1 k (IntKind.i64.wrap (z7v + 1))) else (some (.inr false))) else none) else none) else (some (.inl ()))
def synodref_SameBytes.f (k : Nat) (x0 : List UInt8) (x1 : List UInt8) : Option (Bool) := if (x0.length : Int) = (x1.length : Int) then (orR (synodref_SameBytes.l0 x0 x1 k 0) fun s3v => (some true)) else (some false)
theorem synodref_SameBytes.calls (W : World) (F : HA) (k : Nat) (a0 : Option Addr) (c0 : Nat) (x0 : List UInt8) (a1 : Option Addr) (c1 : Nat) (x1 : List UInt8) (h0 : Rd F a0 (encB x0)) (hc0 : x0.length ≤ c0) (hm0 : c0 ≤ maxLen) (h1 : Rd F a1 (encB x1)) (hc1 : x1.length ≤ c1) (hm1 : c1 ≤ maxLen) :
    Fn Try.prog W 13 [.slice a0 x0.length c0, .slice a1 x1.length c1] [] F (synodref_SameBytes.f k x0 x1) (fun (r : Bool) (y : Unit) => .bool r) (fun r y => []) := by
  unfold synodref_SameBytes.f
  refine fn_intro 26 Try.func13 rfl Try.ntmps13 rfl ?_
  refine sim_seq ?_
  refine sim_region ?_
  refine simL_val (q_asg rfl rfl) rfl rfl rfl ?_
  refine simL_nil ?_
  refine nrm_then ?_
  refine sim_seq ?_
  refine sim_seq ?_
  refine sim_region ?_
  refine simL_val (q_move rfl rfl) rfl rfl rfl ?_
  refine simL_val (q_len rfl rfl rfl Try.underlying23) rfl rfl rfl ?_
  refine simL_val (q_move rfl rfl) rfl rfl rfl ?_
  refine simL_val (q_len rfl rfl rfl Try.underlying23) rfl rfl rfl ?_
  refine simL_val (q_neq rfl rfl rfl) rfl rfl rfl ?_
  refine simL_nil ?_
  refine nrm_then ?_
  refine sim_condn rfl (fun h1v => ?_) (fun h2v => ?_)
  · refine sim_skip ?_
    refine nrm_then ?_
    refine sim_cutR (S := Unit) (Unit) (fun s y => []) (fun s y => [F]) ?_ ?_
    · refine sim_seq ?_
      refine sim_region ?_
      refine simL_val (q_asg rfl rfl) rfl rfl rfl ?_
      refine simL_nil ?_
      refine nrm_then ?_
      refine sim_block ?_
      refine sim_loop (S := Int) (Unit) (fun k s => synodref_SameBytes.l0 x0 x1 k s) (fun s y => [(0, .slice a0 x0.length c0), (1, .slice a1 x1.length c1), (5, .int .i64 s)]) (fun s y => [F]) (fun _ => by rw [synodref_SameBytes.l0]) ?_ k 0 () ⟨rfl, rfl, rfl, trivial⟩ (.sel 0 rfl (.nil _))
      intro k s5v y6v
      refine sim_eq (by rw [synodref_SameBytes.l0]) ?_
      refine sim_seq ?_
      refine sim_seq ?_
      refine sim_region ?_
      refine simL_val (q_move rfl rfl) rfl rfl rfl ?_
      refine simL_val (q_move rfl rfl) rfl rfl rfl ?_
      refine simL_val (q_len rfl rfl rfl Try.underlying23) rfl rfl rfl ?_
      refine simL_val (q_lss rfl rfl rfl) rfl rfl rfl ?_
      refine simL_nil ?_
      refine nrm_then ?_
      refine sim_cond rfl (fun h8v => ?_) (fun h9v => ?_)
      · refine sim_skip ?_
        refine nrm_then ?_
        refine sim_seq ?_
        refine sim_block ?_
        refine sim_seq ?_
        refine sim_ask (fun hi10v => ?_)
        obtain ⟨b11v, b11vo, ha12v⟩ := h0.pos (encB_ne (j := s5v.toNat) (by omega))
        refine sim_ask (fun hi14v => ?_)
        obtain ⟨b15v, b15vo, ha16v⟩ := h1.pos (encB_ne (j := s5v.toNat) (by omega))
        refine sim_draw (Γ := Unit) () [[], [], [0, 1], [0, 1, 2], [], [], [4, 5], [4, 5, 6], [0, 1, 2, 3, 4, 5, 6, 7]] [] [0, 1, 2, 3, 4, 5, 6, 7, 8] (fun i => [[0], [0], [0], [0], [0], [0], [0], [0], [0]].getD i []) (fun i => [[], [], [], [], [], [], [], [], []].getD i []) (fun γ i => [.slice a0 x0.length c0, .int .i64 s5v, .pointer (some ⟨b11v, b11vo + s5v.toNat, none⟩), .int .u8 ((x0.getD s5v.toNat 0).toNat : Int), .slice a1 x1.length c1, .int .i64 s5v, .pointer (some ⟨b15v, b15vo + s5v.toNat, none⟩), .int .u8 ((x1.getD s5v.toNat 0).toNat : Int), .bool (!decide (((x0.getD s5v.toNat 0).toNat : Int) = ((x1.getD s5v.toNat 0).toNat : Int)))].getD i undef) (fun j γ => [[F]].getD j []) (fun γ => [(0, .slice a0 x0.length c0), (1, .slice a1 x1.length c1), (5, .int .i64 s5v), (25, .bool (!decide (((x0.getD s5v.toNat 0).toNat : Int) = ((x1.getD s5v.toNat 0).toNat : Int))))]) mixed (by decide) (by decide) (by decide) (by decide) (by decide) (by decide) (by decide) 26 rfl (by decide) (by decide) (by decide) (Ent.refl _) ?_ ?_ (fun _ => ⟨rfl, rfl, rfl, rfl, trivial⟩) ?_
        · exact (All.cons (fun γ => (All.cons (QOb.plain [(0, .slice a0 x0.length c0)] rfl rfl (.o rfl (by decide) .nil) (q_move rfl rfl) rfl) All.nil)) (All.cons (fun γ => (All.cons (QOb.plain [(5, .int .i64 s5v)] rfl rfl (.o rfl (by decide) .nil) (q_move rfl rfl) rfl) All.nil)) (All.cons (fun γ => (All.cons (QOb.plain [(17, .slice a0 x0.length c0), (18, .int .i64 s5v)] rfl rfl (.w 0 rfl rfl rfl (.w 1 rfl rfl rfl .nil)) (q_idx1 rfl rfl rfl ha12v Try.underlying23 Try.sizeOf5 hi10v.1 hi10v.2) rfl) All.nil)) (All.cons (fun γ => (All.cons (QOb.plain [(19, .pointer (some ⟨b11v, b11vo + s5v.toNat, none⟩))] rfl rfl (.w 2 rfl rfl rfl .nil) (q_load rfl rfl Try.isAgg5 (h0.cell 0 rfl ha12v (encB_get (by omega)))) rfl) All.nil)) (All.cons (fun γ => (All.cons (QOb.plain [(1, .slice a1 x1.length c1)] rfl rfl (.o rfl (by decide) .nil) (q_move rfl rfl) rfl) All.nil)) (All.cons (fun γ => (All.cons (QOb.plain [(5, .int .i64 s5v)] rfl rfl (.o rfl (by decide) .nil) (q_move rfl rfl) rfl) All.nil)) (All.cons (fun γ => (All.cons (QOb.plain [(21, .slice a1 x1.length c1), (22, .int .i64 s5v)] rfl rfl (.w 4 rfl rfl rfl (.w 5 rfl rfl rfl .nil)) (q_idx1 rfl rfl rfl ha16v Try.underlying23 Try.sizeOf5 hi14v.1 hi14v.2) rfl) All.nil)) (All.cons (fun γ => (All.cons (QOb.plain [(23, .pointer (some ⟨b15v, b15vo + s5v.toNat, none⟩))] rfl rfl (.w 6 rfl rfl rfl .nil) (q_load rfl rfl Try.isAgg5 (h1.cell 0 rfl ha16v (encB_get (by omega)))) rfl) All.nil)) (All.cons (fun γ => (All.cons (QOb.plain [(20, .int .u8 ((x0.getD s5v.toNat 0).toNat : Int)), (24, .int .u8 ((x1.getD s5v.toNat 0).toNat : Int))] rfl rfl (.w 3 rfl rfl rfl (.w 7 rfl rfl rfl .nil)) (q_neq rfl rfl rfl) rfl) All.nil)) All.nil)))))))))
        · exact All.nil
        · intro g18v
          refine nrm_then ?_
          refine sim_condn rfl (fun h19v => ?_) (fun h20v => ?_)
          · refine sim_skip ?_
            refine nrm_block ?_
            refine nrm_then ?_
            refine sim_region ?_
            refine simL_val (q_move rfl rfl) rfl rfl rfl ?_
            refine simL_val (q_add rfl rfl rfl) rfl rfl rfl ?_
            refine simL_val (q_asg rfl rfl) rfl rfl rfl ?_
            refine simL_nil ?_
            exact nrm_again (s := IntKind.i64.wrap (s5v + 1)) () ⟨rfl, rfl, rfl, trivial⟩ (.sel 0 rfl (.nil _))
          · refine sim_seq ?_
            refine sim_region ?_
            refine simL_val (q_asg rfl rfl) rfl rfl rfl ?_
            refine simL_nil ?_
            refine nrm_then ?_
            refine sim_rtn ?_
            refine rtn_block ?_
            refine rtn_then ?_
            refine rtn_loop ?_
            refine rtn_block ?_
            refine rtn_cutR ?_
            exact rtn_fn () rfl rfl rfl (.sel 0 rfl (.nil _))
      · refine sim_exi ?_
        refine exi_then ?_
        refine exi_loop ?_
        refine exi_here ?_
        exact nrm_cutR (s := ()) () trivial (.sel 0 rfl (.nil _))
    · intro s3v y4v
      refine sim_seq ?_
      refine sim_region ?_
      refine simL_val (q_asg rfl rfl) rfl rfl rfl ?_
      refine simL_nil ?_
      refine nrm_then ?_
      refine sim_rtn ?_
      exact rtn_fn () rfl rfl rfl (.sel 0 rfl (.nil _))
  · refine sim_seq ?_
    refine sim_region ?_
    refine simL_val (q_asg rfl rfl) rfl rfl rfl ?_
    refine simL_nil ?_
    refine nrm_then ?_
    refine sim_rtn ?_
    refine rtn_then ?_
    exact rtn_fn () rfl rfl rfl (.sel 0 rfl (.nil _))

def synodref_Num.f (x0 : Int) : Option (Int) := some x0
theorem synodref_Num.calls (W : World) (F : HA) (x0 : Int)  :
    Fn Try.prog W 14 [.int .i64 x0] [] F (synodref_Num.f x0) (fun (r : Int) (y : Unit) => .int .i64 r) (fun r y => []) := by
  unfold synodref_Num.f
  refine fn_intro 4 Try.func14 rfl Try.ntmps14 rfl ?_
  refine sim_seq ?_
  refine sim_region ?_
  refine simL_val (q_asg rfl rfl) rfl rfl rfl ?_
  refine simL_nil ?_
  refine nrm_then ?_
  refine sim_seq ?_
  refine sim_region ?_
  refine simL_val (q_move rfl rfl) rfl rfl rfl ?_
  refine simL_val (q_asg rfl rfl) rfl rfl rfl ?_
  refine simL_nil ?_
  refine nrm_then ?_
  refine sim_rtn ?_
  exact rtn_fn () rfl rfl rfl (.sel 0 rfl (.nil _))
def synodref_Num.v (x0 : Int) : Int := (synodref_Num.f x0).getD 0
theorem synodref_Num.tot (x0 : Int) : synodref_Num.f x0 = some (synodref_Num.v x0) := by
  have h : ∃ r, synodref_Num.f x0 = some r := by
    unfold synodref_Num.f
    repeat' (first | exact ⟨_, rfl⟩ | split | simp only [Option.bind_some])
  obtain ⟨r, h⟩ := h
  unfold synodref_Num.v
  rw [h]; rfl

def wire_Reader_Left.f (x0_0 : List UInt8) (x0_1 : Int) (x0_2 : Int) : Option (Int) := some (IntKind.i64.wrap ((x0_0.length : Int) - x0_1))
theorem wire_Reader_Left.calls (W : World) (F : HA) (b0 : Nat) (a0_0 : Option Addr) (c0_0 : Nat) (x0_0 : List UInt8) (x0_1 : Int) (x0_2 : Int) (h0_0 : Rd F a0_0 (encB x0_0)) (hc0_0 : x0_0.length ≤ c0_0) (hm0_0 : c0_0 ≤ maxLen) :
    Fn Try.prog W 25 [.pointer (some ⟨b0, 0, none⟩)] [obj b0 78 [.slice a0_0 x0_0.length c0_0, .int .i64 x0_1, .int .i64 x0_2]] F (wire_Reader_Left.f x0_0 x0_1 x0_2) (fun (r : Int) (y : Unit) => .int .i64 r) (fun r y => [obj b0 78 [.slice a0_0 x0_0.length c0_0, .int .i64 x0_1, .int .i64 x0_2]]) := by
  unfold wire_Reader_Left.f
  refine fn_intro 13 Try.func25 rfl Try.ntmps25 rfl ?_
  refine sim_seq ?_
  refine sim_region ?_
  refine simL_val (q_asg rfl rfl) rfl rfl rfl ?_
  refine simL_nil ?_
  refine nrm_then ?_
  refine sim_seq ?_
  refine sim_draw (Γ := Unit) () [[], [0], [0, 1], [0, 1, 2], [0, 1, 2, 3], [], [5], [5, 6], [5, 6, 7], [0, 1, 2, 3, 4, 5, 6, 7, 8], [0, 1, 2, 3, 4, 5, 6, 7, 8, 9]] [] [0, 1, 2, 3, 4, 5, 6, 7, 8, 9, 10] (fun i => [[0], [0], [0], [0], [0], [0], [0], [0], [0], [0], [0]].getD i []) (fun i => [[], [], [], [], [], [], [], [], [], [], []].getD i []) (fun γ i => [.pointer (some ⟨b0, 0, none⟩), .pointer (some ⟨b0, 0, none⟩), .pointer (some ⟨b0, 0, none⟩), .slice a0_0 x0_0.length c0_0, .int .i64 (x0_0.length : Int), .pointer (some ⟨b0, 0, none⟩), .pointer (some ⟨b0, 0, none⟩), .pointer (some ⟨b0, 1, none⟩), .int .i64 x0_1, .int .i64 (IntKind.i64.wrap ((x0_0.length : Int) - x0_1)), .int .i64 (IntKind.i64.wrap ((x0_0.length : Int) - x0_1))].getD i undef) (fun j γ => [[obj b0 78 [.slice a0_0 x0_0.length c0_0, .int .i64 x0_1, .int .i64 x0_2], F]].getD j []) (fun γ => [(2, .int .i64 (IntKind.i64.wrap ((x0_0.length : Int) - x0_1)))]) mixed (by decide) (by decide) (by decide) (by decide) (by decide) (by decide) (by decide) 13 rfl (by decide) (by decide) (by decide) (Ent.refl _) ?_ ?_ (fun _ => ⟨rfl, trivial⟩) ?_
  · exact (All.cons (fun γ => (All.cons (QOb.plain [(0, .pointer (some ⟨b0, 0, none⟩))] rfl rfl (.o rfl (by decide) .nil) (q_move rfl rfl) rfl) All.nil)) (All.cons (fun γ => (All.cons (QOb.plain [(3, .pointer (some ⟨b0, 0, none⟩))] rfl rfl (.w 0 rfl rfl rfl .nil) (q_nil rfl rfl) rfl) All.nil)) (All.cons (fun γ => (All.cons (QOb.plain [(4, .pointer (some ⟨b0, 0, none⟩))] rfl rfl (.w 1 rfl rfl rfl .nil) (q_fa rfl rfl Try.underlying78 rfl rfl Try.sizeOf23 rfl) rfl) All.nil)) (All.cons (fun γ => (All.cons (QOb.plain [(5, .pointer (some ⟨b0, 0, none⟩))] rfl rfl (.w 2 rfl rfl rfl .nil) (q_load rfl rfl Try.isAgg23 (.obj 0 rfl rfl)) rfl) All.nil)) (All.cons (fun γ => (All.cons (QOb.plain [(6, .slice a0_0 x0_0.length c0_0)] rfl rfl (.w 3 rfl rfl rfl .nil) (q_len rfl rfl rfl Try.underlying23) rfl) All.nil)) (All.cons (fun γ => (All.cons (QOb.plain [(0, .pointer (some ⟨b0, 0, none⟩))] rfl rfl (.o rfl (by decide) .nil) (q_move rfl rfl) rfl) All.nil)) (All.cons (fun γ => (All.cons (QOb.plain [(8, .pointer (some ⟨b0, 0, none⟩))] rfl rfl (.w 5 rfl rfl rfl .nil) (q_nil rfl rfl) rfl) All.nil)) (All.cons (fun γ => (All.cons (QOb.plain [(9, .pointer (some ⟨b0, 0, none⟩))] rfl rfl (.w 6 rfl rfl rfl .nil) (q_fa rfl rfl Try.underlying78 rfl rfl Try.sizeOf3 rfl) rfl) All.nil)) (All.cons (fun γ => (All.cons (QOb.plain [(10, .pointer (some ⟨b0, 1, none⟩))] rfl rfl (.w 7 rfl rfl rfl .nil) (q_load rfl rfl Try.isAgg3 (.obj 0 rfl rfl)) rfl) All.nil)) (All.cons (fun γ => (All.cons (QOb.plain [(7, .int .i64 (x0_0.length : Int)), (11, .int .i64 x0_1)] rfl rfl (.w 4 rfl rfl rfl (.w 8 rfl rfl rfl .nil)) (q_sub rfl rfl rfl) rfl) All.nil)) (All.cons (fun γ => (All.cons (QOb.plain [(12, .int .i64 (IntKind.i64.wrap ((x0_0.length : Int) - x0_1)))] rfl rfl (.w 9 rfl rfl rfl .nil) (q_asg rfl rfl) rfl) All.nil)) All.nil)))))))))))
  · exact All.nil
  · intro g1v
    refine nrm_then ?_
    refine sim_rtn ?_
    exact rtn_fn () rfl rfl rfl (.sel 0 rfl (.sel 0 rfl (.nil _)))
def wire_Reader_Left.v (x0_0 : List UInt8) (x0_1 : Int) (x0_2 : Int) : Int := (wire_Reader_Left.f x0_0 x0_1 x0_2).getD 0
theorem wire_Reader_Left.tot (x0_0 : List UInt8) (x0_1 : Int) (x0_2 : Int) : wire_Reader_Left.f x0_0 x0_1 x0_2 = some (wire_Reader_Left.v x0_0 x0_1 x0_2) := by
  have h : ∃ r, wire_Reader_Left.f x0_0 x0_1 x0_2 = some r := by
    unfold wire_Reader_Left.f
    repeat' (first | exact ⟨_, rfl⟩ | split | simp only [Option.bind_some])
  obtain ⟨r, h⟩ := h
  unfold wire_Reader_Left.v
  rw [h]; rfl

def wire_Reader_Done.f (x0_0 : List UInt8) (x0_1 : Int) (x0_2 : Int) : Option (Int) := (if x0_2 = (0 : Int) then ((wire_Reader_Left.f x0_0 x0_1 x0_2).bind fun s3v => (some (decide ((0 : Int) < s3v)))) else (some false)).bind fun s1v => (if s1v = true then (some 3) else (some x0_2))
theorem wire_Reader_Done.calls (W : World) (F : HA) (b0 : Nat) (a0_0 : Option Addr) (c0_0 : Nat) (x0_0 : List UInt8) (x0_1 : Int) (x0_2 : Int) (h0_0 : Rd F a0_0 (encB x0_0)) (hc0_0 : x0_0.length ≤ c0_0) (hm0_0 : c0_0 ≤ maxLen) :
    Fn Try.prog W 27 [.pointer (some ⟨b0, 0, none⟩)] [obj b0 78 [.slice a0_0 x0_0.length c0_0, .int .i64 x0_1, .int .i64 x0_2]] F (wire_Reader_Done.f x0_0 x0_1 x0_2) (fun (r : Int) (y : Unit) => .int .i64 r) (fun r y => [obj b0 78 [.slice a0_0 x0_0.length c0_0, .int .i64 x0_1, .int .i64 x0_2]]) := by
  unfold wire_Reader_Done.f
  refine fn_intro 17 Try.func27 rfl Try.ntmps27 rfl ?_
  refine sim_seq ?_
  refine sim_region ?_
  refine simL_val (q_asg rfl rfl) rfl rfl rfl ?_
  refine simL_nil ?_
  refine nrm_then ?_
  refine sim_seq ?_
  refine sim_seq ?_
  refine sim_region ?_
  refine simL_val (q_move rfl rfl) rfl rfl rfl ?_
  refine simL_val (q_nil rfl rfl) rfl rfl rfl ?_
  refine simL_val (q_fa rfl rfl Try.underlying78 rfl rfl Try.sizeOf24 rfl) rfl rfl rfl ?_
  refine simL_val (q_load rfl rfl Try.isAgg24 (.obj 0 rfl rfl)) rfl rfl rfl ?_
  refine simL_val (q_eql rfl rfl rfl) rfl rfl rfl ?_
  refine simL_val (q_move rfl rfl) rfl rfl rfl ?_
  refine simL_cut' 4 (S := Bool) (Unit) (fun s y => [(0, .pointer (some ⟨b0, 0, none⟩)), (12, .bool s)]) (fun s y => [obj b0 78 [.slice a0_0 x0_0.length c0_0, .int .i64 x0_1, .int .i64 x0_2], F]) ?_ ?_
  · refine simL_casep (fun hb6v => ?_) (fun hb7v => ?_)
    · rw [hb6v]
      refine simL_valg (q_move rfl rfl) rfl rfl rfl rfl rfl rfl ?_
      refine simL_bind (fun s3v hs5v => ?_)
      refine simL_effg (re_call (vs := [.pointer (some ⟨b0, 0, none⟩)]) (cap := []) (A := [obj b0 78 [.slice a0_0 x0_0.length c0_0, .int .i64 x0_1, .int .i64 x0_2]]) (rst := [F]) rfl rfl rfl rfl rfl rfl Try.call25 (.sel 0 rfl (.sel 0 rfl (.nil _))) (wire_Reader_Left.calls _ _ b0 a0_0 c0_0 x0_0 x0_1 x0_2 (h0_0.lend 0 rfl) hc0_0 hm0_0) hs5v) rfl rfl rfl rfl rfl rfl ?_
      intro y4v
      refine simL_valg (q_gtr rfl rfl rfl) rfl rfl rfl rfl rfl rfl ?_
      refine simL_val (q_pick rfl rfl rfl rfl rfl) rfl rfl rfl ?_
      refine simL_nil ?_
      exact nrm_cut (s := decide ((0 : Int) < s3v)) () ⟨rfl, rfl, trivial⟩ (.sel 0 rfl (.sel 0 rfl (.nil _)))
    · rw [hb7v]
      refine simL_skipd rfl rfl rfl rfl rfl rfl ?_
      refine simL_skipd rfl rfl rfl rfl rfl rfl ?_
      refine simL_skipd rfl rfl rfl rfl rfl rfl ?_
      refine simL_val (q_pick rfl rfl rfl rfl rfl) rfl rfl rfl ?_
      refine simL_nil ?_
      exact nrm_cut (s := false) () ⟨rfl, rfl, trivial⟩ (.sel 0 rfl (.sel 0 rfl (.nil _)))
  · intro s1v y2v
    refine simL_nil ?_
    refine nrm_then ?_
    refine sim_condb rfl (fun h8v => ?_) (fun h9v => ?_)
    · refine sim_seq ?_
      refine sim_region ?_
      refine simL_val (q_asg rfl rfl) rfl rfl rfl ?_
      refine simL_nil ?_
      refine nrm_then ?_
      refine sim_rtn ?_
      refine rtn_then ?_
      exact rtn_fn () rfl rfl rfl (.sel 0 rfl (.sel 0 rfl (.nil _)))
    · refine sim_skip ?_
      refine nrm_then ?_
      refine sim_seq ?_
      refine sim_region ?_
      refine simL_val (q_move rfl rfl) rfl rfl rfl ?_
      refine simL_val (q_nil rfl rfl) rfl rfl rfl ?_
      refine simL_val (q_fa rfl rfl Try.underlying78 rfl rfl Try.sizeOf24 rfl) rfl rfl rfl ?_
      refine simL_val (q_load rfl rfl Try.isAgg24 (.obj 0 rfl rfl)) rfl rfl rfl ?_
      refine simL_val (q_asg rfl rfl) rfl rfl rfl ?_
      refine simL_nil ?_
      refine nrm_then ?_
      refine sim_rtn ?_
      exact rtn_fn () rfl rfl rfl (.sel 0 rfl (.sel 0 rfl (.nil _)))
def wire_Reader_Done.v (x0_0 : List UInt8) (x0_1 : Int) (x0_2 : Int) : Int := (wire_Reader_Done.f x0_0 x0_1 x0_2).getD 0
theorem wire_Reader_Done.tot (x0_0 : List UInt8) (x0_1 : Int) (x0_2 : Int) : wire_Reader_Done.f x0_0 x0_1 x0_2 = some (wire_Reader_Done.v x0_0 x0_1 x0_2) := by
  have h : ∃ r, wire_Reader_Done.f x0_0 x0_1 x0_2 = some r := by
    unfold wire_Reader_Done.f
    repeat' (first | exact ⟨_, rfl⟩ | split | simp only [Option.bind_some, wire_Reader_Left.tot])
  obtain ⟨r, h⟩ := h
  unfold wire_Reader_Done.v
  rw [h]; rfl

def synodlaw1_first.f (k : Nat)  : Option (Bool) := (wire_PutInt.f k (300 : Int)).bind fun s1v => ((wire_Int.f k ([172, 2, 7] : List UInt8) (0 : Int)).bind fun s10v => ((wire_PutInt.f k (-1)).bind fun s13v => ((wire_NewReader.f ([5, 2, 97, 98, 1] : List UInt8)).bind fun s22v => ((wire_Reader_Int.f k s22v.1 s22v.2.1 s22v.2.2).bind fun s29v => ((wire_Reader_Text.f k s22v.1 s29v.2.1 s29v.2.2 (2 : Int)).bind fun s36v => ((wire_Reader_Bool.f k s22v.1 s36v.2.1 s36v.2.2).bind fun s43v => ((synodref_SameBytes.f k s1v.1 ([172, 2] : List UInt8)).bind fun s56v => ((if s56v = true then ((synodref_Num.f s1v.2).bind fun s61v => (some (decide (s61v = (0 : Int))))) else (some false)).bind fun s59v => ((if ((s59v && (decide (s10v.1 = (300 : Int)))) && (decide (s10v.2.1 = (2 : Int)))) = true then ((synodref_Num.f s10v.2.2).bind fun s68v => (some (decide (s68v = (0 : Int))))) else (some false)).bind fun s66v => ((if s66v = true then ((synodref_Num.f s13v.2).bind fun s75v => (some (decide (s75v = (1 : Int))))) else (some false)).bind fun s73v => ((if (((s73v && (decide (s29v.1 = (5 : Int)))) && (decide (s36v.1 = ([97, 98] : List UInt8)))) && s43v.1) = true then ((wire_Reader_Done.f s22v.1 s43v.2.1 s43v.2.2).bind fun s86v => ((synodref_Num.f s86v).bind fun s89v => (some (decide (s89v = (0 : Int)))))) else (some false)).bind fun s80v => (some s80v))))))))))))
theorem synodlaw1_first.calls (W : World) (F : HA) (k : Nat)   :
    Fn Try.prog W 10 [] [] F (synodlaw1_first.f k ) (fun (r : Bool) (y : Unit) => .bool r) (fun r y => []) := by
  unfold synodlaw1_first.f
  refine fn_intro 79 Try.func10 rfl Try.ntmps10 rfl ?_
  refine sim_seq ?_
  refine sim_region ?_
  refine simL_val (q_asg rfl rfl) rfl rfl rfl ?_
  refine simL_nil ?_
  refine nrm_then ?_
  refine sim_seq ?_
  refine sim_region ?_
  refine simL_bind (fun s1v hs3v => ?_)
  refine simL_eff (re_call (vs := [.int .i64 300]) (cap := []) (A := []) (rst := [F]) rfl rfl rfl rfl rfl rfl Try.call11 (.sel 0 rfl (.nil _)) (wire_PutInt.calls _ _ k (300 : Int) ) hs3v) rfl rfl rfl ?_
  intro y2v
  refine simL_val (q_move rfl rfl) rfl rfl rfl ?_
  refine simL_val (q_ext rfl rfl rfl) rfl rfl rfl ?_
  refine simL_val (q_ext rfl rfl rfl) rfl rfl rfl ?_
  refine simL_val (q_asg rfl rfl) rfl rfl rfl ?_
  refine simL_val (q_asg rfl rfl) rfl rfl rfl ?_
  refine simL_nil ?_
  refine nrm_then ?_
  refine sim_seq ?_
  refine sim_region ?_
  refine simL_eff (re_litb (cs := [.int .u8 172, .int .u8 2, .int .u8 7]) ([172, 2, 7] : List UInt8) rfl rfl Try.underlying23 elt5 rfl (by kernel_rfl) rfl rfl rfl) rfl rfl rfl ?_
  intro b4v
  refine simL_bind (fun s10v hs12v => ?_)
  refine simL_lend 0 rfl (fun hq6v hq7v hq8v hq9v => ?_)
  refine simL_eff (re_call (vs := [.slice (some ⟨b4v, 0, none⟩) (([172, 2, 7] : List UInt8).length) 3, .int .i64 0]) (cap := []) (A := []) (rst := [Row 5 1 (some ⟨b4v, 0, none⟩) ([172, 2, 7] : List UInt8).length 3 (encB ([172, 2, 7] : List UInt8)), Row 5 1 y2v.1 s1v.1.length y2v.2 (encB s1v.1), F]) rfl rfl rfl rfl rfl rfl Try.call18 (.sel 0 rfl (.sel 0 rfl (.sel 0 rfl (.nil _)))) (wire_Int.calls _ _ k (some ⟨b4v, 0, none⟩) 3 ([172, 2, 7] : List UInt8) (0 : Int) (hq6v.lend 0 rfl) hq7v hq8v) hs12v) rfl rfl rfl ?_
  intro y11v
  refine simL_val (q_move rfl rfl) rfl rfl rfl ?_
  refine simL_val (q_ext rfl rfl rfl) rfl rfl rfl ?_
  refine simL_val (q_ext rfl rfl rfl) rfl rfl rfl ?_
  refine simL_val (q_ext rfl rfl rfl) rfl rfl rfl ?_
  refine simL_val (q_asg rfl rfl) rfl rfl rfl ?_
  refine simL_val (q_asg rfl rfl) rfl rfl rfl ?_
  refine simL_val (q_asg rfl rfl) rfl rfl rfl ?_
  refine simL_nil ?_
  refine nrm_then ?_
  refine sim_seq ?_
  refine sim_region ?_
  refine simL_bind (fun s13v hs15v => ?_)
  refine simL_eff (re_call (vs := [.int .i64 (-1)]) (cap := []) (A := []) (rst := [Row 5 1 (some ⟨b4v, 0, none⟩) ([172, 2, 7] : List UInt8).length 3 (encB ([172, 2, 7] : List UInt8)), Row 5 1 y2v.1 s1v.1.length y2v.2 (encB s1v.1), F]) rfl rfl rfl rfl rfl rfl Try.call11 (.sel 0 rfl (.sel 0 rfl (.sel 0 rfl (.nil _)))) (wire_PutInt.calls _ _ k (-1) ) hs15v) rfl rfl rfl ?_
  intro y14v
  refine simL_val (q_move rfl rfl) rfl rfl rfl ?_
  refine simL_val (q_ext rfl rfl rfl) rfl rfl rfl ?_
  refine simL_val (q_ext rfl rfl rfl) rfl rfl rfl ?_
  refine simL_val (q_asg rfl rfl) rfl rfl rfl ?_
  refine simL_val (q_asg rfl rfl) rfl rfl rfl ?_
  refine simL_nil ?_
  refine nrm_then ?_
  refine sim_seq ?_
  refine sim_region ?_
  refine simL_eff (re_litb (cs := [.int .u8 5, .int .u8 2, .int .u8 97, .int .u8 98, .int .u8 1]) ([5, 2, 97, 98, 1] : List UInt8) rfl rfl Try.underlying23 elt5 rfl (by kernel_rfl) rfl rfl rfl) rfl rfl rfl ?_
  intro b16v
  refine simL_bind (fun s22v hs24v => ?_)
  refine simL_lend 0 rfl (fun hq18v hq19v hq20v hq21v => ?_)
  refine simL_eff (re_call (vs := [.slice (some ⟨b16v, 0, none⟩) (([5, 2, 97, 98, 1] : List UInt8).length) 5]) (cap := []) (A := []) (rst := [Row 5 1 (some ⟨b16v, 0, none⟩) ([5, 2, 97, 98, 1] : List UInt8).length 5 (encB ([5, 2, 97, 98, 1] : List UInt8)), Row 5 1 y14v.1 s13v.1.length y14v.2 (encB s13v.1), Row 5 1 (some ⟨b4v, 0, none⟩) ([172, 2, 7] : List UInt8).length 3 (encB ([172, 2, 7] : List UInt8)), Row 5 1 y2v.1 s1v.1.length y2v.2 (encB s1v.1), F]) rfl rfl rfl rfl rfl rfl Try.call22 (.sel 0 rfl (.sel 0 rfl (.sel 0 rfl (.sel 0 rfl (.sel 0 rfl (.nil _)))))) (wire_NewReader.calls _ _ (some ⟨b16v, 0, none⟩) 5 ([5, 2, 97, 98, 1] : List UInt8) (hq18v.lend 0 rfl) hq19v hq20v) hs24v) rfl rfl rfl ?_
  intro y23v
  refine simL_val (q_asg rfl rfl) rfl rfl rfl ?_
  refine simL_nil ?_
  refine nrm_then ?_
  refine sim_seq ?_
  refine sim_seq ?_
  refine sim_region ?_
  refine simL_val (q_move rfl rfl) rfl rfl rfl ?_
  refine simL_val (q_eqp rfl rfl rfl Try.underlying41) rfl rfl rfl ?_
  refine simL_nil ?_
  refine nrm_then ?_
  refine sim_false rfl ?_
  refine sim_skip ?_
  refine nrm_then ?_
  refine sim_seq ?_
  refine sim_region ?_
  refine simL_val (q_move rfl rfl) rfl rfl rfl ?_
  refine simL_bind (fun s29v hs31v => ?_)
  refine simL_lend 1 rfl (fun hq25v hq26v hq27v hq28v => ?_)
  refine simL_eff (re_call (vs := [.pointer (some ⟨y23v.1, 0, none⟩)]) (cap := []) (A := [obj y23v.1 78 [.slice y23v.2.1 s22v.1.length y23v.2.2, .int .i64 s22v.2.1, .int .i64 s22v.2.2]]) (rst := [Row 5 1 y23v.2.1 s22v.1.length y23v.2.2 (encB s22v.1), Row 5 1 (some ⟨b16v, 0, none⟩) ([5, 2, 97, 98, 1] : List UInt8).length 5 (encB ([5, 2, 97, 98, 1] : List UInt8)), Row 5 1 y14v.1 s13v.1.length y14v.2 (encB s13v.1), Row 5 1 (some ⟨b4v, 0, none⟩) ([172, 2, 7] : List UInt8).length 3 (encB ([172, 2, 7] : List UInt8)), Row 5 1 y2v.1 s1v.1.length y2v.2 (encB s1v.1), F]) rfl rfl rfl rfl rfl rfl Try.call43 (.sel 0 rfl (.sel 0 rfl (.sel 0 rfl (.sel 0 rfl (.sel 0 rfl (.sel 0 rfl (.sel 0 rfl (.nil _)))))))) (wire_Reader_Int.calls _ _ k y23v.1 y23v.2.1 y23v.2.2 s22v.1 s22v.2.1 s22v.2.2 (hq25v.lend 0 rfl) hq26v hq27v) hs31v) rfl rfl rfl ?_
  intro y30v
  refine simL_val (q_asg rfl rfl) rfl rfl rfl ?_
  refine simL_nil ?_
  refine nrm_then ?_
  refine sim_seq ?_
  refine sim_region ?_
  refine simL_val (q_move rfl rfl) rfl rfl rfl ?_
  refine simL_bind (fun s36v hs38v => ?_)
  refine simL_lend 1 rfl (fun hq32v hq33v hq34v hq35v => ?_)
  refine simL_eff (re_call (vs := [.pointer (some ⟨y23v.1, 0, none⟩), .int .i64 2]) (cap := []) (A := [obj y23v.1 78 [.slice y23v.2.1 s22v.1.length y23v.2.2, .int .i64 s29v.2.1, .int .i64 s29v.2.2]]) (rst := [Row 5 1 y23v.2.1 s22v.1.length y23v.2.2 (encB s22v.1), Row 5 1 (some ⟨b16v, 0, none⟩) ([5, 2, 97, 98, 1] : List UInt8).length 5 (encB ([5, 2, 97, 98, 1] : List UInt8)), Row 5 1 y14v.1 s13v.1.length y14v.2 (encB s13v.1), Row 5 1 (some ⟨b4v, 0, none⟩) ([172, 2, 7] : List UInt8).length 3 (encB ([172, 2, 7] : List UInt8)), Row 5 1 y2v.1 s1v.1.length y2v.2 (encB s1v.1), F]) rfl rfl rfl rfl rfl rfl Try.call46 (.sel 0 rfl (.sel 0 rfl (.sel 0 rfl (.sel 0 rfl (.sel 0 rfl (.sel 0 rfl (.sel 0 rfl (.nil _)))))))) (wire_Reader_Text.calls _ _ k y23v.1 y23v.2.1 y23v.2.2 s22v.1 s29v.2.1 s29v.2.2 (2 : Int) (hq32v.lend 0 rfl) hq33v hq34v) hs38v) rfl rfl rfl ?_
  intro y37v
  refine simL_val (q_asg rfl rfl) rfl rfl rfl ?_
  refine simL_nil ?_
  refine nrm_then ?_
  refine sim_seq ?_
  refine sim_region ?_
  refine simL_val (q_move rfl rfl) rfl rfl rfl ?_
  refine simL_bind (fun s43v hs45v => ?_)
  refine simL_lend 1 rfl (fun hq39v hq40v hq41v hq42v => ?_)
  refine simL_eff (re_call (vs := [.pointer (some ⟨y23v.1, 0, none⟩)]) (cap := []) (A := [obj y23v.1 78 [.slice y23v.2.1 s22v.1.length y23v.2.2, .int .i64 s36v.2.1, .int .i64 s36v.2.2]]) (rst := [Row 5 1 y23v.2.1 s22v.1.length y23v.2.2 (encB s22v.1), Row 5 1 (some ⟨b16v, 0, none⟩) ([5, 2, 97, 98, 1] : List UInt8).length 5 (encB ([5, 2, 97, 98, 1] : List UInt8)), Row 5 1 y14v.1 s13v.1.length y14v.2 (encB s13v.1), Row 5 1 (some ⟨b4v, 0, none⟩) ([172, 2, 7] : List UInt8).length 3 (encB ([172, 2, 7] : List UInt8)), Row 5 1 y2v.1 s1v.1.length y2v.2 (encB s1v.1), F]) rfl rfl rfl rfl rfl rfl Try.call44 (.sel 0 rfl (.sel 0 rfl (.sel 0 rfl (.sel 0 rfl (.sel 0 rfl (.sel 0 rfl (.sel 0 rfl (.nil _)))))))) (wire_Reader_Bool.calls _ _ k y23v.1 y23v.2.1 y23v.2.2 s22v.1 s36v.2.1 s36v.2.2 (hq39v.lend 0 rfl) hq40v hq41v) hs45v) rfl rfl rfl ?_
  intro y44v
  refine simL_val (q_asg rfl rfl) rfl rfl rfl ?_
  refine simL_nil ?_
  refine nrm_then ?_
  refine sim_seq ?_
  refine sim_region ?_
  refine simL_val (q_move rfl rfl) rfl rfl rfl ?_
  refine simL_eff (re_litb (cs := [.int .u8 172, .int .u8 2]) ([172, 2] : List UInt8) rfl rfl Try.underlying23 elt5 rfl (by kernel_rfl) rfl rfl rfl) rfl rfl rfl ?_
  intro b46v
  refine simL_bind (fun s56v hs58v => ?_)
  refine simL_lend 6 rfl (fun hq48v hq49v hq50v hq51v => ?_)
  refine simL_lend 0 rfl (fun hq52v hq53v hq54v hq55v => ?_)
  refine simL_eff (re_call (vs := [.slice y2v.1 s1v.1.length y2v.2, .slice (some ⟨b46v, 0, none⟩) (([172, 2] : List UInt8).length) 2]) (cap := []) (A := []) (rst := [Row 5 1 (some ⟨b46v, 0, none⟩) ([172, 2] : List UInt8).length 2 (encB ([172, 2] : List UInt8)), obj y23v.1 78 [.slice y23v.2.1 s22v.1.length y23v.2.2, .int .i64 s43v.2.1, .int .i64 s43v.2.2], Row 5 1 y23v.2.1 s22v.1.length y23v.2.2 (encB s22v.1), Row 5 1 (some ⟨b16v, 0, none⟩) ([5, 2, 97, 98, 1] : List UInt8).length 5 (encB ([5, 2, 97, 98, 1] : List UInt8)), Row 5 1 y14v.1 s13v.1.length y14v.2 (encB s13v.1), Row 5 1 (some ⟨b4v, 0, none⟩) ([172, 2, 7] : List UInt8).length 3 (encB ([172, 2, 7] : List UInt8)), Row 5 1 y2v.1 s1v.1.length y2v.2 (encB s1v.1), F]) rfl rfl rfl rfl rfl rfl Try.call13 (.sel 0 rfl (.sel 0 rfl (.sel 0 rfl (.sel 0 rfl (.sel 0 rfl (.sel 0 rfl (.sel 0 rfl (.sel 0 rfl (.nil _))))))))) (synodref_SameBytes.calls _ _ k y2v.1 y2v.2 s1v.1 (some ⟨b46v, 0, none⟩) 2 ([172, 2] : List UInt8) (hq48v.lend 6 rfl) hq49v hq50v (hq52v.lend 0 rfl) hq53v hq54v) hs58v) rfl rfl rfl ?_
  intro y57v
  refine simL_val (q_move rfl rfl) rfl rfl rfl ?_
  refine simL_cut' 4 (S := Bool) (Unit) (fun s y => [(3, .int .i64 s10v.1), (4, .int .i64 s10v.2.1), (5, .int .i64 s10v.2.2), (7, .int .i64 s13v.2), (8, .pointer (some ⟨y23v.1, 0, none⟩)), (9, .int .i64 s29v.1), (10, str s36v.1), (11, .bool s43v.1), (43, .bool s)]) (fun s y => [obj y23v.1 78 [.slice y23v.2.1 s22v.1.length y23v.2.2, .int .i64 s43v.2.1, .int .i64 s43v.2.2], Row 5 1 y23v.2.1 s22v.1.length y23v.2.2 (encB s22v.1), F]) ?_ ?_
  · refine simL_caseb (fun hb64v => ?_) (fun hb65v => ?_)
    · rw [hb64v]
      refine simL_valg (q_move rfl rfl) rfl rfl rfl rfl rfl rfl ?_
      refine simL_bind (fun s61v hs63v => ?_)
      refine simL_effg (re_call (vs := [.int .i64 s1v.2]) (cap := []) (A := []) (rst := [Row 5 1 (some ⟨b46v, 0, none⟩) ([172, 2] : List UInt8).length 2 (encB ([172, 2] : List UInt8)), obj y23v.1 78 [.slice y23v.2.1 s22v.1.length y23v.2.2, .int .i64 s43v.2.1, .int .i64 s43v.2.2], Row 5 1 y23v.2.1 s22v.1.length y23v.2.2 (encB s22v.1), Row 5 1 (some ⟨b16v, 0, none⟩) ([5, 2, 97, 98, 1] : List UInt8).length 5 (encB ([5, 2, 97, 98, 1] : List UInt8)), Row 5 1 y14v.1 s13v.1.length y14v.2 (encB s13v.1), Row 5 1 (some ⟨b4v, 0, none⟩) ([172, 2, 7] : List UInt8).length 3 (encB ([172, 2, 7] : List UInt8)), Row 5 1 y2v.1 s1v.1.length y2v.2 (encB s1v.1), F]) rfl rfl rfl rfl rfl rfl Try.call14 (.sel 0 rfl (.sel 0 rfl (.sel 0 rfl (.sel 0 rfl (.sel 0 rfl (.sel 0 rfl (.sel 0 rfl (.sel 0 rfl (.nil _))))))))) (synodref_Num.calls _ _ s1v.2 ) hs63v) rfl rfl rfl rfl rfl rfl ?_
      intro y62v
      refine simL_valg (q_eql rfl rfl rfl) rfl rfl rfl rfl rfl rfl ?_
      refine simL_val (q_pick rfl rfl rfl rfl rfl) rfl rfl rfl ?_
      refine simL_nil ?_
      exact nrm_cut (s := decide (s61v = (0 : Int))) () ⟨rfl, rfl, rfl, rfl, rfl, rfl, rfl, rfl, rfl, trivial⟩ (.sel 1 rfl (.sel 1 rfl (.sel 5 rfl (.nil _))))
    · rw [hb65v]
      refine simL_skipd rfl rfl rfl rfl rfl rfl ?_
      refine simL_skipd rfl rfl rfl rfl rfl rfl ?_
      refine simL_skipd rfl rfl rfl rfl rfl rfl ?_
      refine simL_val (q_pick rfl rfl rfl rfl rfl) rfl rfl rfl ?_
      refine simL_nil ?_
      exact nrm_cut (s := false) () ⟨rfl, rfl, rfl, rfl, rfl, rfl, rfl, rfl, rfl, trivial⟩ (.sel 1 rfl (.sel 1 rfl (.sel 5 rfl (.nil _))))
  · intro s59v y60v
    refine simL_val (q_move rfl rfl) rfl rfl rfl ?_
    refine simL_valc (b := s59v) (fun hb102v => RQ.sub (E' := [(3, .int .i64 s10v.1)]) ⟨rfl, trivial⟩ (q_move rfl rfl)) rfl rfl rfl rfl rfl ?_
    refine simL_valc (b := s59v) (fun hb101v => RQ.sub (E' := [(45, .int .i64 s10v.1)]) ⟨lk_cv rfl hb101v, trivial⟩ (q_eql rfl rfl rfl)) rfl rfl rfl rfl rfl ?_
    refine simL_val (q_and rfl rfl rfl) rfl rfl rfl ?_
    refine simL_val (q_move rfl rfl) rfl rfl rfl ?_
    refine simL_valc (b := s59v && (decide (s10v.1 = (300 : Int)))) (fun hb100v => RQ.sub (E' := [(4, .int .i64 s10v.2.1)]) ⟨rfl, trivial⟩ (q_move rfl rfl)) rfl rfl rfl rfl rfl ?_
    refine simL_valc (b := s59v && (decide (s10v.1 = (300 : Int)))) (fun hb99v => RQ.sub (E' := [(49, .int .i64 s10v.2.1)]) ⟨lk_cv rfl hb99v, trivial⟩ (q_eql rfl rfl rfl)) rfl rfl rfl rfl rfl ?_
    refine simL_val (q_and rfl rfl rfl) rfl rfl rfl ?_
    refine simL_val (q_move rfl rfl) rfl rfl rfl ?_
    refine simL_cut' 4 (S := Bool) (Unit) (fun s y => [(7, .int .i64 s13v.2), (8, .pointer (some ⟨y23v.1, 0, none⟩)), (9, .int .i64 s29v.1), (10, str s36v.1), (11, .bool s43v.1), (56, .bool s)]) (fun s y => [obj y23v.1 78 [.slice y23v.2.1 s22v.1.length y23v.2.2, .int .i64 s43v.2.1, .int .i64 s43v.2.2], Row 5 1 y23v.2.1 s22v.1.length y23v.2.2 (encB s22v.1), F]) ?_ ?_
    · refine simL_caseb (fun hb71v => ?_) (fun hb72v => ?_)
      · rw [hb71v]
        refine simL_valg (q_move rfl rfl) rfl rfl rfl rfl rfl rfl ?_
        refine simL_bind (fun s68v hs70v => ?_)
        refine simL_effg (re_call (vs := [.int .i64 s10v.2.2]) (cap := []) (A := []) (rst := [obj y23v.1 78 [.slice y23v.2.1 s22v.1.length y23v.2.2, .int .i64 s43v.2.1, .int .i64 s43v.2.2], Row 5 1 y23v.2.1 s22v.1.length y23v.2.2 (encB s22v.1), F]) rfl rfl rfl rfl rfl rfl Try.call14 (.sel 0 rfl (.sel 0 rfl (.sel 0 rfl (.nil _)))) (synodref_Num.calls _ _ s10v.2.2 ) hs70v) rfl rfl rfl rfl rfl rfl ?_
        intro y69v
        refine simL_valg (q_eql rfl rfl rfl) rfl rfl rfl rfl rfl rfl ?_
        refine simL_val (q_pick rfl rfl rfl rfl rfl) rfl rfl rfl ?_
        refine simL_nil ?_
        exact nrm_cut (s := decide (s68v = (0 : Int))) () ⟨rfl, rfl, rfl, rfl, rfl, rfl, trivial⟩ (.sel 0 rfl (.sel 0 rfl (.sel 0 rfl (.nil _))))
      · rw [hb72v]
        refine simL_skipd rfl rfl rfl rfl rfl rfl ?_
        refine simL_skipd rfl rfl rfl rfl rfl rfl ?_
        refine simL_skipd rfl rfl rfl rfl rfl rfl ?_
        refine simL_val (q_pick rfl rfl rfl rfl rfl) rfl rfl rfl ?_
        refine simL_nil ?_
        exact nrm_cut (s := false) () ⟨rfl, rfl, rfl, rfl, rfl, rfl, trivial⟩ (.sel 0 rfl (.sel 0 rfl (.sel 0 rfl (.nil _))))
    · intro s66v y67v
      refine simL_val (q_move rfl rfl) rfl rfl rfl ?_
      refine simL_cut' 4 (S := Bool) (Unit) (fun s y => [(8, .pointer (some ⟨y23v.1, 0, none⟩)), (9, .int .i64 s29v.1), (10, str s36v.1), (11, .bool s43v.1), (61, .bool s)]) (fun s y => [obj y23v.1 78 [.slice y23v.2.1 s22v.1.length y23v.2.2, .int .i64 s43v.2.1, .int .i64 s43v.2.2], Row 5 1 y23v.2.1 s22v.1.length y23v.2.2 (encB s22v.1), F]) ?_ ?_
      · refine simL_caseb (fun hb78v => ?_) (fun hb79v => ?_)
        · rw [hb78v]
          refine simL_valg (q_move rfl rfl) rfl rfl rfl rfl rfl rfl ?_
          refine simL_bind (fun s75v hs77v => ?_)
          refine simL_effg (re_call (vs := [.int .i64 s13v.2]) (cap := []) (A := []) (rst := [obj y23v.1 78 [.slice y23v.2.1 s22v.1.length y23v.2.2, .int .i64 s43v.2.1, .int .i64 s43v.2.2], Row 5 1 y23v.2.1 s22v.1.length y23v.2.2 (encB s22v.1), F]) rfl rfl rfl rfl rfl rfl Try.call14 (.sel 0 rfl (.sel 0 rfl (.sel 0 rfl (.nil _)))) (synodref_Num.calls _ _ s13v.2 ) hs77v) rfl rfl rfl rfl rfl rfl ?_
          intro y76v
          refine simL_valg (q_eql rfl rfl rfl) rfl rfl rfl rfl rfl rfl ?_
          refine simL_val (q_pick rfl rfl rfl rfl rfl) rfl rfl rfl ?_
          refine simL_nil ?_
          exact nrm_cut (s := decide (s75v = (1 : Int))) () ⟨rfl, rfl, rfl, rfl, rfl, trivial⟩ (.sel 0 rfl (.sel 0 rfl (.sel 0 rfl (.nil _))))
        · rw [hb79v]
          refine simL_skipd rfl rfl rfl rfl rfl rfl ?_
          refine simL_skipd rfl rfl rfl rfl rfl rfl ?_
          refine simL_skipd rfl rfl rfl rfl rfl rfl ?_
          refine simL_val (q_pick rfl rfl rfl rfl rfl) rfl rfl rfl ?_
          refine simL_nil ?_
          exact nrm_cut (s := false) () ⟨rfl, rfl, rfl, rfl, rfl, trivial⟩ (.sel 0 rfl (.sel 0 rfl (.sel 0 rfl (.nil _))))
      · intro s73v y74v
        refine simL_val (q_move rfl rfl) rfl rfl rfl ?_
        refine simL_valc (b := s73v) (fun hb98v => RQ.sub (E' := [(9, .int .i64 s29v.1)]) ⟨rfl, trivial⟩ (q_move rfl rfl)) rfl rfl rfl rfl rfl ?_
        refine simL_valc (b := s73v) (fun hb97v => RQ.sub (E' := [(63, .int .i64 s29v.1)]) ⟨lk_cv rfl hb97v, trivial⟩ (q_eql rfl rfl rfl)) rfl rfl rfl rfl rfl ?_
        refine simL_val (q_and rfl rfl rfl) rfl rfl rfl ?_
        refine simL_val (q_move rfl rfl) rfl rfl rfl ?_
        refine simL_valc (b := s73v && (decide (s29v.1 = (5 : Int)))) (fun hb96v => RQ.sub (E' := [(10, str s36v.1)]) ⟨rfl, trivial⟩ (q_move rfl rfl)) rfl rfl rfl rfl rfl ?_
        refine simL_valc (b := s73v && (decide (s29v.1 = (5 : Int)))) (fun hb95v => RQ.sub (E' := [(67, str s36v.1)]) ⟨lk_cv rfl hb95v, trivial⟩ (q_eqs rfl rfl rfl)) rfl rfl rfl rfl rfl ?_
        refine simL_val (q_and rfl rfl rfl) rfl rfl rfl ?_
        refine simL_val (q_move rfl rfl) rfl rfl rfl ?_
        refine simL_valc (b := (s73v && (decide (s29v.1 = (5 : Int)))) && (decide (s36v.1 = ([97, 98] : List UInt8)))) (fun hb94v => RQ.sub (E' := [(11, .bool s43v.1)]) ⟨rfl, trivial⟩ (q_move rfl rfl)) rfl rfl rfl rfl rfl ?_
        refine simL_val (q_and rfl rfl rfl) rfl rfl rfl ?_
        refine simL_val (q_move rfl rfl) rfl rfl rfl ?_
        refine simL_cut' 5 (S := Bool) (Unit) (fun s y => [(78, .bool s)]) (fun s y => [F]) ?_ ?_
        · refine simL_caseb (fun hb92v => ?_) (fun hb93v => ?_)
          · rw [hb92v]
            refine simL_valg (q_move rfl rfl) rfl rfl rfl rfl rfl rfl ?_
            refine simL_bind (fun s86v hs88v => ?_)
            refine simL_lend 1 rfl (fun hq82v hq83v hq84v hq85v => ?_)
            refine simL_effg (re_call (vs := [.pointer (some ⟨y23v.1, 0, none⟩)]) (cap := []) (A := [obj y23v.1 78 [.slice y23v.2.1 s22v.1.length y23v.2.2, .int .i64 s43v.2.1, .int .i64 s43v.2.2]]) (rst := [Row 5 1 y23v.2.1 s22v.1.length y23v.2.2 (encB s22v.1), F]) rfl rfl rfl rfl rfl rfl Try.call27 (.sel 0 rfl (.sel 0 rfl (.sel 0 rfl (.nil _)))) (wire_Reader_Done.calls _ _ y23v.1 y23v.2.1 y23v.2.2 s22v.1 s43v.2.1 s43v.2.2 (hq82v.lend 0 rfl) hq83v hq84v) hs88v) rfl rfl rfl rfl rfl rfl ?_
            intro y87v
            refine simL_bind (fun s89v hs91v => ?_)
            refine simL_effg (re_call (vs := [.int .i64 s86v]) (cap := []) (A := []) (rst := [obj y23v.1 78 [.slice y23v.2.1 s22v.1.length y23v.2.2, .int .i64 s43v.2.1, .int .i64 s43v.2.2], Row 5 1 y23v.2.1 s22v.1.length y23v.2.2 (encB s22v.1), F]) rfl rfl rfl rfl rfl rfl Try.call14 (.sel 0 rfl (.sel 0 rfl (.sel 0 rfl (.nil _)))) (synodref_Num.calls _ _ s86v ) hs91v) rfl rfl rfl rfl rfl rfl ?_
            intro y90v
            refine simL_valg (q_eql rfl rfl rfl) rfl rfl rfl rfl rfl rfl ?_
            refine simL_val (q_pick rfl rfl rfl rfl rfl) rfl rfl rfl ?_
            refine simL_nil ?_
            exact nrm_cut (s := decide (s89v = (0 : Int))) () ⟨rfl, trivial⟩ (.sel 2 rfl (.nil _))
          · rw [hb93v]
            refine simL_skipd rfl rfl rfl rfl rfl rfl ?_
            refine simL_skipd rfl rfl rfl rfl rfl rfl ?_
            refine simL_skipd rfl rfl rfl rfl rfl rfl ?_
            refine simL_skipd rfl rfl rfl rfl rfl rfl ?_
            refine simL_val (q_pick rfl rfl rfl rfl rfl) rfl rfl rfl ?_
            refine simL_nil ?_
            exact nrm_cut (s := false) () ⟨rfl, trivial⟩ (.sel 2 rfl (.nil _))
        · intro s80v y81v
          refine simL_val (q_asg rfl rfl) rfl rfl rfl ?_
          refine simL_nil ?_
          refine nrm_then ?_
          refine sim_rtn ?_
          exact rtn_fn () rfl rfl rfl (.sel 0 rfl (.nil _))

def synodref1_Size.l0 : Nat → Int → Int → Option (Int)
  | 0, _, _ => none
  | k + 1, z7v, z8v => if (128 : Int) ≤ z7v then (synodref1_Size.l0 k (IntKind.i64.wrap (Int.tdiv z7v 128)) (IntKind.i64.wrap (z8v + 1))) else (some z8v)
def synodref1_Size.f (k : Nat) (x0 : Int) : Option (Int) := if ((decide (x0 < (0 : Int))) || (decide ((4611686018427387904 : Int) < x0))) = true then (some 0) else ((synodref1_Size.l0 k x0 1).bind fun s3v => (some s3v))
theorem synodref1_Size.calls (W : World) (F : HA) (k : Nat) (x0 : Int)  :
    Fn Try.prog W 16 [.int .i64 x0] [] F (synodref1_Size.f k x0) (fun (r : Int) (y : Unit) => .int .i64 r) (fun r y => []) := by
  unfold synodref1_Size.f
  refine fn_intro 17 Try.func16 rfl Try.ntmps16 rfl ?_
  refine sim_seq ?_
  refine sim_region ?_
  refine simL_val (q_asg rfl rfl) rfl rfl rfl ?_
  refine simL_nil ?_
  refine nrm_then ?_
  refine sim_seq ?_
  refine sim_seq ?_
  refine sim_region ?_
  refine simL_val (q_move rfl rfl) rfl rfl rfl ?_
  refine simL_val (q_lss rfl rfl rfl) rfl rfl rfl ?_
  refine simL_val (q_move rfl rfl) rfl rfl rfl ?_
  refine simL_valc (b := decide (x0 < (0 : Int))) (fun hb13v => RQ.sub (E' := [(0, .int .i64 x0)]) ⟨rfl, trivial⟩ (q_move rfl rfl)) rfl rfl rfl rfl rfl ?_
  refine simL_valc (b := decide (x0 < (0 : Int))) (fun hb12v => RQ.sub (E' := [(7, .int .i64 x0)]) ⟨lk_cv rfl hb12v, trivial⟩ (q_gtr rfl rfl rfl)) rfl rfl rfl rfl rfl ?_
  refine simL_val (q_or rfl rfl rfl) rfl rfl rfl ?_
  refine simL_nil ?_
  refine nrm_then ?_
  refine sim_condb rfl (fun h1v => ?_) (fun h2v => ?_)
  · refine sim_seq ?_
    refine sim_region ?_
    refine simL_val (q_asg rfl rfl) rfl rfl rfl ?_
    refine simL_nil ?_
    refine nrm_then ?_
    refine sim_rtn ?_
    refine rtn_then ?_
    exact rtn_fn () rfl rfl rfl (.sel 0 rfl (.nil _))
  · refine sim_skip ?_
    refine nrm_then ?_
    refine sim_seq ?_
    refine sim_region ?_
    refine simL_val (q_asg rfl rfl) rfl rfl rfl ?_
    refine simL_nil ?_
    refine nrm_then ?_
    refine sim_cut (S := Int) (Unit) (fun s y => [(3, .int .i64 s)]) (fun s y => [F]) ?_ ?_
    · refine sim_block ?_
      refine sim_loop (S := Int × Int) (Unit) (fun k s => synodref1_Size.l0 k s.1 s.2) (fun s y => [(0, .int .i64 s.1), (3, .int .i64 s.2)]) (fun s y => [F]) (fun _ => by rw [synodref1_Size.l0]) ?_ k (x0, 1) () ⟨rfl, rfl, trivial⟩ (.sel 0 rfl (.nil _))
      intro k s5v y6v
      refine sim_eq (by rw [synodref1_Size.l0]) ?_
      refine sim_seq ?_
      refine sim_seq ?_
      refine sim_region ?_
      refine simL_val (q_move rfl rfl) rfl rfl rfl ?_
      refine simL_val (q_geq rfl rfl rfl) rfl rfl rfl ?_
      refine simL_nil ?_
      refine nrm_then ?_
      refine sim_cond rfl (fun h9v => ?_) (fun h10v => ?_)
      · refine sim_skip ?_
        refine nrm_then ?_
        refine sim_block ?_
        refine sim_seq ?_
        refine sim_region ?_
        refine simL_val (q_move rfl rfl) rfl rfl rfl ?_
        refine simL_val (q_quo rfl rfl rfl (by decide)) rfl rfl rfl ?_
        refine simL_val (q_asg rfl rfl) rfl rfl rfl ?_
        refine simL_nil ?_
        refine nrm_then ?_
        refine sim_region ?_
        refine simL_val (q_move rfl rfl) rfl rfl rfl ?_
        refine simL_val (q_add rfl rfl rfl) rfl rfl rfl ?_
        refine simL_val (q_asg rfl rfl) rfl rfl rfl ?_
        refine simL_nil ?_
        refine nrm_block ?_
        exact nrm_again (s := (IntKind.i64.wrap (Int.tdiv s5v.1 128), IntKind.i64.wrap (s5v.2 + 1))) () ⟨rfl, rfl, trivial⟩ (.sel 0 rfl (.nil _))
      · refine sim_exi ?_
        refine exi_then ?_
        refine exi_loop ?_
        refine exi_here ?_
        exact nrm_cut (s := s5v.2) () ⟨rfl, trivial⟩ (.sel 0 rfl (.nil _))
    · intro s3v y4v
      refine sim_seq ?_
      refine sim_region ?_
      refine simL_val (q_move rfl rfl) rfl rfl rfl ?_
      refine simL_val (q_asg rfl rfl) rfl rfl rfl ?_
      refine simL_nil ?_
      refine nrm_then ?_
      refine sim_rtn ?_
      exact rtn_fn () rfl rfl rfl (.sel 0 rfl (.nil _))

def synodref1_PutInt.l0 : Nat → Int → List UInt8 → Option (Int × List UInt8)
  | 0, _, _ => none
  | k + 1, z10v, z11v => if (128 : Int) ≤ z10v then (if 0 ≤ IntKind.u8.wrap (IntKind.i64.wrap ((Int.tmod z10v 128) + 128)) ∧ IntKind.u8.wrap (IntKind.i64.wrap ((Int.tmod z10v 128) + 128)) < 256 then (if (z11v.length + ([(byte (IntKind.u8.wrap (IntKind.i64.wrap ((Int.tmod z10v 128) + 128))))] : List UInt8).length) * 1 ≤ 140737488355328 then (synodref1_PutInt.l0 k (IntKind.i64.wrap (Int.tdiv z10v 128)) (z11v ++ ([(byte (IntKind.u8.wrap (IntKind.i64.wrap ((Int.tmod z10v 128) + 128))))] : List UInt8))) else none) else none) else (some (z10v, z11v))
def synodref1_PutInt.f (k : Nat) (x0 : Int) : Option (List UInt8 × Int) := (synodref1_Size.f k x0).bind fun s1v => (if s1v = (0 : Int) then (some (([] : List UInt8), 1)) else ((synodref1_PutInt.l0 k x0 ([] : List UInt8)).bind fun s6v => (if 0 ≤ IntKind.u8.wrap s6v.1 ∧ IntKind.u8.wrap s6v.1 < 256 then (if (s6v.2.length + ([(byte (IntKind.u8.wrap s6v.1))] : List UInt8).length) * 1 ≤ 140737488355328 then (some (s6v.2 ++ ([(byte (IntKind.u8.wrap s6v.1))] : List UInt8), 0)) else none) else none)))
theorem synodref1_PutInt.calls (W : World) (F : HA) (k : Nat) (x0 : Int)  :
    Fn Try.prog W 12 [.int .i64 x0] [] F (synodref1_PutInt.f k x0) (fun (r : List UInt8 × Int) (y : Option Addr × Nat) => .tuple #[.slice y.1 r.1.length y.2, .int .i64 r.2]) (fun r y => [Row 5 1 y.1 r.1.length y.2 (encB r.1)]) := by
  unfold synodref1_PutInt.f
  refine fn_intro 24 Try.func12 rfl Try.ntmps12 rfl ?_
  refine sim_seq ?_
  refine sim_region ?_
  refine simL_val (q_asg rfl rfl) rfl rfl rfl ?_
  refine simL_val (q_asg rfl rfl) rfl rfl rfl ?_
  refine simL_nil ?_
  refine nrm_then ?_
  refine sim_seq ?_
  refine sim_seq ?_
  refine sim_region ?_
  refine simL_val (q_move rfl rfl) rfl rfl rfl ?_
  refine simL_bind (fun s1v hs3v => ?_)
  refine simL_eff (re_call (vs := [.int .i64 x0]) (cap := []) (A := []) (rst := [F]) rfl rfl rfl rfl rfl rfl Try.call16 (.sel 0 rfl (.nil _)) (synodref1_Size.calls _ _ k x0 ) hs3v) rfl rfl rfl ?_
  intro y2v
  refine simL_val (q_eql rfl rfl rfl) rfl rfl rfl ?_
  refine simL_nil ?_
  refine nrm_then ?_
  refine sim_cond rfl (fun h4v => ?_) (fun h5v => ?_)
  · refine sim_seq ?_
    refine sim_region ?_
    refine simL_val (q_asg rfl rfl) rfl rfl rfl ?_
    refine simL_val (q_asg rfl rfl) rfl rfl rfl ?_
    refine simL_nil ?_
    refine nrm_then ?_
    refine sim_rtn ?_
    refine rtn_then ?_
    exact rtn_fn (none, 0) rfl rfl rfl (.row_nil (.sel 0 rfl (.nil _)))
  · refine sim_skip ?_
    refine nrm_then ?_
    refine sim_seq ?_
    refine sim_region ?_
    refine simL_val (q_asg rfl rfl) rfl rfl rfl ?_
    refine simL_nil ?_
    refine nrm_then ?_
    refine sim_cut (S := Int × List UInt8) (Option Addr × Nat) (fun s y => [(0, .int .i64 s.1), (4, .slice y.1 s.2.length y.2)]) (fun s y => [Row 5 1 y.1 s.2.length y.2 (encB s.2), F]) ?_ ?_
    · refine sim_block ?_
      refine sim_loop (S := Int × List UInt8) (Option Addr × Nat) (fun k s => synodref1_PutInt.l0 k s.1 s.2) (fun s y => [(0, .int .i64 s.1), (4, .slice y.1 s.2.length y.2)]) (fun s y => [Row 5 1 y.1 s.2.length y.2 (encB s.2), F]) (fun _ => by rw [synodref1_PutInt.l0]) ?_ k (x0, ([] : List UInt8)) (none, 0) ⟨rfl, rfl, trivial⟩ (.row_nil (.sel 0 rfl (.nil _)))
      intro k s8v y9v
      refine sim_eq (by rw [synodref1_PutInt.l0]) ?_
      refine sim_seq ?_
      refine sim_seq ?_
      refine sim_region ?_
      refine simL_val (q_move rfl rfl) rfl rfl rfl ?_
      refine simL_val (q_geq rfl rfl rfl) rfl rfl rfl ?_
      refine simL_nil ?_
      refine nrm_then ?_
      refine sim_cond rfl (fun h12v => ?_) (fun h13v => ?_)
      · refine sim_skip ?_
        refine nrm_then ?_
        refine sim_block ?_
        refine sim_seq ?_
        refine sim_region ?_
        refine simL_val (q_move rfl rfl) rfl rfl rfl ?_
        refine simL_val (q_move rfl rfl) rfl rfl rfl ?_
        refine simL_val (q_rem rfl rfl rfl (by decide)) rfl rfl rfl ?_
        refine simL_val (q_add rfl rfl rfl) rfl rfl rfl ?_
        refine simL_val (q_conv rfl rfl Try.underlying3 Try.underlying5) rfl rfl rfl ?_
        refine simL_ask (fun hb16v => ?_)
        refine simL_eff (re_litb (cs := [.int .u8 (IntKind.u8.wrap (IntKind.i64.wrap ((Int.tmod s8v.1 128) + 128)))]) ([(byte (IntKind.u8.wrap (IntKind.i64.wrap ((Int.tmod s8v.1 128) + 128))))] : List UInt8) rfl rfl Try.underlying23 elt5 rfl (by kernel_rfl) rfl rfl (byte_lit1 hb16v)) rfl rfl rfl ?_
        intro b15v
        refine simL_ask (fun hb18v => ?_)
        refine simL_eff (re_appendb 1 rfl rfl rfl Try.underlying23 elt5 rfl (Rds.row 0 rfl) hb18v) rfl rfl rfl ?_
        intro y17v
        refine simL_val (q_asg rfl rfl) rfl rfl rfl ?_
        refine simL_nil ?_
        refine nrm_then ?_
        refine sim_region ?_
        refine simL_val (q_move rfl rfl) rfl rfl rfl ?_
        refine simL_val (q_quo rfl rfl rfl (by decide)) rfl rfl rfl ?_
        refine simL_val (q_asg rfl rfl) rfl rfl rfl ?_
        refine simL_nil ?_
        refine nrm_block ?_
        exact nrm_again (s := (IntKind.i64.wrap (Int.tdiv s8v.1 128), s8v.2 ++ ([(byte (IntKind.u8.wrap (IntKind.i64.wrap ((Int.tmod s8v.1 128) + 128))))] : List UInt8))) (y17v.1, y17v.2) ⟨rfl, rfl, trivial⟩ (.sel 1 rfl (.sel 1 rfl (.nil _)))
      · refine sim_exi ?_
        refine exi_then ?_
        refine exi_loop ?_
        refine exi_here ?_
        exact nrm_cut (s := (s8v.1, s8v.2)) (y9v.1, y9v.2) ⟨rfl, rfl, trivial⟩ (.sel 0 rfl (.sel 0 rfl (.nil _)))
    · intro s6v y7v
      refine sim_seq ?_
      refine sim_region ?_
      refine simL_val (q_move rfl rfl) rfl rfl rfl ?_
      refine simL_val (q_move rfl rfl) rfl rfl rfl ?_
      refine simL_val (q_conv rfl rfl Try.underlying3 Try.underlying5) rfl rfl rfl ?_
      refine simL_ask (fun hb21v => ?_)
      refine simL_eff (re_litb (cs := [.int .u8 (IntKind.u8.wrap s6v.1)]) ([(byte (IntKind.u8.wrap s6v.1))] : List UInt8) rfl rfl Try.underlying23 elt5 rfl (by kernel_rfl) rfl rfl (byte_lit1 hb21v)) rfl rfl rfl ?_
      intro b20v
      refine simL_ask (fun hb23v => ?_)
      refine simL_eff (re_appendb 1 rfl rfl rfl Try.underlying23 elt5 rfl (Rds.row 0 rfl) hb23v) rfl rfl rfl ?_
      intro y22v
      refine simL_val (q_asg rfl rfl) rfl rfl rfl ?_
      refine simL_val (q_asg rfl rfl) rfl rfl rfl ?_
      refine simL_nil ?_
      refine nrm_then ?_
      refine sim_rtn ?_
      exact rtn_fn (y22v.1, y22v.2) rfl rfl rfl (.sel 1 rfl (.sel 1 rfl (.nil _)))

def synodlaw1_WireInts.f (k : Nat) (x0 : Int) : Option (Bool) := (synodlaw1_first.f k).bind fun s1v => ((wire_PutInt.f k x0).bind fun s4v => ((synodref1_PutInt.f k x0).bind fun s7v => ((synodref_SameBytes.f k s4v.1 s7v.1).bind fun s18v => ((if (s1v && s18v) = true then ((synodref_Num.f s4v.2).bind fun s23v => (some (decide (s23v = s7v.2)))) else (some false)).bind fun s21v => ((if s21v = true then ((wire_Size.f k x0).bind fun s30v => ((synodref1_Size.f k x0).bind fun s33v => (some (decide (s30v = s33v))))) else (some false)).bind fun s28v => (some s28v))))))
theorem synodlaw1_WireInts.calls (W : World) (F : HA) (k : Nat) (x0 : Int)  :
    Fn Try.prog W 3 [.int .i64 x0] [] F (synodlaw1_WireInts.f k x0) (fun (r : Bool) (y : Unit) => .bool r) (fun r y => []) := by
  unfold synodlaw1_WireInts.f
  refine fn_intro 40 Try.func3 rfl Try.ntmps3 rfl ?_
  refine sim_seq ?_
  refine sim_region ?_
  refine simL_val (q_asg rfl rfl) rfl rfl rfl ?_
  refine simL_nil ?_
  refine nrm_then ?_
  refine sim_seq ?_
  refine sim_region ?_
  refine simL_bind (fun s1v hs3v => ?_)
  refine simL_eff (re_call (vs := []) (cap := []) (A := []) (rst := [F]) rfl rfl rfl rfl rfl rfl Try.call10 (.sel 0 rfl (.nil _)) (synodlaw1_first.calls _ _ k  ) hs3v) rfl rfl rfl ?_
  intro y2v
  refine simL_val (q_asg rfl rfl) rfl rfl rfl ?_
  refine simL_nil ?_
  refine nrm_then ?_
  refine sim_seq ?_
  refine sim_region ?_
  refine simL_val (q_move rfl rfl) rfl rfl rfl ?_
  refine simL_bind (fun s4v hs6v => ?_)
  refine simL_eff (re_call (vs := [.int .i64 x0]) (cap := []) (A := []) (rst := [F]) rfl rfl rfl rfl rfl rfl Try.call11 (.sel 0 rfl (.nil _)) (wire_PutInt.calls _ _ k x0 ) hs6v) rfl rfl rfl ?_
  intro y5v
  refine simL_val (q_move rfl rfl) rfl rfl rfl ?_
  refine simL_val (q_ext rfl rfl rfl) rfl rfl rfl ?_
  refine simL_val (q_ext rfl rfl rfl) rfl rfl rfl ?_
  refine simL_val (q_asg rfl rfl) rfl rfl rfl ?_
  refine simL_val (q_asg rfl rfl) rfl rfl rfl ?_
  refine simL_nil ?_
  refine nrm_then ?_
  refine sim_seq ?_
  refine sim_region ?_
  refine simL_val (q_move rfl rfl) rfl rfl rfl ?_
  refine simL_bind (fun s7v hs9v => ?_)
  refine simL_eff (re_call (vs := [.int .i64 x0]) (cap := []) (A := []) (rst := [Row 5 1 y5v.1 s4v.1.length y5v.2 (encB s4v.1), F]) rfl rfl rfl rfl rfl rfl Try.call12 (.sel 0 rfl (.sel 0 rfl (.nil _))) (synodref1_PutInt.calls _ _ k x0 ) hs9v) rfl rfl rfl ?_
  intro y8v
  refine simL_val (q_move rfl rfl) rfl rfl rfl ?_
  refine simL_val (q_ext rfl rfl rfl) rfl rfl rfl ?_
  refine simL_val (q_ext rfl rfl rfl) rfl rfl rfl ?_
  refine simL_val (q_asg rfl rfl) rfl rfl rfl ?_
  refine simL_val (q_asg rfl rfl) rfl rfl rfl ?_
  refine simL_nil ?_
  refine nrm_then ?_
  refine sim_seq ?_
  refine sim_region ?_
  refine simL_val (q_move rfl rfl) rfl rfl rfl ?_
  refine simL_val (q_move rfl rfl) rfl rfl rfl ?_
  refine simL_bind (fun s18v hs20v => ?_)
  refine simL_lend 1 rfl (fun hq10v hq11v hq12v hq13v => ?_)
  refine simL_lend 0 rfl (fun hq14v hq15v hq16v hq17v => ?_)
  refine simL_eff (re_call (vs := [.slice y5v.1 s4v.1.length y5v.2, .slice y8v.1 s7v.1.length y8v.2]) (cap := []) (A := []) (rst := [Row 5 1 y8v.1 s7v.1.length y8v.2 (encB s7v.1), Row 5 1 y5v.1 s4v.1.length y5v.2 (encB s4v.1), F]) rfl rfl rfl rfl rfl rfl Try.call13 (.sel 0 rfl (.sel 0 rfl (.sel 0 rfl (.nil _)))) (synodref_SameBytes.calls _ _ k y5v.1 y5v.2 s4v.1 y8v.1 y8v.2 s7v.1 (hq10v.lend 1 rfl) hq11v hq12v (hq14v.lend 0 rfl) hq15v hq16v) hs20v) rfl rfl rfl ?_
  intro y19v
  refine simL_val (q_asg rfl rfl) rfl rfl rfl ?_
  refine simL_nil ?_
  refine nrm_then ?_
  refine sim_seq ?_
  refine sim_region ?_
  refine simL_val (q_move rfl rfl) rfl rfl rfl ?_
  refine simL_val (q_move rfl rfl) rfl rfl rfl ?_
  refine simL_valc (b := s1v) (fun hb38v => RQ.sub (E' := [(8, .bool s18v)]) ⟨rfl, trivial⟩ (q_move rfl rfl)) rfl rfl rfl rfl rfl ?_
  refine simL_val (q_and rfl rfl rfl) rfl rfl rfl ?_
  refine simL_val (q_move rfl rfl) rfl rfl rfl ?_
  refine simL_cut' 5 (S := Bool) (Unit) (fun s y => [(0, .int .i64 x0), (32, .bool s)]) (fun s y => [F]) ?_ ?_
  · refine simL_caseb (fun hb26v => ?_) (fun hb27v => ?_)
    · rw [hb26v]
      refine simL_valg (q_move rfl rfl) rfl rfl rfl rfl rfl rfl ?_
      refine simL_bind (fun s23v hs25v => ?_)
      refine simL_effg (re_call (vs := [.int .i64 s4v.2]) (cap := []) (A := []) (rst := [Row 5 1 y8v.1 s7v.1.length y8v.2 (encB s7v.1), Row 5 1 y5v.1 s4v.1.length y5v.2 (encB s4v.1), F]) rfl rfl rfl rfl rfl rfl Try.call14 (.sel 0 rfl (.sel 0 rfl (.sel 0 rfl (.nil _)))) (synodref_Num.calls _ _ s4v.2 ) hs25v) rfl rfl rfl rfl rfl rfl ?_
      intro y24v
      refine simL_valg (q_move rfl rfl) rfl rfl rfl rfl rfl rfl ?_
      refine simL_valg (q_eql rfl rfl rfl) rfl rfl rfl rfl rfl rfl ?_
      refine simL_val (q_pick rfl rfl rfl rfl rfl) rfl rfl rfl ?_
      refine simL_nil ?_
      exact nrm_cut (s := decide (s23v = s7v.2)) () ⟨rfl, rfl, trivial⟩ (.sel 2 rfl (.nil _))
    · rw [hb27v]
      refine simL_skipd rfl rfl rfl rfl rfl rfl ?_
      refine simL_skipd rfl rfl rfl rfl rfl rfl ?_
      refine simL_skipd rfl rfl rfl rfl rfl rfl ?_
      refine simL_skipd rfl rfl rfl rfl rfl rfl ?_
      refine simL_val (q_pick rfl rfl rfl rfl rfl) rfl rfl rfl ?_
      refine simL_nil ?_
      exact nrm_cut (s := false) () ⟨rfl, rfl, trivial⟩ (.sel 2 rfl (.nil _))
  · intro s21v y22v
    refine simL_val (q_move rfl rfl) rfl rfl rfl ?_
    refine simL_cut' 6 (S := Bool) (Unit) (fun s y => [(39, .bool s)]) (fun s y => [F]) ?_ ?_
    · refine simL_caseb (fun hb36v => ?_) (fun hb37v => ?_)
      · rw [hb36v]
        refine simL_valg (q_move rfl rfl) rfl rfl rfl rfl rfl rfl ?_
        refine simL_bind (fun s30v hs32v => ?_)
        refine simL_effg (re_call (vs := [.int .i64 x0]) (cap := []) (A := []) (rst := [F]) rfl rfl rfl rfl rfl rfl Try.call15 (.sel 0 rfl (.nil _)) (wire_Size.calls _ _ k x0 ) hs32v) rfl rfl rfl rfl rfl rfl ?_
        intro y31v
        refine simL_valg (q_move rfl rfl) rfl rfl rfl rfl rfl rfl ?_
        refine simL_bind (fun s33v hs35v => ?_)
        refine simL_effg (re_call (vs := [.int .i64 x0]) (cap := []) (A := []) (rst := [F]) rfl rfl rfl rfl rfl rfl Try.call16 (.sel 0 rfl (.nil _)) (synodref1_Size.calls _ _ k x0 ) hs35v) rfl rfl rfl rfl rfl rfl ?_
        intro y34v
        refine simL_valg (q_eql rfl rfl rfl) rfl rfl rfl rfl rfl rfl ?_
        refine simL_val (q_pick rfl rfl rfl rfl rfl) rfl rfl rfl ?_
        refine simL_nil ?_
        exact nrm_cut (s := decide (s30v = s33v)) () ⟨rfl, trivial⟩ (.sel 0 rfl (.nil _))
      · rw [hb37v]
        refine simL_skipd rfl rfl rfl rfl rfl rfl ?_
        refine simL_skipd rfl rfl rfl rfl rfl rfl ?_
        refine simL_skipd rfl rfl rfl rfl rfl rfl ?_
        refine simL_skipd rfl rfl rfl rfl rfl rfl ?_
        refine simL_skipd rfl rfl rfl rfl rfl rfl ?_
        refine simL_val (q_pick rfl rfl rfl rfl rfl) rfl rfl rfl ?_
        refine simL_nil ?_
        exact nrm_cut (s := false) () ⟨rfl, trivial⟩ (.sel 0 rfl (.nil _))
    · intro s28v y29v
      refine simL_val (q_asg rfl rfl) rfl rfl rfl ?_
      refine simL_nil ?_
      refine nrm_then ?_
      refine sim_rtn ?_
      exact rtn_fn () rfl rfl rfl (.sel 0 rfl (.nil _))

def synodref_Bytes.f (x0 : List UInt8) : Option (List UInt8) := if (([] : List UInt8).length + x0.length) * 1 ≤ 140737488355328 then (some (([] : List UInt8) ++ x0)) else none
theorem synodref_Bytes.calls (W : World) (F : HA) (a0 : Option Addr) (c0 : Nat) (x0 : List UInt8) (h0 : Rd F a0 (encB x0)) (hc0 : x0.length ≤ c0) (hm0 : c0 ≤ maxLen) :
    Fn Try.prog W 21 [.slice a0 x0.length c0] [] F (synodref_Bytes.f x0) (fun (r : List UInt8) (y : Option Addr × Nat) => .slice y.1 r.length y.2) (fun r y => [Row 5 1 y.1 r.length y.2 (encB r)]) := by
  unfold synodref_Bytes.f
  refine fn_intro 6 Try.func21 rfl Try.ntmps21 rfl ?_
  refine sim_seq ?_
  refine sim_region ?_
  refine simL_val (q_asg rfl rfl) rfl rfl rfl ?_
  refine simL_nil ?_
  refine nrm_then ?_
  refine sim_seq ?_
  refine sim_region ?_
  refine simL_eff (re_lit0 rfl Try.underlying23 elt5) rfl rfl rfl ?_
  intro b1v
  refine simL_val (q_move rfl rfl) rfl rfl rfl ?_
  refine simL_ask (fun hb3v => ?_)
  refine simL_eff (re_appendb 0 rfl rfl rfl Try.underlying23 elt5 rfl (h0.rds 0 rfl) hb3v) rfl rfl rfl ?_
  intro y2v
  refine simL_val (q_asg rfl rfl) rfl rfl rfl ?_
  refine simL_nil ?_
  refine nrm_then ?_
  refine sim_rtn ?_
  exact rtn_fn (y2v.1, y2v.2) rfl rfl rfl (.sel 0 rfl (.sel 0 rfl (.nil _)))

def synodref_Lent.f (x0 : List UInt8) : Option (List UInt8 × List UInt8) := (synodref_Bytes.f x0).bind fun s1v => (if (s1v.length + ([201] : List UInt8).length) * 1 ≤ 140737488355328 then (if 0 ≤ (x0.length : Int) ∧ (x0.length : Int) ≤ ((s1v ++ ([201] : List UInt8)).length : Int) then (some (List.take (x0.length : Int).toNat (s1v ++ ([201] : List UInt8)), List.drop (x0.length : Int).toNat (s1v ++ ([201] : List UInt8)))) else none) else none)
theorem synodref_Lent.calls (W : World) (F : HA) (a0 : Option Addr) (c0 : Nat) (x0 : List UInt8) (h0 : Rd F a0 (encB x0)) (hc0 : x0.length ≤ c0) (hm0 : c0 ≤ maxLen) :
    Fn Try.prog W 17 [.slice a0 x0.length c0] [] F (synodref_Lent.f x0) (fun (r : List UInt8 × List UInt8) (y : Option Addr × Nat) => .slice y.1 r.1.length y.2) (fun r y => [Row 5 1 y.1 r.1.length y.2 (encB (r.1 ++ r.2))]) := by
  unfold synodref_Lent.f
  refine fn_intro 12 Try.func17 rfl Try.ntmps17 rfl ?_
  refine sim_seq ?_
  refine sim_region ?_
  refine simL_val (q_asg rfl rfl) rfl rfl rfl ?_
  refine simL_nil ?_
  refine nrm_then ?_
  refine sim_seq ?_
  refine sim_region ?_
  refine simL_val (q_move rfl rfl) rfl rfl rfl ?_
  refine simL_bind (fun s1v hs3v => ?_)
  refine simL_eff (re_call (vs := [.slice a0 x0.length c0]) (cap := []) (A := []) (rst := [F]) rfl rfl rfl rfl rfl rfl Try.call21 (.sel 0 rfl (.nil _)) (synodref_Bytes.calls _ _ a0 c0 x0 (h0.lend 0 rfl) hc0 hm0) hs3v) rfl rfl rfl ?_
  intro y2v
  refine simL_eff (re_litb (cs := [.int .u8 201]) ([201] : List UInt8) rfl rfl Try.underlying23 elt5 rfl (by kernel_rfl) rfl rfl rfl) rfl rfl rfl ?_
  intro b4v
  refine simL_ask (fun hb7v => ?_)
  refine simL_eff (re_appendb 1 rfl rfl rfl Try.underlying23 elt5 rfl (Rds.row 0 rfl) hb7v) rfl rfl rfl ?_
  intro y6v
  refine simL_val (q_asg rfl rfl) rfl rfl rfl ?_
  refine simL_nil ?_
  refine nrm_then ?_
  refine sim_seq ?_
  refine sim_region ?_
  refine simL_val (q_move rfl rfl) rfl rfl rfl ?_
  refine simL_val (q_move rfl rfl) rfl rfl rfl ?_
  refine simL_val (q_len rfl rfl rfl Try.underlying23) rfl rfl rfl ?_
  refine simL_ask (fun hb8v => ?_)
  refine simL_eff (re_cut0 1 rfl rfl rfl Try.underlying23 Try.sizeOf5 rfl hb8v) rfl rfl rfl ?_
  intro _
  refine simL_val (q_asg rfl rfl) rfl rfl rfl ?_
  refine simL_nil ?_
  refine nrm_then ?_
  refine sim_rtn ?_
  exact rtn_fn (y6v.1, y6v.2) rfl rfl rfl (.sel 1 rfl (.sel 1 rfl (.nil _)))

def synodref1_Int.l1 (x0 : List UInt8) (x1 : Int) : Nat → Int → Int → Option (Int)
  | 0, _, _ => none
  | k + 1, z42v, z43v => if (0 : Int) ≤ z43v then (if 0 ≤ IntKind.i64.wrap (x1 + z43v) ∧ IntKind.i64.wrap (x1 + z43v) < (x0.length : Int) then (synodref1_Int.l1 x0 x1 k (IntKind.i64.wrap ((IntKind.i64.wrap (z42v * 128)) + (Int.tmod (IntKind.i64.wrap ((x0.getD (IntKind.i64.wrap (x1 + z43v)).toNat 0).toNat : Int)) 128))) (IntKind.i64.wrap (z43v - 1))) else none) else (some z42v)
def synodref1_Int.l0 (x0 : List UInt8) (x1 : Int) : Nat → Int → Option (Int)
  | 0, _ => none
  | k + 1, z7v => (if ((decide (z7v < (9 : Int))) && (decide (IntKind.i64.wrap (x1 + z7v) < (x0.length : Int)))) = true then (if 0 ≤ IntKind.i64.wrap (x1 + z7v) ∧ IntKind.i64.wrap (x1 + z7v) < (x0.length : Int) then (some (decide ((128 : Int) ≤ ((x0.getD (IntKind.i64.wrap (x1 + z7v)).toNat 0).toNat : Int)))) else none) else (some false)).bind fun s8v => (if s8v = true then (synodref1_Int.l0 x0 x1 k (IntKind.i64.wrap (z7v + 1))) else (some z7v))
def synodref1_Int.f (k : Nat) (x0 : List UInt8) (x1 : Int) : Option (Int × Int × Int) := if ((decide (x1 < (0 : Int))) || (decide ((x0.length : Int) ≤ x1))) = true then (some (0, 0, 2)) else ((synodref1_Int.l0 x0 x1 k 0).bind fun s3v => (if s3v = (9 : Int) then (some (0, 0, 4)) else (if (x0.length : Int) ≤ IntKind.i64.wrap (x1 + s3v) then (some (0, 0, 2)) else ((if (0 : Int) < s3v then (if 0 ≤ IntKind.i64.wrap (x1 + s3v) ∧ IntKind.i64.wrap (x1 + s3v) < (x0.length : Int) then (some (decide (((x0.getD (IntKind.i64.wrap (x1 + s3v)).toNat 0).toNat : Int) = (0 : Int)))) else none) else (some false)).bind fun s28v => (if s28v = true then (some (0, 0, 4)) else ((synodref1_Int.l1 x0 x1 k 0 s3v).bind fun s38v => (if (4611686018427387904 : Int) < s38v then (some (0, 0, 1)) else (some (s38v, IntKind.i64.wrap (s3v + 1), 0)))))))))
theorem synodref1_Int.calls (W : World) (F : HA) (k : Nat) (a0 : Option Addr) (c0 : Nat) (x0 : List UInt8) (x1 : Int) (h0 : Rd F a0 (encB x0)) (hc0 : x0.length ≤ c0) (hm0 : c0 ≤ maxLen) :
    Fn Try.prog W 19 [.slice a0 x0.length c0, .int .i64 x1] [] F (synodref1_Int.f k x0 x1) (fun (r : Int × Int × Int) (y : Unit) => .tuple #[.int .i64 r.1, .int .i64 r.2.1, .int .i64 r.2.2]) (fun r y => []) := by
  unfold synodref1_Int.f
  refine fn_intro 79 Try.func19 rfl Try.ntmps19 rfl ?_
  refine sim_seq ?_
  refine sim_region ?_
  refine simL_val (q_asg rfl rfl) rfl rfl rfl ?_
  refine simL_val (q_asg rfl rfl) rfl rfl rfl ?_
  refine simL_val (q_asg rfl rfl) rfl rfl rfl ?_
  refine simL_nil ?_
  refine nrm_then ?_
  refine sim_seq ?_
  refine sim_seq ?_
  refine sim_region ?_
  refine simL_val (q_move rfl rfl) rfl rfl rfl ?_
  refine simL_val (q_lss rfl rfl rfl) rfl rfl rfl ?_
  refine simL_val (q_move rfl rfl) rfl rfl rfl ?_
  refine simL_valc (b := decide (x1 < (0 : Int))) (fun hb56v => RQ.sub (E' := [(1, .int .i64 x1)]) ⟨rfl, trivial⟩ (q_move rfl rfl)) rfl rfl rfl rfl rfl ?_
  refine simL_valc (b := decide (x1 < (0 : Int))) (fun hb55v => RQ.sub (E' := [(0, .slice a0 x0.length c0)]) ⟨rfl, trivial⟩ (q_move rfl rfl)) rfl rfl rfl rfl rfl ?_
  refine simL_valc (b := decide (x1 < (0 : Int))) (fun hb54v => RQ.sub (E' := [(14, .slice a0 x0.length c0)]) ⟨lk_cv rfl hb54v, trivial⟩ (q_len rfl rfl rfl Try.underlying23)) rfl rfl rfl rfl rfl ?_
  refine simL_valc (b := decide (x1 < (0 : Int))) (fun hb53v => RQ.sub (E' := [(13, .int .i64 x1), (15, .int .i64 (x0.length : Int))]) ⟨lk_cv rfl hb53v, lk_cv rfl hb53v, trivial⟩ (q_geq rfl rfl rfl)) rfl rfl rfl rfl rfl ?_
  refine simL_val (q_or rfl rfl rfl) rfl rfl rfl ?_
  refine simL_nil ?_
  refine nrm_then ?_
  refine sim_condb rfl (fun h1v => ?_) (fun h2v => ?_)
  · refine sim_seq ?_
    refine sim_region ?_
    refine simL_val (q_asg rfl rfl) rfl rfl rfl ?_
    refine simL_val (q_asg rfl rfl) rfl rfl rfl ?_
    refine simL_val (q_asg rfl rfl) rfl rfl rfl ?_
    refine simL_nil ?_
    refine nrm_then ?_
    refine sim_rtn ?_
    refine rtn_then ?_
    exact rtn_fn () rfl rfl rfl (.sel 0 rfl (.nil _))
  · refine sim_skip ?_
    refine nrm_then ?_
    refine sim_seq ?_
    refine sim_region ?_
    refine simL_val (q_asg rfl rfl) rfl rfl rfl ?_
    refine simL_nil ?_
    refine nrm_then ?_
    refine sim_cut (S := Int) (Unit) (fun s y => [(0, .slice a0 x0.length c0), (1, .int .i64 x1), (7, .int .i64 s)]) (fun s y => [F]) ?_ ?_
    · refine sim_block ?_
      refine sim_loop (S := Int) (Unit) (fun k s => synodref1_Int.l0 x0 x1 k s) (fun s y => [(0, .slice a0 x0.length c0), (1, .int .i64 x1), (7, .int .i64 s)]) (fun s y => [F]) (fun _ => by rw [synodref1_Int.l0]) ?_ k 0 () ⟨rfl, rfl, rfl, trivial⟩ (.sel 0 rfl (.nil _))
      intro k s5v y6v
      refine sim_eq (by rw [synodref1_Int.l0]) ?_
      refine sim_seq ?_
      refine sim_seq ?_
      refine sim_region ?_
      refine simL_val (q_move rfl rfl) rfl rfl rfl ?_
      refine simL_val (q_lss rfl rfl rfl) rfl rfl rfl ?_
      refine simL_val (q_move rfl rfl) rfl rfl rfl ?_
      refine simL_valc (b := decide (s5v < (9 : Int))) (fun hb23v => RQ.sub (E' := [(1, .int .i64 x1)]) ⟨rfl, trivial⟩ (q_move rfl rfl)) rfl rfl rfl rfl rfl ?_
      refine simL_valc (b := decide (s5v < (9 : Int))) (fun hb22v => RQ.sub (E' := [(7, .int .i64 s5v)]) ⟨rfl, trivial⟩ (q_move rfl rfl)) rfl rfl rfl rfl rfl ?_
      refine simL_valc (b := decide (s5v < (9 : Int))) (fun hb21v => RQ.sub (E' := [(21, .int .i64 x1), (22, .int .i64 s5v)]) ⟨lk_cv rfl hb21v, lk_cv rfl hb21v, trivial⟩ (q_add rfl rfl rfl)) rfl rfl rfl rfl rfl ?_
      refine simL_valc (b := decide (s5v < (9 : Int))) (fun hb20v => RQ.sub (E' := [(0, .slice a0 x0.length c0)]) ⟨rfl, trivial⟩ (q_move rfl rfl)) rfl rfl rfl rfl rfl ?_
      refine simL_valc (b := decide (s5v < (9 : Int))) (fun hb19v => RQ.sub (E' := [(24, .slice a0 x0.length c0)]) ⟨lk_cv rfl hb19v, trivial⟩ (q_len rfl rfl rfl Try.underlying23)) rfl rfl rfl rfl rfl ?_
      refine simL_valc (b := decide (s5v < (9 : Int))) (fun hb18v => RQ.sub (E' := [(23, .int .i64 (IntKind.i64.wrap (x1 + s5v))), (25, .int .i64 (x0.length : Int))]) ⟨lk_cv rfl hb18v, lk_cv rfl hb18v, trivial⟩ (q_lss rfl rfl rfl)) rfl rfl rfl rfl rfl ?_
      refine simL_val (q_and rfl rfl rfl) rfl rfl rfl ?_
      refine simL_val (q_move rfl rfl) rfl rfl rfl ?_
      refine simL_cut' 8 (S := Bool) (Unit) (fun s y => [(0, .slice a0 x0.length c0), (1, .int .i64 x1), (7, .int .i64 s5v), (36, .bool s)]) (fun s y => [F]) ?_ ?_
      · refine simL_caseb (fun hb14v => ?_) (fun hb15v => ?_)
        · rw [hb14v]
          refine simL_valg (q_move rfl rfl) rfl rfl rfl rfl rfl rfl ?_
          refine simL_valg (q_move rfl rfl) rfl rfl rfl rfl rfl rfl ?_
          refine simL_valg (q_move rfl rfl) rfl rfl rfl rfl rfl rfl ?_
          refine simL_valg (q_add rfl rfl rfl) rfl rfl rfl rfl rfl rfl ?_
          refine simL_ask (fun hi10v => ?_)
          obtain ⟨b11v, b11vo, ha12v⟩ := h0.pos (encB_ne (j := (IntKind.i64.wrap (x1 + s5v)).toNat) (by omega))
          refine simL_valg (q_idx1 rfl rfl rfl ha12v Try.underlying23 Try.sizeOf5 hi10v.1 hi10v.2) rfl rfl rfl rfl rfl rfl ?_
          refine simL_valg (q_load rfl rfl Try.isAgg5 (h0.cell 0 rfl ha12v (encB_get (by omega)))) rfl rfl rfl rfl rfl rfl ?_
          refine simL_valg (q_geq rfl rfl rfl) rfl rfl rfl rfl rfl rfl ?_
          refine simL_val (q_pick rfl rfl rfl rfl rfl) rfl rfl rfl ?_
          refine simL_nil ?_
          exact nrm_cut (s := decide ((128 : Int) ≤ ((x0.getD (IntKind.i64.wrap (x1 + s5v)).toNat 0).toNat : Int))) () ⟨rfl, rfl, rfl, rfl, trivial⟩ (.sel 0 rfl (.nil _))
        · rw [hb15v]
          refine simL_skipd rfl rfl rfl rfl rfl rfl ?_
          refine simL_skipd rfl rfl rfl rfl rfl rfl ?_
          refine simL_skipd rfl rfl rfl rfl rfl rfl ?_
          refine simL_skipd rfl rfl rfl rfl rfl rfl ?_
          refine simL_skipd rfl rfl rfl rfl rfl rfl ?_
          refine simL_skipd rfl rfl rfl rfl rfl rfl ?_
          refine simL_skipd rfl rfl rfl rfl rfl rfl ?_
          refine simL_val (q_pick rfl rfl rfl rfl rfl) rfl rfl rfl ?_
          refine simL_nil ?_
          exact nrm_cut (s := false) () ⟨rfl, rfl, rfl, rfl, trivial⟩ (.sel 0 rfl (.nil _))
      · intro s8v y9v
        refine simL_nil ?_
        refine nrm_then ?_
        refine sim_condb rfl (fun h16v => ?_) (fun h17v => ?_)
        · refine sim_skip ?_
          refine nrm_then ?_
          refine sim_block ?_
          refine sim_region ?_
          refine simL_val (q_move rfl rfl) rfl rfl rfl ?_
          refine simL_val (q_add rfl rfl rfl) rfl rfl rfl ?_
          refine simL_val (q_asg rfl rfl) rfl rfl rfl ?_
          refine simL_nil ?_
          refine nrm_block ?_
          exact nrm_again (s := IntKind.i64.wrap (s5v + 1)) () ⟨rfl, rfl, rfl, trivial⟩ (.sel 0 rfl (.nil _))
        · refine sim_exi ?_
          refine exi_then ?_
          refine exi_loop ?_
          refine exi_here ?_
          exact nrm_cut (s := s5v) () ⟨rfl, rfl, rfl, trivial⟩ (.sel 0 rfl (.nil _))
    · intro s3v y4v
      refine sim_seq ?_
      refine sim_seq ?_
      refine sim_region ?_
      refine simL_val (q_move rfl rfl) rfl rfl rfl ?_
      refine simL_val (q_eql rfl rfl rfl) rfl rfl rfl ?_
      refine simL_nil ?_
      refine nrm_then ?_
      refine sim_cond rfl (fun h24v => ?_) (fun h25v => ?_)
      · refine sim_seq ?_
        refine sim_region ?_
        refine simL_val (q_asg rfl rfl) rfl rfl rfl ?_
        refine simL_val (q_asg rfl rfl) rfl rfl rfl ?_
        refine simL_val (q_asg rfl rfl) rfl rfl rfl ?_
        refine simL_nil ?_
        refine nrm_then ?_
        refine sim_rtn ?_
        refine rtn_then ?_
        exact rtn_fn () rfl rfl rfl (.sel 0 rfl (.nil _))
      · refine sim_skip ?_
        refine nrm_then ?_
        refine sim_seq ?_
        refine sim_seq ?_
        refine sim_region ?_
        refine simL_val (q_move rfl rfl) rfl rfl rfl ?_
        refine simL_val (q_move rfl rfl) rfl rfl rfl ?_
        refine simL_val (q_add rfl rfl rfl) rfl rfl rfl ?_
        refine simL_val (q_move rfl rfl) rfl rfl rfl ?_
        refine simL_val (q_len rfl rfl rfl Try.underlying23) rfl rfl rfl ?_
        refine simL_val (q_geq rfl rfl rfl) rfl rfl rfl ?_
        refine simL_nil ?_
        refine nrm_then ?_
        refine sim_cond rfl (fun h26v => ?_) (fun h27v => ?_)
        · refine sim_seq ?_
          refine sim_region ?_
          refine simL_val (q_asg rfl rfl) rfl rfl rfl ?_
          refine simL_val (q_asg rfl rfl) rfl rfl rfl ?_
          refine simL_val (q_asg rfl rfl) rfl rfl rfl ?_
          refine simL_nil ?_
          refine nrm_then ?_
          refine sim_rtn ?_
          refine rtn_then ?_
          exact rtn_fn () rfl rfl rfl (.sel 0 rfl (.nil _))
        · refine sim_skip ?_
          refine nrm_then ?_
          refine sim_seq ?_
          refine sim_seq ?_
          refine sim_region ?_
          refine simL_val (q_move rfl rfl) rfl rfl rfl ?_
          refine simL_val (q_gtr rfl rfl rfl) rfl rfl rfl ?_
          refine simL_val (q_move rfl rfl) rfl rfl rfl ?_
          refine simL_cut' 8 (S := Bool) (Unit) (fun s y => [(0, .slice a0 x0.length c0), (1, .int .i64 x1), (7, .int .i64 s3v), (57, .bool s)]) (fun s y => [F]) ?_ ?_
          · refine simL_casep (fun hb34v => ?_) (fun hb35v => ?_)
            · rw [hb34v]
              refine simL_valg (q_move rfl rfl) rfl rfl rfl rfl rfl rfl ?_
              refine simL_valg (q_move rfl rfl) rfl rfl rfl rfl rfl rfl ?_
              refine simL_valg (q_move rfl rfl) rfl rfl rfl rfl rfl rfl ?_
              refine simL_valg (q_add rfl rfl rfl) rfl rfl rfl rfl rfl rfl ?_
              refine simL_ask (fun hi30v => ?_)
              obtain ⟨b31v, b31vo, ha32v⟩ := h0.pos (encB_ne (j := (IntKind.i64.wrap (x1 + s3v)).toNat) (by omega))
              refine simL_valg (q_idx1 rfl rfl rfl ha32v Try.underlying23 Try.sizeOf5 hi30v.1 hi30v.2) rfl rfl rfl rfl rfl rfl ?_
              refine simL_valg (q_load rfl rfl Try.isAgg5 (h0.cell 0 rfl ha32v (encB_get (by omega)))) rfl rfl rfl rfl rfl rfl ?_
              refine simL_valg (q_eql rfl rfl rfl) rfl rfl rfl rfl rfl rfl ?_
              refine simL_val (q_pick rfl rfl rfl rfl rfl) rfl rfl rfl ?_
              refine simL_nil ?_
              exact nrm_cut (s := decide (((x0.getD (IntKind.i64.wrap (x1 + s3v)).toNat 0).toNat : Int) = (0 : Int))) () ⟨rfl, rfl, rfl, rfl, trivial⟩ (.sel 0 rfl (.nil _))
            · rw [hb35v]
              refine simL_skipd rfl rfl rfl rfl rfl rfl ?_
              refine simL_skipd rfl rfl rfl rfl rfl rfl ?_
              refine simL_skipd rfl rfl rfl rfl rfl rfl ?_
              refine simL_skipd rfl rfl rfl rfl rfl rfl ?_
              refine simL_skipd rfl rfl rfl rfl rfl rfl ?_
              refine simL_skipd rfl rfl rfl rfl rfl rfl ?_
              refine simL_skipd rfl rfl rfl rfl rfl rfl ?_
              refine simL_val (q_pick rfl rfl rfl rfl rfl) rfl rfl rfl ?_
              refine simL_nil ?_
              exact nrm_cut (s := false) () ⟨rfl, rfl, rfl, rfl, trivial⟩ (.sel 0 rfl (.nil _))
          · intro s28v y29v
            refine simL_nil ?_
            refine nrm_then ?_
            refine sim_condb rfl (fun h36v => ?_) (fun h37v => ?_)
            · refine sim_seq ?_
              refine sim_region ?_
              refine simL_val (q_asg rfl rfl) rfl rfl rfl ?_
              refine simL_val (q_asg rfl rfl) rfl rfl rfl ?_
              refine simL_val (q_asg rfl rfl) rfl rfl rfl ?_
              refine simL_nil ?_
              refine nrm_then ?_
              refine sim_rtn ?_
              refine rtn_then ?_
              exact rtn_fn () rfl rfl rfl (.sel 0 rfl (.nil _))
            · refine sim_skip ?_
              refine nrm_then ?_
              refine sim_seq ?_
              refine sim_region ?_
              refine simL_val (q_asg rfl rfl) rfl rfl rfl ?_
              refine simL_nil ?_
              refine nrm_then ?_
              refine sim_cut (S := Int) (Unit) (fun s y => [(7, .int .i64 s3v), (8, .int .i64 s)]) (fun s y => [F]) ?_ ?_
              · refine sim_seq ?_
                refine sim_region ?_
                refine simL_val (q_move rfl rfl) rfl rfl rfl ?_
                refine simL_val (q_asg rfl rfl) rfl rfl rfl ?_
                refine simL_nil ?_
                refine nrm_then ?_
                refine sim_block ?_
                refine sim_loop (S := Int × Int) (Unit) (fun k s => synodref1_Int.l1 x0 x1 k s.1 s.2) (fun s y => [(0, .slice a0 x0.length c0), (1, .int .i64 x1), (7, .int .i64 s3v), (8, .int .i64 s.1), (9, .int .i64 s.2)]) (fun s y => [F]) (fun _ => by rw [synodref1_Int.l1]) ?_ k (0, s3v) () ⟨rfl, rfl, rfl, rfl, rfl, trivial⟩ (.sel 0 rfl (.nil _))
                intro k s40v y41v
                refine sim_eq (by rw [synodref1_Int.l1]) ?_
                refine sim_seq ?_
                refine sim_seq ?_
                refine sim_region ?_
                refine simL_val (q_move rfl rfl) rfl rfl rfl ?_
                refine simL_val (q_geq rfl rfl rfl) rfl rfl rfl ?_
                refine simL_nil ?_
                refine nrm_then ?_
                refine sim_cond rfl (fun h44v => ?_) (fun h45v => ?_)
                · refine sim_skip ?_
                  refine nrm_then ?_
                  refine sim_seq ?_
                  refine sim_block ?_
                  refine sim_region ?_
                  refine simL_val (q_move rfl rfl) rfl rfl rfl ?_
                  refine simL_val (q_mul rfl rfl rfl) rfl rfl rfl ?_
                  refine simL_val (q_move rfl rfl) rfl rfl rfl ?_
                  refine simL_val (q_move rfl rfl) rfl rfl rfl ?_
                  refine simL_val (q_move rfl rfl) rfl rfl rfl ?_
                  refine simL_val (q_add rfl rfl rfl) rfl rfl rfl ?_
                  refine simL_ask (fun hi46v => ?_)
                  obtain ⟨b47v, b47vo, ha48v⟩ := h0.pos (encB_ne (j := (IntKind.i64.wrap (x1 + s40v.2)).toNat) (by omega))
                  refine simL_val (q_idx1 rfl rfl rfl ha48v Try.underlying23 Try.sizeOf5 hi46v.1 hi46v.2) rfl rfl rfl ?_
                  refine simL_val (q_load rfl rfl Try.isAgg5 (h0.cell 0 rfl ha48v (encB_get (by omega)))) rfl rfl rfl ?_
                  refine simL_val (q_conv rfl rfl Try.underlying5 Try.underlying3) rfl rfl rfl ?_
                  refine simL_val (q_rem rfl rfl rfl (by decide)) rfl rfl rfl ?_
                  refine simL_val (q_add rfl rfl rfl) rfl rfl rfl ?_
                  refine simL_val (q_asg rfl rfl) rfl rfl rfl ?_
                  refine simL_nil ?_
                  refine nrm_block ?_
                  refine nrm_then ?_
                  refine sim_region ?_
                  refine simL_val (q_move rfl rfl) rfl rfl rfl ?_
                  refine simL_val (q_sub rfl rfl rfl) rfl rfl rfl ?_
                  refine simL_val (q_asg rfl rfl) rfl rfl rfl ?_
                  refine simL_nil ?_
                  exact nrm_again (s := (IntKind.i64.wrap ((IntKind.i64.wrap (s40v.1 * 128)) + (Int.tmod (IntKind.i64.wrap ((x0.getD (IntKind.i64.wrap (x1 + s40v.2)).toNat 0).toNat : Int)) 128)), IntKind.i64.wrap (s40v.2 - 1))) () ⟨rfl, rfl, rfl, rfl, rfl, trivial⟩ (.sel 0 rfl (.nil _))
                · refine sim_exi ?_
                  refine exi_then ?_
                  refine exi_loop ?_
                  refine exi_here ?_
                  exact nrm_cut (s := s40v.1) () ⟨rfl, rfl, trivial⟩ (.sel 0 rfl (.nil _))
              · intro s38v y39v
                refine sim_seq ?_
                refine sim_seq ?_
                refine sim_region ?_
                refine simL_val (q_move rfl rfl) rfl rfl rfl ?_
                refine simL_val (q_gtr rfl rfl rfl) rfl rfl rfl ?_
                refine simL_nil ?_
                refine nrm_then ?_
                refine sim_cond rfl (fun h51v => ?_) (fun h52v => ?_)
                · refine sim_seq ?_
                  refine sim_region ?_
                  refine simL_val (q_asg rfl rfl) rfl rfl rfl ?_
                  refine simL_val (q_asg rfl rfl) rfl rfl rfl ?_
                  refine simL_val (q_asg rfl rfl) rfl rfl rfl ?_
                  refine simL_nil ?_
                  refine nrm_then ?_
                  refine sim_rtn ?_
                  refine rtn_then ?_
                  exact rtn_fn () rfl rfl rfl (.sel 0 rfl (.nil _))
                · refine sim_skip ?_
                  refine nrm_then ?_
                  refine sim_seq ?_
                  refine sim_region ?_
                  refine simL_val (q_move rfl rfl) rfl rfl rfl ?_
                  refine simL_val (q_move rfl rfl) rfl rfl rfl ?_
                  refine simL_val (q_add rfl rfl rfl) rfl rfl rfl ?_
                  refine simL_val (q_asg rfl rfl) rfl rfl rfl ?_
                  refine simL_val (q_asg rfl rfl) rfl rfl rfl ?_
                  refine simL_val (q_asg rfl rfl) rfl rfl rfl ?_
                  refine simL_nil ?_
                  refine nrm_then ?_
                  refine sim_rtn ?_
                  exact rtn_fn () rfl rfl rfl (.sel 0 rfl (.nil _))

def synodref_Kept.f (k : Nat) (x0 : List UInt8) (z0 : List UInt8) (x1 : List UInt8) : Option (Bool) := (synodref_SameBytes.f k x0 x1).bind fun s1v => ((if (s1v && (decide ((x0.length : Int) = (x1.length : Int)))) = true then (if 0 ≤ (0 : Int) ∧ (0 : Int) ≤ IntKind.i64.wrap ((x1.length : Int) + 1) ∧ IntKind.i64.wrap ((x1.length : Int) + 1) ≤ ((x0 ++ z0).length : Int) then (if 0 ≤ (x1.length : Int) ∧ (x1.length : Int) < ((cut (x0 ++ z0) (0 : Int) (IntKind.i64.wrap ((x1.length : Int) + 1))).length : Int) then (some (decide ((((cut (x0 ++ z0) (0 : Int) (IntKind.i64.wrap ((x1.length : Int) + 1))).getD (x1.length : Int).toNat 0).toNat : Int) = (201 : Int)))) else none) else none) else (some false)).bind fun s4v => (some s4v))
theorem synodref_Kept.calls (W : World) (F : HA) (k : Nat) (a0 : Option Addr) (c0 : Nat) (x0 z0 : List UInt8) (a1 : Option Addr) (c1 : Nat) (x1 : List UInt8) (h0 : Rd F a0 (encB (x0 ++ z0))) (hc0 : (x0 ++ z0).length ≤ c0) (hm0 : c0 ≤ maxLen) (h1 : Rd F a1 (encB x1)) (hc1 : x1.length ≤ c1) (hm1 : c1 ≤ maxLen) :
    Fn Try.prog W 20 [.slice a0 x0.length c0, .slice a1 x1.length c1] [] F (synodref_Kept.f k x0 z0 x1) (fun (r : Bool) (y : Unit) => .bool r) (fun r y => []) := by
  unfold synodref_Kept.f
  refine fn_intro 29 Try.func20 rfl Try.ntmps20 rfl ?_
  refine sim_seq ?_
  refine sim_region ?_
  refine simL_val (q_asg rfl rfl) rfl rfl rfl ?_
  refine simL_nil ?_
  refine nrm_then ?_
  refine sim_seq ?_
  refine sim_region ?_
  refine simL_val (q_move rfl rfl) rfl rfl rfl ?_
  refine simL_val (q_move rfl rfl) rfl rfl rfl ?_
  refine simL_bind (fun s1v hs3v => ?_)
  refine simL_eff (re_call (vs := [.slice a0 x0.length c0, .slice a1 x1.length c1]) (cap := []) (A := []) (rst := [F]) rfl rfl rfl rfl rfl rfl Try.call13 (.sel 0 rfl (.nil _)) (synodref_SameBytes.calls _ _ k a0 c0 x0 a1 c1 x1 ((rd_front h0).lend 0 rfl) (front_len hc0) hm0 (h1.lend 0 rfl) hc1 hm1) hs3v) rfl rfl rfl ?_
  intro y2v
  refine simL_val (q_asg rfl rfl) rfl rfl rfl ?_
  refine simL_nil ?_
  refine nrm_then ?_
  refine sim_seq ?_
  refine sim_region ?_
  refine simL_val (q_move rfl rfl) rfl rfl rfl ?_
  refine simL_val (q_move rfl rfl) rfl rfl rfl ?_
  refine simL_valc (b := s1v) (fun hb23v => RQ.sub (E' := [(0, .slice a0 x0.length c0)]) ⟨rfl, trivial⟩ (q_move rfl rfl)) rfl rfl rfl rfl rfl ?_
  refine simL_valc (b := s1v) (fun hb22v => RQ.sub (E' := [(11, .slice a0 x0.length c0)]) ⟨lk_cv rfl hb22v, trivial⟩ (q_len rfl rfl rfl Try.underlying23)) rfl rfl rfl rfl rfl ?_
  refine simL_valc (b := s1v) (fun hb21v => RQ.sub (E' := [(1, .slice a1 x1.length c1)]) ⟨rfl, trivial⟩ (q_move rfl rfl)) rfl rfl rfl rfl rfl ?_
  refine simL_valc (b := s1v) (fun hb20v => RQ.sub (E' := [(13, .slice a1 x1.length c1)]) ⟨lk_cv rfl hb20v, trivial⟩ (q_len rfl rfl rfl Try.underlying23)) rfl rfl rfl rfl rfl ?_
  refine simL_valc (b := s1v) (fun hb19v => RQ.sub (E' := [(12, .int .i64 (x0.length : Int)), (14, .int .i64 (x1.length : Int))]) ⟨lk_cv rfl hb19v, lk_cv rfl hb19v, trivial⟩ (q_eql rfl rfl rfl)) rfl rfl rfl rfl rfl ?_
  refine simL_val (q_and rfl rfl rfl) rfl rfl rfl ?_
  refine simL_val (q_move rfl rfl) rfl rfl rfl ?_
  refine simL_cut' 11 (S := Bool) (Unit) (fun s y => [(28, .bool s)]) (fun s y => [F]) ?_ ?_
  · refine simL_caseb (fun hb17v => ?_) (fun hb18v => ?_)
    · rw [hb17v]
      refine simL_valg (q_move rfl rfl) rfl rfl rfl rfl rfl rfl ?_
      refine simL_valg (q_move rfl rfl) rfl rfl rfl rfl rfl rfl ?_
      refine simL_valg (q_len rfl rfl rfl Try.underlying23) rfl rfl rfl rfl rfl rfl ?_
      refine simL_valg (q_add rfl rfl rfl) rfl rfl rfl rfl rfl rfl ?_
      refine simL_ask (fun hb6v => ?_)
      obtain ⟨a7v, c8v, hS9v, hr10v, hc11v, hm12v⟩ := slice_pre (lo := (0 : Int)) (hi := IntKind.i64.wrap ((x1.length : Int) + 1)) h0 hc0 hb6v
      refine simL_valg (q_sub_ro (l := (x0 ++ z0)) (lo' := (0 : Int)) (hi' := IntKind.i64.wrap ((x1.length : Int) + 1)) rfl rfl rfl rfl Try.underlying23 Try.sizeOf5 (.inr ⟨_, rfl⟩) (.inl ⟨rfl, rfl⟩) hb6v hc0 hS9v) rfl rfl rfl rfl rfl rfl ?_
      refine simL_valg (q_move rfl rfl) rfl rfl rfl rfl rfl rfl ?_
      refine simL_valg (q_len rfl rfl rfl Try.underlying23) rfl rfl rfl rfl rfl rfl ?_
      refine simL_ask (fun hi13v => ?_)
      obtain ⟨b14v, b14vo, ha15v⟩ := hr10v.pos (encB_ne (j := (x1.length : Int).toNat) (by omega))
      refine simL_valg (q_idx1 rfl rfl rfl ha15v Try.underlying23 Try.sizeOf5 hi13v.1 hi13v.2) rfl rfl rfl rfl rfl rfl ?_
      refine simL_valg (q_load rfl rfl Try.isAgg5 (hr10v.cell 0 rfl ha15v (encB_get (by omega)))) rfl rfl rfl rfl rfl rfl ?_
      refine simL_valg (q_eql rfl rfl rfl) rfl rfl rfl rfl rfl rfl ?_
      refine simL_val (q_pick rfl rfl rfl rfl rfl) rfl rfl rfl ?_
      refine simL_nil ?_
      exact nrm_cut (s := decide ((((cut (x0 ++ z0) (0 : Int) (IntKind.i64.wrap ((x1.length : Int) + 1))).getD (x1.length : Int).toNat 0).toNat : Int) = (201 : Int))) () ⟨rfl, trivial⟩ (.sel 0 rfl (.nil _))
    · rw [hb18v]
      refine simL_skipd rfl rfl rfl rfl rfl rfl ?_
      refine simL_skipd rfl rfl rfl rfl rfl rfl ?_
      refine simL_skipd rfl rfl rfl rfl rfl rfl ?_
      refine simL_skipd rfl rfl rfl rfl rfl rfl ?_
      refine simL_skipd rfl rfl rfl rfl rfl rfl ?_
      refine simL_skipd rfl rfl rfl rfl rfl rfl ?_
      refine simL_skipd rfl rfl rfl rfl rfl rfl ?_
      refine simL_skipd rfl rfl rfl rfl rfl rfl ?_
      refine simL_skipd rfl rfl rfl rfl rfl rfl ?_
      refine simL_skipd rfl rfl rfl rfl rfl rfl ?_
      refine simL_val (q_pick rfl rfl rfl rfl rfl) rfl rfl rfl ?_
      refine simL_nil ?_
      exact nrm_cut (s := false) () ⟨rfl, trivial⟩ (.sel 0 rfl (.nil _))
  · intro s4v y5v
    refine simL_val (q_asg rfl rfl) rfl rfl rfl ?_
    refine simL_nil ?_
    refine nrm_then ?_
    refine sim_rtn ?_
    exact rtn_fn () rfl rfl rfl (.sel 0 rfl (.nil _))

def synodlaw1_WireReads.f (k : Nat) (x0 : List UInt8) (x1 : Int) : Option (Bool) := (synodlaw1_first.f k).bind fun s1v => (if ((!s1v) || (decide ((20000 : Int) < (x0.length : Int)))) = true then (some s1v) else ((synodref_Lent.f x0).bind fun s6v => ((wire_Int.f k s6v.1 x1).bind fun s13v => ((synodref1_Int.f k x0 x1).bind fun s16v => ((synodref_Kept.f k s6v.1 s6v.2 x0).bind fun s23v => ((if ((decide (s13v.1 = s16v.1)) && (decide (s13v.2.1 = s16v.2.1))) = true then ((synodref_Num.f s13v.2.2).bind fun s28v => (some (decide (s28v = s16v.2.2)))) else (some false)).bind fun s26v => (some (s26v && s23v))))))))
theorem synodlaw1_WireReads.calls (W : World) (F : HA) (k : Nat) (a0 : Option Addr) (c0 : Nat) (x0 : List UInt8) (x1 : Int) (h0 : Rd F a0 (encB x0)) (hc0 : x0.length ≤ c0) (hm0 : c0 ≤ maxLen) :
    Fn Try.prog W 4 [.slice a0 x0.length c0, .int .i64 x1] [] F (synodlaw1_WireReads.f k x0 x1) (fun (r : Bool) (y : Unit) => .bool r) (fun r y => []) := by
  unfold synodlaw1_WireReads.f
  refine fn_intro 59 Try.func4 rfl Try.ntmps4 rfl ?_
  refine sim_seq ?_
  refine sim_region ?_
  refine simL_val (q_asg rfl rfl) rfl rfl rfl ?_
  refine simL_nil ?_
  refine nrm_then ?_
  refine sim_seq ?_
  refine sim_region ?_
  refine simL_bind (fun s1v hs3v => ?_)
  refine simL_eff (re_call (vs := []) (cap := []) (A := []) (rst := [F]) rfl rfl rfl rfl rfl rfl Try.call10 (.sel 0 rfl (.nil _)) (synodlaw1_first.calls _ _ k  ) hs3v) rfl rfl rfl ?_
  intro y2v
  refine simL_val (q_asg rfl rfl) rfl rfl rfl ?_
  refine simL_nil ?_
  refine nrm_then ?_
  refine sim_seq ?_
  refine sim_seq ?_
  refine sim_region ?_
  refine simL_val (q_move rfl rfl) rfl rfl rfl ?_
  refine simL_val (q_not rfl rfl) rfl rfl rfl ?_
  refine simL_val (q_move rfl rfl) rfl rfl rfl ?_
  refine simL_valc (b := !s1v) (fun hb39v => RQ.sub (E' := [(0, .slice a0 x0.length c0)]) ⟨rfl, trivial⟩ (q_move rfl rfl)) rfl rfl rfl rfl rfl ?_
  refine simL_valc (b := !s1v) (fun hb38v => RQ.sub (E' := [(18, .slice a0 x0.length c0)]) ⟨lk_cv rfl hb38v, trivial⟩ (q_len rfl rfl rfl Try.underlying23)) rfl rfl rfl rfl rfl ?_
  refine simL_valc (b := !s1v) (fun hb37v => RQ.sub (E' := [(19, .int .i64 (x0.length : Int))]) ⟨lk_cv rfl hb37v, trivial⟩ (q_gtr rfl rfl rfl)) rfl rfl rfl rfl rfl ?_
  refine simL_val (q_or rfl rfl rfl) rfl rfl rfl ?_
  refine simL_nil ?_
  refine nrm_then ?_
  refine sim_condb rfl (fun h4v => ?_) (fun h5v => ?_)
  · refine sim_seq ?_
    refine sim_region ?_
    refine simL_val (q_move rfl rfl) rfl rfl rfl ?_
    refine simL_val (q_asg rfl rfl) rfl rfl rfl ?_
    refine simL_nil ?_
    refine nrm_then ?_
    refine sim_rtn ?_
    refine rtn_then ?_
    exact rtn_fn () rfl rfl rfl (.sel 0 rfl (.nil _))
  · refine sim_skip ?_
    refine nrm_then ?_
    refine sim_seq ?_
    refine sim_region ?_
    refine simL_val (q_move rfl rfl) rfl rfl rfl ?_
    refine simL_bind (fun s6v hs8v => ?_)
    refine simL_eff (re_call (vs := [.slice a0 x0.length c0]) (cap := []) (A := []) (rst := [F]) rfl rfl rfl rfl rfl rfl Try.call17 (.sel 0 rfl (.nil _)) (synodref_Lent.calls _ _ a0 c0 x0 (h0.lend 0 rfl) hc0 hm0) hs8v) rfl rfl rfl ?_
    intro y7v
    refine simL_val (q_asg rfl rfl) rfl rfl rfl ?_
    refine simL_nil ?_
    refine nrm_then ?_
    refine sim_seq ?_
    refine sim_region ?_
    refine simL_val (q_move rfl rfl) rfl rfl rfl ?_
    refine simL_val (q_move rfl rfl) rfl rfl rfl ?_
    refine simL_bind (fun s13v hs15v => ?_)
    refine simL_lend 0 rfl (fun hq9v hq10v hq11v hq12v => ?_)
    refine simL_eff (re_call (vs := [.slice y7v.1 s6v.1.length y7v.2, .int .i64 x1]) (cap := []) (A := []) (rst := [Row 5 1 y7v.1 s6v.1.length y7v.2 (encB (s6v.1 ++ s6v.2)), F]) rfl rfl rfl rfl rfl rfl Try.call18 (.sel 0 rfl (.sel 0 rfl (.nil _))) (wire_Int.calls _ _ k y7v.1 y7v.2 s6v.1 x1 ((rd_front hq9v).lend 0 rfl) hq10v hq11v) hs15v) rfl rfl rfl ?_
    intro y14v
    refine simL_val (q_move rfl rfl) rfl rfl rfl ?_
    refine simL_val (q_ext rfl rfl rfl) rfl rfl rfl ?_
    refine simL_val (q_ext rfl rfl rfl) rfl rfl rfl ?_
    refine simL_val (q_ext rfl rfl rfl) rfl rfl rfl ?_
    refine simL_val (q_asg rfl rfl) rfl rfl rfl ?_
    refine simL_val (q_asg rfl rfl) rfl rfl rfl ?_
    refine simL_val (q_asg rfl rfl) rfl rfl rfl ?_
    refine simL_nil ?_
    refine nrm_then ?_
    refine sim_seq ?_
    refine sim_region ?_
    refine simL_val (q_move rfl rfl) rfl rfl rfl ?_
    refine simL_val (q_move rfl rfl) rfl rfl rfl ?_
    refine simL_bind (fun s16v hs18v => ?_)
    refine simL_eff (re_call (vs := [.slice a0 x0.length c0, .int .i64 x1]) (cap := []) (A := []) (rst := [Row 5 1 y7v.1 s6v.1.length y7v.2 (encB (s6v.1 ++ s6v.2)), F]) rfl rfl rfl rfl rfl rfl Try.call19 (.sel 0 rfl (.sel 0 rfl (.nil _))) (synodref1_Int.calls _ _ k a0 c0 x0 x1 (h0.lend 1 rfl) hc0 hm0) hs18v) rfl rfl rfl ?_
    intro y17v
    refine simL_val (q_move rfl rfl) rfl rfl rfl ?_
    refine simL_val (q_ext rfl rfl rfl) rfl rfl rfl ?_
    refine simL_val (q_ext rfl rfl rfl) rfl rfl rfl ?_
    refine simL_val (q_ext rfl rfl rfl) rfl rfl rfl ?_
    refine simL_val (q_asg rfl rfl) rfl rfl rfl ?_
    refine simL_val (q_asg rfl rfl) rfl rfl rfl ?_
    refine simL_val (q_asg rfl rfl) rfl rfl rfl ?_
    refine simL_nil ?_
    refine nrm_then ?_
    refine sim_seq ?_
    refine sim_region ?_
    refine simL_val (q_move rfl rfl) rfl rfl rfl ?_
    refine simL_val (q_move rfl rfl) rfl rfl rfl ?_
    refine simL_bind (fun s23v hs25v => ?_)
    refine simL_lendt 0 rfl (fun hq19v hq20v hq21v => ?_)
    refine simL_eff (re_call (vs := [.slice y7v.1 s6v.1.length y7v.2, .slice a0 x0.length c0]) (cap := []) (A := []) (rst := [Row 5 1 y7v.1 s6v.1.length y7v.2 (encB (s6v.1 ++ s6v.2)), F]) rfl rfl rfl rfl rfl rfl Try.call20 (.sel 0 rfl (.sel 0 rfl (.nil _))) (synodref_Kept.calls _ _ k y7v.1 y7v.2 s6v.1 s6v.2 a0 c0 x0 (hq19v.lend 0 rfl) (by rw [encB_length, Nat.mul_one] at hq20v; exact hq20v) hq21v (h0.lend 1 rfl) hc0 hm0) hs25v) rfl rfl rfl ?_
    intro y24v
    refine simL_val (q_asg rfl rfl) rfl rfl rfl ?_
    refine simL_nil ?_
    refine nrm_then ?_
    refine sim_seq ?_
    refine sim_region ?_
    refine simL_val (q_move rfl rfl) rfl rfl rfl ?_
    refine simL_val (q_move rfl rfl) rfl rfl rfl ?_
    refine simL_val (q_eql rfl rfl rfl) rfl rfl rfl ?_
    refine simL_val (q_move rfl rfl) rfl rfl rfl ?_
    refine simL_valc (b := decide (s13v.1 = s16v.1)) (fun hb36v => RQ.sub (E' := [(8, .int .i64 s13v.2.1)]) ⟨rfl, trivial⟩ (q_move rfl rfl)) rfl rfl rfl rfl rfl ?_
    refine simL_valc (b := decide (s13v.1 = s16v.1)) (fun hb35v => RQ.sub (E' := [(11, .int .i64 s16v.2.1)]) ⟨rfl, trivial⟩ (q_move rfl rfl)) rfl rfl rfl rfl rfl ?_
    refine simL_valc (b := decide (s13v.1 = s16v.1)) (fun hb34v => RQ.sub (E' := [(46, .int .i64 s13v.2.1), (47, .int .i64 s16v.2.1)]) ⟨lk_cv rfl hb34v, lk_cv rfl hb34v, trivial⟩ (q_eql rfl rfl rfl)) rfl rfl rfl rfl rfl ?_
    refine simL_val (q_and rfl rfl rfl) rfl rfl rfl ?_
    refine simL_val (q_move rfl rfl) rfl rfl rfl ?_
    refine simL_cut' 5 (S := Bool) (Unit) (fun s y => [(13, .bool s23v), (55, .bool s)]) (fun s y => [F]) ?_ ?_
    · refine simL_caseb (fun hb31v => ?_) (fun hb32v => ?_)
      · rw [hb31v]
        refine simL_valg (q_move rfl rfl) rfl rfl rfl rfl rfl rfl ?_
        refine simL_bind (fun s28v hs30v => ?_)
        refine simL_effg (re_call (vs := [.int .i64 s13v.2.2]) (cap := []) (A := []) (rst := [Row 5 1 y7v.1 s6v.1.length y7v.2 (encB (s6v.1 ++ s6v.2)), F]) rfl rfl rfl rfl rfl rfl Try.call14 (.sel 0 rfl (.sel 0 rfl (.nil _))) (synodref_Num.calls _ _ s13v.2.2 ) hs30v) rfl rfl rfl rfl rfl rfl ?_
        intro y29v
        refine simL_valg (q_move rfl rfl) rfl rfl rfl rfl rfl rfl ?_
        refine simL_valg (q_eql rfl rfl rfl) rfl rfl rfl rfl rfl rfl ?_
        refine simL_val (q_pick rfl rfl rfl rfl rfl) rfl rfl rfl ?_
        refine simL_nil ?_
        exact nrm_cut (s := decide (s28v = s16v.2.2)) () ⟨rfl, rfl, trivial⟩ (.sel 1 rfl (.nil _))
      · rw [hb32v]
        refine simL_skipd rfl rfl rfl rfl rfl rfl ?_
        refine simL_skipd rfl rfl rfl rfl rfl rfl ?_
        refine simL_skipd rfl rfl rfl rfl rfl rfl ?_
        refine simL_skipd rfl rfl rfl rfl rfl rfl ?_
        refine simL_val (q_pick rfl rfl rfl rfl rfl) rfl rfl rfl ?_
        refine simL_nil ?_
        exact nrm_cut (s := false) () ⟨rfl, rfl, trivial⟩ (.sel 1 rfl (.nil _))
    · intro s26v y27v
      refine simL_val (q_move rfl rfl) rfl rfl rfl ?_
      refine simL_valc (b := s26v) (fun hb33v => RQ.sub (E' := [(13, .bool s23v)]) ⟨rfl, trivial⟩ (q_move rfl rfl)) rfl rfl rfl rfl rfl ?_
      refine simL_val (q_and rfl rfl rfl) rfl rfl rfl ?_
      refine simL_val (q_asg rfl rfl) rfl rfl rfl ?_
      refine simL_nil ?_
      refine nrm_then ?_
      refine sim_rtn ?_
      exact rtn_fn () rfl rfl rfl (.sel 0 rfl (.nil _))

def synodlaw1_WireOneForm.f (k : Nat) (x0 : Int) (x1 : Int) (x2 : List UInt8) : Option (Bool) := (synodlaw1_first.f k).bind fun s1v => (if ((!s1v) || (decide ((20000 : Int) < (x2.length : Int)))) = true then (some s1v) else ((wire_PutInt.f k x0).bind fun s6v => ((wire_PutInt.f k x1).bind fun s9v => ((synodref_Num.f s6v.2).bind fun s12v => ((if s12v = (0 : Int) then ((synodref_Num.f s9v.2).bind fun s17v => (some (!decide (s17v = (0 : Int))))) else (some true)).bind fun s15v => (if s15v = true then ((synodref_Num.f s6v.2).bind fun s24v => (some ((decide (s24v = (0 : Int))) == ((decide ((0 : Int) ≤ x0)) && (decide (x0 ≤ (4611686018427387904 : Int))))))) else ((synodref_Bytes.f s6v.1).bind fun s33v => (if (s33v.length + x2.length) * 1 ≤ 140737488355328 then ((wire_Int.f k (s33v ++ x2) (0 : Int)).bind fun s42v => ((if ((decide (s42v.1 = x0)) && (decide (s42v.2.1 = (s6v.1.length : Int)))) = true then ((synodref_Num.f s42v.2.2).bind fun s47v => (some (decide (s47v = (0 : Int))))) else (some false)).bind fun s45v => ((if s45v = true then ((wire_Size.f k x0).bind fun s54v => (some (decide (s54v = (s6v.1.length : Int))))) else (some false)).bind fun s52v => ((if (s6v.1.length : Int) ≤ (s9v.1.length : Int) then (if 0 ≤ (0 : Int) ∧ (0 : Int) ≤ min (s6v.1.length : Int) (s9v.1.length : Int) ∧ min (s6v.1.length : Int) (s9v.1.length : Int) ≤ (s9v.1.length : Int) then ((synodref_SameBytes.f k s6v.1 (cut s9v.1 (0 : Int) (min (s6v.1.length : Int) (s9v.1.length : Int)))).bind fun s76v => (some s76v)) else none) else (some false)).bind fun s59v => ((if (s52v && (s59v == (decide (x0 = x1)))) = true then (some ((decide (x1 < x0)) || (decide ((s6v.1.length : Int) ≤ (s9v.1.length : Int))))) else (some false)).bind fun s81v => (some s81v)))))) else none))))))))
theorem synodlaw1_WireOneForm.calls (W : World) (F : HA) (k : Nat) (x0 : Int) (x1 : Int) (a2 : Option Addr) (c2 : Nat) (x2 : List UInt8) (h2 : Rd F a2 (encB x2)) (hc2 : x2.length ≤ c2) (hm2 : c2 ≤ maxLen) :
    Fn Try.prog W 5 [.int .i64 x0, .int .i64 x1, .slice a2 x2.length c2] [] F (synodlaw1_WireOneForm.f k x0 x1 x2) (fun (r : Bool) (y : Unit) => .bool r) (fun r y => []) := by
  unfold synodlaw1_WireOneForm.f
  refine fn_intro 120 Try.func5 rfl Try.ntmps5 rfl ?_
  refine sim_seq ?_
  refine sim_region ?_
  refine simL_val (q_asg rfl rfl) rfl rfl rfl ?_
  refine simL_nil ?_
  refine nrm_then ?_
  refine sim_seq ?_
  refine sim_region ?_
  refine simL_bind (fun s1v hs3v => ?_)
  refine simL_eff (re_call (vs := []) (cap := []) (A := []) (rst := [F]) rfl rfl rfl rfl rfl rfl Try.call10 (.sel 0 rfl (.nil _)) (synodlaw1_first.calls _ _ k  ) hs3v) rfl rfl rfl ?_
  intro y2v
  refine simL_val (q_asg rfl rfl) rfl rfl rfl ?_
  refine simL_nil ?_
  refine nrm_then ?_
  refine sim_seq ?_
  refine sim_seq ?_
  refine sim_region ?_
  refine simL_val (q_move rfl rfl) rfl rfl rfl ?_
  refine simL_val (q_not rfl rfl) rfl rfl rfl ?_
  refine simL_val (q_move rfl rfl) rfl rfl rfl ?_
  refine simL_valc (b := !s1v) (fun hb101v => RQ.sub (E' := [(2, .slice a2 x2.length c2)]) ⟨rfl, trivial⟩ (q_move rfl rfl)) rfl rfl rfl rfl rfl ?_
  refine simL_valc (b := !s1v) (fun hb100v => RQ.sub (E' := [(21, .slice a2 x2.length c2)]) ⟨lk_cv rfl hb100v, trivial⟩ (q_len rfl rfl rfl Try.underlying23)) rfl rfl rfl rfl rfl ?_
  refine simL_valc (b := !s1v) (fun hb99v => RQ.sub (E' := [(22, .int .i64 (x2.length : Int))]) ⟨lk_cv rfl hb99v, trivial⟩ (q_gtr rfl rfl rfl)) rfl rfl rfl rfl rfl ?_
  refine simL_val (q_or rfl rfl rfl) rfl rfl rfl ?_
  refine simL_nil ?_
  refine nrm_then ?_
  refine sim_condb rfl (fun h4v => ?_) (fun h5v => ?_)
  · refine sim_seq ?_
    refine sim_region ?_
    refine simL_val (q_move rfl rfl) rfl rfl rfl ?_
    refine simL_val (q_asg rfl rfl) rfl rfl rfl ?_
    refine simL_nil ?_
    refine nrm_then ?_
    refine sim_rtn ?_
    refine rtn_then ?_
    exact rtn_fn () rfl rfl rfl (.sel 0 rfl (.nil _))
  · refine sim_skip ?_
    refine nrm_then ?_
    refine sim_seq ?_
    refine sim_region ?_
    refine simL_val (q_move rfl rfl) rfl rfl rfl ?_
    refine simL_bind (fun s6v hs8v => ?_)
    refine simL_eff (re_call (vs := [.int .i64 x0]) (cap := []) (A := []) (rst := [F]) rfl rfl rfl rfl rfl rfl Try.call11 (.sel 0 rfl (.nil _)) (wire_PutInt.calls _ _ k x0 ) hs8v) rfl rfl rfl ?_
    intro y7v
    refine simL_val (q_move rfl rfl) rfl rfl rfl ?_
    refine simL_val (q_ext rfl rfl rfl) rfl rfl rfl ?_
    refine simL_val (q_ext rfl rfl rfl) rfl rfl rfl ?_
    refine simL_val (q_asg rfl rfl) rfl rfl rfl ?_
    refine simL_val (q_asg rfl rfl) rfl rfl rfl ?_
    refine simL_nil ?_
    refine nrm_then ?_
    refine sim_seq ?_
    refine sim_region ?_
    refine simL_val (q_move rfl rfl) rfl rfl rfl ?_
    refine simL_bind (fun s9v hs11v => ?_)
    refine simL_eff (re_call (vs := [.int .i64 x1]) (cap := []) (A := []) (rst := [Row 5 1 y7v.1 s6v.1.length y7v.2 (encB s6v.1), F]) rfl rfl rfl rfl rfl rfl Try.call11 (.sel 0 rfl (.sel 0 rfl (.nil _))) (wire_PutInt.calls _ _ k x1 ) hs11v) rfl rfl rfl ?_
    intro y10v
    refine simL_val (q_move rfl rfl) rfl rfl rfl ?_
    refine simL_val (q_ext rfl rfl rfl) rfl rfl rfl ?_
    refine simL_val (q_ext rfl rfl rfl) rfl rfl rfl ?_
    refine simL_val (q_asg rfl rfl) rfl rfl rfl ?_
    refine simL_val (q_asg rfl rfl) rfl rfl rfl ?_
    refine simL_nil ?_
    refine nrm_then ?_
    refine sim_seq ?_
    refine sim_seq ?_
    refine sim_region ?_
    refine simL_val (q_move rfl rfl) rfl rfl rfl ?_
    refine simL_bind (fun s12v hs14v => ?_)
    refine simL_eff (re_call (vs := [.int .i64 s6v.2]) (cap := []) (A := []) (rst := [Row 5 1 y10v.1 s9v.1.length y10v.2 (encB s9v.1), Row 5 1 y7v.1 s6v.1.length y7v.2 (encB s6v.1), F]) rfl rfl rfl rfl rfl rfl Try.call14 (.sel 0 rfl (.sel 0 rfl (.sel 0 rfl (.nil _)))) (synodref_Num.calls _ _ s6v.2 ) hs14v) rfl rfl rfl ?_
    intro y13v
    refine simL_val (q_neq rfl rfl rfl) rfl rfl rfl ?_
    refine simL_val (q_move rfl rfl) rfl rfl rfl ?_
    refine simL_cut' 4 (S := Bool) (Unit) (fun s y => [(0, .int .i64 x0), (1, .int .i64 x1), (2, .slice a2 x2.length c2), (8, .slice y7v.1 s6v.1.length y7v.2), (9, .int .i64 s6v.2), (10, .slice y10v.1 s9v.1.length y10v.2), (43, .bool s)]) (fun s y => [Row 5 1 y7v.1 s6v.1.length y7v.2 (encB s6v.1), Row 5 1 y10v.1 s9v.1.length y10v.2 (encB s9v.1), F]) ?_ ?_
    · refine simL_casen (fun hb20v => ?_) (fun hb21v => ?_)
      · rw [hb20v]
        refine simL_skipd rfl rfl rfl rfl rfl rfl ?_
        refine simL_skipd rfl rfl rfl rfl rfl rfl ?_
        refine simL_skipd rfl rfl rfl rfl rfl rfl ?_
        refine simL_val (q_pick rfl rfl rfl rfl rfl) rfl rfl rfl ?_
        refine simL_nil ?_
        exact nrm_cut (s := true) () ⟨rfl, rfl, rfl, rfl, rfl, rfl, rfl, trivial⟩ (.sel 1 rfl (.sel 0 rfl (.sel 0 rfl (.nil _))))
      · rw [hb21v]
        refine simL_valg (q_move rfl rfl) rfl rfl rfl rfl rfl rfl ?_
        refine simL_bind (fun s17v hs19v => ?_)
        refine simL_effg (re_call (vs := [.int .i64 s9v.2]) (cap := []) (A := []) (rst := [Row 5 1 y10v.1 s9v.1.length y10v.2 (encB s9v.1), Row 5 1 y7v.1 s6v.1.length y7v.2 (encB s6v.1), F]) rfl rfl rfl rfl rfl rfl Try.call14 (.sel 0 rfl (.sel 0 rfl (.sel 0 rfl (.nil _)))) (synodref_Num.calls _ _ s9v.2 ) hs19v) rfl rfl rfl rfl rfl rfl ?_
        intro y18v
        refine simL_valg (q_neq rfl rfl rfl) rfl rfl rfl rfl rfl rfl ?_
        refine simL_val (q_pick rfl rfl rfl rfl rfl) rfl rfl rfl ?_
        refine simL_nil ?_
        exact nrm_cut (s := !decide (s17v = (0 : Int))) () ⟨rfl, rfl, rfl, rfl, rfl, rfl, rfl, trivial⟩ (.sel 1 rfl (.sel 0 rfl (.sel 0 rfl (.nil _))))
    · intro s15v y16v
      refine simL_nil ?_
      refine nrm_then ?_
      refine sim_condb rfl (fun h22v => ?_) (fun h23v => ?_)
      · refine sim_seq ?_
        refine sim_region ?_
        refine simL_val (q_move rfl rfl) rfl rfl rfl ?_
        refine simL_bind (fun s24v hs26v => ?_)
        refine simL_eff (re_call (vs := [.int .i64 s6v.2]) (cap := []) (A := []) (rst := [Row 5 1 y7v.1 s6v.1.length y7v.2 (encB s6v.1), Row 5 1 y10v.1 s9v.1.length y10v.2 (encB s9v.1), F]) rfl rfl rfl rfl rfl rfl Try.call14 (.sel 0 rfl (.sel 0 rfl (.sel 0 rfl (.nil _)))) (synodref_Num.calls _ _ s6v.2 ) hs26v) rfl rfl rfl ?_
        intro y25v
        refine simL_val (q_eql rfl rfl rfl) rfl rfl rfl ?_
        refine simL_val (q_move rfl rfl) rfl rfl rfl ?_
        refine simL_val (q_geq rfl rfl rfl) rfl rfl rfl ?_
        refine simL_val (q_move rfl rfl) rfl rfl rfl ?_
        refine simL_valc (b := decide ((0 : Int) ≤ x0)) (fun hb28v => RQ.sub (E' := [(0, .int .i64 x0)]) ⟨rfl, trivial⟩ (q_move rfl rfl)) rfl rfl rfl rfl rfl ?_
        refine simL_valc (b := decide ((0 : Int) ≤ x0)) (fun hb27v => RQ.sub (E' := [(50, .int .i64 x0)]) ⟨lk_cv rfl hb27v, trivial⟩ (q_leq rfl rfl rfl)) rfl rfl rfl rfl rfl ?_
        refine simL_val (q_and rfl rfl rfl) rfl rfl rfl ?_
        refine simL_val (q_eqb rfl rfl rfl Try.underlying4) rfl rfl rfl ?_
        refine simL_val (q_asg rfl rfl) rfl rfl rfl ?_
        refine simL_nil ?_
        refine nrm_then ?_
        refine sim_rtn ?_
        refine rtn_then ?_
        exact rtn_fn () rfl rfl rfl (.sel 2 rfl (.nil _))
      · refine sim_skip ?_
        refine nrm_then ?_
        refine sim_seq ?_
        refine sim_region ?_
        refine simL_val (q_move rfl rfl) rfl rfl rfl ?_
        refine simL_bind (fun s33v hs35v => ?_)
        refine simL_lend 0 rfl (fun hq29v hq30v hq31v hq32v => ?_)
        refine simL_eff (re_call (vs := [.slice y7v.1 s6v.1.length y7v.2]) (cap := []) (A := []) (rst := [Row 5 1 y7v.1 s6v.1.length y7v.2 (encB s6v.1), Row 5 1 y10v.1 s9v.1.length y10v.2 (encB s9v.1), F]) rfl rfl rfl rfl rfl rfl Try.call21 (.sel 0 rfl (.sel 0 rfl (.sel 0 rfl (.nil _)))) (synodref_Bytes.calls _ _ y7v.1 y7v.2 s6v.1 (hq29v.lend 0 rfl) hq30v hq31v) hs35v) rfl rfl rfl ?_
        intro y34v
        refine simL_val (q_move rfl rfl) rfl rfl rfl ?_
        refine simL_ask (fun hb37v => ?_)
        refine simL_eff (re_appendb 0 rfl rfl rfl Try.underlying23 elt5 rfl (h2.rds 2 rfl) hb37v) rfl rfl rfl ?_
        intro y36v
        refine simL_bind (fun s42v hs44v => ?_)
        refine simL_lend 0 rfl (fun hq38v hq39v hq40v hq41v => ?_)
        refine simL_eff (re_call (vs := [.slice y36v.1 ((s33v ++ x2).length) y36v.2, .int .i64 0]) (cap := []) (A := []) (rst := [Row 5 1 y36v.1 (s33v ++ x2).length y36v.2 (encB (s33v ++ x2)), Row 5 1 y7v.1 s6v.1.length y7v.2 (encB s6v.1), Row 5 1 y10v.1 s9v.1.length y10v.2 (encB s9v.1), F]) rfl rfl rfl rfl rfl rfl Try.call18 (.sel 0 rfl (.sel 0 rfl (.sel 0 rfl (.sel 0 rfl (.nil _))))) (wire_Int.calls _ _ k y36v.1 y36v.2 (s33v ++ x2) (0 : Int) (hq38v.lend 0 rfl) hq39v hq40v) hs44v) rfl rfl rfl ?_
        intro y43v
        refine simL_val (q_move rfl rfl) rfl rfl rfl ?_
        refine simL_val (q_ext rfl rfl rfl) rfl rfl rfl ?_
        refine simL_val (q_ext rfl rfl rfl) rfl rfl rfl ?_
        refine simL_val (q_ext rfl rfl rfl) rfl rfl rfl ?_
        refine simL_val (q_asg rfl rfl) rfl rfl rfl ?_
        refine simL_val (q_asg rfl rfl) rfl rfl rfl ?_
        refine simL_val (q_asg rfl rfl) rfl rfl rfl ?_
        refine simL_nil ?_
        refine nrm_then ?_
        refine sim_seq ?_
        refine sim_region ?_
        refine simL_val (q_move rfl rfl) rfl rfl rfl ?_
        refine simL_val (q_move rfl rfl) rfl rfl rfl ?_
        refine simL_val (q_eql rfl rfl rfl) rfl rfl rfl ?_
        refine simL_val (q_move rfl rfl) rfl rfl rfl ?_
        refine simL_valc (b := decide (s42v.1 = x0)) (fun hb98v => RQ.sub (E' := [(13, .int .i64 s42v.2.1)]) ⟨rfl, trivial⟩ (q_move rfl rfl)) rfl rfl rfl rfl rfl ?_
        refine simL_valc (b := decide (s42v.1 = x0)) (fun hb97v => RQ.sub (E' := [(8, .slice y7v.1 s6v.1.length y7v.2)]) ⟨rfl, trivial⟩ (q_move rfl rfl)) rfl rfl rfl rfl rfl ?_
        refine simL_valc (b := decide (s42v.1 = x0)) (fun hb96v => RQ.sub (E' := [(68, .slice y7v.1 s6v.1.length y7v.2)]) ⟨lk_cv rfl hb96v, trivial⟩ (q_len rfl rfl rfl Try.underlying23)) rfl rfl rfl rfl rfl ?_
        refine simL_valc (b := decide (s42v.1 = x0)) (fun hb95v => RQ.sub (E' := [(67, .int .i64 s42v.2.1), (69, .int .i64 (s6v.1.length : Int))]) ⟨lk_cv rfl hb95v, lk_cv rfl hb95v, trivial⟩ (q_eql rfl rfl rfl)) rfl rfl rfl rfl rfl ?_
        refine simL_val (q_and rfl rfl rfl) rfl rfl rfl ?_
        refine simL_val (q_move rfl rfl) rfl rfl rfl ?_
        refine simL_cut' 4 (S := Bool) (Unit) (fun s y => [(0, .int .i64 x0), (1, .int .i64 x1), (8, .slice y7v.1 s6v.1.length y7v.2), (10, .slice y10v.1 s9v.1.length y10v.2), (76, .bool s)]) (fun s y => [Row 5 1 y7v.1 s6v.1.length y7v.2 (encB s6v.1), Row 5 1 y10v.1 s9v.1.length y10v.2 (encB s9v.1), F]) ?_ ?_
        · refine simL_caseb (fun hb50v => ?_) (fun hb51v => ?_)
          · rw [hb50v]
            refine simL_valg (q_move rfl rfl) rfl rfl rfl rfl rfl rfl ?_
            refine simL_bind (fun s47v hs49v => ?_)
            refine simL_effg (re_call (vs := [.int .i64 s42v.2.2]) (cap := []) (A := []) (rst := [Row 5 1 y36v.1 (s33v ++ x2).length y36v.2 (encB (s33v ++ x2)), Row 5 1 y7v.1 s6v.1.length y7v.2 (encB s6v.1), Row 5 1 y10v.1 s9v.1.length y10v.2 (encB s9v.1), F]) rfl rfl rfl rfl rfl rfl Try.call14 (.sel 0 rfl (.sel 0 rfl (.sel 0 rfl (.sel 0 rfl (.nil _))))) (synodref_Num.calls _ _ s42v.2.2 ) hs49v) rfl rfl rfl rfl rfl rfl ?_
            intro y48v
            refine simL_valg (q_eql rfl rfl rfl) rfl rfl rfl rfl rfl rfl ?_
            refine simL_val (q_pick rfl rfl rfl rfl rfl) rfl rfl rfl ?_
            refine simL_nil ?_
            exact nrm_cut (s := decide (s47v = (0 : Int))) () ⟨rfl, rfl, rfl, rfl, rfl, trivial⟩ (.sel 1 rfl (.sel 1 rfl (.sel 1 rfl (.nil _))))
          · rw [hb51v]
            refine simL_skipd rfl rfl rfl rfl rfl rfl ?_
            refine simL_skipd rfl rfl rfl rfl rfl rfl ?_
            refine simL_skipd rfl rfl rfl rfl rfl rfl ?_
            refine simL_val (q_pick rfl rfl rfl rfl rfl) rfl rfl rfl ?_
            refine simL_nil ?_
            exact nrm_cut (s := false) () ⟨rfl, rfl, rfl, rfl, rfl, trivial⟩ (.sel 1 rfl (.sel 1 rfl (.sel 1 rfl (.nil _))))
        · intro s45v y46v
          refine simL_val (q_move rfl rfl) rfl rfl rfl ?_
          refine simL_cut' 6 (S := Bool) (Unit) (fun s y => [(0, .int .i64 x0), (1, .int .i64 x1), (8, .slice y7v.1 s6v.1.length y7v.2), (10, .slice y10v.1 s9v.1.length y10v.2), (83, .bool s)]) (fun s y => [Row 5 1 y7v.1 s6v.1.length y7v.2 (encB s6v.1), Row 5 1 y10v.1 s9v.1.length y10v.2 (encB s9v.1), F]) ?_ ?_
          · refine simL_caseb (fun hb57v => ?_) (fun hb58v => ?_)
            · rw [hb57v]
              refine simL_valg (q_move rfl rfl) rfl rfl rfl rfl rfl rfl ?_
              refine simL_bind (fun s54v hs56v => ?_)
              refine simL_effg (re_call (vs := [.int .i64 x0]) (cap := []) (A := []) (rst := [Row 5 1 y7v.1 s6v.1.length y7v.2 (encB s6v.1), Row 5 1 y10v.1 s9v.1.length y10v.2 (encB s9v.1), F]) rfl rfl rfl rfl rfl rfl Try.call15 (.sel 0 rfl (.sel 0 rfl (.sel 0 rfl (.nil _)))) (wire_Size.calls _ _ k x0 ) hs56v) rfl rfl rfl rfl rfl rfl ?_
              intro y55v
              refine simL_valg (q_move rfl rfl) rfl rfl rfl rfl rfl rfl ?_
              refine simL_valg (q_len rfl rfl rfl Try.underlying23) rfl rfl rfl rfl rfl rfl ?_
              refine simL_valg (q_eql rfl rfl rfl) rfl rfl rfl rfl rfl rfl ?_
              refine simL_val (q_pick rfl rfl rfl rfl rfl) rfl rfl rfl ?_
              refine simL_nil ?_
              exact nrm_cut (s := decide (s54v = (s6v.1.length : Int))) () ⟨rfl, rfl, rfl, rfl, rfl, trivial⟩ (.sel 0 rfl (.sel 0 rfl (.sel 0 rfl (.nil _))))
            · rw [hb58v]
              refine simL_skipd rfl rfl rfl rfl rfl rfl ?_
              refine simL_skipd rfl rfl rfl rfl rfl rfl ?_
              refine simL_skipd rfl rfl rfl rfl rfl rfl ?_
              refine simL_skipd rfl rfl rfl rfl rfl rfl ?_
              refine simL_skipd rfl rfl rfl rfl rfl rfl ?_
              refine simL_val (q_pick rfl rfl rfl rfl rfl) rfl rfl rfl ?_
              refine simL_nil ?_
              exact nrm_cut (s := false) () ⟨rfl, rfl, rfl, rfl, rfl, trivial⟩ (.sel 0 rfl (.sel 0 rfl (.sel 0 rfl (.nil _))))
          · intro s52v y53v
            refine simL_val (q_asg rfl rfl) rfl rfl rfl ?_
            refine simL_nil ?_
            refine nrm_then ?_
            refine sim_seq ?_
            refine sim_region ?_
            refine simL_val (q_move rfl rfl) rfl rfl rfl ?_
            refine simL_val (q_len rfl rfl rfl Try.underlying23) rfl rfl rfl ?_
            refine simL_val (q_move rfl rfl) rfl rfl rfl ?_
            refine simL_val (q_len rfl rfl rfl Try.underlying23) rfl rfl rfl ?_
            refine simL_val (q_leq rfl rfl rfl) rfl rfl rfl ?_
            refine simL_val (q_move rfl rfl) rfl rfl rfl ?_
            refine simL_cut' 10 (S := Bool) (Unit) (fun s y => [(0, .int .i64 x0), (1, .int .i64 x1), (8, .slice y7v.1 s6v.1.length y7v.2), (10, .slice y10v.1 s9v.1.length y10v.2), (15, .bool s52v), (99, .bool s)]) (fun s y => [Row 5 1 y7v.1 s6v.1.length y7v.2 (encB s6v.1), Row 5 1 y10v.1 s9v.1.length y10v.2 (encB s9v.1), F]) ?_ ?_
            · refine simL_casep (fun hb79v => ?_) (fun hb80v => ?_)
              · rw [hb79v]
                refine simL_valg (q_move rfl rfl) rfl rfl rfl rfl rfl rfl ?_
                refine simL_valg (q_move rfl rfl) rfl rfl rfl rfl rfl rfl ?_
                refine simL_valg (q_move rfl rfl) rfl rfl rfl rfl rfl rfl ?_
                refine simL_valg (q_len rfl rfl rfl Try.underlying23) rfl rfl rfl rfl rfl rfl ?_
                refine simL_valg (q_move rfl rfl) rfl rfl rfl rfl rfl rfl ?_
                refine simL_valg (q_len rfl rfl rfl Try.underlying23) rfl rfl rfl rfl rfl rfl ?_
                refine simL_valg (q_min rfl rfl rfl) rfl rfl rfl rfl rfl rfl ?_
                refine simL_ask (fun hb61v => ?_)
                refine simL_lend 1 rfl (fun hq68v hq69v hq70v hq71v => ?_)
                obtain ⟨a62v, c63v, hS64v, hr65v, hc66v, hm67v⟩ := slice_pre (lo := (0 : Int)) (hi := min (s6v.1.length : Int) (s9v.1.length : Int)) hq68v hq69v hb61v
                refine simL_valg (q_sub_ro (l := s9v.1) (lo' := (0 : Int)) (hi' := min (s6v.1.length : Int) (s9v.1.length : Int)) rfl rfl rfl rfl Try.underlying23 Try.sizeOf5 (.inr ⟨_, rfl⟩) (.inl ⟨rfl, rfl⟩) hb61v hq69v hS64v) rfl rfl rfl rfl rfl rfl ?_
                refine simL_bind (fun s76v hs78v => ?_)
                refine simL_lend 0 rfl (fun hq72v hq73v hq74v hq75v => ?_)
                refine simL_effg (re_call (vs := [.slice y7v.1 s6v.1.length y7v.2, .slice a62v ((cut s9v.1 (0 : Int) (min (s6v.1.length : Int) (s9v.1.length : Int))).length) c63v]) (cap := []) (A := []) (rst := [Row 5 1 y7v.1 s6v.1.length y7v.2 (encB s6v.1), Row 5 1 y10v.1 s9v.1.length y10v.2 (encB s9v.1), F]) rfl rfl rfl rfl rfl rfl Try.call13 (.sel 0 rfl (.sel 0 rfl (.sel 0 rfl (.nil _)))) (synodref_SameBytes.calls _ _ k y7v.1 y7v.2 s6v.1 a62v c63v (cut s9v.1 (0 : Int) (min (s6v.1.length : Int) (s9v.1.length : Int))) (hq72v.lend 0 rfl) hq73v hq74v (hr65v.lend 1 rfl) hc66v (Nat.le_trans hm67v hq70v)) hs78v) rfl rfl rfl rfl rfl rfl ?_
                intro y77v
                refine simL_val (q_pick rfl rfl rfl rfl rfl) rfl rfl rfl ?_
                refine simL_nil ?_
                exact nrm_cut (s := s76v) () ⟨rfl, rfl, rfl, rfl, rfl, rfl, trivial⟩ (.sel 0 rfl (.sel 0 rfl (.sel 0 rfl (.nil _))))
              · rw [hb80v]
                refine simL_skipd rfl rfl rfl rfl rfl rfl ?_
                refine simL_skipd rfl rfl rfl rfl rfl rfl ?_
                refine simL_skipd rfl rfl rfl rfl rfl rfl ?_
                refine simL_skipd rfl rfl rfl rfl rfl rfl ?_
                refine simL_skipd rfl rfl rfl rfl rfl rfl ?_
                refine simL_skipd rfl rfl rfl rfl rfl rfl ?_
                refine simL_skipd rfl rfl rfl rfl rfl rfl ?_
                refine simL_skipd rfl rfl rfl rfl rfl rfl ?_
                refine simL_skipd rfl rfl rfl rfl rfl rfl ?_
                refine simL_val (q_pick rfl rfl rfl rfl rfl) rfl rfl rfl ?_
                refine simL_nil ?_
                exact nrm_cut (s := false) () ⟨rfl, rfl, rfl, rfl, rfl, rfl, trivial⟩ (.sel 0 rfl (.sel 0 rfl (.sel 0 rfl (.nil _))))
            · intro s59v y60v
              refine simL_val (q_asg rfl rfl) rfl rfl rfl ?_
              refine simL_nil ?_
              refine nrm_then ?_
              refine sim_seq ?_
              refine sim_region ?_
              refine simL_val (q_move rfl rfl) rfl rfl rfl ?_
              refine simL_val (q_move rfl rfl) rfl rfl rfl ?_
              refine simL_valc (b := s52v) (fun hb94v => RQ.sub (E' := [(16, .bool s59v)]) ⟨rfl, trivial⟩ (q_move rfl rfl)) rfl rfl rfl rfl rfl ?_
              refine simL_valc (b := s52v) (fun hb93v => RQ.sub (E' := [(0, .int .i64 x0)]) ⟨rfl, trivial⟩ (q_move rfl rfl)) rfl rfl rfl rfl rfl ?_
              refine simL_valc (b := s52v) (fun hb92v => RQ.sub (E' := [(1, .int .i64 x1)]) ⟨rfl, trivial⟩ (q_move rfl rfl)) rfl rfl rfl rfl rfl ?_
              refine simL_valc (b := s52v) (fun hb91v => RQ.sub (E' := [(103, .int .i64 x0), (104, .int .i64 x1)]) ⟨lk_cv rfl hb91v, lk_cv rfl hb91v, trivial⟩ (q_eql rfl rfl rfl)) rfl rfl rfl rfl rfl ?_
              refine simL_valc (b := s52v) (fun hb90v => RQ.sub (E' := [(102, .bool s59v), (105, .bool (decide (x0 = x1)))]) ⟨lk_cv rfl hb90v, lk_cv rfl hb90v, trivial⟩ (q_eqb rfl rfl rfl Try.underlying4)) rfl rfl rfl rfl rfl ?_
              refine simL_val (q_and rfl rfl rfl) rfl rfl rfl ?_
              refine simL_val (q_move rfl rfl) rfl rfl rfl ?_
              refine simL_cut' 11 (S := Bool) (Unit) (fun s y => [(119, .bool s)]) (fun s y => [F]) ?_ ?_
              · refine simL_caseb (fun hb88v => ?_) (fun hb89v => ?_)
                · rw [hb88v]
                  refine simL_valg (q_move rfl rfl) rfl rfl rfl rfl rfl rfl ?_
                  refine simL_valg (q_move rfl rfl) rfl rfl rfl rfl rfl rfl ?_
                  refine simL_valg (q_gtr rfl rfl rfl) rfl rfl rfl rfl rfl rfl ?_
                  refine simL_valg (q_move rfl rfl) rfl rfl rfl rfl rfl rfl ?_
                  refine simL_valc (b := decide (x1 < x0)) (fun hb87v => RQ.sub (E' := [(8, .slice y7v.1 s6v.1.length y7v.2)]) ⟨rfl, trivial⟩ (q_move rfl rfl)) rfl rfl rfl rfl rfl ?_
                  refine simL_valc (b := decide (x1 < x0)) (fun hb86v => RQ.sub (E' := [(113, .slice y7v.1 s6v.1.length y7v.2)]) ⟨lk_cv rfl hb86v, trivial⟩ (q_len rfl rfl rfl Try.underlying23)) rfl rfl rfl rfl rfl ?_
                  refine simL_valc (b := decide (x1 < x0)) (fun hb85v => RQ.sub (E' := [(10, .slice y10v.1 s9v.1.length y10v.2)]) ⟨rfl, trivial⟩ (q_move rfl rfl)) rfl rfl rfl rfl rfl ?_
                  refine simL_valc (b := decide (x1 < x0)) (fun hb84v => RQ.sub (E' := [(115, .slice y10v.1 s9v.1.length y10v.2)]) ⟨lk_cv rfl hb84v, trivial⟩ (q_len rfl rfl rfl Try.underlying23)) rfl rfl rfl rfl rfl ?_
                  refine simL_valc (b := decide (x1 < x0)) (fun hb83v => RQ.sub (E' := [(114, .int .i64 (s6v.1.length : Int)), (116, .int .i64 (s9v.1.length : Int))]) ⟨lk_cv rfl hb83v, lk_cv rfl hb83v, trivial⟩ (q_leq rfl rfl rfl)) rfl rfl rfl rfl rfl ?_
                  refine simL_valg (q_or rfl rfl rfl) rfl rfl rfl rfl rfl rfl ?_
                  refine simL_val (q_pick rfl rfl rfl rfl rfl) rfl rfl rfl ?_
                  refine simL_nil ?_
                  exact nrm_cut (s := (decide (x1 < x0)) || (decide ((s6v.1.length : Int) ≤ (s9v.1.length : Int)))) () ⟨rfl, trivial⟩ (.sel 2 rfl (.nil _))
                · rw [hb89v]
                  refine simL_skipd rfl rfl rfl rfl rfl rfl ?_
                  refine simL_skipd rfl rfl rfl rfl rfl rfl ?_
                  refine simL_skipd rfl rfl rfl rfl rfl rfl ?_
                  refine simL_skipd rfl rfl rfl rfl rfl rfl ?_
                  refine simL_skipu rfl rfl rfl rfl rfl ?_
                  refine simL_skipu rfl rfl rfl rfl rfl ?_
                  refine simL_skipu rfl rfl rfl rfl rfl ?_
                  refine simL_skipu rfl rfl rfl rfl rfl ?_
                  refine simL_skipu rfl rfl rfl rfl rfl ?_
                  refine simL_skipd rfl rfl rfl rfl rfl rfl ?_
                  refine simL_val (q_pick rfl rfl rfl rfl rfl) rfl rfl rfl ?_
                  refine simL_nil ?_
                  exact nrm_cut (s := false) () ⟨rfl, trivial⟩ (.sel 2 rfl (.nil _))
              · intro s81v y82v
                refine simL_val (q_asg rfl rfl) rfl rfl rfl ?_
                refine simL_nil ?_
                refine nrm_then ?_
                refine sim_rtn ?_
                exact rtn_fn () rfl rfl rfl (.sel 0 rfl (.nil _))
end Go.Proofs.Ytdolffamgbcokaa

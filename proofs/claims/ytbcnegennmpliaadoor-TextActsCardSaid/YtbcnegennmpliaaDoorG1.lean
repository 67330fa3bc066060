/- Printed by gen.py: pure functions and the proofs that the Go functions simulate them. Conditions: as each theorem says. -/
import Derived.Test.YtbcnegennmpliaaDoorSh
import Derived.Test.YtbcnegennmpliaaDoorSl28
import Derived.Test.YtbcnegennmpliaaDoorProg
namespace Go.Proofs.YtbcnegennmpliaaDoor
open Go.RowKit
set_option linter.unusedVariables false
set_option linter.unusedSimpArgs false
set_option maxRecDepth 20000
set_option maxHeartbeats 20000000
theorem elt5 : Elt Tryd.prog 5 1 1 [.int .u8 0] := .of (.int .u8 0) (by kernel_rfl) rfl rfl rfl rfl
abbrev Ty103 : Type := Option Nat × Option Nat × Bool
abbrev dz103 : Ty103 := (none, none, false)
abbrev Ty99 : Type := List UInt8 × Int × Int × Int × Int × Int × Int × List UInt8 × List UInt8 × List UInt8 × (List (Option Nat × Option Nat × Bool))
abbrev Ty109 : Type := List UInt8 × Int × List UInt8 × Int × Int
abbrev dz109 : Ty109 := (([] : List UInt8), (0 : Int), ([] : List UInt8), (0 : Int), (0 : Int))
theorem elt9 : Elt Tryd.prog 9 1 16 [str ([] : List UInt8)] := .of (str ([] : List UInt8)) (by kernel_rfl) rfl rfl rfl rfl
theorem elt103 : Elt Tryd.prog 103 3 24 [.nilFunc, .nilFunc, .bool false] := .of (.agg #[.nilFunc, .nilFunc, .bool false]) (by kernel_rfl) rfl rfl rfl rfl
theorem elt99 : Elt Tryd.prog 99 11 136 [str ([] : List UInt8), .int .i64 0, .int .i64 0, .int .i64 0, .int .i64 0, .int .i64 0, .int .i64 0, str ([] : List UInt8), str ([] : List UInt8), str ([] : List UInt8), .slice none 0 0] := .of (.agg #[str ([] : List UInt8), .int .i64 0, .int .i64 0, .int .i64 0, .int .i64 0, .int .i64 0, .int .i64 0, str ([] : List UInt8), str ([] : List UInt8), str ([] : List UInt8), .slice none 0 0]) (by kernel_rfl) rfl rfl rfl rfl
theorem elt109 : Elt Tryd.prog 109 5 56 [str ([] : List UInt8), .int .i64 0, str ([] : List UInt8), .int .i64 0, .int .i64 0] := .of (.agg #[str ([] : List UInt8), .int .i64 0, str ([] : List UInt8), .int .i64 0, .int .i64 0]) (by kernel_rfl) rfl rfl rfl rfl
def V9 (_ : HA) (x : List UInt8) (r : List Value) : Prop := r = [str x]
theorem V9.up {G F : HA} (_ : Up G F) : ∀ x r, V9 G x r → V9 F x r := fun _ _ h => h
def V103 (_ : HA) (x : Option Nat × Option Nat × Bool) (r : List Value) : Prop := r = [fnV x.1, fnV x.2.1, .bool x.2.2]
theorem V103.up {G F : HA} (_ : Up G F) : ∀ x r, V103 G x r → V103 F x r := fun _ _ h => h
def V99 (F : HA) (x : List UInt8 × Int × Int × Int × Int × Int × Int × List UInt8 × List UInt8 × List UInt8 × (List (Option Nat × Option Nat × Bool))) (r : List Value) : Prop := ∃ (a10 : Option Addr) (c10 : Nat), r = [str x.1, .int .i64 x.2.1, .int .i64 x.2.2.1, .int .i64 x.2.2.2.1, .int .i64 x.2.2.2.2.1, .int .i64 x.2.2.2.2.2.1, .int .i64 x.2.2.2.2.2.2.1, str x.2.2.2.2.2.2.2.1, str x.2.2.2.2.2.2.2.2.1, str x.2.2.2.2.2.2.2.2.2.1, .slice a10 x.2.2.2.2.2.2.2.2.2.2.length c10] ∧ (RdV F 3 (V103 tt) a10 x.2.2.2.2.2.2.2.2.2.2 ∧ x.2.2.2.2.2.2.2.2.2.2.length ≤ c10 ∧ c10 ≤ maxLen)
theorem V99.up {G F : HA} (u : Up G F) : ∀ x r, V99 G x r → V99 F x r := by
  rintro x r ⟨a10, c10, e, ⟨h10, k10, m10⟩⟩
  exact ⟨a10, c10, e, ⟨h10.up u (fun _ _ h => h), k10, m10⟩⟩
def V109 (_ : HA) (x : List UInt8 × Int × List UInt8 × Int × Int) (r : List Value) : Prop := r = [str x.1, .int .i64 x.2.1, str x.2.2.1, .int .i64 x.2.2.2.1, .int .i64 x.2.2.2.2]
theorem V109.up {G F : HA} (_ : Up G F) : ∀ x r, V109 G x r → V109 F x r := fun _ _ h => h
theorem mixed : Tryd.prog.follows .mixedOrders = true := by kernel_rfl
def text_plain.f (x0 : Int) : Option (Bool) := some ((decide ((32 : Int) ≤ x0)) && (decide (x0 ≤ (126 : Int))))
theorem text_plain.calls (W : World) (F : HA) (x0 : Int)  :
    Fn Tryd.prog W 41 [.int .u8 x0] [] F (text_plain.f x0) (fun (r : Bool) (y : Unit) => .bool r) (fun r y => []) := by
 unfold text_plain.f
 refine fn_intro 9 Tryd.func41 rfl Tryd.ntmps41 rfl ?_
 refine sr ?_
 refine va rfl rfl (nx ?_)
 refine vm rfl rfl ?_
 refine vq (q_geq rfl rfl rfl) rfl ?_
 refine vm rfl rfl ?_
 refine simL_valc (b := decide ((32 : Int) ≤ x0)) (fun hb2v => RQ.sub (E' := [(0, .int .u8 x0)]) ⟨rfl, trivial⟩ (q_move rfl rfl)) rfl rfl rfl rfl rfl ?_
 refine simL_valc (b := decide ((32 : Int) ≤ x0)) (fun hb1v => RQ.sub (E' := [(6, .int .u8 x0)]) ⟨lk_cv rfl hb1v, trivial⟩ (q_leq rfl rfl rfl)) rfl rfl rfl rfl rfl ?_
 refine vq (q_and rfl rfl rfl) rfl ?_
 refine va rfl rfl (simL_nil (nrm_then (sim_rtn ?_)))
 exact rtn_fn () rfl rfl rfl (.sel 0 rfl (.nil _))
def text_plain.v (x0 : Int) : Bool := (text_plain.f x0).getD false
theorem text_plain.tot (x0 : Int) : text_plain.f x0 = some (text_plain.v x0) := by
  have h : ∃ r, text_plain.f x0 = some r := by
    unfold text_plain.f
    repeat' (first | exact ⟨_, rfl⟩ | split | simp only [Option.bind_some])
  obtain ⟨r, h⟩ := h
  unfold text_plain.v
  rw [h]; rfl

def strings_HasPrefix.f (x0 : List UInt8) (x1 : List UInt8) : Option (Bool) := some (Lib.hasPrefix x0 x1)
theorem strings_HasPrefix.calls (W : World) (F : HA) (x0 : List UInt8) (x1 : List UInt8)  :
    Fn Tryd.prog W 62 [str x0, str x1] [] F (strings_HasPrefix.f x0 x1) (fun (r : Bool) (y : Unit) => .bool r) (fun r y => []) := by
  unfold strings_HasPrefix.f
  exact fn_same (fun w => Any.strings_HasPrefix shL99 ⟨x0.toArray⟩ ⟨x1.toArray⟩ w)

def strings_IndexByte.f (x0 : List UInt8) (x1 : Int) : Option (Int) := some (Lib.indexByte x0 x1.toNat.toUInt8)
theorem strings_IndexByte.calls (W : World) (F : HA) (x0 : List UInt8) (x1 : Int)  :
    Fn Tryd.prog W 83 [str x0, .int .u8 x1] [] F (strings_IndexByte.f x0 x1) (fun (r : Int) (y : Unit) => .int .i64 r) (fun r y => []) := by
  unfold strings_IndexByte.f
  exact fn_same (fun w => Any.strings_IndexByte shL137 ⟨x0.toArray⟩ x1 w)

def text_escaped.f (x0 : List UInt8) : Option (Int × Bool) := (if (x0.length : Int) < (3 : Int) then (some true) else (if 0 ≤ (0 : Int) ∧ (0 : Int) < (x0.length : Int) then (some (!decide (((x0.getD (0 : Int).toNat 0).toNat : Int) = (120 : Int)))) else none)).bind fun s1v => (if s1v = true then (some (0, false)) else (if 0 ≤ (1 : Int) ∧ (1 : Int) < (x0.length : Int) then ((strings_IndexByte.f ([48, 49, 50, 51, 52, 53, 54, 55, 56, 57, 97, 98, 99, 100, 101, 102] : List UInt8) ((x0.getD (1 : Int).toNat 0).toNat : Int)).bind fun s9v => (if 0 ≤ (2 : Int) ∧ (2 : Int) < (x0.length : Int) then ((strings_IndexByte.f ([48, 49, 50, 51, 52, 53, 54, 55, 56, 57, 97, 98, 99, 100, 101, 102] : List UInt8) ((x0.getD (2 : Int).toNat 0).toNat : Int)).bind fun s13v => ((if ((decide ((0 : Int) ≤ s9v)) && (decide ((0 : Int) ≤ s13v))) = true then ((text_plain.f (IntKind.u8.wrap (IntKind.i64.wrap ((IntKind.i64.wrap (16 * s9v)) + s13v)))).bind fun s19v => (some (!s19v))) else (some false)).bind fun s17v => (some (IntKind.u8.wrap (IntKind.i64.wrap ((IntKind.i64.wrap (16 * s9v)) + s13v)), s17v)))) else none)) else none))
theorem text_escaped.calls (W : World) (F : HA) (x0 : List UInt8)  :
    Fn Tryd.prog W 63 [str x0] [] F (text_escaped.f x0) (fun (r : Int × Bool) (y : Unit) => .tuple #[.int .u8 r.1, .bool r.2]) (fun r y => []) := by
 unfold text_escaped.f
 refine fn_intro 38 Tryd.func63 rfl Tryd.ntmps63 rfl ?_
 refine sr ?_
 refine va rfl rfl ?_
 refine va rfl rfl (simL_nil (nrm_then (sim_seq (sr ?_))))
 refine vm rfl rfl ?_
 refine vq (q_lens rfl rfl rfl Tryd.underlying9) rfl ?_
 refine vq (q_lss rfl rfl rfl) rfl ?_
 refine vm rfl rfl ?_
 refine simL_cut' 4 (S := Bool) (Unit) (fun s y => [(0, str x0), (14, .bool s)]) (fun s y => [F]) ?_ ?_
 refine simL_casep (fun hb4v => ?_) (fun hb5v => ?_)
 rw [hb4v]
 refine simL_skipd rfl rfl rfl rfl rfl rfl ?_
 refine simL_skipd rfl rfl rfl rfl rfl rfl ?_
 refine simL_skipd rfl rfl rfl rfl rfl rfl ?_
 refine vq (q_pick rfl rfl rfl rfl rfl) rfl (simL_nil ?_)
 exact nrm_cut (s := true) () ⟨rfl, rfl, trivial⟩ (.sel 0 rfl (.nil _))
 rw [hb5v]
 refine simL_valg (q_move rfl rfl) rfl rfl rfl rfl rfl rfl ?_
 refine simL_ask (fun hi3v => ?_)
 refine simL_valg (q_sidx rfl rfl rfl Tryd.underlying9 hi3v.1 hi3v.2) rfl rfl rfl rfl rfl rfl ?_
 refine simL_valg (q_neq rfl rfl rfl) rfl rfl rfl rfl rfl rfl ?_
 refine vq (q_pick rfl rfl rfl rfl rfl) rfl (simL_nil ?_)
 exact nrm_cut (s := !decide (((x0.getD (0 : Int).toNat 0).toNat : Int) = (120 : Int))) () ⟨rfl, rfl, trivial⟩ (.sel 0 rfl (.nil _))
 intro s1v y2v
 refine simL_nil (nrm_then ?_)
 refine sim_condb rfl (fun h6v => ?_) (fun h7v => ?_)
 refine sr ?_
 refine va rfl rfl ?_
 refine va rfl rfl (simL_nil (nrm_then (sim_rtn ?_)))
 refine rtn_then ?_
 exact rtn_fn () rfl rfl rfl (.sel 0 rfl (.nil _))
 refine sim_skip ?_
 refine nrm_then (sim_seq ?_)
 refine sim_ask (fun hi8v => ?_)
 refine sim_bind (fun s9v hs10v => ?_)
 refine sim_ask (fun hi12v => ?_)
 refine sim_bind (fun s13v hs14v => ?_)
 refine sim_draw (Γ := Unit) () [[], [0], [0, 1], [], [3], rL 5, rL 6, rL 7] [2, 5] [0, 1, 3, 4, 6, 7] (fun i => [[0], [0], [], [0, 1], [0, 1], [], [2], [2]].getD i []) (fun i => [[], [], [0, 1, 3, 4], [], [], rL 5, [], []].getD i []) (fun γ i => [str x0, .int .u8 ((x0.getD (1 : Int).toNat 0).toNat : Int), .int .i64 s9v, str x0, .int .u8 ((x0.getD (2 : Int).toNat 0).toNat : Int), .int .i64 s13v, .int .i64 s9v, .int .i64 s13v].getD i undef) (fun j γ => [[F], [F], [F]].getD j []) (fun γ => [(4, .int .i64 s9v), (5, .int .i64 s13v)]) mixed (by decide) (by decide) (by decide) (by decide) (by decide) (by decide) (by decide) 38 rfl (by decide) (by decide) (by decide) (Ent.refl _) ?_ ?_ (fun _ => ⟨rfl, rfl, trivial⟩) ?_
 exact (aq rfl (fun γ => qm rfl (.o (s := 0) rfl (by decide) .nil) rfl) (aq rfl (fun γ => qp rfl rfl (.v 0 rfl rfl .nil) (q_sidx rfl rfl rfl Tryd.underlying9 hi8v.1 hi8v.2) rfl) (ac (fun γ => (ac (qm rfl (.o (s := 0) rfl (by decide) .nil) rfl) (ac (qm rfl (.o (s := 0) rfl (by decide) .nil) rfl) zA))) (ac (fun γ => (ac (qp rfl rfl (.v 3 rfl rfl .nil) (q_sidx rfl rfl rfl Tryd.underlying9 hi12v.1 hi12v.2) rfl) (ac (qp rfl rfl (.v 3 rfl rfl .nil) (q_sidx rfl rfl rfl Tryd.underlying9 hi12v.1 hi12v.2) rfl) zA))) (aq rfl (fun γ => qp rfl rfl (.v 2 rfl rfl .nil) (q_asg rfl rfl) rfl) (aq rfl (fun γ => qp rfl rfl (.v 5 rfl rfl .nil) (q_asg rfl rfl) rfl) zA))))))
 exact (ac (fun γ => eo (Z := Unit) (fun z => ()) rfl rfl (.v 1 rfl rfl .nil) (re_call (vs := [str ([48, 49, 50, 51, 52, 53, 54, 55, 56, 57, 97, 98, 99, 100, 101, 102] : List UInt8), .int .u8 ((x0.getD (1 : Int).toNat 0).toNat : Int)]) (cap := []) (A := []) (rst := [F]) rfl rfl rfl rfl rfl rfl Tryd.call83 (.sel 0 rfl (.nil _)) (strings_IndexByte.calls _ _ ([48, 49, 50, 51, 52, 53, 54, 55, 56, 57, 97, 98, 99, 100, 101, 102] : List UInt8) ((x0.getD (1 : Int).toNat 0).toNat : Int) ) hs10v) (fun _ => ⟨rfl, rfl, rfl, rfl, trivial⟩) (fun _ => .inr rfl) (fun z => Ent.refl _)) (ac (fun γ => eo (Z := Unit) (fun z => ()) rfl rfl (.v 4 rfl rfl .nil) (re_call (vs := [str ([48, 49, 50, 51, 52, 53, 54, 55, 56, 57, 97, 98, 99, 100, 101, 102] : List UInt8), .int .u8 ((x0.getD (2 : Int).toNat 0).toNat : Int)]) (cap := []) (A := []) (rst := [F]) rfl rfl rfl rfl rfl rfl Tryd.call83 (.sel 0 rfl (.nil _)) (strings_IndexByte.calls _ _ ([48, 49, 50, 51, 52, 53, 54, 55, 56, 57, 97, 98, 99, 100, 101, 102] : List UInt8) ((x0.getD (2 : Int).toNat 0).toNat : Int) ) hs14v) (fun _ => ⟨rfl, rfl, rfl, rfl, rfl, trivial⟩) (fun _ => .inr rfl) (fun z => Ent.refl _)) zA))
 intro g16v
 refine nrm_then (sr ?_)
 refine vm rfl rfl ?_
 refine vq (q_mul rfl rfl rfl) rfl ?_
 refine vm rfl rfl ?_
 refine vq (q_add rfl rfl rfl) rfl ?_
 refine vq (q_conv rfl rfl Tryd.underlying3 Tryd.underlying5) rfl ?_
 refine va rfl rfl (nx ?_)
 refine vm rfl rfl ?_
 refine vm rfl rfl ?_
 refine vq (q_geq rfl rfl rfl) rfl ?_
 refine vm rfl rfl ?_
 refine simL_valc (b := decide ((0 : Int) ≤ s9v)) (fun hb25v => RQ.sub (E' := [(5, .int .i64 s13v)]) ⟨rfl, trivial⟩ (q_move rfl rfl)) rfl rfl rfl rfl rfl ?_
 refine simL_valc (b := decide ((0 : Int) ≤ s9v)) (fun hb24v => RQ.sub (E' := [(30, .int .i64 s13v)]) ⟨lk_cv rfl hb24v, trivial⟩ (q_geq rfl rfl rfl)) rfl rfl rfl rfl rfl ?_
 refine vq (q_and rfl rfl rfl) rfl ?_
 refine vm rfl rfl ?_
 refine simL_cut' 4 (S := Bool) (Unit) (fun s y => [(26, .int .u8 (IntKind.u8.wrap (IntKind.i64.wrap ((IntKind.i64.wrap (16 * s9v)) + s13v)))), (37, .bool s)]) (fun s y => [F]) ?_ ?_
 refine simL_caseb (fun hb22v => ?_) (fun hb23v => ?_)
 rw [hb22v]
 refine simL_valg (q_move rfl rfl) rfl rfl rfl rfl rfl rfl ?_
 refine simL_bind (fun s19v hs20v => ?_)
 refine simL_effg (re_call (vs := [.int .u8 (IntKind.u8.wrap (IntKind.i64.wrap ((IntKind.i64.wrap (16 * s9v)) + s13v)))]) (cap := []) (A := []) (rst := [F]) rfl rfl rfl rfl rfl rfl Tryd.call41 (.sel 0 rfl (.nil _)) (text_plain.calls _ _ (IntKind.u8.wrap (IntKind.i64.wrap ((IntKind.i64.wrap (16 * s9v)) + s13v))) ) hs20v) rfl rfl rfl rfl rfl rfl ?_
 intro y21v
 refine simL_valg (q_not rfl rfl) rfl rfl rfl rfl rfl rfl ?_
 refine vq (q_pick rfl rfl rfl rfl rfl) rfl (simL_nil ?_)
 exact nrm_cut (s := !s19v) () ⟨rfl, rfl, trivial⟩ (.sel 0 rfl (.nil _))
 rw [hb23v]
 refine simL_skipd rfl rfl rfl rfl rfl rfl ?_
 refine simL_skipd rfl rfl rfl rfl rfl rfl ?_
 refine simL_skipd rfl rfl rfl rfl rfl rfl ?_
 refine vq (q_pick rfl rfl rfl rfl rfl) rfl (simL_nil ?_)
 exact nrm_cut (s := false) () ⟨rfl, rfl, trivial⟩ (.sel 0 rfl (.nil _))
 intro s17v y18v
 refine va rfl rfl ?_
 refine va rfl rfl (simL_nil (nrm_then (sim_rtn ?_)))
 exact rtn_fn () rfl rfl rfl (.sel 0 rfl (.nil _))

def text_quoted.l0 (x0 : List UInt8) : Nat → List UInt8 → Int → Option ((Unit) ⊕ (List UInt8 × Int))
  | 0, _, _ => none
  | k + 1, z5v, z6v => if z6v < (x0.length : Int) then (if 0 ≤ z6v ∧ z6v < (x0.length : Int) then (if 0 ≤ IntKind.i64.wrap (z6v + 1) ∧ IntKind.i64.wrap (z6v + 1) ≤ (x0.length : Int) ∧ (x0.length : Int) ≤ (x0.length : Int) then (if ((x0.getD z6v.toNat 0).toNat : Int) = (34 : Int) then (some (.inr (z5v, IntKind.i64.wrap (z6v + 1)))) else ((text_plain.f ((x0.getD z6v.toNat 0).toNat : Int)).bind fun s13v => (if (!s13v) = true then (some (.inr (([] : List UInt8), 0))) else (if ((x0.getD z6v.toNat 0).toNat : Int) = (92 : Int) then ((strings_HasPrefix.f (cut x0 (IntKind.i64.wrap (z6v + 1)) (x0.length : Int)) ([34] : List UInt8)).bind fun s20v => ((if s20v = true then (some true) else ((strings_HasPrefix.f (cut x0 (IntKind.i64.wrap (z6v + 1)) (x0.length : Int)) ([92] : List UInt8)).bind fun s25v => (some s25v))).bind fun s23v => (if s23v = true then (if 0 ≤ (0 : Int) ∧ (0 : Int) < ((cut x0 (IntKind.i64.wrap (z6v + 1)) (x0.length : Int)).length : Int) then (if (z5v.length + ([((cut x0 (IntKind.i64.wrap (z6v + 1)) (x0.length : Int)).getD (0 : Int).toNat 0)] : List UInt8).length) * 1 ≤ 140737488355328 then (text_quoted.l0 x0 k (z5v ++ ([((cut x0 (IntKind.i64.wrap (z6v + 1)) (x0.length : Int)).getD (0 : Int).toNat 0)] : List UInt8)) (IntKind.i64.wrap ((IntKind.i64.wrap (z6v + 1)) + 1))) else none) else none) else ((text_escaped.f (cut x0 (IntKind.i64.wrap (z6v + 1)) (x0.length : Int))).bind fun s37v => (if (!s37v.2) = true then (some (.inr (([] : List UInt8), 0))) else (if 0 ≤ s37v.1 ∧ s37v.1 < 256 then (if (z5v.length + ([(byte s37v.1)] : List UInt8).length) * 1 ≤ 140737488355328 then (text_quoted.l0 x0 k (z5v ++ ([(byte s37v.1)] : List UInt8)) (IntKind.i64.wrap ((IntKind.i64.wrap (z6v + 3)) + 1))) else none) else none)))))) else (if (z5v.length + ([(x0.getD z6v.toNat 0)] : List UInt8).length) * 1 ≤ 140737488355328 then (text_quoted.l0 x0 k (z5v ++ ([(x0.getD z6v.toNat 0)] : List UInt8)) (IntKind.i64.wrap (z6v + 1))) else none))))) else none) else none) else (some (.inl ()))
def text_quoted.f (k : Nat) (x0 : List UInt8) : Option (List UInt8 × Int) := orR (text_quoted.l0 x0 k ([] : List UInt8) 0) fun s1v => (some (([] : List UInt8), 0))
theorem text_quoted.calls (W : World) (F : HA) (k : Nat) (x0 : List UInt8)  :
    Fn Tryd.prog W 37 [str x0] [] F (text_quoted.f k x0) (fun (r : List UInt8 × Int) (y : Unit) => .tuple #[str r.1, .int .i64 r.2]) (fun r y => []) := by
 unfold text_quoted.f
 refine fn_intro 68 Tryd.func37 rfl Tryd.ntmps37 rfl ?_
 refine sr ?_
 refine va rfl rfl ?_
 refine va rfl rfl (nx ?_)
 refine va rfl rfl (simL_nil (nrm_then ?_))
 refine sim_cutR (S := Unit) (Unit) (fun s y => []) (fun s y => [F]) ?_ ?_
 refine sr ?_
 refine va rfl rfl (simL_nil (nrm_then ?_))
 refine sim_block ?_
 refine sim_loop (S := List UInt8 × Int) (Option Addr × Nat) (fun k s => text_quoted.l0 x0 k s.1 s.2) (fun s y => [(0, str x0), (4, .slice y.1 s.1.length y.2), (5, .int .i64 s.2)]) (fun s y => [Row 5 1 y.1 s.1.length y.2 (encB s.1), F]) (fun _ => by rw [text_quoted.l0]) ?_ k (([] : List UInt8), 0) (none, 0) ⟨rfl, rfl, rfl, trivial⟩ (.row_nil (.sel 0 rfl (.nil _)))
 intro k s3v y4v
 refine sim_eq (by rw [text_quoted.l0]) ?_
 refine sim_seq (sr ?_)
 refine vm rfl rfl ?_
 refine vm rfl rfl ?_
 refine vq (q_lens rfl rfl rfl Tryd.underlying9) rfl ?_
 refine vq (q_lss rfl rfl rfl) rfl (simL_nil (nrm_then ?_))
 refine sim_cond rfl (fun h7v => ?_) (fun h8v => ?_)
 refine sim_skip ?_
 refine nrm_then (sim_seq ?_)
 refine sim_block ?_
 refine sr ?_
 refine vm rfl rfl ?_
 refine vm rfl rfl ?_
 refine simL_ask (fun hi9v => ?_)
 refine vq (q_sidx rfl rfl rfl Tryd.underlying9 hi9v.1 hi9v.2) rfl ?_
 refine va rfl rfl (nx ?_)
 refine vm rfl rfl ?_
 refine vm rfl rfl ?_
 refine vq (q_add rfl rfl rfl) rfl ?_
 refine simL_ask (fun hb10v => ?_)
 refine vq (q_cutS (lo' := IntKind.i64.wrap (s3v.2 + 1)) (hi' := (x0.length : Int)) rfl rfl rfl rfl Tryd.underlying9 (.inl ⟨rfl, rfl⟩) (.inr ⟨_, rfl⟩) hb10v) rfl ?_
 refine va rfl rfl (simL_nil (nrm_then ?_))
 refine sim_block ?_
 refine sr ?_
 refine vm rfl rfl ?_
 refine vq (q_eql rfl rfl rfl) rfl ?_
 refine va rfl rfl (simL_nil (nrm_then ?_))
 refine sim_cond rfl (fun h11v => ?_) (fun h12v => ?_)
 refine sr ?_
 refine vm rfl rfl ?_
 refine vq (q_tostr rfl rfl Tryd.underlying93 Tryd.underlying5 Tryd.underlying9 (Rds.row 0 rfl) rfl) rfl ?_
 refine vm rfl rfl ?_
 refine vq (q_add rfl rfl rfl) rfl ?_
 refine va rfl rfl ?_
 refine va rfl rfl (simL_nil (nrm_then (sim_rtn ?_)))
 refine rtn_block ?_
 refine rtn_block ?_
 refine rtn_then ?_
 refine rtn_loop ?_
 refine rtn_block ?_
 refine rtn_cutR ?_
 exact rtn_fn () rfl rfl rfl (.sel 1 rfl (.nil _))
 refine sr ?_
 refine vm rfl rfl ?_
 refine simL_bind (fun s13v hs14v => ?_)
 refine simL_eff (re_call (vs := [.int .u8 ((x0.getD s3v.2.toNat 0).toNat : Int)]) (cap := []) (A := []) (rst := [Row 5 1 y4v.1 s3v.1.length y4v.2 (encB s3v.1), F]) rfl rfl rfl rfl rfl rfl Tryd.call41 (.sel 0 rfl (.sel 0 rfl (.nil _))) (text_plain.calls _ _ ((x0.getD s3v.2.toNat 0).toNat : Int) ) hs14v) rfl rfl rfl ?_
 intro y15v
 refine vq (q_not rfl rfl) rfl ?_
 refine va rfl rfl (simL_nil (nrm_then ?_))
 refine sim_condb rfl (fun h16v => ?_) (fun h17v => ?_)
 refine sr ?_
 refine va rfl rfl ?_
 refine va rfl rfl (simL_nil (nrm_then (sim_rtn ?_)))
 refine rtn_block ?_
 refine rtn_block ?_
 refine rtn_then ?_
 refine rtn_loop ?_
 refine rtn_block ?_
 refine rtn_cutR ?_
 exact rtn_fn () rfl rfl rfl (.sel 1 rfl (.nil _))
 refine sr ?_
 refine vm rfl rfl ?_
 refine vq (q_neq rfl rfl rfl) rfl ?_
 refine va rfl rfl (simL_nil (nrm_then ?_))
 refine sim_condn rfl (fun h18v => ?_) (fun h19v => ?_)
 refine sr ?_
 refine vm rfl rfl ?_
 refine simL_bind (fun s20v hs21v => ?_)
 refine simL_eff (re_call (vs := [str (cut x0 (IntKind.i64.wrap (s3v.2 + 1)) (x0.length : Int)), str ([34] : List UInt8)]) (cap := []) (A := []) (rst := [Row 5 1 y4v.1 s3v.1.length y4v.2 (encB s3v.1), F]) rfl rfl rfl rfl rfl rfl Tryd.call62 (.sel 0 rfl (.sel 0 rfl (.nil _))) (strings_HasPrefix.calls _ _ (cut x0 (IntKind.i64.wrap (s3v.2 + 1)) (x0.length : Int)) ([34] : List UInt8) ) hs21v) rfl rfl rfl ?_
 intro y22v
 refine vm rfl rfl ?_
 refine simL_cut' 3 (S := Bool) (Unit) (fun s y => [(0, str x0), (4, .slice y4v.1 s3v.1.length y4v.2), (5, .int .i64 s3v.2), (7, str (cut x0 (IntKind.i64.wrap (s3v.2 + 1)) (x0.length : Int))), (60, .bool s)]) (fun s y => [Row 5 1 y4v.1 s3v.1.length y4v.2 (encB s3v.1), F]) ?_ ?_
 refine simL_caseb (fun hb28v => ?_) (fun hb29v => ?_)
 rw [hb28v]
 refine simL_skipd rfl rfl rfl rfl rfl rfl ?_
 refine simL_skipd rfl rfl rfl rfl rfl rfl ?_
 refine vq (q_pick rfl rfl rfl rfl rfl) rfl (simL_nil ?_)
 exact nrm_cut (s := true) () ⟨rfl, rfl, rfl, rfl, rfl, trivial⟩ (.sel 0 rfl (.sel 0 rfl (.nil _)))
 rw [hb29v]
 refine simL_valg (q_move rfl rfl) rfl rfl rfl rfl rfl rfl ?_
 refine simL_bind (fun s25v hs26v => ?_)
 refine simL_effg (re_call (vs := [str (cut x0 (IntKind.i64.wrap (s3v.2 + 1)) (x0.length : Int)), str ([92] : List UInt8)]) (cap := []) (A := []) (rst := [Row 5 1 y4v.1 s3v.1.length y4v.2 (encB s3v.1), F]) rfl rfl rfl rfl rfl rfl Tryd.call62 (.sel 0 rfl (.sel 0 rfl (.nil _))) (strings_HasPrefix.calls _ _ (cut x0 (IntKind.i64.wrap (s3v.2 + 1)) (x0.length : Int)) ([92] : List UInt8) ) hs26v) rfl rfl rfl rfl rfl rfl ?_
 intro y27v
 refine vq (q_pick rfl rfl rfl rfl rfl) rfl (simL_nil ?_)
 exact nrm_cut (s := s25v) () ⟨rfl, rfl, rfl, rfl, rfl, trivial⟩ (.sel 0 rfl (.sel 0 rfl (.nil _)))
 intro s23v y24v
 refine va rfl rfl (simL_nil (nrm_then ?_))
 refine sim_condb rfl (fun h30v => ?_) (fun h31v => ?_)
 refine sr ?_
 refine vm rfl rfl ?_
 refine vm rfl rfl ?_
 refine simL_ask (fun hi32v => ?_)
 refine vq (q_sidx rfl rfl rfl Tryd.underlying9 hi32v.1 hi32v.2) rfl ?_
 refine simL_eff (re_litb (cs := [.int .u8 (((cut x0 (IntKind.i64.wrap (s3v.2 + 1)) (x0.length : Int)).getD (0 : Int).toNat 0).toNat : Int)]) ([((cut x0 (IntKind.i64.wrap (s3v.2 + 1)) (x0.length : Int)).getD (0 : Int).toNat 0)] : List UInt8) rfl rfl Tryd.underlying93 elt5 rfl (by kernel_rfl) rfl rfl rfl) rfl rfl rfl ?_
 intro b33v
 refine simL_ask (fun hb36v => ?_)
 refine simL_eff (re_appendb 1 rfl rfl rfl Tryd.underlying93 elt5 rfl (Rds.row 0 rfl) hb36v) rfl rfl rfl ?_
 intro y35v
 refine va rfl rfl (ny ?_)
 refine vm rfl rfl ?_
 refine vq (q_add rfl rfl rfl) rfl ?_
 refine va rfl rfl (simL_nil (nrm_block (nrm_block (nrm_then (sim_region ?_)))))
 refine vm rfl rfl ?_
 refine vq (q_add rfl rfl rfl) rfl ?_
 refine va rfl rfl (simL_nil ?_)
 exact nrm_again (s := (s3v.1 ++ ([((cut x0 (IntKind.i64.wrap (s3v.2 + 1)) (x0.length : Int)).getD (0 : Int).toNat 0)] : List UInt8), IntKind.i64.wrap ((IntKind.i64.wrap (s3v.2 + 1)) + 1))) (y35v.1, y35v.2) ⟨rfl, rfl, rfl, trivial⟩ (.sel 1 rfl (.sel 1 rfl (.nil _)))
 refine sr ?_
 refine vm rfl rfl ?_
 refine simL_bind (fun s37v hs38v => ?_)
 refine simL_eff (re_call (vs := [str (cut x0 (IntKind.i64.wrap (s3v.2 + 1)) (x0.length : Int))]) (cap := []) (A := []) (rst := [Row 5 1 y4v.1 s3v.1.length y4v.2 (encB s3v.1), F]) rfl rfl rfl rfl rfl rfl Tryd.call63 (.sel 0 rfl (.sel 0 rfl (.nil _))) (text_escaped.calls _ _ (cut x0 (IntKind.i64.wrap (s3v.2 + 1)) (x0.length : Int)) ) hs38v) rfl rfl rfl ?_
 intro y39v
 refine vm rfl rfl ?_
 refine vq (q_ext rfl rfl rfl) rfl ?_
 refine vq (q_ext rfl rfl rfl) rfl ?_
 refine va rfl rfl ?_
 refine va rfl rfl (simL_nil (nrm_then (sim_seq (sr ?_))))
 refine vm rfl rfl ?_
 refine vq (q_not rfl rfl) rfl (simL_nil (nrm_then ?_))
 refine sim_condb rfl (fun h40v => ?_) (fun h41v => ?_)
 refine sr ?_
 refine va rfl rfl ?_
 refine va rfl rfl (simL_nil (nrm_then (sim_rtn ?_)))
 refine rtn_then ?_
 refine rtn_block ?_
 refine rtn_block ?_
 refine rtn_then ?_
 refine rtn_loop ?_
 refine rtn_block ?_
 refine rtn_cutR ?_
 exact rtn_fn () rfl rfl rfl (.sel 1 rfl (.nil _))
 refine sim_skip ?_
 refine nrm_then (sr ?_)
 refine vm rfl rfl ?_
 refine vm rfl rfl ?_
 refine simL_ask (fun hb43v => ?_)
 refine simL_eff (re_litb (cs := [.int .u8 s37v.1]) ([(byte s37v.1)] : List UInt8) rfl rfl Tryd.underlying93 elt5 rfl (by kernel_rfl) rfl rfl (byte_lit1 hb43v)) rfl rfl rfl ?_
 intro b42v
 refine simL_ask (fun hb45v => ?_)
 refine simL_eff (re_appendb 1 rfl rfl rfl Tryd.underlying93 elt5 rfl (Rds.row 0 rfl) hb45v) rfl rfl rfl ?_
 intro y44v
 refine va rfl rfl (ny ?_)
 refine vm rfl rfl ?_
 refine vq (q_add rfl rfl rfl) rfl ?_
 refine va rfl rfl (simL_nil (nrm_block (nrm_block (nrm_then (sim_region ?_)))))
 refine vm rfl rfl ?_
 refine vq (q_add rfl rfl rfl) rfl ?_
 refine va rfl rfl (simL_nil ?_)
 exact nrm_again (s := (s3v.1 ++ ([(byte s37v.1)] : List UInt8), IntKind.i64.wrap ((IntKind.i64.wrap (s3v.2 + 3)) + 1))) (y44v.1, y44v.2) ⟨rfl, rfl, rfl, trivial⟩ (.sel 1 rfl (.sel 1 rfl (.nil _)))
 refine sim_region ?_
 refine vm rfl rfl ?_
 refine vm rfl rfl ?_
 refine simL_eff (re_litb (cs := [.int .u8 ((x0.getD s3v.2.toNat 0).toNat : Int)]) ([(x0.getD s3v.2.toNat 0)] : List UInt8) rfl rfl Tryd.underlying93 elt5 rfl (by kernel_rfl) rfl rfl rfl) rfl rfl rfl ?_
 intro b46v
 refine simL_ask (fun hb49v => ?_)
 refine simL_eff (re_appendb 1 rfl rfl rfl Tryd.underlying93 elt5 rfl (Rds.row 0 rfl) hb49v) rfl rfl rfl ?_
 intro y48v
 refine va rfl rfl (simL_nil (nrm_block (nrm_block (nrm_then (sim_region ?_)))))
 refine vm rfl rfl ?_
 refine vq (q_add rfl rfl rfl) rfl ?_
 refine va rfl rfl (simL_nil ?_)
 exact nrm_again (s := (s3v.1 ++ ([(x0.getD s3v.2.toNat 0)] : List UInt8), IntKind.i64.wrap (s3v.2 + 1))) (y48v.1, y48v.2) ⟨rfl, rfl, rfl, trivial⟩ (.sel 1 rfl (.sel 1 rfl (.nil _)))
 refine sim_exi ?_
 refine exi_then ?_
 refine exi_loop ?_
 refine exi_here ?_
 exact nrm_cutR (s := ()) () trivial (.sel 1 rfl (.nil _))
 intro s1v y2v
 refine sr ?_
 refine va rfl rfl ?_
 refine va rfl rfl (simL_nil (nrm_then (sim_rtn ?_)))
 exact rtn_fn () rfl rfl rfl (.sel 0 rfl (.nil _))

def text_bare.f (x0 : Int) : Option (Bool) := (text_plain.f x0).bind fun s1v => (some ((s1v && (!decide (x0 = (32 : Int)))) && (!decide (x0 = (34 : Int)))))
theorem text_bare.calls (W : World) (F : HA) (x0 : Int)  :
    Fn Tryd.prog W 38 [.int .u8 x0] [] F (text_bare.f x0) (fun (r : Bool) (y : Unit) => .bool r) (fun r y => []) := by
 unfold text_bare.f
 refine fn_intro 13 Tryd.func38 rfl Tryd.ntmps38 rfl ?_
 refine sr ?_
 refine va rfl rfl (nx ?_)
 refine vm rfl rfl ?_
 refine simL_bind (fun s1v hs2v => ?_)
 refine simL_eff (re_call (vs := [.int .u8 x0]) (cap := []) (A := []) (rst := [F]) rfl rfl rfl rfl rfl rfl Tryd.call41 (.sel 0 rfl (.nil _)) (text_plain.calls _ _ x0 ) hs2v) rfl rfl rfl ?_
 intro y3v
 refine vm rfl rfl ?_
 refine simL_valc (b := s1v) (fun hb7v => RQ.sub (E' := [(0, .int .u8 x0)]) ⟨rfl, trivial⟩ (q_move rfl rfl)) rfl rfl rfl rfl rfl ?_
 refine simL_valc (b := s1v) (fun hb6v => RQ.sub (E' := [(6, .int .u8 x0)]) ⟨lk_cv rfl hb6v, trivial⟩ (q_neq rfl rfl rfl)) rfl rfl rfl rfl rfl ?_
 refine vq (q_and rfl rfl rfl) rfl ?_
 refine vm rfl rfl ?_
 refine simL_valc (b := s1v && (!decide (x0 = (32 : Int)))) (fun hb5v => RQ.sub (E' := [(0, .int .u8 x0)]) ⟨rfl, trivial⟩ (q_move rfl rfl)) rfl rfl rfl rfl rfl ?_
 refine simL_valc (b := s1v && (!decide (x0 = (32 : Int)))) (fun hb4v => RQ.sub (E' := [(10, .int .u8 x0)]) ⟨lk_cv rfl hb4v, trivial⟩ (q_neq rfl rfl rfl)) rfl rfl rfl rfl rfl ?_
 refine vq (q_and rfl rfl rfl) rfl ?_
 refine va rfl rfl (simL_nil (nrm_then (sim_rtn ?_)))
 exact rtn_fn () rfl rfl rfl (.sel 0 rfl (.nil _))

def text_Words.l1 (x0 : List UInt8) : Nat → Int → Option (Int)
  | 0, _ => none
  | k + 1, z44v => (if z44v < (x0.length : Int) then (if 0 ≤ z44v ∧ z44v < (x0.length : Int) then ((text_bare.f ((x0.getD z44v.toNat 0).toNat : Int)).bind fun s48v => (some s48v)) else none) else (some false)).bind fun s45v => (if s45v = true then (text_Words.l1 x0 k (IntKind.i64.wrap (z44v + 1))) else (some z44v))
def text_Words.l0 (x0 : List UInt8) : Nat → List (List UInt8) → Int → Option ((List (List UInt8)) ⊕ (List (List UInt8) × Int))
  | 0, _, _ => none
  | k + 1, z7v, z8v => if z8v < (x0.length : Int) then (if 0 ≤ z8v ∧ z8v < (x0.length : Int) then (if ((x0.getD z8v.toNat 0).toNat : Int) = (32 : Int) then (text_Words.l0 x0 k z7v (IntKind.i64.wrap (z8v + 1))) else (if 0 ≤ z8v ∧ z8v < (x0.length : Int) then (if ((x0.getD z8v.toNat 0).toNat : Int) = (34 : Int) then (if 0 ≤ IntKind.i64.wrap (z8v + 1) ∧ IntKind.i64.wrap (z8v + 1) ≤ (x0.length : Int) ∧ (x0.length : Int) ≤ (x0.length : Int) then ((text_quoted.f k (cut x0 (IntKind.i64.wrap (z8v + 1)) (x0.length : Int))).bind fun s18v => ((if s18v.2 = (0 : Int) then (some true) else ((if IntKind.i64.wrap (z8v + (IntKind.i64.wrap (1 + s18v.2))) < (x0.length : Int) then (if 0 ≤ IntKind.i64.wrap (z8v + (IntKind.i64.wrap (1 + s18v.2))) ∧ IntKind.i64.wrap (z8v + (IntKind.i64.wrap (1 + s18v.2))) < (x0.length : Int) then (some (true, true, !decide (((x0.getD (IntKind.i64.wrap (z8v + (IntKind.i64.wrap (1 + s18v.2)))).toNat 0).toNat : Int) = (32 : Int)))) else none) else (some (false, false, false))).bind fun s23v => (some s23v.2.2))).bind fun s21v => (if s21v = true then (some (.inr (([] : List (List UInt8)), 4))) else (if (z7v.length + ([s18v.1] : List (List UInt8)).length) * 16 ≤ 140737488355328 then (text_Words.l0 x0 k (z7v ++ ([s18v.1] : List (List UInt8))) (IntKind.i64.wrap (z8v + (IntKind.i64.wrap (1 + s18v.2))))) else none)))) else none) else ((text_Words.l1 x0 k z8v).bind fun s40v => ((if s40v < (x0.length : Int) then (if 0 ≤ s40v ∧ s40v < (x0.length : Int) then (some (!decide (((x0.getD s40v.toNat 0).toNat : Int) = (32 : Int)))) else none) else (some false)).bind fun s55v => (if s55v = true then (some (.inr (([] : List (List UInt8)), 4))) else (if 0 ≤ z8v ∧ z8v ≤ s40v ∧ s40v ≤ (x0.length : Int) then (if (z7v.length + ([cut x0 z8v s40v] : List (List UInt8)).length) * 16 ≤ 140737488355328 then (text_Words.l0 x0 k (z7v ++ ([cut x0 z8v s40v] : List (List UInt8))) s40v) else none) else none))))) else none)) else none) else (some (.inl z7v))
def text_Words.f (k : Nat) (x0 : List UInt8) : Option (List (List UInt8) × Int) := if (4096 : Int) < (x0.length : Int) then (some (([] : List (List UInt8)), 3)) else (orR (text_Words.l0 x0 k ([] : List (List UInt8)) 0) fun s3v => (some (s3v, 0)))
theorem text_Words.calls (W : World) (F : HA) (k : Nat) (x0 : List UInt8)  :
    Fn Tryd.prog W 12 [str x0] [] F (text_Words.f k x0) (fun (r : List (List UInt8) × Int) (y : Option Addr × Nat) => .tuple #[.slice y.1 r.1.length y.2, .int .i64 r.2]) (fun r y => [RowV 9 1 (V9 tt) y.1 r.1 y.2]) := by
 unfold text_Words.f
 refine fn_intro 87 Tryd.func12 rfl Tryd.ntmps12 rfl ?_
 refine sr ?_
 refine va rfl rfl ?_
 refine va rfl rfl (simL_nil (nrm_then (sim_seq (sr ?_))))
 refine vm rfl rfl ?_
 refine vq (q_lens rfl rfl rfl Tryd.underlying9) rfl ?_
 refine vq (q_gtr rfl rfl rfl) rfl (simL_nil (nrm_then ?_))
 refine sim_cond rfl (fun h1v => ?_) (fun h2v => ?_)
 refine sr ?_
 refine va rfl rfl ?_
 refine va rfl rfl (simL_nil (nrm_then (sim_rtn ?_)))
 refine rtn_then ?_
 exact rtn_fn (none, 0) rfl rfl rfl (.rowV_nil (.sel 0 rfl (.nil _)))
 refine sim_skip ?_
 refine nrm_then (sr ?_)
 refine va rfl rfl (simL_nil (nrm_then ?_))
 refine sim_cutR (S := List (List UInt8)) (Option Addr × Nat) (fun s y => [(4, .slice y.1 s.length y.2)]) (fun s y => [RowV 9 1 (V9 tt) y.1 s y.2, F]) ?_ ?_
 refine sr ?_
 refine va rfl rfl (simL_nil (nrm_then ?_))
 refine sim_block ?_
 refine sim_loop (S := List (List UInt8) × Int) (Option Addr × Nat) (fun k s => text_Words.l0 x0 k s.1 s.2) (fun s y => [(0, str x0), (4, .slice y.1 s.1.length y.2), (5, .int .i64 s.2)]) (fun s y => [RowV 9 1 (V9 tt) y.1 s.1 y.2, F]) (fun _ => by rw [text_Words.l0]) ?_ k (([] : List (List UInt8)), 0) (none, 0) ⟨rfl, rfl, rfl, trivial⟩ (.rowV_nil (.sel 0 rfl (.nil _)))
 intro k s5v y6v
 refine sim_eq (by rw [text_Words.l0]) ?_
 refine sim_seq (sr ?_)
 refine vm rfl rfl ?_
 refine vm rfl rfl ?_
 refine vq (q_lens rfl rfl rfl Tryd.underlying9) rfl ?_
 refine vq (q_lss rfl rfl rfl) rfl (simL_nil (nrm_then ?_))
 refine sim_cond rfl (fun h9v => ?_) (fun h10v => ?_)
 refine sim_skip ?_
 refine nrm_then ?_
 refine sim_block ?_
 refine sim_seq (sr ?_)
 refine vm rfl rfl ?_
 refine vm rfl rfl ?_
 refine simL_ask (fun hi11v => ?_)
 refine vq (q_sidx rfl rfl rfl Tryd.underlying9 hi11v.1 hi11v.2) rfl ?_
 refine vq (q_eql rfl rfl rfl) rfl (simL_nil (nrm_then ?_))
 refine sim_cond rfl (fun h12v => ?_) (fun h13v => ?_)
 refine sr ?_
 refine vm rfl rfl ?_
 refine vq (q_add rfl rfl rfl) rfl ?_
 refine va rfl rfl (simL_nil (nrm_then ?_))
 refine sim_exi ?_
 refine exi_then ?_
 refine exi_here ?_
 exact nrm_again (s := (s5v.1, IntKind.i64.wrap (s5v.2 + 1))) (y6v.1, y6v.2) ⟨rfl, rfl, rfl, trivial⟩ (.sel 0 rfl (.sel 0 rfl (.nil _)))
 refine sim_skip ?_
 refine nrm_then (sim_seq (sr ?_))
 refine vm rfl rfl ?_
 refine vm rfl rfl ?_
 refine simL_ask (fun hi14v => ?_)
 refine vq (q_sidx rfl rfl rfl Tryd.underlying9 hi14v.1 hi14v.2) rfl ?_
 refine vq (q_eql rfl rfl rfl) rfl (simL_nil (nrm_then ?_))
 refine sim_cond rfl (fun h15v => ?_) (fun h16v => ?_)
 refine sr ?_
 refine vm rfl rfl ?_
 refine vm rfl rfl ?_
 refine vq (q_add rfl rfl rfl) rfl ?_
 refine simL_ask (fun hb17v => ?_)
 refine vq (q_cutS (lo' := IntKind.i64.wrap (s5v.2 + 1)) (hi' := (x0.length : Int)) rfl rfl rfl rfl Tryd.underlying9 (.inl ⟨rfl, rfl⟩) (.inr ⟨_, rfl⟩) hb17v) rfl ?_
 refine simL_bind (fun s18v hs19v => ?_)
 refine simL_eff (re_call (vs := [str (cut x0 (IntKind.i64.wrap (s5v.2 + 1)) (x0.length : Int))]) (cap := []) (A := []) (rst := [RowV 9 1 (V9 tt) y6v.1 s5v.1 y6v.2, F]) rfl rfl rfl rfl rfl rfl Tryd.call37 (.sel 0 rfl (.sel 0 rfl (.nil _))) (text_quoted.calls _ _ k (cut x0 (IntKind.i64.wrap (s5v.2 + 1)) (x0.length : Int)) ) hs19v) rfl rfl rfl ?_
 intro y20v
 refine vm rfl rfl ?_
 refine vq (q_ext rfl rfl rfl) rfl ?_
 refine vq (q_ext rfl rfl rfl) rfl ?_
 refine va rfl rfl ?_
 refine va rfl rfl (nx ?_)
 refine vm rfl rfl ?_
 refine vm rfl rfl ?_
 refine vq (q_add rfl rfl rfl) rfl ?_
 refine vq (q_add rfl rfl rfl) rfl ?_
 refine va rfl rfl (simL_nil (nrm_then (sim_seq (sr ?_))))
 refine vm rfl rfl ?_
 refine vq (q_eql rfl rfl rfl) rfl ?_
 refine vm rfl rfl ?_
 refine simL_cut' 11 (S := Bool) (Unit) (fun s y => [(0, str x0), (4, .slice y6v.1 s5v.1.length y6v.2), (5, .int .i64 (IntKind.i64.wrap (s5v.2 + (IntKind.i64.wrap (1 + s18v.2))))), (6, str s18v.1), (51, .bool s)]) (fun s y => [RowV 9 1 (V9 tt) y6v.1 s5v.1 y6v.2, F]) ?_ ?_
 refine simL_casep (fun hb28v => ?_) (fun hb29v => ?_)
 rw [hb28v]
 refine simL_skipd rfl rfl rfl rfl rfl rfl ?_
 refine simL_skipd rfl rfl rfl rfl rfl rfl ?_
 refine simL_skipd rfl rfl rfl rfl rfl rfl ?_
 refine simL_skipd rfl rfl rfl rfl rfl rfl ?_
 refine simL_skipd rfl rfl rfl rfl rfl rfl ?_
 refine simL_skipu rfl rfl rfl rfl rfl ?_
 refine simL_skipu rfl rfl rfl rfl rfl ?_
 refine simL_skipu rfl rfl rfl rfl rfl ?_
 refine simL_skipu rfl rfl rfl rfl rfl ?_
 refine simL_skipd rfl rfl rfl rfl rfl rfl ?_
 refine vq (q_pick rfl rfl rfl rfl rfl) rfl (simL_nil ?_)
 exact nrm_cut (s := true) () ⟨rfl, rfl, rfl, rfl, rfl, trivial⟩ (.sel 0 rfl (.sel 0 rfl (.nil _)))
 rw [hb29v]
 refine simL_valg (q_move rfl rfl) rfl rfl rfl rfl rfl rfl ?_
 refine simL_valg (q_move rfl rfl) rfl rfl rfl rfl rfl rfl ?_
 refine simL_valg (q_lens rfl rfl rfl Tryd.underlying9) rfl rfl rfl rfl rfl rfl ?_
 refine simL_valg (q_lss rfl rfl rfl) rfl rfl rfl rfl rfl rfl ?_
 refine simL_valg (q_move rfl rfl) rfl rfl rfl rfl rfl rfl ?_
 refine simL_cut' 5 (S := Bool × Bool × Bool) (Unit) (fun s y => [(0, str x0), (4, .slice y6v.1 s5v.1.length y6v.2), (5, .int .i64 (IntKind.i64.wrap (s5v.2 + (IntKind.i64.wrap (1 + s18v.2))))), (6, str s18v.1), (40, .bool false), (41, .int .i64 (IntKind.i64.wrap (s5v.2 + (IntKind.i64.wrap (1 + s18v.2))))), (42, str x0), (43, .int .i64 (x0.length : Int)), (44, .bool s.1), (45, .bool s.2.1), (50, .bool s.2.2)]) (fun s y => [RowV 9 1 (V9 tt) y6v.1 s5v.1 y6v.2, F]) ?_ ?_
 refine simL_casep (fun hb26v => ?_) (fun hb27v => ?_)
 rw [hb26v]
 refine simL_valg (q_move rfl rfl) rfl rfl rfl rfl rfl rfl ?_
 refine simL_valg (q_move rfl rfl) rfl rfl rfl rfl rfl rfl ?_
 refine simL_ask (fun hi25v => ?_)
 refine simL_valg (q_sidx rfl rfl rfl Tryd.underlying9 hi25v.1 hi25v.2) rfl rfl rfl rfl rfl rfl ?_
 refine simL_valg (q_neq rfl rfl rfl) rfl rfl rfl rfl rfl rfl ?_
 refine simL_valg (q_pick rfl rfl rfl rfl rfl) rfl rfl rfl rfl rfl rfl ?_
 refine simL_nil ?_
 exact nrm_cut (s := (true, true, !decide (((x0.getD (IntKind.i64.wrap (s5v.2 + (IntKind.i64.wrap (1 + s18v.2)))).toNat 0).toNat : Int) = (32 : Int)))) () ⟨rfl, rfl, rfl, rfl, rfl, rfl, rfl, rfl, rfl, rfl, rfl, trivial⟩ (.sel 0 rfl (.sel 0 rfl (.nil _)))
 rw [hb27v]
 refine simL_skipd rfl rfl rfl rfl rfl rfl ?_
 refine simL_skipd rfl rfl rfl rfl rfl rfl ?_
 refine simL_skipd rfl rfl rfl rfl rfl rfl ?_
 refine simL_skipd rfl rfl rfl rfl rfl rfl ?_
 refine simL_valg (q_pick rfl rfl rfl rfl rfl) rfl rfl rfl rfl rfl rfl ?_
 refine simL_nil ?_
 exact nrm_cut (s := (false, false, false)) () ⟨rfl, rfl, rfl, rfl, rfl, rfl, rfl, rfl, rfl, rfl, rfl, trivial⟩ (.sel 0 rfl (.sel 0 rfl (.nil _)))
 intro s23v y24v
 refine vq (q_pick rfl rfl rfl rfl rfl) rfl (simL_nil ?_)
 exact nrm_cut (s := s23v.2.2) () ⟨rfl, rfl, rfl, rfl, rfl, trivial⟩ (.sel 0 rfl (.sel 0 rfl (.nil _)))
 intro s21v y22v
 refine simL_nil (nrm_then ?_)
 refine sim_condb rfl (fun h30v => ?_) (fun h31v => ?_)
 refine sr ?_
 refine va rfl rfl ?_
 refine va rfl rfl (simL_nil (nrm_then (sim_rtn ?_)))
 refine rtn_then ?_
 refine rtn_then ?_
 refine rtn_block ?_
 refine rtn_loop ?_
 refine rtn_block ?_
 refine rtn_cutR ?_
 exact rtn_fn (none, 0) rfl rfl rfl (.rowV_nil (.sel 1 rfl (.nil _)))
 refine sim_skip ?_
 refine nrm_then (sr ?_)
 refine vm rfl rfl ?_
 refine vm rfl rfl ?_
 have hlb33v : ListV 1 (V9 tt) ([s18v.1] : List (List UInt8)) [[str s18v.1]] := ⟨⟨rfl, one_of (by rfl), rfl⟩, trivial⟩
 refine simL_eff (re_litV (V := (V9 tt)) (xs := ([s18v.1] : List (List UInt8))) [[str s18v.1]] rfl rfl Tryd.underlying23 elt9 rfl (by kernel_rfl) rfl hlb33v rfl rfl) rfl rfl rfl ?_
 intro b33v
 refine simL_openV 1 rfl (fun rs38v hl39v => ?_)
 refine simL_ask (fun hb37v => ?_)
 refine simL_eff (re_appendV 1 rfl rfl rfl Tryd.underlying23 elt9 rfl hl39v (RdsV.row hlb33v 0 rfl) hb37v) rfl rfl rfl ?_
 intro y36v
 refine va rfl rfl (simL_nil (nrm_then ?_))
 refine sim_exi ?_
 refine exi_then ?_
 refine exi_here ?_
 exact nrm_again (s := (s5v.1 ++ ([s18v.1] : List (List UInt8)), IntKind.i64.wrap (s5v.2 + (IntKind.i64.wrap (1 + s18v.2))))) (y36v.1, y36v.2) ⟨rfl, rfl, rfl, trivial⟩ (.sel 1 rfl (.sel 1 rfl (.nil _)))
 refine sim_skip ?_
 refine nrm_then (sr ?_)
 refine vm rfl rfl ?_
 refine va rfl rfl (simL_nil (nrm_then ?_))
 refine sim_cut (S := Int) (Unit) (fun s y => [(0, str x0), (4, .slice y6v.1 s5v.1.length y6v.2), (5, .int .i64 s), (8, .int .i64 s5v.2)]) (fun s y => [RowV 9 1 (V9 tt) y6v.1 s5v.1 y6v.2, F]) ?_ ?_
 refine sim_block ?_
 refine sim_loop (S := Int) (Unit) (fun k s => text_Words.l1 x0 k s) (fun s y => [(0, str x0), (4, .slice y6v.1 s5v.1.length y6v.2), (5, .int .i64 s), (8, .int .i64 s5v.2)]) (fun s y => [RowV 9 1 (V9 tt) y6v.1 s5v.1 y6v.2, F]) (fun _ => by rw [text_Words.l1]) ?_ k s5v.2 () ⟨rfl, rfl, rfl, rfl, trivial⟩ (.sel 0 rfl (.sel 0 rfl (.nil _)))
 intro k s42v y43v
 refine sim_eq (by rw [text_Words.l1]) ?_
 refine sim_seq (sr ?_)
 refine vm rfl rfl ?_
 refine vm rfl rfl ?_
 refine vq (q_lens rfl rfl rfl Tryd.underlying9) rfl ?_
 refine vq (q_lss rfl rfl rfl) rfl ?_
 refine vm rfl rfl ?_
 refine simL_cut' 5 (S := Bool) (Unit) (fun s y => [(0, str x0), (4, .slice y6v.1 s5v.1.length y6v.2), (5, .int .i64 s42v), (8, .int .i64 s5v.2), (66, .bool s)]) (fun s y => [RowV 9 1 (V9 tt) y6v.1 s5v.1 y6v.2, F]) ?_ ?_
 refine simL_casep (fun hb51v => ?_) (fun hb52v => ?_)
 rw [hb51v]
 refine simL_valg (q_move rfl rfl) rfl rfl rfl rfl rfl rfl ?_
 refine simL_valg (q_move rfl rfl) rfl rfl rfl rfl rfl rfl ?_
 refine simL_ask (fun hi47v => ?_)
 refine simL_valg (q_sidx rfl rfl rfl Tryd.underlying9 hi47v.1 hi47v.2) rfl rfl rfl rfl rfl rfl ?_
 refine simL_bind (fun s48v hs49v => ?_)
 refine simL_effg (re_call (vs := [.int .u8 ((x0.getD s42v.toNat 0).toNat : Int)]) (cap := []) (A := []) (rst := [RowV 9 1 (V9 tt) y6v.1 s5v.1 y6v.2, F]) rfl rfl rfl rfl rfl rfl Tryd.call38 (.sel 0 rfl (.sel 0 rfl (.nil _))) (text_bare.calls _ _ ((x0.getD s42v.toNat 0).toNat : Int) ) hs49v) rfl rfl rfl rfl rfl rfl ?_
 intro y50v
 refine vq (q_pick rfl rfl rfl rfl rfl) rfl (simL_nil ?_)
 exact nrm_cut (s := s48v) () ⟨rfl, rfl, rfl, rfl, rfl, trivial⟩ (.sel 0 rfl (.sel 0 rfl (.nil _)))
 rw [hb52v]
 refine simL_skipd rfl rfl rfl rfl rfl rfl ?_
 refine simL_skipd rfl rfl rfl rfl rfl rfl ?_
 refine simL_skipd rfl rfl rfl rfl rfl rfl ?_
 refine simL_skipd rfl rfl rfl rfl rfl rfl ?_
 refine vq (q_pick rfl rfl rfl rfl rfl) rfl (simL_nil ?_)
 exact nrm_cut (s := false) () ⟨rfl, rfl, rfl, rfl, rfl, trivial⟩ (.sel 0 rfl (.sel 0 rfl (.nil _)))
 intro s45v y46v
 refine simL_nil (nrm_then ?_)
 refine sim_condb rfl (fun h53v => ?_) (fun h54v => ?_)
 refine sim_skip ?_
 refine nrm_then ?_
 refine sim_block ?_
 refine sim_region ?_
 refine vm rfl rfl ?_
 refine vq (q_add rfl rfl rfl) rfl ?_
 refine va rfl rfl (simL_nil (nrm_block ?_))
 exact nrm_again (s := IntKind.i64.wrap (s42v + 1)) () ⟨rfl, rfl, rfl, rfl, trivial⟩ (.sel 0 rfl (.sel 0 rfl (.nil _)))
 refine sim_exi ?_
 refine exi_then ?_
 refine exi_loop ?_
 refine exi_here ?_
 exact nrm_cut (s := s42v) () ⟨rfl, rfl, rfl, rfl, trivial⟩ (.sel 0 rfl (.sel 0 rfl (.nil _)))
 intro s40v y41v
 refine sim_seq (sr ?_)
 refine vm rfl rfl ?_
 refine vm rfl rfl ?_
 refine vq (q_lens rfl rfl rfl Tryd.underlying9) rfl ?_
 refine vq (q_lss rfl rfl rfl) rfl ?_
 refine vm rfl rfl ?_
 refine simL_cut' 5 (S := Bool) (Unit) (fun s y => [(0, str x0), (4, .slice y6v.1 s5v.1.length y6v.2), (5, .int .i64 s40v), (8, .int .i64 s5v.2), (78, .bool s)]) (fun s y => [RowV 9 1 (V9 tt) y6v.1 s5v.1 y6v.2, F]) ?_ ?_
 refine simL_casep (fun hb58v => ?_) (fun hb59v => ?_)
 rw [hb58v]
 refine simL_valg (q_move rfl rfl) rfl rfl rfl rfl rfl rfl ?_
 refine simL_valg (q_move rfl rfl) rfl rfl rfl rfl rfl rfl ?_
 refine simL_ask (fun hi57v => ?_)
 refine simL_valg (q_sidx rfl rfl rfl Tryd.underlying9 hi57v.1 hi57v.2) rfl rfl rfl rfl rfl rfl ?_
 refine simL_valg (q_neq rfl rfl rfl) rfl rfl rfl rfl rfl rfl ?_
 refine vq (q_pick rfl rfl rfl rfl rfl) rfl (simL_nil ?_)
 exact nrm_cut (s := !decide (((x0.getD s40v.toNat 0).toNat : Int) = (32 : Int))) () ⟨rfl, rfl, rfl, rfl, rfl, trivial⟩ (.sel 0 rfl (.sel 0 rfl (.nil _)))
 rw [hb59v]
 refine simL_skipd rfl rfl rfl rfl rfl rfl ?_
 refine simL_skipd rfl rfl rfl rfl rfl rfl ?_
 refine simL_skipd rfl rfl rfl rfl rfl rfl ?_
 refine simL_skipd rfl rfl rfl rfl rfl rfl ?_
 refine vq (q_pick rfl rfl rfl rfl rfl) rfl (simL_nil ?_)
 exact nrm_cut (s := false) () ⟨rfl, rfl, rfl, rfl, rfl, trivial⟩ (.sel 0 rfl (.sel 0 rfl (.nil _)))
 intro s55v y56v
 refine simL_nil (nrm_then ?_)
 refine sim_condb rfl (fun h60v => ?_) (fun h61v => ?_)
 refine sr ?_
 refine va rfl rfl ?_
 refine va rfl rfl (simL_nil (nrm_then (sim_rtn ?_)))
 refine rtn_then ?_
 refine rtn_block ?_
 refine rtn_loop ?_
 refine rtn_block ?_
 refine rtn_cutR ?_
 exact rtn_fn (none, 0) rfl rfl rfl (.rowV_nil (.sel 1 rfl (.nil _)))
 refine sim_skip ?_
 refine nrm_then (sim_region ?_)
 refine vm rfl rfl ?_
 refine vm rfl rfl ?_
 refine vm rfl rfl ?_
 refine vm rfl rfl ?_
 refine simL_ask (fun hb62v => ?_)
 refine vq (q_cutS (lo' := s5v.2) (hi' := s40v) rfl rfl rfl rfl Tryd.underlying9 (.inr ⟨_, rfl⟩) (.inr ⟨_, rfl⟩) hb62v) rfl ?_
 have hlb64v : ListV 1 (V9 tt) ([cut x0 s5v.2 s40v] : List (List UInt8)) [[str (cut x0 s5v.2 s40v)]] := ⟨⟨rfl, one_of (by rfl), rfl⟩, trivial⟩
 refine simL_eff (re_litV (V := (V9 tt)) (xs := ([cut x0 s5v.2 s40v] : List (List UInt8))) [[str (cut x0 s5v.2 s40v)]] rfl rfl Tryd.underlying23 elt9 rfl (by kernel_rfl) rfl hlb64v rfl rfl) rfl rfl rfl ?_
 intro b64v
 refine simL_openV 1 rfl (fun rs69v hl70v => ?_)
 refine simL_ask (fun hb68v => ?_)
 refine simL_eff (re_appendV 1 rfl rfl rfl Tryd.underlying23 elt9 rfl hl70v (RdsV.row hlb64v 0 rfl) hb68v) rfl rfl rfl ?_
 intro y67v
 refine va rfl rfl (simL_nil (nrm_block ?_))
 exact nrm_again (s := (s5v.1 ++ ([cut x0 s5v.2 s40v] : List (List UInt8)), s40v)) (y67v.1, y67v.2) ⟨rfl, rfl, rfl, trivial⟩ (.sel 1 rfl (.sel 1 rfl (.nil _)))
 refine sim_exi ?_
 refine exi_then ?_
 refine exi_loop ?_
 refine exi_here ?_
 exact nrm_cutR (s := s5v.1) (y6v.1, y6v.2) ⟨rfl, trivial⟩ (.sel 0 rfl (.sel 0 rfl (.nil _)))
 intro s3v y4v
 refine sr ?_
 refine vm rfl rfl ?_
 refine va rfl rfl ?_
 refine va rfl rfl (simL_nil (nrm_then (sim_rtn ?_)))
 exact rtn_fn (y4v.1, y4v.2) rfl rfl rfl (.sel 0 rfl (.sel 0 rfl (.nil _)))

def text_lines_1.f (x0_0 : Int) (x0_1 : Int) (x0_2 : Int) (x0_3 : Int) (x0_4 : Int) (x0_5 : Int) (x0_6 : List UInt8) (x0_7 : List UInt8) (x0_8 : List UInt8) : Option (Unit) := some ()
theorem text_lines_1.calls (W : World) (F : HA) (b0 : Nat) (x0_0 : Int) (x0_1 : Int) (x0_2 : Int) (x0_3 : Int) (x0_4 : Int) (x0_5 : Int) (x0_6 : List UInt8) (x0_7 : List UInt8) (x0_8 : List UInt8)  :
    Fn Tryd.prog W 65 [.pointer (some ⟨b0, 0, none⟩)] [obj b0 34 [.int .i64 x0_0, .int .i64 x0_1, .int .i64 x0_2, .int .i64 x0_3, .int .i64 x0_4, .int .i64 x0_5, str x0_6, str x0_7, str x0_8]] F (text_lines_1.f x0_0 x0_1 x0_2 x0_3 x0_4 x0_5 x0_6 x0_7 x0_8) (fun (r : Unit) (y : Unit) => .pointer (some ⟨b0, 1, none⟩)) (fun r y => [obj b0 34 [.int .i64 x0_0, .int .i64 x0_1, .int .i64 x0_2, .int .i64 x0_3, .int .i64 x0_4, .int .i64 x0_5, str x0_6, str x0_7, str x0_8]]) := by
 unfold text_lines_1.f
 refine fn_intro 6 Tryd.func65 rfl Tryd.ntmps65 rfl ?_
 refine sr ?_
 refine va rfl rfl (nx ?_)
 refine vm rfl rfl ?_
 refine vn rfl rfl ?_
 refine vq (q_fa rfl rfl Tryd.underlying34 rfl rfl Tryd.sizeOf3 rfl) rfl ?_
 refine va rfl rfl (simL_nil (nrm_then (sim_rtn ?_)))
 exact rtn_fn () rfl rfl rfl (.sel 0 rfl (.sel 0 rfl (.nil _)))

def text_lines_2.f (x0_0 : Int) (x0_1 : Int) (x0_2 : Int) (x0_3 : Int) (x0_4 : Int) (x0_5 : Int) (x0_6 : List UInt8) (x0_7 : List UInt8) (x0_8 : List UInt8) : Option (Unit) := some ()
theorem text_lines_2.calls (W : World) (F : HA) (b0 : Nat) (x0_0 : Int) (x0_1 : Int) (x0_2 : Int) (x0_3 : Int) (x0_4 : Int) (x0_5 : Int) (x0_6 : List UInt8) (x0_7 : List UInt8) (x0_8 : List UInt8)  :
    Fn Tryd.prog W 66 [.pointer (some ⟨b0, 0, none⟩)] [obj b0 34 [.int .i64 x0_0, .int .i64 x0_1, .int .i64 x0_2, .int .i64 x0_3, .int .i64 x0_4, .int .i64 x0_5, str x0_6, str x0_7, str x0_8]] F (text_lines_2.f x0_0 x0_1 x0_2 x0_3 x0_4 x0_5 x0_6 x0_7 x0_8) (fun (r : Unit) (y : Unit) => .pointer (some ⟨b0, 2, none⟩)) (fun r y => [obj b0 34 [.int .i64 x0_0, .int .i64 x0_1, .int .i64 x0_2, .int .i64 x0_3, .int .i64 x0_4, .int .i64 x0_5, str x0_6, str x0_7, str x0_8]]) := by
 unfold text_lines_2.f
 refine fn_intro 6 Tryd.func66 rfl Tryd.ntmps66 rfl ?_
 refine sr ?_
 refine va rfl rfl (nx ?_)
 refine vm rfl rfl ?_
 refine vn rfl rfl ?_
 refine vq (q_fa rfl rfl Tryd.underlying34 rfl rfl Tryd.sizeOf3 rfl) rfl ?_
 refine va rfl rfl (simL_nil (nrm_then (sim_rtn ?_)))
 exact rtn_fn () rfl rfl rfl (.sel 0 rfl (.sel 0 rfl (.nil _)))

def text_lines_3.f (x0_0 : Int) (x0_1 : Int) (x0_2 : Int) (x0_3 : Int) (x0_4 : Int) (x0_5 : Int) (x0_6 : List UInt8) (x0_7 : List UInt8) (x0_8 : List UInt8) : Option (Unit) := some ()
theorem text_lines_3.calls (W : World) (F : HA) (b0 : Nat) (x0_0 : Int) (x0_1 : Int) (x0_2 : Int) (x0_3 : Int) (x0_4 : Int) (x0_5 : Int) (x0_6 : List UInt8) (x0_7 : List UInt8) (x0_8 : List UInt8)  :
    Fn Tryd.prog W 67 [.pointer (some ⟨b0, 0, none⟩)] [obj b0 34 [.int .i64 x0_0, .int .i64 x0_1, .int .i64 x0_2, .int .i64 x0_3, .int .i64 x0_4, .int .i64 x0_5, str x0_6, str x0_7, str x0_8]] F (text_lines_3.f x0_0 x0_1 x0_2 x0_3 x0_4 x0_5 x0_6 x0_7 x0_8) (fun (r : Unit) (y : Unit) => .pointer (some ⟨b0, 3, none⟩)) (fun r y => [obj b0 34 [.int .i64 x0_0, .int .i64 x0_1, .int .i64 x0_2, .int .i64 x0_3, .int .i64 x0_4, .int .i64 x0_5, str x0_6, str x0_7, str x0_8]]) := by
 unfold text_lines_3.f
 refine fn_intro 6 Tryd.func67 rfl Tryd.ntmps67 rfl ?_
 refine sr ?_
 refine va rfl rfl (nx ?_)
 refine vm rfl rfl ?_
 refine vn rfl rfl ?_
 refine vq (q_fa rfl rfl Tryd.underlying34 rfl rfl Tryd.sizeOf3 rfl) rfl ?_
 refine va rfl rfl (simL_nil (nrm_then (sim_rtn ?_)))
 exact rtn_fn () rfl rfl rfl (.sel 0 rfl (.sel 0 rfl (.nil _)))

def text_lines_4.f (x0_0 : Int) (x0_1 : Int) (x0_2 : Int) (x0_3 : Int) (x0_4 : Int) (x0_5 : Int) (x0_6 : List UInt8) (x0_7 : List UInt8) (x0_8 : List UInt8) : Option (Unit) := some ()
theorem text_lines_4.calls (W : World) (F : HA) (b0 : Nat) (x0_0 : Int) (x0_1 : Int) (x0_2 : Int) (x0_3 : Int) (x0_4 : Int) (x0_5 : Int) (x0_6 : List UInt8) (x0_7 : List UInt8) (x0_8 : List UInt8)  :
    Fn Tryd.prog W 68 [.pointer (some ⟨b0, 0, none⟩)] [obj b0 34 [.int .i64 x0_0, .int .i64 x0_1, .int .i64 x0_2, .int .i64 x0_3, .int .i64 x0_4, .int .i64 x0_5, str x0_6, str x0_7, str x0_8]] F (text_lines_4.f x0_0 x0_1 x0_2 x0_3 x0_4 x0_5 x0_6 x0_7 x0_8) (fun (r : Unit) (y : Unit) => .pointer (some ⟨b0, 4, none⟩)) (fun r y => [obj b0 34 [.int .i64 x0_0, .int .i64 x0_1, .int .i64 x0_2, .int .i64 x0_3, .int .i64 x0_4, .int .i64 x0_5, str x0_6, str x0_7, str x0_8]]) := by
 unfold text_lines_4.f
 refine fn_intro 6 Tryd.func68 rfl Tryd.ntmps68 rfl ?_
 refine sr ?_
 refine va rfl rfl (nx ?_)
 refine vm rfl rfl ?_
 refine vn rfl rfl ?_
 refine vq (q_fa rfl rfl Tryd.underlying34 rfl rfl Tryd.sizeOf3 rfl) rfl ?_
 refine va rfl rfl (simL_nil (nrm_then (sim_rtn ?_)))
 exact rtn_fn () rfl rfl rfl (.sel 0 rfl (.sel 0 rfl (.nil _)))

def text_lines_5.f (x0_0 : Int) (x0_1 : Int) (x0_2 : Int) (x0_3 : Int) (x0_4 : Int) (x0_5 : Int) (x0_6 : List UInt8) (x0_7 : List UInt8) (x0_8 : List UInt8) : Option (Unit) := some ()
theorem text_lines_5.calls (W : World) (F : HA) (b0 : Nat) (x0_0 : Int) (x0_1 : Int) (x0_2 : Int) (x0_3 : Int) (x0_4 : Int) (x0_5 : Int) (x0_6 : List UInt8) (x0_7 : List UInt8) (x0_8 : List UInt8)  :
    Fn Tryd.prog W 69 [.pointer (some ⟨b0, 0, none⟩)] [obj b0 34 [.int .i64 x0_0, .int .i64 x0_1, .int .i64 x0_2, .int .i64 x0_3, .int .i64 x0_4, .int .i64 x0_5, str x0_6, str x0_7, str x0_8]] F (text_lines_5.f x0_0 x0_1 x0_2 x0_3 x0_4 x0_5 x0_6 x0_7 x0_8) (fun (r : Unit) (y : Unit) => .pointer (some ⟨b0, 3, none⟩)) (fun r y => [obj b0 34 [.int .i64 x0_0, .int .i64 x0_1, .int .i64 x0_2, .int .i64 x0_3, .int .i64 x0_4, .int .i64 x0_5, str x0_6, str x0_7, str x0_8]]) := by
 unfold text_lines_5.f
 refine fn_intro 6 Tryd.func69 rfl Tryd.ntmps69 rfl ?_
 refine sr ?_
 refine va rfl rfl (nx ?_)
 refine vm rfl rfl ?_
 refine vn rfl rfl ?_
 refine vq (q_fa rfl rfl Tryd.underlying34 rfl rfl Tryd.sizeOf3 rfl) rfl ?_
 refine va rfl rfl (simL_nil (nrm_then (sim_rtn ?_)))
 exact rtn_fn () rfl rfl rfl (.sel 0 rfl (.sel 0 rfl (.nil _)))

def text_lines_6.f (x0_0 : Int) (x0_1 : Int) (x0_2 : Int) (x0_3 : Int) (x0_4 : Int) (x0_5 : Int) (x0_6 : List UInt8) (x0_7 : List UInt8) (x0_8 : List UInt8) : Option (Unit) := some ()
theorem text_lines_6.calls (W : World) (F : HA) (b0 : Nat) (x0_0 : Int) (x0_1 : Int) (x0_2 : Int) (x0_3 : Int) (x0_4 : Int) (x0_5 : Int) (x0_6 : List UInt8) (x0_7 : List UInt8) (x0_8 : List UInt8)  :
    Fn Tryd.prog W 70 [.pointer (some ⟨b0, 0, none⟩)] [obj b0 34 [.int .i64 x0_0, .int .i64 x0_1, .int .i64 x0_2, .int .i64 x0_3, .int .i64 x0_4, .int .i64 x0_5, str x0_6, str x0_7, str x0_8]] F (text_lines_6.f x0_0 x0_1 x0_2 x0_3 x0_4 x0_5 x0_6 x0_7 x0_8) (fun (r : Unit) (y : Unit) => .pointer (some ⟨b0, 6, none⟩)) (fun r y => [obj b0 34 [.int .i64 x0_0, .int .i64 x0_1, .int .i64 x0_2, .int .i64 x0_3, .int .i64 x0_4, .int .i64 x0_5, str x0_6, str x0_7, str x0_8]]) := by
 unfold text_lines_6.f
 refine fn_intro 6 Tryd.func70 rfl Tryd.ntmps70 rfl ?_
 refine sr ?_
 refine va rfl rfl (nx ?_)
 refine vm rfl rfl ?_
 refine vn rfl rfl ?_
 refine vq (q_fa rfl rfl Tryd.underlying34 rfl rfl Tryd.sizeOf9 rfl) rfl ?_
 refine va rfl rfl (simL_nil (nrm_then (sim_rtn ?_)))
 exact rtn_fn () rfl rfl rfl (.sel 0 rfl (.sel 0 rfl (.nil _)))

def text_lines_7.f (x0_0 : Int) (x0_1 : Int) (x0_2 : Int) (x0_3 : Int) (x0_4 : Int) (x0_5 : Int) (x0_6 : List UInt8) (x0_7 : List UInt8) (x0_8 : List UInt8) : Option (Unit) := some ()
theorem text_lines_7.calls (W : World) (F : HA) (b0 : Nat) (x0_0 : Int) (x0_1 : Int) (x0_2 : Int) (x0_3 : Int) (x0_4 : Int) (x0_5 : Int) (x0_6 : List UInt8) (x0_7 : List UInt8) (x0_8 : List UInt8)  :
    Fn Tryd.prog W 71 [.pointer (some ⟨b0, 0, none⟩)] [obj b0 34 [.int .i64 x0_0, .int .i64 x0_1, .int .i64 x0_2, .int .i64 x0_3, .int .i64 x0_4, .int .i64 x0_5, str x0_6, str x0_7, str x0_8]] F (text_lines_7.f x0_0 x0_1 x0_2 x0_3 x0_4 x0_5 x0_6 x0_7 x0_8) (fun (r : Unit) (y : Unit) => .pointer (some ⟨b0, 7, none⟩)) (fun r y => [obj b0 34 [.int .i64 x0_0, .int .i64 x0_1, .int .i64 x0_2, .int .i64 x0_3, .int .i64 x0_4, .int .i64 x0_5, str x0_6, str x0_7, str x0_8]]) := by
 unfold text_lines_7.f
 refine fn_intro 6 Tryd.func71 rfl Tryd.ntmps71 rfl ?_
 refine sr ?_
 refine va rfl rfl (nx ?_)
 refine vm rfl rfl ?_
 refine vn rfl rfl ?_
 refine vq (q_fa rfl rfl Tryd.underlying34 rfl rfl Tryd.sizeOf9 rfl) rfl ?_
 refine va rfl rfl (simL_nil (nrm_then (sim_rtn ?_)))
 exact rtn_fn () rfl rfl rfl (.sel 0 rfl (.sel 0 rfl (.nil _)))

def text_lines_8.f (x0_0 : Int) (x0_1 : Int) (x0_2 : Int) (x0_3 : Int) (x0_4 : Int) (x0_5 : Int) (x0_6 : List UInt8) (x0_7 : List UInt8) (x0_8 : List UInt8) : Option (Unit) := some ()
theorem text_lines_8.calls (W : World) (F : HA) (b0 : Nat) (x0_0 : Int) (x0_1 : Int) (x0_2 : Int) (x0_3 : Int) (x0_4 : Int) (x0_5 : Int) (x0_6 : List UInt8) (x0_7 : List UInt8) (x0_8 : List UInt8)  :
    Fn Tryd.prog W 72 [.pointer (some ⟨b0, 0, none⟩)] [obj b0 34 [.int .i64 x0_0, .int .i64 x0_1, .int .i64 x0_2, .int .i64 x0_3, .int .i64 x0_4, .int .i64 x0_5, str x0_6, str x0_7, str x0_8]] F (text_lines_8.f x0_0 x0_1 x0_2 x0_3 x0_4 x0_5 x0_6 x0_7 x0_8) (fun (r : Unit) (y : Unit) => .pointer (some ⟨b0, 8, none⟩)) (fun r y => [obj b0 34 [.int .i64 x0_0, .int .i64 x0_1, .int .i64 x0_2, .int .i64 x0_3, .int .i64 x0_4, .int .i64 x0_5, str x0_6, str x0_7, str x0_8]]) := by
 unfold text_lines_8.f
 refine fn_intro 6 Tryd.func72 rfl Tryd.ntmps72 rfl ?_
 refine sr ?_
 refine va rfl rfl (nx ?_)
 refine vm rfl rfl ?_
 refine vn rfl rfl ?_
 refine vq (q_fa rfl rfl Tryd.underlying34 rfl rfl Tryd.sizeOf9 rfl) rfl ?_
 refine va rfl rfl (simL_nil (nrm_then (sim_rtn ?_)))
 exact rtn_fn () rfl rfl rfl (.sel 0 rfl (.sel 0 rfl (.nil _)))

def text_lines_9.f (x0 : Int) : Option (Int × Int × Int × Int × Int × Int × List UInt8 × List UInt8 × List UInt8) := some (x0, 0, 0, 0, 0, 0, ([] : List UInt8), ([] : List UInt8), ([] : List UInt8))
theorem text_lines_9.calls (W : World) (F : HA) (x0 : Int)  :
    Fn Tryd.prog W 73 [.int .i64 x0] [] F (text_lines_9.f x0) (fun (r : Int × Int × Int × Int × Int × Int × List UInt8 × List UInt8 × List UInt8) (y : Unit) => .agg #[.int .i64 r.1, .int .i64 r.2.1, .int .i64 r.2.2.1, .int .i64 r.2.2.2.1, .int .i64 r.2.2.2.2.1, .int .i64 r.2.2.2.2.2.1, str r.2.2.2.2.2.2.1, str r.2.2.2.2.2.2.2.1, str r.2.2.2.2.2.2.2.2]) (fun r y => []) := by
 unfold text_lines_9.f
 refine fn_intro 5 Tryd.func73 rfl Tryd.ntmps73 rfl ?_
 refine sr ?_
 refine simL_eff (re_alloc rfl Tryd.zeroValue34 rfl) rfl rfl rfl ?_
 intro b1v
 refine nx ?_
 refine vm rfl rfl ?_
 refine vq (q_build (v := .agg #[.int .i64 x0, .int .i64 0, .int .i64 0, .int .i64 0, .int .i64 0, .int .i64 0, str ([] : List UInt8), str ([] : List UInt8), str ([] : List UInt8)]) rfl rfl (fun _ => by kernel_rfl)) rfl ?_
 refine simL_do (re_store 0 rfl rfl rfl Tryd.sizeOf34 rfl rfl (one_of (by rfl)) rfl rfl) rfl rfl ?_
 intro _
 refine simL_ent (H' := [obj b1v 34 [.int .i64 x0, .int .i64 0, .int .i64 0, .int .i64 0, .int .i64 0, .int .i64 0, str ([] : List UInt8), str ([] : List UInt8), str ([] : List UInt8)], F]) (Ent.refl _) ?_
 refine simL_nil (nrm_then (sim_rtn ?_))
 exact rtn_fnC (vs := [.agg #[.int .i64 x0, .int .i64 0, .int .i64 0, .int .i64 0, .int .i64 0, .int .i64 0, str ([] : List UInt8), str ([] : List UInt8), str ([] : List UInt8)]]) () rfl ⟨⟨b1v, rfl, load_agg 0 Tryd.isAgg34 Tryd.sizeOf34 rfl rfl⟩, trivial⟩ rfl (.sel 1 rfl (.nil _))
def text_lines_9.v (x0 : Int) : Int × Int × Int × Int × Int × Int × List UInt8 × List UInt8 × List UInt8 := (text_lines_9.f x0).getD (0, 0, 0, 0, 0, 0, [], [], [])
theorem text_lines_9.tot (x0 : Int) : text_lines_9.f x0 = some (text_lines_9.v x0) := by
  have h : ∃ r, text_lines_9.f x0 = some r := by
    unfold text_lines_9.f
    repeat' (first | exact ⟨_, rfl⟩ | split | simp only [Option.bind_some])
  obtain ⟨r, h⟩ := h
  unfold text_lines_9.v
  rw [h]; rfl

def text_lines_10.f (x0 : Int) : Option (Int × Int × Int × Int × Int × Int × List UInt8 × List UInt8 × List UInt8) := some (13, 0, 0, 0, 0, x0, ([] : List UInt8), ([] : List UInt8), ([] : List UInt8))
theorem text_lines_10.calls (W : World) (F : HA) (x0 : Int)  :
    Fn Tryd.prog W 74 [.int .i64 x0] [] F (text_lines_10.f x0) (fun (r : Int × Int × Int × Int × Int × Int × List UInt8 × List UInt8 × List UInt8) (y : Unit) => .agg #[.int .i64 r.1, .int .i64 r.2.1, .int .i64 r.2.2.1, .int .i64 r.2.2.2.1, .int .i64 r.2.2.2.2.1, .int .i64 r.2.2.2.2.2.1, str r.2.2.2.2.2.2.1, str r.2.2.2.2.2.2.2.1, str r.2.2.2.2.2.2.2.2]) (fun r y => []) := by
 unfold text_lines_10.f
 refine fn_intro 5 Tryd.func74 rfl Tryd.ntmps74 rfl ?_
 refine sr ?_
 refine simL_eff (re_alloc rfl Tryd.zeroValue34 rfl) rfl rfl rfl ?_
 intro b1v
 refine nx ?_
 refine vm rfl rfl ?_
 refine vq (q_build (v := .agg #[.int .i64 13, .int .i64 0, .int .i64 0, .int .i64 0, .int .i64 0, .int .i64 x0, str ([] : List UInt8), str ([] : List UInt8), str ([] : List UInt8)]) rfl rfl (fun _ => by kernel_rfl)) rfl ?_
 refine simL_do (re_store 0 rfl rfl rfl Tryd.sizeOf34 rfl rfl (one_of (by rfl)) rfl rfl) rfl rfl ?_
 intro _
 refine simL_ent (H' := [obj b1v 34 [.int .i64 13, .int .i64 0, .int .i64 0, .int .i64 0, .int .i64 0, .int .i64 x0, str ([] : List UInt8), str ([] : List UInt8), str ([] : List UInt8)], F]) (Ent.refl _) ?_
 refine simL_nil (nrm_then (sim_rtn ?_))
 exact rtn_fnC (vs := [.agg #[.int .i64 13, .int .i64 0, .int .i64 0, .int .i64 0, .int .i64 0, .int .i64 x0, str ([] : List UInt8), str ([] : List UInt8), str ([] : List UInt8)]]) () rfl ⟨⟨b1v, rfl, load_agg 0 Tryd.isAgg34 Tryd.sizeOf34 rfl rfl⟩, trivial⟩ rfl (.sel 1 rfl (.nil _))
def text_lines_10.v (x0 : Int) : Int × Int × Int × Int × Int × Int × List UInt8 × List UInt8 × List UInt8 := (text_lines_10.f x0).getD (0, 0, 0, 0, 0, 0, [], [], [])
theorem text_lines_10.tot (x0 : Int) : text_lines_10.f x0 = some (text_lines_10.v x0) := by
  have h : ∃ r, text_lines_10.f x0 = some r := by
    unfold text_lines_10.f
    repeat' (first | exact ⟨_, rfl⟩ | split | simp only [Option.bind_some])
  obtain ⟨r, h⟩ := h
  unfold text_lines_10.v
  rw [h]; rfl

def text_lines.w4x : List (Ty103) := ([((some 65), none, false), ((some 67), none, false)] : List (Ty103))
def text_lines.w4r : List (List Value) := [[.func (.func 65) #[] #[], .nilFunc, .bool false], [.func (.func 67) #[] #[], .nilFunc, .bool false]]

def text_lines.w10x : List (Ty103) := ([((some 65), none, false), ((some 69), none, true)] : List (Ty103))
def text_lines.w10r : List (List Value) := [[.func (.func 65) #[] #[], .nilFunc, .bool false], [.func (.func 69) #[] #[], .nilFunc, .bool true]]

def text_lines.w15x : List (Ty103) := ([((some 67), none, false)] : List (Ty103))
def text_lines.w15r : List (List Value) := [[.func (.func 67) #[] #[], .nilFunc, .bool false]]

def text_lines.w20x : List (Ty103) := ([((some 67), none, false)] : List (Ty103))
def text_lines.w20r : List (List Value) := [[.func (.func 67) #[] #[], .nilFunc, .bool false]]

def text_lines.w25x : List (Ty103) := ([((some 67), none, false)] : List (Ty103))
def text_lines.w25r : List (List Value) := [[.func (.func 67) #[] #[], .nilFunc, .bool false]]

def text_lines.w31x : List (Ty103) := ([((some 67), none, false), ((some 68), none, false)] : List (Ty103))
def text_lines.w31r : List (List Value) := [[.func (.func 67) #[] #[], .nilFunc, .bool false], [.func (.func 68) #[] #[], .nilFunc, .bool false]]

def text_lines.w37x : List (Ty103) := ([((some 67), none, false), ((some 68), none, false)] : List (Ty103))
def text_lines.w37r : List (List Value) := [[.func (.func 67) #[] #[], .nilFunc, .bool false], [.func (.func 68) #[] #[], .nilFunc, .bool false]]

def text_lines.w42x : List (Ty103) := ([((some 65), none, false), ((some 67), none, false)] : List (Ty103))
def text_lines.w42r : List (List Value) := [[.func (.func 65) #[] #[], .nilFunc, .bool false], [.func (.func 67) #[] #[], .nilFunc, .bool false]]

def text_lines.w48x : List (Ty103) := ([((some 65), none, false), ((some 67), none, false)] : List (Ty103))
def text_lines.w48r : List (List Value) := [[.func (.func 65) #[] #[], .nilFunc, .bool false], [.func (.func 67) #[] #[], .nilFunc, .bool false]]

def text_lines.w54x : List (Ty103) := ([((some 65), none, false), ((some 67), none, false)] : List (Ty103))
def text_lines.w54r : List (List Value) := [[.func (.func 65) #[] #[], .nilFunc, .bool false], [.func (.func 67) #[] #[], .nilFunc, .bool false]]

def text_lines.w60x : List (Ty103) := ([((some 65), none, false), ((some 67), none, false)] : List (Ty103))
def text_lines.w60r : List (List Value) := [[.func (.func 65) #[] #[], .nilFunc, .bool false], [.func (.func 67) #[] #[], .nilFunc, .bool false]]

def text_lines.w66x : List (Ty103) := ([((some 65), none, false), ((some 67), none, false)] : List (Ty103))
def text_lines.w66r : List (List Value) := [[.func (.func 65) #[] #[], .nilFunc, .bool false], [.func (.func 67) #[] #[], .nilFunc, .bool false]]

def text_lines.w71x : List (Ty103) := ([((some 65), none, false)] : List (Ty103))
def text_lines.w71r : List (List Value) := [[.func (.func 65) #[] #[], .nilFunc, .bool false]]

def text_lines.w78x : List (Ty103) := ([((some 66), none, false), ((some 65), none, false), (none, (some 70), false)] : List (Ty103))
def text_lines.w78r : List (List Value) := [[.func (.func 66) #[] #[], .nilFunc, .bool false], [.func (.func 65) #[] #[], .nilFunc, .bool false], [.nilFunc, .func (.func 70) #[] #[], .bool false]]

def text_lines.w85x : List (Ty103) := ([((some 66), none, false), ((some 65), none, false), (none, (some 70), false)] : List (Ty103))
def text_lines.w85r : List (List Value) := [[.func (.func 66) #[] #[], .nilFunc, .bool false], [.func (.func 65) #[] #[], .nilFunc, .bool false], [.nilFunc, .func (.func 70) #[] #[], .bool false]]

def text_lines.w93x : List (Ty103) := ([((some 66), none, false), ((some 65), none, false), (none, (some 70), false), (none, (some 71), false)] : List (Ty103))
def text_lines.w93r : List (List Value) := [[.func (.func 66) #[] #[], .nilFunc, .bool false], [.func (.func 65) #[] #[], .nilFunc, .bool false], [.nilFunc, .func (.func 70) #[] #[], .bool false], [.nilFunc, .func (.func 71) #[] #[], .bool false]]

def text_lines.w102x : List (Ty103) := ([((some 66), none, false), ((some 65), none, false), (none, (some 70), false), (none, (some 72), false), (none, (some 71), false)] : List (Ty103))
def text_lines.w102r : List (List Value) := [[.func (.func 66) #[] #[], .nilFunc, .bool false], [.func (.func 65) #[] #[], .nilFunc, .bool false], [.nilFunc, .func (.func 70) #[] #[], .bool false], [.nilFunc, .func (.func 72) #[] #[], .bool false], [.nilFunc, .func (.func 71) #[] #[], .bool false]]

def text_lines.w108x : List (Ty103) := ([((some 66), none, false), ((some 65), none, false)] : List (Ty103))
def text_lines.w108r : List (List Value) := [[.func (.func 66) #[] #[], .nilFunc, .bool false], [.func (.func 65) #[] #[], .nilFunc, .bool false]]

def text_lines.w113x : List (Ty103) := ([((some 66), none, false)] : List (Ty103))
def text_lines.w113r : List (List Value) := [[.func (.func 66) #[] #[], .nilFunc, .bool false]]

def text_lines.w119x : List (Ty103) := ([((some 65), none, false), ((some 67), none, false)] : List (Ty103))
def text_lines.w119r : List (List Value) := [[.func (.func 65) #[] #[], .nilFunc, .bool false], [.func (.func 67) #[] #[], .nilFunc, .bool false]]

def text_lines.w121x : List (List UInt8 × Int × Int × Int × Int × Int × Int × List UInt8 × List UInt8 × List UInt8 × (List (Ty103))) := ([(([116, 105, 99, 107] : List UInt8), (text_lines_9.v (1 : Int)).1, (text_lines_9.v (1 : Int)).2.1, (text_lines_9.v (1 : Int)).2.2.1, (text_lines_9.v (1 : Int)).2.2.2.1, (text_lines_9.v (1 : Int)).2.2.2.2.1, (text_lines_9.v (1 : Int)).2.2.2.2.2.1, (text_lines_9.v (1 : Int)).2.2.2.2.2.2.1, (text_lines_9.v (1 : Int)).2.2.2.2.2.2.2.1, (text_lines_9.v (1 : Int)).2.2.2.2.2.2.2.2, text_lines.w4x), (([112, 105, 99, 107] : List UInt8), (text_lines_9.v (2 : Int)).1, (text_lines_9.v (2 : Int)).2.1, (text_lines_9.v (2 : Int)).2.2.1, (text_lines_9.v (2 : Int)).2.2.2.1, (text_lines_9.v (2 : Int)).2.2.2.2.1, (text_lines_9.v (2 : Int)).2.2.2.2.2.1, (text_lines_9.v (2 : Int)).2.2.2.2.2.2.1, (text_lines_9.v (2 : Int)).2.2.2.2.2.2.2.1, (text_lines_9.v (2 : Int)).2.2.2.2.2.2.2.2, text_lines.w10x), (([100, 101, 108, 105, 118, 101, 114] : List UInt8), (text_lines_9.v (3 : Int)).1, (text_lines_9.v (3 : Int)).2.1, (text_lines_9.v (3 : Int)).2.2.1, (text_lines_9.v (3 : Int)).2.2.2.1, (text_lines_9.v (3 : Int)).2.2.2.2.1, (text_lines_9.v (3 : Int)).2.2.2.2.2.1, (text_lines_9.v (3 : Int)).2.2.2.2.2.2.1, (text_lines_9.v (3 : Int)).2.2.2.2.2.2.2.1, (text_lines_9.v (3 : Int)).2.2.2.2.2.2.2.2, text_lines.w15x), (([100, 114, 111, 112] : List UInt8), (text_lines_9.v (4 : Int)).1, (text_lines_9.v (4 : Int)).2.1, (text_lines_9.v (4 : Int)).2.2.1, (text_lines_9.v (4 : Int)).2.2.2.1, (text_lines_9.v (4 : Int)).2.2.2.2.1, (text_lines_9.v (4 : Int)).2.2.2.2.2.1, (text_lines_9.v (4 : Int)).2.2.2.2.2.2.1, (text_lines_9.v (4 : Int)).2.2.2.2.2.2.2.1, (text_lines_9.v (4 : Int)).2.2.2.2.2.2.2.2, text_lines.w20x), (([99, 111, 112, 121] : List UInt8), (text_lines_9.v (5 : Int)).1, (text_lines_9.v (5 : Int)).2.1, (text_lines_9.v (5 : Int)).2.2.1, (text_lines_9.v (5 : Int)).2.2.2.1, (text_lines_9.v (5 : Int)).2.2.2.2.1, (text_lines_9.v (5 : Int)).2.2.2.2.2.1, (text_lines_9.v (5 : Int)).2.2.2.2.2.2.1, (text_lines_9.v (5 : Int)).2.2.2.2.2.2.2.1, (text_lines_9.v (5 : Int)).2.2.2.2.2.2.2.2, text_lines.w25x), (([115, 112, 111, 105, 108] : List UInt8), (text_lines_9.v (6 : Int)).1, (text_lines_9.v (6 : Int)).2.1, (text_lines_9.v (6 : Int)).2.2.1, (text_lines_9.v (6 : Int)).2.2.2.1, (text_lines_9.v (6 : Int)).2.2.2.2.1, (text_lines_9.v (6 : Int)).2.2.2.2.2.1, (text_lines_9.v (6 : Int)).2.2.2.2.2.2.1, (text_lines_9.v (6 : Int)).2.2.2.2.2.2.2.1, (text_lines_9.v (6 : Int)).2.2.2.2.2.2.2.2, text_lines.w31x), (([109, 111, 118, 101] : List UInt8), (text_lines_9.v (7 : Int)).1, (text_lines_9.v (7 : Int)).2.1, (text_lines_9.v (7 : Int)).2.2.1, (text_lines_9.v (7 : Int)).2.2.2.1, (text_lines_9.v (7 : Int)).2.2.2.2.1, (text_lines_9.v (7 : Int)).2.2.2.2.2.1, (text_lines_9.v (7 : Int)).2.2.2.2.2.2.1, (text_lines_9.v (7 : Int)).2.2.2.2.2.2.2.1, (text_lines_9.v (7 : Int)).2.2.2.2.2.2.2.2, text_lines.w37x), (([108, 105, 110, 107] : List UInt8), (8 : Int), (0 : Int), (0 : Int), (0 : Int), (1 : Int), (0 : Int), ([] : List UInt8), ([] : List UInt8), ([] : List UInt8), text_lines.w42x), (([99, 117, 116] : List UInt8), (text_lines_9.v (8 : Int)).1, (text_lines_9.v (8 : Int)).2.1, (text_lines_9.v (8 : Int)).2.2.1, (text_lines_9.v (8 : Int)).2.2.2.1, (text_lines_9.v (8 : Int)).2.2.2.2.1, (text_lines_9.v (8 : Int)).2.2.2.2.2.1, (text_lines_9.v (8 : Int)).2.2.2.2.2.2.1, (text_lines_9.v (8 : Int)).2.2.2.2.2.2.2.1, (text_lines_9.v (8 : Int)).2.2.2.2.2.2.2.2, text_lines.w48x), (([99, 114, 97, 115, 104] : List UInt8), (text_lines_9.v (9 : Int)).1, (text_lines_9.v (9 : Int)).2.1, (text_lines_9.v (9 : Int)).2.2.1, (text_lines_9.v (9 : Int)).2.2.2.1, (text_lines_9.v (9 : Int)).2.2.2.2.1, (text_lines_9.v (9 : Int)).2.2.2.2.2.1, (text_lines_9.v (9 : Int)).2.2.2.2.2.2.1, (text_lines_9.v (9 : Int)).2.2.2.2.2.2.2.1, (text_lines_9.v (9 : Int)).2.2.2.2.2.2.2.2, text_lines.w54x), (([115, 116, 97, 114, 116] : List UInt8), (text_lines_9.v (10 : Int)).1, (text_lines_9.v (10 : Int)).2.1, (text_lines_9.v (10 : Int)).2.2.1, (text_lines_9.v (10 : Int)).2.2.2.1, (text_lines_9.v (10 : Int)).2.2.2.2.1, (text_lines_9.v (10 : Int)).2.2.2.2.2.1, (text_lines_9.v (10 : Int)).2.2.2.2.2.2.1, (text_lines_9.v (10 : Int)).2.2.2.2.2.2.2.1, (text_lines_9.v (10 : Int)).2.2.2.2.2.2.2.2, text_lines.w60x), (([97, 114, 109] : List UInt8), (text_lines_9.v (12 : Int)).1, (text_lines_9.v (12 : Int)).2.1, (text_lines_9.v (12 : Int)).2.2.1, (text_lines_9.v (12 : Int)).2.2.2.1, (text_lines_9.v (12 : Int)).2.2.2.2.1, (text_lines_9.v (12 : Int)).2.2.2.2.2.1, (text_lines_9.v (12 : Int)).2.2.2.2.2.2.1, (text_lines_9.v (12 : Int)).2.2.2.2.2.2.2.1, (text_lines_9.v (12 : Int)).2.2.2.2.2.2.2.2, text_lines.w66x), (([115, 116, 111, 112] : List UInt8), (text_lines_9.v (11 : Int)).1, (text_lines_9.v (11 : Int)).2.1, (text_lines_9.v (11 : Int)).2.2.1, (text_lines_9.v (11 : Int)).2.2.2.1, (text_lines_9.v (11 : Int)).2.2.2.2.1, (text_lines_9.v (11 : Int)).2.2.2.2.2.1, (text_lines_9.v (11 : Int)).2.2.2.2.2.2.1, (text_lines_9.v (11 : Int)).2.2.2.2.2.2.2.1, (text_lines_9.v (11 : Int)).2.2.2.2.2.2.2.2, text_lines.w71x), (([103, 101, 116] : List UInt8), (text_lines_10.v (1 : Int)).1, (text_lines_10.v (1 : Int)).2.1, (text_lines_10.v (1 : Int)).2.2.1, (text_lines_10.v (1 : Int)).2.2.2.1, (text_lines_10.v (1 : Int)).2.2.2.2.1, (text_lines_10.v (1 : Int)).2.2.2.2.2.1, (text_lines_10.v (1 : Int)).2.2.2.2.2.2.1, (text_lines_10.v (1 : Int)).2.2.2.2.2.2.2.1, (text_lines_10.v (1 : Int)).2.2.2.2.2.2.2.2, text_lines.w78x), (([100, 101, 108, 101, 116, 101] : List UInt8), (text_lines_10.v (3 : Int)).1, (text_lines_10.v (3 : Int)).2.1, (text_lines_10.v (3 : Int)).2.2.1, (text_lines_10.v (3 : Int)).2.2.2.1, (text_lines_10.v (3 : Int)).2.2.2.2.1, (text_lines_10.v (3 : Int)).2.2.2.2.2.1, (text_lines_10.v (3 : Int)).2.2.2.2.2.2.1, (text_lines_10.v (3 : Int)).2.2.2.2.2.2.2.1, (text_lines_10.v (3 : Int)).2.2.2.2.2.2.2.2, text_lines.w85x), (([112, 117, 116] : List UInt8), (text_lines_10.v (2 : Int)).1, (text_lines_10.v (2 : Int)).2.1, (text_lines_10.v (2 : Int)).2.2.1, (text_lines_10.v (2 : Int)).2.2.2.1, (text_lines_10.v (2 : Int)).2.2.2.2.1, (text_lines_10.v (2 : Int)).2.2.2.2.2.1, (text_lines_10.v (2 : Int)).2.2.2.2.2.2.1, (text_lines_10.v (2 : Int)).2.2.2.2.2.2.2.1, (text_lines_10.v (2 : Int)).2.2.2.2.2.2.2.2, text_lines.w93x), (([115, 119, 97, 112] : List UInt8), (text_lines_10.v (4 : Int)).1, (text_lines_10.v (4 : Int)).2.1, (text_lines_10.v (4 : Int)).2.2.1, (text_lines_10.v (4 : Int)).2.2.2.1, (text_lines_10.v (4 : Int)).2.2.2.2.1, (text_lines_10.v (4 : Int)).2.2.2.2.2.1, (text_lines_10.v (4 : Int)).2.2.2.2.2.2.1, (text_lines_10.v (4 : Int)).2.2.2.2.2.2.2.1, (text_lines_10.v (4 : Int)).2.2.2.2.2.2.2.2, text_lines.w102x), (([97, 103, 97, 105, 110] : List UInt8), (text_lines_9.v (14 : Int)).1, (text_lines_9.v (14 : Int)).2.1, (text_lines_9.v (14 : Int)).2.2.1, (text_lines_9.v (14 : Int)).2.2.2.1, (text_lines_9.v (14 : Int)).2.2.2.2.1, (text_lines_9.v (14 : Int)).2.2.2.2.2.1, (text_lines_9.v (14 : Int)).2.2.2.2.2.2.1, (text_lines_9.v (14 : Int)).2.2.2.2.2.2.2.1, (text_lines_9.v (14 : Int)).2.2.2.2.2.2.2.2, text_lines.w108x), (([103, 105, 118, 101] : List UInt8), (text_lines_9.v (15 : Int)).1, (text_lines_9.v (15 : Int)).2.1, (text_lines_9.v (15 : Int)).2.2.1, (text_lines_9.v (15 : Int)).2.2.2.1, (text_lines_9.v (15 : Int)).2.2.2.2.1, (text_lines_9.v (15 : Int)).2.2.2.2.2.1, (text_lines_9.v (15 : Int)).2.2.2.2.2.2.1, (text_lines_9.v (15 : Int)).2.2.2.2.2.2.2.1, (text_lines_9.v (15 : Int)).2.2.2.2.2.2.2.2, text_lines.w113x), (([99, 97, 108, 109] : List UInt8), (text_lines_9.v (16 : Int)).1, (text_lines_9.v (16 : Int)).2.1, (text_lines_9.v (16 : Int)).2.2.1, (text_lines_9.v (16 : Int)).2.2.2.1, (text_lines_9.v (16 : Int)).2.2.2.2.1, (text_lines_9.v (16 : Int)).2.2.2.2.2.1, (text_lines_9.v (16 : Int)).2.2.2.2.2.2.1, (text_lines_9.v (16 : Int)).2.2.2.2.2.2.2.1, (text_lines_9.v (16 : Int)).2.2.2.2.2.2.2.2, text_lines.w119x)] : List (List UInt8 × Int × Int × Int × Int × Int × Int × List UInt8 × List UInt8 × List UInt8 × (List (Ty103))))
def text_lines.w121r (γ : Nat → Nat) : List (List Value) := [[str ([116, 105, 99, 107] : List UInt8), .int .i64 ((text_lines_9.v (1 : Int)).1), .int .i64 ((text_lines_9.v (1 : Int)).2.1), .int .i64 ((text_lines_9.v (1 : Int)).2.2.1), .int .i64 ((text_lines_9.v (1 : Int)).2.2.2.1), .int .i64 ((text_lines_9.v (1 : Int)).2.2.2.2.1), .int .i64 ((text_lines_9.v (1 : Int)).2.2.2.2.2.1), str ((text_lines_9.v (1 : Int)).2.2.2.2.2.2.1), str ((text_lines_9.v (1 : Int)).2.2.2.2.2.2.2.1), str ((text_lines_9.v (1 : Int)).2.2.2.2.2.2.2.2), .slice (some ⟨(γ 4), 0, none⟩) text_lines.w4x.length 2], [str ([112, 105, 99, 107] : List UInt8), .int .i64 ((text_lines_9.v (2 : Int)).1), .int .i64 ((text_lines_9.v (2 : Int)).2.1), .int .i64 ((text_lines_9.v (2 : Int)).2.2.1), .int .i64 ((text_lines_9.v (2 : Int)).2.2.2.1), .int .i64 ((text_lines_9.v (2 : Int)).2.2.2.2.1), .int .i64 ((text_lines_9.v (2 : Int)).2.2.2.2.2.1), str ((text_lines_9.v (2 : Int)).2.2.2.2.2.2.1), str ((text_lines_9.v (2 : Int)).2.2.2.2.2.2.2.1), str ((text_lines_9.v (2 : Int)).2.2.2.2.2.2.2.2), .slice (some ⟨(γ 10), 0, none⟩) text_lines.w10x.length 2], [str ([100, 101, 108, 105, 118, 101, 114] : List UInt8), .int .i64 ((text_lines_9.v (3 : Int)).1), .int .i64 ((text_lines_9.v (3 : Int)).2.1), .int .i64 ((text_lines_9.v (3 : Int)).2.2.1), .int .i64 ((text_lines_9.v (3 : Int)).2.2.2.1), .int .i64 ((text_lines_9.v (3 : Int)).2.2.2.2.1), .int .i64 ((text_lines_9.v (3 : Int)).2.2.2.2.2.1), str ((text_lines_9.v (3 : Int)).2.2.2.2.2.2.1), str ((text_lines_9.v (3 : Int)).2.2.2.2.2.2.2.1), str ((text_lines_9.v (3 : Int)).2.2.2.2.2.2.2.2), .slice (some ⟨(γ 15), 0, none⟩) text_lines.w15x.length 1], [str ([100, 114, 111, 112] : List UInt8), .int .i64 ((text_lines_9.v (4 : Int)).1), .int .i64 ((text_lines_9.v (4 : Int)).2.1), .int .i64 ((text_lines_9.v (4 : Int)).2.2.1), .int .i64 ((text_lines_9.v (4 : Int)).2.2.2.1), .int .i64 ((text_lines_9.v (4 : Int)).2.2.2.2.1), .int .i64 ((text_lines_9.v (4 : Int)).2.2.2.2.2.1), str ((text_lines_9.v (4 : Int)).2.2.2.2.2.2.1), str ((text_lines_9.v (4 : Int)).2.2.2.2.2.2.2.1), str ((text_lines_9.v (4 : Int)).2.2.2.2.2.2.2.2), .slice (some ⟨(γ 20), 0, none⟩) text_lines.w20x.length 1], [str ([99, 111, 112, 121] : List UInt8), .int .i64 ((text_lines_9.v (5 : Int)).1), .int .i64 ((text_lines_9.v (5 : Int)).2.1), .int .i64 ((text_lines_9.v (5 : Int)).2.2.1), .int .i64 ((text_lines_9.v (5 : Int)).2.2.2.1), .int .i64 ((text_lines_9.v (5 : Int)).2.2.2.2.1), .int .i64 ((text_lines_9.v (5 : Int)).2.2.2.2.2.1), str ((text_lines_9.v (5 : Int)).2.2.2.2.2.2.1), str ((text_lines_9.v (5 : Int)).2.2.2.2.2.2.2.1), str ((text_lines_9.v (5 : Int)).2.2.2.2.2.2.2.2), .slice (some ⟨(γ 25), 0, none⟩) text_lines.w25x.length 1], [str ([115, 112, 111, 105, 108] : List UInt8), .int .i64 ((text_lines_9.v (6 : Int)).1), .int .i64 ((text_lines_9.v (6 : Int)).2.1), .int .i64 ((text_lines_9.v (6 : Int)).2.2.1), .int .i64 ((text_lines_9.v (6 : Int)).2.2.2.1), .int .i64 ((text_lines_9.v (6 : Int)).2.2.2.2.1), .int .i64 ((text_lines_9.v (6 : Int)).2.2.2.2.2.1), str ((text_lines_9.v (6 : Int)).2.2.2.2.2.2.1), str ((text_lines_9.v (6 : Int)).2.2.2.2.2.2.2.1), str ((text_lines_9.v (6 : Int)).2.2.2.2.2.2.2.2), .slice (some ⟨(γ 31), 0, none⟩) text_lines.w31x.length 2], [str ([109, 111, 118, 101] : List UInt8), .int .i64 ((text_lines_9.v (7 : Int)).1), .int .i64 ((text_lines_9.v (7 : Int)).2.1), .int .i64 ((text_lines_9.v (7 : Int)).2.2.1), .int .i64 ((text_lines_9.v (7 : Int)).2.2.2.1), .int .i64 ((text_lines_9.v (7 : Int)).2.2.2.2.1), .int .i64 ((text_lines_9.v (7 : Int)).2.2.2.2.2.1), str ((text_lines_9.v (7 : Int)).2.2.2.2.2.2.1), str ((text_lines_9.v (7 : Int)).2.2.2.2.2.2.2.1), str ((text_lines_9.v (7 : Int)).2.2.2.2.2.2.2.2), .slice (some ⟨(γ 37), 0, none⟩) text_lines.w37x.length 2], [str ([108, 105, 110, 107] : List UInt8), .int .i64 8, .int .i64 0, .int .i64 0, .int .i64 0, .int .i64 1, .int .i64 0, str ([] : List UInt8), str ([] : List UInt8), str ([] : List UInt8), .slice (some ⟨(γ 42), 0, none⟩) text_lines.w42x.length 2], [str ([99, 117, 116] : List UInt8), .int .i64 ((text_lines_9.v (8 : Int)).1), .int .i64 ((text_lines_9.v (8 : Int)).2.1), .int .i64 ((text_lines_9.v (8 : Int)).2.2.1), .int .i64 ((text_lines_9.v (8 : Int)).2.2.2.1), .int .i64 ((text_lines_9.v (8 : Int)).2.2.2.2.1), .int .i64 ((text_lines_9.v (8 : Int)).2.2.2.2.2.1), str ((text_lines_9.v (8 : Int)).2.2.2.2.2.2.1), str ((text_lines_9.v (8 : Int)).2.2.2.2.2.2.2.1), str ((text_lines_9.v (8 : Int)).2.2.2.2.2.2.2.2), .slice (some ⟨(γ 48), 0, none⟩) text_lines.w48x.length 2], [str ([99, 114, 97, 115, 104] : List UInt8), .int .i64 ((text_lines_9.v (9 : Int)).1), .int .i64 ((text_lines_9.v (9 : Int)).2.1), .int .i64 ((text_lines_9.v (9 : Int)).2.2.1), .int .i64 ((text_lines_9.v (9 : Int)).2.2.2.1), .int .i64 ((text_lines_9.v (9 : Int)).2.2.2.2.1), .int .i64 ((text_lines_9.v (9 : Int)).2.2.2.2.2.1), str ((text_lines_9.v (9 : Int)).2.2.2.2.2.2.1), str ((text_lines_9.v (9 : Int)).2.2.2.2.2.2.2.1), str ((text_lines_9.v (9 : Int)).2.2.2.2.2.2.2.2), .slice (some ⟨(γ 54), 0, none⟩) text_lines.w54x.length 2], [str ([115, 116, 97, 114, 116] : List UInt8), .int .i64 ((text_lines_9.v (10 : Int)).1), .int .i64 ((text_lines_9.v (10 : Int)).2.1), .int .i64 ((text_lines_9.v (10 : Int)).2.2.1), .int .i64 ((text_lines_9.v (10 : Int)).2.2.2.1), .int .i64 ((text_lines_9.v (10 : Int)).2.2.2.2.1), .int .i64 ((text_lines_9.v (10 : Int)).2.2.2.2.2.1), str ((text_lines_9.v (10 : Int)).2.2.2.2.2.2.1), str ((text_lines_9.v (10 : Int)).2.2.2.2.2.2.2.1), str ((text_lines_9.v (10 : Int)).2.2.2.2.2.2.2.2), .slice (some ⟨(γ 60), 0, none⟩) text_lines.w60x.length 2], [str ([97, 114, 109] : List UInt8), .int .i64 ((text_lines_9.v (12 : Int)).1), .int .i64 ((text_lines_9.v (12 : Int)).2.1), .int .i64 ((text_lines_9.v (12 : Int)).2.2.1), .int .i64 ((text_lines_9.v (12 : Int)).2.2.2.1), .int .i64 ((text_lines_9.v (12 : Int)).2.2.2.2.1), .int .i64 ((text_lines_9.v (12 : Int)).2.2.2.2.2.1), str ((text_lines_9.v (12 : Int)).2.2.2.2.2.2.1), str ((text_lines_9.v (12 : Int)).2.2.2.2.2.2.2.1), str ((text_lines_9.v (12 : Int)).2.2.2.2.2.2.2.2), .slice (some ⟨(γ 66), 0, none⟩) text_lines.w66x.length 2], [str ([115, 116, 111, 112] : List UInt8), .int .i64 ((text_lines_9.v (11 : Int)).1), .int .i64 ((text_lines_9.v (11 : Int)).2.1), .int .i64 ((text_lines_9.v (11 : Int)).2.2.1), .int .i64 ((text_lines_9.v (11 : Int)).2.2.2.1), .int .i64 ((text_lines_9.v (11 : Int)).2.2.2.2.1), .int .i64 ((text_lines_9.v (11 : Int)).2.2.2.2.2.1), str ((text_lines_9.v (11 : Int)).2.2.2.2.2.2.1), str ((text_lines_9.v (11 : Int)).2.2.2.2.2.2.2.1), str ((text_lines_9.v (11 : Int)).2.2.2.2.2.2.2.2), .slice (some ⟨(γ 71), 0, none⟩) text_lines.w71x.length 1], [str ([103, 101, 116] : List UInt8), .int .i64 ((text_lines_10.v (1 : Int)).1), .int .i64 ((text_lines_10.v (1 : Int)).2.1), .int .i64 ((text_lines_10.v (1 : Int)).2.2.1), .int .i64 ((text_lines_10.v (1 : Int)).2.2.2.1), .int .i64 ((text_lines_10.v (1 : Int)).2.2.2.2.1), .int .i64 ((text_lines_10.v (1 : Int)).2.2.2.2.2.1), str ((text_lines_10.v (1 : Int)).2.2.2.2.2.2.1), str ((text_lines_10.v (1 : Int)).2.2.2.2.2.2.2.1), str ((text_lines_10.v (1 : Int)).2.2.2.2.2.2.2.2), .slice (some ⟨(γ 78), 0, none⟩) text_lines.w78x.length 3], [str ([100, 101, 108, 101, 116, 101] : List UInt8), .int .i64 ((text_lines_10.v (3 : Int)).1), .int .i64 ((text_lines_10.v (3 : Int)).2.1), .int .i64 ((text_lines_10.v (3 : Int)).2.2.1), .int .i64 ((text_lines_10.v (3 : Int)).2.2.2.1), .int .i64 ((text_lines_10.v (3 : Int)).2.2.2.2.1), .int .i64 ((text_lines_10.v (3 : Int)).2.2.2.2.2.1), str ((text_lines_10.v (3 : Int)).2.2.2.2.2.2.1), str ((text_lines_10.v (3 : Int)).2.2.2.2.2.2.2.1), str ((text_lines_10.v (3 : Int)).2.2.2.2.2.2.2.2), .slice (some ⟨(γ 85), 0, none⟩) text_lines.w85x.length 3], [str ([112, 117, 116] : List UInt8), .int .i64 ((text_lines_10.v (2 : Int)).1), .int .i64 ((text_lines_10.v (2 : Int)).2.1), .int .i64 ((text_lines_10.v (2 : Int)).2.2.1), .int .i64 ((text_lines_10.v (2 : Int)).2.2.2.1), .int .i64 ((text_lines_10.v (2 : Int)).2.2.2.2.1), .int .i64 ((text_lines_10.v (2 : Int)).2.2.2.2.2.1), str ((text_lines_10.v (2 : Int)).2.2.2.2.2.2.1), str ((text_lines_10.v (2 : Int)).2.2.2.2.2.2.2.1), str ((text_lines_10.v (2 : Int)).2.2.2.2.2.2.2.2), .slice (some ⟨(γ 93), 0, none⟩) text_lines.w93x.length 4], [str ([115, 119, 97, 112] : List UInt8), .int .i64 ((text_lines_10.v (4 : Int)).1), .int .i64 ((text_lines_10.v (4 : Int)).2.1), .int .i64 ((text_lines_10.v (4 : Int)).2.2.1), .int .i64 ((text_lines_10.v (4 : Int)).2.2.2.1), .int .i64 ((text_lines_10.v (4 : Int)).2.2.2.2.1), .int .i64 ((text_lines_10.v (4 : Int)).2.2.2.2.2.1), str ((text_lines_10.v (4 : Int)).2.2.2.2.2.2.1), str ((text_lines_10.v (4 : Int)).2.2.2.2.2.2.2.1), str ((text_lines_10.v (4 : Int)).2.2.2.2.2.2.2.2), .slice (some ⟨(γ 102), 0, none⟩) text_lines.w102x.length 5], [str ([97, 103, 97, 105, 110] : List UInt8), .int .i64 ((text_lines_9.v (14 : Int)).1), .int .i64 ((text_lines_9.v (14 : Int)).2.1), .int .i64 ((text_lines_9.v (14 : Int)).2.2.1), .int .i64 ((text_lines_9.v (14 : Int)).2.2.2.1), .int .i64 ((text_lines_9.v (14 : Int)).2.2.2.2.1), .int .i64 ((text_lines_9.v (14 : Int)).2.2.2.2.2.1), str ((text_lines_9.v (14 : Int)).2.2.2.2.2.2.1), str ((text_lines_9.v (14 : Int)).2.2.2.2.2.2.2.1), str ((text_lines_9.v (14 : Int)).2.2.2.2.2.2.2.2), .slice (some ⟨(γ 108), 0, none⟩) text_lines.w108x.length 2], [str ([103, 105, 118, 101] : List UInt8), .int .i64 ((text_lines_9.v (15 : Int)).1), .int .i64 ((text_lines_9.v (15 : Int)).2.1), .int .i64 ((text_lines_9.v (15 : Int)).2.2.1), .int .i64 ((text_lines_9.v (15 : Int)).2.2.2.1), .int .i64 ((text_lines_9.v (15 : Int)).2.2.2.2.1), .int .i64 ((text_lines_9.v (15 : Int)).2.2.2.2.2.1), str ((text_lines_9.v (15 : Int)).2.2.2.2.2.2.1), str ((text_lines_9.v (15 : Int)).2.2.2.2.2.2.2.1), str ((text_lines_9.v (15 : Int)).2.2.2.2.2.2.2.2), .slice (some ⟨(γ 113), 0, none⟩) text_lines.w113x.length 1], [str ([99, 97, 108, 109] : List UInt8), .int .i64 ((text_lines_9.v (16 : Int)).1), .int .i64 ((text_lines_9.v (16 : Int)).2.1), .int .i64 ((text_lines_9.v (16 : Int)).2.2.1), .int .i64 ((text_lines_9.v (16 : Int)).2.2.2.1), .int .i64 ((text_lines_9.v (16 : Int)).2.2.2.2.1), .int .i64 ((text_lines_9.v (16 : Int)).2.2.2.2.2.1), str ((text_lines_9.v (16 : Int)).2.2.2.2.2.2.1), str ((text_lines_9.v (16 : Int)).2.2.2.2.2.2.2.1), str ((text_lines_9.v (16 : Int)).2.2.2.2.2.2.2.2), .slice (some ⟨(γ 119), 0, none⟩) text_lines.w119x.length 2]]

def text_lines.w121z (γ : Nat → Nat) : HA := stars [Row 103 3 (some ⟨(γ 4), 0, none⟩) text_lines.w4x.length 2 text_lines.w4r.flatten, Row 103 3 (some ⟨(γ 10), 0, none⟩) text_lines.w10x.length 2 text_lines.w10r.flatten, Row 103 3 (some ⟨(γ 15), 0, none⟩) text_lines.w15x.length 1 text_lines.w15r.flatten, Row 103 3 (some ⟨(γ 20), 0, none⟩) text_lines.w20x.length 1 text_lines.w20r.flatten, Row 103 3 (some ⟨(γ 25), 0, none⟩) text_lines.w25x.length 1 text_lines.w25r.flatten, Row 103 3 (some ⟨(γ 31), 0, none⟩) text_lines.w31x.length 2 text_lines.w31r.flatten, Row 103 3 (some ⟨(γ 37), 0, none⟩) text_lines.w37x.length 2 text_lines.w37r.flatten, Row 103 3 (some ⟨(γ 42), 0, none⟩) text_lines.w42x.length 2 text_lines.w42r.flatten, Row 103 3 (some ⟨(γ 48), 0, none⟩) text_lines.w48x.length 2 text_lines.w48r.flatten, Row 103 3 (some ⟨(γ 54), 0, none⟩) text_lines.w54x.length 2 text_lines.w54r.flatten, Row 103 3 (some ⟨(γ 60), 0, none⟩) text_lines.w60x.length 2 text_lines.w60r.flatten, Row 103 3 (some ⟨(γ 66), 0, none⟩) text_lines.w66x.length 2 text_lines.w66r.flatten, Row 103 3 (some ⟨(γ 71), 0, none⟩) text_lines.w71x.length 1 text_lines.w71r.flatten, Row 103 3 (some ⟨(γ 78), 0, none⟩) text_lines.w78x.length 3 text_lines.w78r.flatten, Row 103 3 (some ⟨(γ 85), 0, none⟩) text_lines.w85x.length 3 text_lines.w85r.flatten, Row 103 3 (some ⟨(γ 93), 0, none⟩) text_lines.w93x.length 4 text_lines.w93r.flatten, Row 103 3 (some ⟨(γ 102), 0, none⟩) text_lines.w102x.length 5 text_lines.w102r.flatten, Row 103 3 (some ⟨(γ 108), 0, none⟩) text_lines.w108x.length 2 text_lines.w108r.flatten, Row 103 3 (some ⟨(γ 113), 0, none⟩) text_lines.w113x.length 1 text_lines.w113r.flatten, Row 103 3 (some ⟨(γ 119), 0, none⟩) text_lines.w119x.length 2 text_lines.w119r.flatten]

def text_lines.vl : List ((Nat → Nat) → Value) := [fun _ => .func (.func 73) #[] #[], fun _ => .agg #[.int .i64 ((text_lines_9.v (1 : Int)).1), .int .i64 ((text_lines_9.v (1 : Int)).2.1), .int .i64 ((text_lines_9.v (1 : Int)).2.2.1), .int .i64 ((text_lines_9.v (1 : Int)).2.2.2.1), .int .i64 ((text_lines_9.v (1 : Int)).2.2.2.2.1), .int .i64 ((text_lines_9.v (1 : Int)).2.2.2.2.2.1), str ((text_lines_9.v (1 : Int)).2.2.2.2.2.2.1), str ((text_lines_9.v (1 : Int)).2.2.2.2.2.2.2.1), str ((text_lines_9.v (1 : Int)).2.2.2.2.2.2.2.2)], fun _ => .agg #[.func (.func 65) #[] #[], .nilFunc, .bool false], fun _ => .agg #[.func (.func 67) #[] #[], .nilFunc, .bool false], fun γ => .slice (some ⟨(γ 4), 0, none⟩) text_lines.w4x.length 2, fun γ => .agg #[str ([116, 105, 99, 107] : List UInt8), .int .i64 ((text_lines_9.v (1 : Int)).1), .int .i64 ((text_lines_9.v (1 : Int)).2.1), .int .i64 ((text_lines_9.v (1 : Int)).2.2.1), .int .i64 ((text_lines_9.v (1 : Int)).2.2.2.1), .int .i64 ((text_lines_9.v (1 : Int)).2.2.2.2.1), .int .i64 ((text_lines_9.v (1 : Int)).2.2.2.2.2.1), str ((text_lines_9.v (1 : Int)).2.2.2.2.2.2.1), str ((text_lines_9.v (1 : Int)).2.2.2.2.2.2.2.1), str ((text_lines_9.v (1 : Int)).2.2.2.2.2.2.2.2), .slice (some ⟨(γ 4), 0, none⟩) text_lines.w4x.length 2], fun _ => .func (.func 73) #[] #[], fun _ => .agg #[.int .i64 ((text_lines_9.v (2 : Int)).1), .int .i64 ((text_lines_9.v (2 : Int)).2.1), .int .i64 ((text_lines_9.v (2 : Int)).2.2.1), .int .i64 ((text_lines_9.v (2 : Int)).2.2.2.1), .int .i64 ((text_lines_9.v (2 : Int)).2.2.2.2.1), .int .i64 ((text_lines_9.v (2 : Int)).2.2.2.2.2.1), str ((text_lines_9.v (2 : Int)).2.2.2.2.2.2.1), str ((text_lines_9.v (2 : Int)).2.2.2.2.2.2.2.1), str ((text_lines_9.v (2 : Int)).2.2.2.2.2.2.2.2)], fun _ => .agg #[.func (.func 65) #[] #[], .nilFunc, .bool false], fun _ => .agg #[.func (.func 69) #[] #[], .nilFunc, .bool true], fun γ => .slice (some ⟨(γ 10), 0, none⟩) text_lines.w10x.length 2, fun γ => .agg #[str ([112, 105, 99, 107] : List UInt8), .int .i64 ((text_lines_9.v (2 : Int)).1), .int .i64 ((text_lines_9.v (2 : Int)).2.1), .int .i64 ((text_lines_9.v (2 : Int)).2.2.1), .int .i64 ((text_lines_9.v (2 : Int)).2.2.2.1), .int .i64 ((text_lines_9.v (2 : Int)).2.2.2.2.1), .int .i64 ((text_lines_9.v (2 : Int)).2.2.2.2.2.1), str ((text_lines_9.v (2 : Int)).2.2.2.2.2.2.1), str ((text_lines_9.v (2 : Int)).2.2.2.2.2.2.2.1), str ((text_lines_9.v (2 : Int)).2.2.2.2.2.2.2.2), .slice (some ⟨(γ 10), 0, none⟩) text_lines.w10x.length 2], fun _ => .func (.func 73) #[] #[], fun _ => .agg #[.int .i64 ((text_lines_9.v (3 : Int)).1), .int .i64 ((text_lines_9.v (3 : Int)).2.1), .int .i64 ((text_lines_9.v (3 : Int)).2.2.1), .int .i64 ((text_lines_9.v (3 : Int)).2.2.2.1), .int .i64 ((text_lines_9.v (3 : Int)).2.2.2.2.1), .int .i64 ((text_lines_9.v (3 : Int)).2.2.2.2.2.1), str ((text_lines_9.v (3 : Int)).2.2.2.2.2.2.1), str ((text_lines_9.v (3 : Int)).2.2.2.2.2.2.2.1), str ((text_lines_9.v (3 : Int)).2.2.2.2.2.2.2.2)], fun _ => .agg #[.func (.func 67) #[] #[], .nilFunc, .bool false], fun γ => .slice (some ⟨(γ 15), 0, none⟩) text_lines.w15x.length 1, fun γ => .agg #[str ([100, 101, 108, 105, 118, 101, 114] : List UInt8), .int .i64 ((text_lines_9.v (3 : Int)).1), .int .i64 ((text_lines_9.v (3 : Int)).2.1), .int .i64 ((text_lines_9.v (3 : Int)).2.2.1), .int .i64 ((text_lines_9.v (3 : Int)).2.2.2.1), .int .i64 ((text_lines_9.v (3 : Int)).2.2.2.2.1), .int .i64 ((text_lines_9.v (3 : Int)).2.2.2.2.2.1), str ((text_lines_9.v (3 : Int)).2.2.2.2.2.2.1), str ((text_lines_9.v (3 : Int)).2.2.2.2.2.2.2.1), str ((text_lines_9.v (3 : Int)).2.2.2.2.2.2.2.2), .slice (some ⟨(γ 15), 0, none⟩) text_lines.w15x.length 1], fun _ => .func (.func 73) #[] #[], fun _ => .agg #[.int .i64 ((text_lines_9.v (4 : Int)).1), .int .i64 ((text_lines_9.v (4 : Int)).2.1), .int .i64 ((text_lines_9.v (4 : Int)).2.2.1), .int .i64 ((text_lines_9.v (4 : Int)).2.2.2.1), .int .i64 ((text_lines_9.v (4 : Int)).2.2.2.2.1), .int .i64 ((text_lines_9.v (4 : Int)).2.2.2.2.2.1), str ((text_lines_9.v (4 : Int)).2.2.2.2.2.2.1), str ((text_lines_9.v (4 : Int)).2.2.2.2.2.2.2.1), str ((text_lines_9.v (4 : Int)).2.2.2.2.2.2.2.2)], fun _ => .agg #[.func (.func 67) #[] #[], .nilFunc, .bool false], fun γ => .slice (some ⟨(γ 20), 0, none⟩) text_lines.w20x.length 1, fun γ => .agg #[str ([100, 114, 111, 112] : List UInt8), .int .i64 ((text_lines_9.v (4 : Int)).1), .int .i64 ((text_lines_9.v (4 : Int)).2.1), .int .i64 ((text_lines_9.v (4 : Int)).2.2.1), .int .i64 ((text_lines_9.v (4 : Int)).2.2.2.1), .int .i64 ((text_lines_9.v (4 : Int)).2.2.2.2.1), .int .i64 ((text_lines_9.v (4 : Int)).2.2.2.2.2.1), str ((text_lines_9.v (4 : Int)).2.2.2.2.2.2.1), str ((text_lines_9.v (4 : Int)).2.2.2.2.2.2.2.1), str ((text_lines_9.v (4 : Int)).2.2.2.2.2.2.2.2), .slice (some ⟨(γ 20), 0, none⟩) text_lines.w20x.length 1], fun _ => .func (.func 73) #[] #[], fun _ => .agg #[.int .i64 ((text_lines_9.v (5 : Int)).1), .int .i64 ((text_lines_9.v (5 : Int)).2.1), .int .i64 ((text_lines_9.v (5 : Int)).2.2.1), .int .i64 ((text_lines_9.v (5 : Int)).2.2.2.1), .int .i64 ((text_lines_9.v (5 : Int)).2.2.2.2.1), .int .i64 ((text_lines_9.v (5 : Int)).2.2.2.2.2.1), str ((text_lines_9.v (5 : Int)).2.2.2.2.2.2.1), str ((text_lines_9.v (5 : Int)).2.2.2.2.2.2.2.1), str ((text_lines_9.v (5 : Int)).2.2.2.2.2.2.2.2)], fun _ => .agg #[.func (.func 67) #[] #[], .nilFunc, .bool false], fun γ => .slice (some ⟨(γ 25), 0, none⟩) text_lines.w25x.length 1, fun γ => .agg #[str ([99, 111, 112, 121] : List UInt8), .int .i64 ((text_lines_9.v (5 : Int)).1), .int .i64 ((text_lines_9.v (5 : Int)).2.1), .int .i64 ((text_lines_9.v (5 : Int)).2.2.1), .int .i64 ((text_lines_9.v (5 : Int)).2.2.2.1), .int .i64 ((text_lines_9.v (5 : Int)).2.2.2.2.1), .int .i64 ((text_lines_9.v (5 : Int)).2.2.2.2.2.1), str ((text_lines_9.v (5 : Int)).2.2.2.2.2.2.1), str ((text_lines_9.v (5 : Int)).2.2.2.2.2.2.2.1), str ((text_lines_9.v (5 : Int)).2.2.2.2.2.2.2.2), .slice (some ⟨(γ 25), 0, none⟩) text_lines.w25x.length 1], fun _ => .func (.func 73) #[] #[], fun _ => .agg #[.int .i64 ((text_lines_9.v (6 : Int)).1), .int .i64 ((text_lines_9.v (6 : Int)).2.1), .int .i64 ((text_lines_9.v (6 : Int)).2.2.1), .int .i64 ((text_lines_9.v (6 : Int)).2.2.2.1), .int .i64 ((text_lines_9.v (6 : Int)).2.2.2.2.1), .int .i64 ((text_lines_9.v (6 : Int)).2.2.2.2.2.1), str ((text_lines_9.v (6 : Int)).2.2.2.2.2.2.1), str ((text_lines_9.v (6 : Int)).2.2.2.2.2.2.2.1), str ((text_lines_9.v (6 : Int)).2.2.2.2.2.2.2.2)], fun _ => .agg #[.func (.func 67) #[] #[], .nilFunc, .bool false], fun _ => .agg #[.func (.func 68) #[] #[], .nilFunc, .bool false], fun γ => .slice (some ⟨(γ 31), 0, none⟩) text_lines.w31x.length 2, fun γ => .agg #[str ([115, 112, 111, 105, 108] : List UInt8), .int .i64 ((text_lines_9.v (6 : Int)).1), .int .i64 ((text_lines_9.v (6 : Int)).2.1), .int .i64 ((text_lines_9.v (6 : Int)).2.2.1), .int .i64 ((text_lines_9.v (6 : Int)).2.2.2.1), .int .i64 ((text_lines_9.v (6 : Int)).2.2.2.2.1), .int .i64 ((text_lines_9.v (6 : Int)).2.2.2.2.2.1), str ((text_lines_9.v (6 : Int)).2.2.2.2.2.2.1), str ((text_lines_9.v (6 : Int)).2.2.2.2.2.2.2.1), str ((text_lines_9.v (6 : Int)).2.2.2.2.2.2.2.2), .slice (some ⟨(γ 31), 0, none⟩) text_lines.w31x.length 2], fun _ => .func (.func 73) #[] #[], fun _ => .agg #[.int .i64 ((text_lines_9.v (7 : Int)).1), .int .i64 ((text_lines_9.v (7 : Int)).2.1), .int .i64 ((text_lines_9.v (7 : Int)).2.2.1), .int .i64 ((text_lines_9.v (7 : Int)).2.2.2.1), .int .i64 ((text_lines_9.v (7 : Int)).2.2.2.2.1), .int .i64 ((text_lines_9.v (7 : Int)).2.2.2.2.2.1), str ((text_lines_9.v (7 : Int)).2.2.2.2.2.2.1), str ((text_lines_9.v (7 : Int)).2.2.2.2.2.2.2.1), str ((text_lines_9.v (7 : Int)).2.2.2.2.2.2.2.2)], fun _ => .agg #[.func (.func 67) #[] #[], .nilFunc, .bool false], fun _ => .agg #[.func (.func 68) #[] #[], .nilFunc, .bool false], fun γ => .slice (some ⟨(γ 37), 0, none⟩) text_lines.w37x.length 2, fun γ => .agg #[str ([109, 111, 118, 101] : List UInt8), .int .i64 ((text_lines_9.v (7 : Int)).1), .int .i64 ((text_lines_9.v (7 : Int)).2.1), .int .i64 ((text_lines_9.v (7 : Int)).2.2.1), .int .i64 ((text_lines_9.v (7 : Int)).2.2.2.1), .int .i64 ((text_lines_9.v (7 : Int)).2.2.2.2.1), .int .i64 ((text_lines_9.v (7 : Int)).2.2.2.2.2.1), str ((text_lines_9.v (7 : Int)).2.2.2.2.2.2.1), str ((text_lines_9.v (7 : Int)).2.2.2.2.2.2.2.1), str ((text_lines_9.v (7 : Int)).2.2.2.2.2.2.2.2), .slice (some ⟨(γ 37), 0, none⟩) text_lines.w37x.length 2], fun _ => .agg #[.int .i64 8, .int .i64 0, .int .i64 0, .int .i64 0, .int .i64 1, .int .i64 0, str ([] : List UInt8), str ([] : List UInt8), str ([] : List UInt8)], fun _ => .agg #[.func (.func 65) #[] #[], .nilFunc, .bool false], fun _ => .agg #[.func (.func 67) #[] #[], .nilFunc, .bool false], fun γ => .slice (some ⟨(γ 42), 0, none⟩) text_lines.w42x.length 2, fun γ => .agg #[str ([108, 105, 110, 107] : List UInt8), .int .i64 8, .int .i64 0, .int .i64 0, .int .i64 0, .int .i64 1, .int .i64 0, str ([] : List UInt8), str ([] : List UInt8), str ([] : List UInt8), .slice (some ⟨(γ 42), 0, none⟩) text_lines.w42x.length 2], fun _ => .func (.func 73) #[] #[], fun _ => .agg #[.int .i64 ((text_lines_9.v (8 : Int)).1), .int .i64 ((text_lines_9.v (8 : Int)).2.1), .int .i64 ((text_lines_9.v (8 : Int)).2.2.1), .int .i64 ((text_lines_9.v (8 : Int)).2.2.2.1), .int .i64 ((text_lines_9.v (8 : Int)).2.2.2.2.1), .int .i64 ((text_lines_9.v (8 : Int)).2.2.2.2.2.1), str ((text_lines_9.v (8 : Int)).2.2.2.2.2.2.1), str ((text_lines_9.v (8 : Int)).2.2.2.2.2.2.2.1), str ((text_lines_9.v (8 : Int)).2.2.2.2.2.2.2.2)], fun _ => .agg #[.func (.func 65) #[] #[], .nilFunc, .bool false], fun _ => .agg #[.func (.func 67) #[] #[], .nilFunc, .bool false], fun γ => .slice (some ⟨(γ 48), 0, none⟩) text_lines.w48x.length 2, fun γ => .agg #[str ([99, 117, 116] : List UInt8), .int .i64 ((text_lines_9.v (8 : Int)).1), .int .i64 ((text_lines_9.v (8 : Int)).2.1), .int .i64 ((text_lines_9.v (8 : Int)).2.2.1), .int .i64 ((text_lines_9.v (8 : Int)).2.2.2.1), .int .i64 ((text_lines_9.v (8 : Int)).2.2.2.2.1), .int .i64 ((text_lines_9.v (8 : Int)).2.2.2.2.2.1), str ((text_lines_9.v (8 : Int)).2.2.2.2.2.2.1), str ((text_lines_9.v (8 : Int)).2.2.2.2.2.2.2.1), str ((text_lines_9.v (8 : Int)).2.2.2.2.2.2.2.2), .slice (some ⟨(γ 48), 0, none⟩) text_lines.w48x.length 2], fun _ => .func (.func 73) #[] #[], fun _ => .agg #[.int .i64 ((text_lines_9.v (9 : Int)).1), .int .i64 ((text_lines_9.v (9 : Int)).2.1), .int .i64 ((text_lines_9.v (9 : Int)).2.2.1), .int .i64 ((text_lines_9.v (9 : Int)).2.2.2.1), .int .i64 ((text_lines_9.v (9 : Int)).2.2.2.2.1), .int .i64 ((text_lines_9.v (9 : Int)).2.2.2.2.2.1), str ((text_lines_9.v (9 : Int)).2.2.2.2.2.2.1), str ((text_lines_9.v (9 : Int)).2.2.2.2.2.2.2.1), str ((text_lines_9.v (9 : Int)).2.2.2.2.2.2.2.2)], fun _ => .agg #[.func (.func 65) #[] #[], .nilFunc, .bool false], fun _ => .agg #[.func (.func 67) #[] #[], .nilFunc, .bool false], fun γ => .slice (some ⟨(γ 54), 0, none⟩) text_lines.w54x.length 2, fun γ => .agg #[str ([99, 114, 97, 115, 104] : List UInt8), .int .i64 ((text_lines_9.v (9 : Int)).1), .int .i64 ((text_lines_9.v (9 : Int)).2.1), .int .i64 ((text_lines_9.v (9 : Int)).2.2.1), .int .i64 ((text_lines_9.v (9 : Int)).2.2.2.1), .int .i64 ((text_lines_9.v (9 : Int)).2.2.2.2.1), .int .i64 ((text_lines_9.v (9 : Int)).2.2.2.2.2.1), str ((text_lines_9.v (9 : Int)).2.2.2.2.2.2.1), str ((text_lines_9.v (9 : Int)).2.2.2.2.2.2.2.1), str ((text_lines_9.v (9 : Int)).2.2.2.2.2.2.2.2), .slice (some ⟨(γ 54), 0, none⟩) text_lines.w54x.length 2], fun _ => .func (.func 73) #[] #[], fun _ => .agg #[.int .i64 ((text_lines_9.v (10 : Int)).1), .int .i64 ((text_lines_9.v (10 : Int)).2.1), .int .i64 ((text_lines_9.v (10 : Int)).2.2.1), .int .i64 ((text_lines_9.v (10 : Int)).2.2.2.1), .int .i64 ((text_lines_9.v (10 : Int)).2.2.2.2.1), .int .i64 ((text_lines_9.v (10 : Int)).2.2.2.2.2.1), str ((text_lines_9.v (10 : Int)).2.2.2.2.2.2.1), str ((text_lines_9.v (10 : Int)).2.2.2.2.2.2.2.1), str ((text_lines_9.v (10 : Int)).2.2.2.2.2.2.2.2)], fun _ => .agg #[.func (.func 65) #[] #[], .nilFunc, .bool false], fun _ => .agg #[.func (.func 67) #[] #[], .nilFunc, .bool false], fun γ => .slice (some ⟨(γ 60), 0, none⟩) text_lines.w60x.length 2, fun γ => .agg #[str ([115, 116, 97, 114, 116] : List UInt8), .int .i64 ((text_lines_9.v (10 : Int)).1), .int .i64 ((text_lines_9.v (10 : Int)).2.1), .int .i64 ((text_lines_9.v (10 : Int)).2.2.1), .int .i64 ((text_lines_9.v (10 : Int)).2.2.2.1), .int .i64 ((text_lines_9.v (10 : Int)).2.2.2.2.1), .int .i64 ((text_lines_9.v (10 : Int)).2.2.2.2.2.1), str ((text_lines_9.v (10 : Int)).2.2.2.2.2.2.1), str ((text_lines_9.v (10 : Int)).2.2.2.2.2.2.2.1), str ((text_lines_9.v (10 : Int)).2.2.2.2.2.2.2.2), .slice (some ⟨(γ 60), 0, none⟩) text_lines.w60x.length 2], fun _ => .func (.func 73) #[] #[], fun _ => .agg #[.int .i64 ((text_lines_9.v (12 : Int)).1), .int .i64 ((text_lines_9.v (12 : Int)).2.1), .int .i64 ((text_lines_9.v (12 : Int)).2.2.1), .int .i64 ((text_lines_9.v (12 : Int)).2.2.2.1), .int .i64 ((text_lines_9.v (12 : Int)).2.2.2.2.1), .int .i64 ((text_lines_9.v (12 : Int)).2.2.2.2.2.1), str ((text_lines_9.v (12 : Int)).2.2.2.2.2.2.1), str ((text_lines_9.v (12 : Int)).2.2.2.2.2.2.2.1), str ((text_lines_9.v (12 : Int)).2.2.2.2.2.2.2.2)], fun _ => .agg #[.func (.func 65) #[] #[], .nilFunc, .bool false], fun _ => .agg #[.func (.func 67) #[] #[], .nilFunc, .bool false], fun γ => .slice (some ⟨(γ 66), 0, none⟩) text_lines.w66x.length 2, fun γ => .agg #[str ([97, 114, 109] : List UInt8), .int .i64 ((text_lines_9.v (12 : Int)).1), .int .i64 ((text_lines_9.v (12 : Int)).2.1), .int .i64 ((text_lines_9.v (12 : Int)).2.2.1), .int .i64 ((text_lines_9.v (12 : Int)).2.2.2.1), .int .i64 ((text_lines_9.v (12 : Int)).2.2.2.2.1), .int .i64 ((text_lines_9.v (12 : Int)).2.2.2.2.2.1), str ((text_lines_9.v (12 : Int)).2.2.2.2.2.2.1), str ((text_lines_9.v (12 : Int)).2.2.2.2.2.2.2.1), str ((text_lines_9.v (12 : Int)).2.2.2.2.2.2.2.2), .slice (some ⟨(γ 66), 0, none⟩) text_lines.w66x.length 2], fun _ => .func (.func 73) #[] #[], fun _ => .agg #[.int .i64 ((text_lines_9.v (11 : Int)).1), .int .i64 ((text_lines_9.v (11 : Int)).2.1), .int .i64 ((text_lines_9.v (11 : Int)).2.2.1), .int .i64 ((text_lines_9.v (11 : Int)).2.2.2.1), .int .i64 ((text_lines_9.v (11 : Int)).2.2.2.2.1), .int .i64 ((text_lines_9.v (11 : Int)).2.2.2.2.2.1), str ((text_lines_9.v (11 : Int)).2.2.2.2.2.2.1), str ((text_lines_9.v (11 : Int)).2.2.2.2.2.2.2.1), str ((text_lines_9.v (11 : Int)).2.2.2.2.2.2.2.2)], fun _ => .agg #[.func (.func 65) #[] #[], .nilFunc, .bool false], fun γ => .slice (some ⟨(γ 71), 0, none⟩) text_lines.w71x.length 1, fun γ => .agg #[str ([115, 116, 111, 112] : List UInt8), .int .i64 ((text_lines_9.v (11 : Int)).1), .int .i64 ((text_lines_9.v (11 : Int)).2.1), .int .i64 ((text_lines_9.v (11 : Int)).2.2.1), .int .i64 ((text_lines_9.v (11 : Int)).2.2.2.1), .int .i64 ((text_lines_9.v (11 : Int)).2.2.2.2.1), .int .i64 ((text_lines_9.v (11 : Int)).2.2.2.2.2.1), str ((text_lines_9.v (11 : Int)).2.2.2.2.2.2.1), str ((text_lines_9.v (11 : Int)).2.2.2.2.2.2.2.1), str ((text_lines_9.v (11 : Int)).2.2.2.2.2.2.2.2), .slice (some ⟨(γ 71), 0, none⟩) text_lines.w71x.length 1], fun _ => .func (.func 74) #[] #[], fun _ => .agg #[.int .i64 ((text_lines_10.v (1 : Int)).1), .int .i64 ((text_lines_10.v (1 : Int)).2.1), .int .i64 ((text_lines_10.v (1 : Int)).2.2.1), .int .i64 ((text_lines_10.v (1 : Int)).2.2.2.1), .int .i64 ((text_lines_10.v (1 : Int)).2.2.2.2.1), .int .i64 ((text_lines_10.v (1 : Int)).2.2.2.2.2.1), str ((text_lines_10.v (1 : Int)).2.2.2.2.2.2.1), str ((text_lines_10.v (1 : Int)).2.2.2.2.2.2.2.1), str ((text_lines_10.v (1 : Int)).2.2.2.2.2.2.2.2)], fun _ => .agg #[.func (.func 66) #[] #[], .nilFunc, .bool false], fun _ => .agg #[.func (.func 65) #[] #[], .nilFunc, .bool false], fun _ => .agg #[.nilFunc, .func (.func 70) #[] #[], .bool false], fun γ => .slice (some ⟨(γ 78), 0, none⟩) text_lines.w78x.length 3, fun γ => .agg #[str ([103, 101, 116] : List UInt8), .int .i64 ((text_lines_10.v (1 : Int)).1), .int .i64 ((text_lines_10.v (1 : Int)).2.1), .int .i64 ((text_lines_10.v (1 : Int)).2.2.1), .int .i64 ((text_lines_10.v (1 : Int)).2.2.2.1), .int .i64 ((text_lines_10.v (1 : Int)).2.2.2.2.1), .int .i64 ((text_lines_10.v (1 : Int)).2.2.2.2.2.1), str ((text_lines_10.v (1 : Int)).2.2.2.2.2.2.1), str ((text_lines_10.v (1 : Int)).2.2.2.2.2.2.2.1), str ((text_lines_10.v (1 : Int)).2.2.2.2.2.2.2.2), .slice (some ⟨(γ 78), 0, none⟩) text_lines.w78x.length 3], fun _ => .func (.func 74) #[] #[], fun _ => .agg #[.int .i64 ((text_lines_10.v (3 : Int)).1), .int .i64 ((text_lines_10.v (3 : Int)).2.1), .int .i64 ((text_lines_10.v (3 : Int)).2.2.1), .int .i64 ((text_lines_10.v (3 : Int)).2.2.2.1), .int .i64 ((text_lines_10.v (3 : Int)).2.2.2.2.1), .int .i64 ((text_lines_10.v (3 : Int)).2.2.2.2.2.1), str ((text_lines_10.v (3 : Int)).2.2.2.2.2.2.1), str ((text_lines_10.v (3 : Int)).2.2.2.2.2.2.2.1), str ((text_lines_10.v (3 : Int)).2.2.2.2.2.2.2.2)], fun _ => .agg #[.func (.func 66) #[] #[], .nilFunc, .bool false], fun _ => .agg #[.func (.func 65) #[] #[], .nilFunc, .bool false], fun _ => .agg #[.nilFunc, .func (.func 70) #[] #[], .bool false], fun γ => .slice (some ⟨(γ 85), 0, none⟩) text_lines.w85x.length 3, fun γ => .agg #[str ([100, 101, 108, 101, 116, 101] : List UInt8), .int .i64 ((text_lines_10.v (3 : Int)).1), .int .i64 ((text_lines_10.v (3 : Int)).2.1), .int .i64 ((text_lines_10.v (3 : Int)).2.2.1), .int .i64 ((text_lines_10.v (3 : Int)).2.2.2.1), .int .i64 ((text_lines_10.v (3 : Int)).2.2.2.2.1), .int .i64 ((text_lines_10.v (3 : Int)).2.2.2.2.2.1), str ((text_lines_10.v (3 : Int)).2.2.2.2.2.2.1), str ((text_lines_10.v (3 : Int)).2.2.2.2.2.2.2.1), str ((text_lines_10.v (3 : Int)).2.2.2.2.2.2.2.2), .slice (some ⟨(γ 85), 0, none⟩) text_lines.w85x.length 3], fun _ => .func (.func 74) #[] #[], fun _ => .agg #[.int .i64 ((text_lines_10.v (2 : Int)).1), .int .i64 ((text_lines_10.v (2 : Int)).2.1), .int .i64 ((text_lines_10.v (2 : Int)).2.2.1), .int .i64 ((text_lines_10.v (2 : Int)).2.2.2.1), .int .i64 ((text_lines_10.v (2 : Int)).2.2.2.2.1), .int .i64 ((text_lines_10.v (2 : Int)).2.2.2.2.2.1), str ((text_lines_10.v (2 : Int)).2.2.2.2.2.2.1), str ((text_lines_10.v (2 : Int)).2.2.2.2.2.2.2.1), str ((text_lines_10.v (2 : Int)).2.2.2.2.2.2.2.2)], fun _ => .agg #[.func (.func 66) #[] #[], .nilFunc, .bool false], fun _ => .agg #[.func (.func 65) #[] #[], .nilFunc, .bool false], fun _ => .agg #[.nilFunc, .func (.func 70) #[] #[], .bool false], fun _ => .agg #[.nilFunc, .func (.func 71) #[] #[], .bool false], fun γ => .slice (some ⟨(γ 93), 0, none⟩) text_lines.w93x.length 4, fun γ => .agg #[str ([112, 117, 116] : List UInt8), .int .i64 ((text_lines_10.v (2 : Int)).1), .int .i64 ((text_lines_10.v (2 : Int)).2.1), .int .i64 ((text_lines_10.v (2 : Int)).2.2.1), .int .i64 ((text_lines_10.v (2 : Int)).2.2.2.1), .int .i64 ((text_lines_10.v (2 : Int)).2.2.2.2.1), .int .i64 ((text_lines_10.v (2 : Int)).2.2.2.2.2.1), str ((text_lines_10.v (2 : Int)).2.2.2.2.2.2.1), str ((text_lines_10.v (2 : Int)).2.2.2.2.2.2.2.1), str ((text_lines_10.v (2 : Int)).2.2.2.2.2.2.2.2), .slice (some ⟨(γ 93), 0, none⟩) text_lines.w93x.length 4], fun _ => .func (.func 74) #[] #[], fun _ => .agg #[.int .i64 ((text_lines_10.v (4 : Int)).1), .int .i64 ((text_lines_10.v (4 : Int)).2.1), .int .i64 ((text_lines_10.v (4 : Int)).2.2.1), .int .i64 ((text_lines_10.v (4 : Int)).2.2.2.1), .int .i64 ((text_lines_10.v (4 : Int)).2.2.2.2.1), .int .i64 ((text_lines_10.v (4 : Int)).2.2.2.2.2.1), str ((text_lines_10.v (4 : Int)).2.2.2.2.2.2.1), str ((text_lines_10.v (4 : Int)).2.2.2.2.2.2.2.1), str ((text_lines_10.v (4 : Int)).2.2.2.2.2.2.2.2)], fun _ => .agg #[.func (.func 66) #[] #[], .nilFunc, .bool false], fun _ => .agg #[.func (.func 65) #[] #[], .nilFunc, .bool false], fun _ => .agg #[.nilFunc, .func (.func 70) #[] #[], .bool false], fun _ => .agg #[.nilFunc, .func (.func 72) #[] #[], .bool false], fun _ => .agg #[.nilFunc, .func (.func 71) #[] #[], .bool false], fun γ => .slice (some ⟨(γ 102), 0, none⟩) text_lines.w102x.length 5, fun γ => .agg #[str ([115, 119, 97, 112] : List UInt8), .int .i64 ((text_lines_10.v (4 : Int)).1), .int .i64 ((text_lines_10.v (4 : Int)).2.1), .int .i64 ((text_lines_10.v (4 : Int)).2.2.1), .int .i64 ((text_lines_10.v (4 : Int)).2.2.2.1), .int .i64 ((text_lines_10.v (4 : Int)).2.2.2.2.1), .int .i64 ((text_lines_10.v (4 : Int)).2.2.2.2.2.1), str ((text_lines_10.v (4 : Int)).2.2.2.2.2.2.1), str ((text_lines_10.v (4 : Int)).2.2.2.2.2.2.2.1), str ((text_lines_10.v (4 : Int)).2.2.2.2.2.2.2.2), .slice (some ⟨(γ 102), 0, none⟩) text_lines.w102x.length 5], fun _ => .func (.func 73) #[] #[], fun _ => .agg #[.int .i64 ((text_lines_9.v (14 : Int)).1), .int .i64 ((text_lines_9.v (14 : Int)).2.1), .int .i64 ((text_lines_9.v (14 : Int)).2.2.1), .int .i64 ((text_lines_9.v (14 : Int)).2.2.2.1), .int .i64 ((text_lines_9.v (14 : Int)).2.2.2.2.1), .int .i64 ((text_lines_9.v (14 : Int)).2.2.2.2.2.1), str ((text_lines_9.v (14 : Int)).2.2.2.2.2.2.1), str ((text_lines_9.v (14 : Int)).2.2.2.2.2.2.2.1), str ((text_lines_9.v (14 : Int)).2.2.2.2.2.2.2.2)], fun _ => .agg #[.func (.func 66) #[] #[], .nilFunc, .bool false], fun _ => .agg #[.func (.func 65) #[] #[], .nilFunc, .bool false], fun γ => .slice (some ⟨(γ 108), 0, none⟩) text_lines.w108x.length 2, fun γ => .agg #[str ([97, 103, 97, 105, 110] : List UInt8), .int .i64 ((text_lines_9.v (14 : Int)).1), .int .i64 ((text_lines_9.v (14 : Int)).2.1), .int .i64 ((text_lines_9.v (14 : Int)).2.2.1), .int .i64 ((text_lines_9.v (14 : Int)).2.2.2.1), .int .i64 ((text_lines_9.v (14 : Int)).2.2.2.2.1), .int .i64 ((text_lines_9.v (14 : Int)).2.2.2.2.2.1), str ((text_lines_9.v (14 : Int)).2.2.2.2.2.2.1), str ((text_lines_9.v (14 : Int)).2.2.2.2.2.2.2.1), str ((text_lines_9.v (14 : Int)).2.2.2.2.2.2.2.2), .slice (some ⟨(γ 108), 0, none⟩) text_lines.w108x.length 2], fun _ => .func (.func 73) #[] #[], fun _ => .agg #[.int .i64 ((text_lines_9.v (15 : Int)).1), .int .i64 ((text_lines_9.v (15 : Int)).2.1), .int .i64 ((text_lines_9.v (15 : Int)).2.2.1), .int .i64 ((text_lines_9.v (15 : Int)).2.2.2.1), .int .i64 ((text_lines_9.v (15 : Int)).2.2.2.2.1), .int .i64 ((text_lines_9.v (15 : Int)).2.2.2.2.2.1), str ((text_lines_9.v (15 : Int)).2.2.2.2.2.2.1), str ((text_lines_9.v (15 : Int)).2.2.2.2.2.2.2.1), str ((text_lines_9.v (15 : Int)).2.2.2.2.2.2.2.2)], fun _ => .agg #[.func (.func 66) #[] #[], .nilFunc, .bool false], fun γ => .slice (some ⟨(γ 113), 0, none⟩) text_lines.w113x.length 1, fun γ => .agg #[str ([103, 105, 118, 101] : List UInt8), .int .i64 ((text_lines_9.v (15 : Int)).1), .int .i64 ((text_lines_9.v (15 : Int)).2.1), .int .i64 ((text_lines_9.v (15 : Int)).2.2.1), .int .i64 ((text_lines_9.v (15 : Int)).2.2.2.1), .int .i64 ((text_lines_9.v (15 : Int)).2.2.2.2.1), .int .i64 ((text_lines_9.v (15 : Int)).2.2.2.2.2.1), str ((text_lines_9.v (15 : Int)).2.2.2.2.2.2.1), str ((text_lines_9.v (15 : Int)).2.2.2.2.2.2.2.1), str ((text_lines_9.v (15 : Int)).2.2.2.2.2.2.2.2), .slice (some ⟨(γ 113), 0, none⟩) text_lines.w113x.length 1], fun _ => .func (.func 73) #[] #[], fun _ => .agg #[.int .i64 ((text_lines_9.v (16 : Int)).1), .int .i64 ((text_lines_9.v (16 : Int)).2.1), .int .i64 ((text_lines_9.v (16 : Int)).2.2.1), .int .i64 ((text_lines_9.v (16 : Int)).2.2.2.1), .int .i64 ((text_lines_9.v (16 : Int)).2.2.2.2.1), .int .i64 ((text_lines_9.v (16 : Int)).2.2.2.2.2.1), str ((text_lines_9.v (16 : Int)).2.2.2.2.2.2.1), str ((text_lines_9.v (16 : Int)).2.2.2.2.2.2.2.1), str ((text_lines_9.v (16 : Int)).2.2.2.2.2.2.2.2)], fun _ => .agg #[.func (.func 65) #[] #[], .nilFunc, .bool false], fun _ => .agg #[.func (.func 67) #[] #[], .nilFunc, .bool false], fun γ => .slice (some ⟨(γ 119), 0, none⟩) text_lines.w119x.length 2, fun γ => .agg #[str ([99, 97, 108, 109] : List UInt8), .int .i64 ((text_lines_9.v (16 : Int)).1), .int .i64 ((text_lines_9.v (16 : Int)).2.1), .int .i64 ((text_lines_9.v (16 : Int)).2.2.1), .int .i64 ((text_lines_9.v (16 : Int)).2.2.2.1), .int .i64 ((text_lines_9.v (16 : Int)).2.2.2.2.1), .int .i64 ((text_lines_9.v (16 : Int)).2.2.2.2.2.1), str ((text_lines_9.v (16 : Int)).2.2.2.2.2.2.1), str ((text_lines_9.v (16 : Int)).2.2.2.2.2.2.2.1), str ((text_lines_9.v (16 : Int)).2.2.2.2.2.2.2.2), .slice (some ⟨(γ 119), 0, none⟩) text_lines.w119x.length 2], fun γ => .slice (some ⟨(γ 121), 0, none⟩) text_lines.w121x.length 20, fun γ => .slice (some ⟨(γ 121), 0, none⟩) text_lines.w121x.length 20]
def text_lines.al : List ((Nat → Nat) → List HA) := [fun _ => [], fun _ => [], fun _ => [], fun _ => [], fun γ => [Row 103 3 (some ⟨(γ 4), 0, none⟩) text_lines.w4x.length 2 text_lines.w4r.flatten], fun _ => [], fun _ => [], fun _ => [], fun _ => [], fun _ => [], fun γ => [Row 103 3 (some ⟨(γ 10), 0, none⟩) text_lines.w10x.length 2 text_lines.w10r.flatten], fun _ => [], fun _ => [], fun _ => [], fun _ => [], fun γ => [Row 103 3 (some ⟨(γ 15), 0, none⟩) text_lines.w15x.length 1 text_lines.w15r.flatten], fun _ => [], fun _ => [], fun _ => [], fun _ => [], fun γ => [Row 103 3 (some ⟨(γ 20), 0, none⟩) text_lines.w20x.length 1 text_lines.w20r.flatten], fun _ => [], fun _ => [], fun _ => [], fun _ => [], fun γ => [Row 103 3 (some ⟨(γ 25), 0, none⟩) text_lines.w25x.length 1 text_lines.w25r.flatten], fun _ => [], fun _ => [], fun _ => [], fun _ => [], fun _ => [], fun γ => [Row 103 3 (some ⟨(γ 31), 0, none⟩) text_lines.w31x.length 2 text_lines.w31r.flatten], fun _ => [], fun _ => [], fun _ => [], fun _ => [], fun _ => [], fun γ => [Row 103 3 (some ⟨(γ 37), 0, none⟩) text_lines.w37x.length 2 text_lines.w37r.flatten], fun _ => [], fun _ => [], fun _ => [], fun _ => [], fun γ => [Row 103 3 (some ⟨(γ 42), 0, none⟩) text_lines.w42x.length 2 text_lines.w42r.flatten], fun _ => [], fun _ => [], fun _ => [], fun _ => [], fun _ => [], fun γ => [Row 103 3 (some ⟨(γ 48), 0, none⟩) text_lines.w48x.length 2 text_lines.w48r.flatten], fun _ => [], fun _ => [], fun _ => [], fun _ => [], fun _ => [], fun γ => [Row 103 3 (some ⟨(γ 54), 0, none⟩) text_lines.w54x.length 2 text_lines.w54r.flatten], fun _ => [], fun _ => [], fun _ => [], fun _ => [], fun _ => [], fun γ => [Row 103 3 (some ⟨(γ 60), 0, none⟩) text_lines.w60x.length 2 text_lines.w60r.flatten], fun _ => [], fun _ => [], fun _ => [], fun _ => [], fun _ => [], fun γ => [Row 103 3 (some ⟨(γ 66), 0, none⟩) text_lines.w66x.length 2 text_lines.w66r.flatten], fun _ => [], fun _ => [], fun _ => [], fun _ => [], fun γ => [Row 103 3 (some ⟨(γ 71), 0, none⟩) text_lines.w71x.length 1 text_lines.w71r.flatten], fun _ => [], fun _ => [], fun _ => [], fun _ => [], fun _ => [], fun _ => [], fun γ => [Row 103 3 (some ⟨(γ 78), 0, none⟩) text_lines.w78x.length 3 text_lines.w78r.flatten], fun _ => [], fun _ => [], fun _ => [], fun _ => [], fun _ => [], fun _ => [], fun γ => [Row 103 3 (some ⟨(γ 85), 0, none⟩) text_lines.w85x.length 3 text_lines.w85r.flatten], fun _ => [], fun _ => [], fun _ => [], fun _ => [], fun _ => [], fun _ => [], fun _ => [], fun γ => [Row 103 3 (some ⟨(γ 93), 0, none⟩) text_lines.w93x.length 4 text_lines.w93r.flatten], fun _ => [], fun _ => [], fun _ => [], fun _ => [], fun _ => [], fun _ => [], fun _ => [], fun _ => [], fun γ => [Row 103 3 (some ⟨(γ 102), 0, none⟩) text_lines.w102x.length 5 text_lines.w102r.flatten], fun _ => [], fun _ => [], fun _ => [], fun _ => [], fun _ => [], fun γ => [Row 103 3 (some ⟨(γ 108), 0, none⟩) text_lines.w108x.length 2 text_lines.w108r.flatten], fun _ => [], fun _ => [], fun _ => [], fun _ => [], fun γ => [Row 103 3 (some ⟨(γ 113), 0, none⟩) text_lines.w113x.length 1 text_lines.w113r.flatten], fun _ => [], fun _ => [], fun _ => [], fun _ => [], fun _ => [], fun γ => [Row 103 3 (some ⟨(γ 119), 0, none⟩) text_lines.w119x.length 2 text_lines.w119r.flatten], fun _ => [], fun γ => [Row 99 11 (some ⟨(γ 121), 0, none⟩) text_lines.w121x.length 20 (text_lines.w121r γ).flatten], fun _ => []]
def text_lines.dl : List (List Nat) := [[], [], [], [], [4], [4], [], [], [], [], [10], [10], [], [], [], [15], [15], [], [], [], [20], [20], [], [], [], [25], [25], [], [], [], [], [31], [31], [], [], [], [], [37], [37], [], [], [], [42], [42], [], [], [], [], [48], [48], [], [], [], [], [54], [54], [], [], [], [], [60], [60], [], [], [], [], [66], [66], [], [], [], [71], [71], [], [], [], [], [], [78], [78], [], [], [], [], [], [85], [85], [], [], [], [], [], [], [93], [93], [], [], [], [], [], [], [], [102], [102], [], [], [], [], [108], [108], [], [], [], [113], [113], [], [], [], [], [119], [119], [4, 10, 15, 20, 25, 31, 37, 42, 48, 54, 60, 66, 71, 78, 85, 93, 102, 108, 113, 119, 121], [121]]

theorem text_lines.dk : DepOk text_lines.vl text_lines.al text_lines.dl := ⟨(fun _ _ _ => ⟨rfl, rfl⟩), (fun _ _ _ => ⟨rfl, rfl⟩), (fun _ _ _ => ⟨rfl, rfl⟩), (fun _ _ _ => ⟨rfl, rfl⟩), (fun γ γ' h => by simp only [h 4 (by decide), and_self]), (fun γ γ' h => by simp only [h 4 (by decide), and_self]), (fun _ _ _ => ⟨rfl, rfl⟩), (fun _ _ _ => ⟨rfl, rfl⟩), (fun _ _ _ => ⟨rfl, rfl⟩), (fun _ _ _ => ⟨rfl, rfl⟩), (fun γ γ' h => by simp only [h 10 (by decide), and_self]), (fun γ γ' h => by simp only [h 10 (by decide), and_self]), (fun _ _ _ => ⟨rfl, rfl⟩), (fun _ _ _ => ⟨rfl, rfl⟩), (fun _ _ _ => ⟨rfl, rfl⟩), (fun γ γ' h => by simp only [h 15 (by decide), and_self]), (fun γ γ' h => by simp only [h 15 (by decide), and_self]), (fun _ _ _ => ⟨rfl, rfl⟩), (fun _ _ _ => ⟨rfl, rfl⟩), (fun _ _ _ => ⟨rfl, rfl⟩), (fun γ γ' h => by simp only [h 20 (by decide), and_self]), (fun γ γ' h => by simp only [h 20 (by decide), and_self]), (fun _ _ _ => ⟨rfl, rfl⟩), (fun _ _ _ => ⟨rfl, rfl⟩), (fun _ _ _ => ⟨rfl, rfl⟩), (fun γ γ' h => by simp only [h 25 (by decide), and_self]), (fun γ γ' h => by simp only [h 25 (by decide), and_self]), (fun _ _ _ => ⟨rfl, rfl⟩), (fun _ _ _ => ⟨rfl, rfl⟩), (fun _ _ _ => ⟨rfl, rfl⟩), (fun _ _ _ => ⟨rfl, rfl⟩), (fun γ γ' h => by simp only [h 31 (by decide), and_self]), (fun γ γ' h => by simp only [h 31 (by decide), and_self]), (fun _ _ _ => ⟨rfl, rfl⟩), (fun _ _ _ => ⟨rfl, rfl⟩), (fun _ _ _ => ⟨rfl, rfl⟩), (fun _ _ _ => ⟨rfl, rfl⟩), (fun γ γ' h => by simp only [h 37 (by decide), and_self]), (fun γ γ' h => by simp only [h 37 (by decide), and_self]), (fun _ _ _ => ⟨rfl, rfl⟩), (fun _ _ _ => ⟨rfl, rfl⟩), (fun _ _ _ => ⟨rfl, rfl⟩), (fun γ γ' h => by simp only [h 42 (by decide), and_self]), (fun γ γ' h => by simp only [h 42 (by decide), and_self]), (fun _ _ _ => ⟨rfl, rfl⟩), (fun _ _ _ => ⟨rfl, rfl⟩), (fun _ _ _ => ⟨rfl, rfl⟩), (fun _ _ _ => ⟨rfl, rfl⟩), (fun γ γ' h => by simp only [h 48 (by decide), and_self]), (fun γ γ' h => by simp only [h 48 (by decide), and_self]), (fun _ _ _ => ⟨rfl, rfl⟩), (fun _ _ _ => ⟨rfl, rfl⟩), (fun _ _ _ => ⟨rfl, rfl⟩), (fun _ _ _ => ⟨rfl, rfl⟩), (fun γ γ' h => by simp only [h 54 (by decide), and_self]), (fun γ γ' h => by simp only [h 54 (by decide), and_self]), (fun _ _ _ => ⟨rfl, rfl⟩), (fun _ _ _ => ⟨rfl, rfl⟩), (fun _ _ _ => ⟨rfl, rfl⟩), (fun _ _ _ => ⟨rfl, rfl⟩), (fun γ γ' h => by simp only [h 60 (by decide), and_self]), (fun γ γ' h => by simp only [h 60 (by decide), and_self]), (fun _ _ _ => ⟨rfl, rfl⟩), (fun _ _ _ => ⟨rfl, rfl⟩), (fun _ _ _ => ⟨rfl, rfl⟩), (fun _ _ _ => ⟨rfl, rfl⟩), (fun γ γ' h => by simp only [h 66 (by decide), and_self]), (fun γ γ' h => by simp only [h 66 (by decide), and_self]), (fun _ _ _ => ⟨rfl, rfl⟩), (fun _ _ _ => ⟨rfl, rfl⟩), (fun _ _ _ => ⟨rfl, rfl⟩), (fun γ γ' h => by simp only [h 71 (by decide), and_self]), (fun γ γ' h => by simp only [h 71 (by decide), and_self]), (fun _ _ _ => ⟨rfl, rfl⟩), (fun _ _ _ => ⟨rfl, rfl⟩), (fun _ _ _ => ⟨rfl, rfl⟩), (fun _ _ _ => ⟨rfl, rfl⟩), (fun _ _ _ => ⟨rfl, rfl⟩), (fun γ γ' h => by simp only [h 78 (by decide), and_self]), (fun γ γ' h => by simp only [h 78 (by decide), and_self]), (fun _ _ _ => ⟨rfl, rfl⟩), (fun _ _ _ => ⟨rfl, rfl⟩), (fun _ _ _ => ⟨rfl, rfl⟩), (fun _ _ _ => ⟨rfl, rfl⟩), (fun _ _ _ => ⟨rfl, rfl⟩), (fun γ γ' h => by simp only [h 85 (by decide), and_self]), (fun γ γ' h => by simp only [h 85 (by decide), and_self]), (fun _ _ _ => ⟨rfl, rfl⟩), (fun _ _ _ => ⟨rfl, rfl⟩), (fun _ _ _ => ⟨rfl, rfl⟩), (fun _ _ _ => ⟨rfl, rfl⟩), (fun _ _ _ => ⟨rfl, rfl⟩), (fun _ _ _ => ⟨rfl, rfl⟩), (fun γ γ' h => by simp only [h 93 (by decide), and_self]), (fun γ γ' h => by simp only [h 93 (by decide), and_self]), (fun _ _ _ => ⟨rfl, rfl⟩), (fun _ _ _ => ⟨rfl, rfl⟩), (fun _ _ _ => ⟨rfl, rfl⟩), (fun _ _ _ => ⟨rfl, rfl⟩), (fun _ _ _ => ⟨rfl, rfl⟩), (fun _ _ _ => ⟨rfl, rfl⟩), (fun _ _ _ => ⟨rfl, rfl⟩), (fun γ γ' h => by simp only [h 102 (by decide), and_self]), (fun γ γ' h => by simp only [h 102 (by decide), and_self]), (fun _ _ _ => ⟨rfl, rfl⟩), (fun _ _ _ => ⟨rfl, rfl⟩), (fun _ _ _ => ⟨rfl, rfl⟩), (fun _ _ _ => ⟨rfl, rfl⟩), (fun γ γ' h => by simp only [h 108 (by decide), and_self]), (fun γ γ' h => by simp only [h 108 (by decide), and_self]), (fun _ _ _ => ⟨rfl, rfl⟩), (fun _ _ _ => ⟨rfl, rfl⟩), (fun _ _ _ => ⟨rfl, rfl⟩), (fun γ γ' h => by simp only [h 113 (by decide), and_self]), (fun γ γ' h => by simp only [h 113 (by decide), and_self]), (fun _ _ _ => ⟨rfl, rfl⟩), (fun _ _ _ => ⟨rfl, rfl⟩), (fun _ _ _ => ⟨rfl, rfl⟩), (fun _ _ _ => ⟨rfl, rfl⟩), (fun γ γ' h => by simp only [h 119 (by decide), and_self]), (fun γ γ' h => by simp only [h 119 (by decide), and_self]), (fun γ γ' h => by simp only [text_lines.w121r, h 4 (by decide), h 10 (by decide), h 15 (by decide), h 20 (by decide), h 25 (by decide), h 31 (by decide), h 37 (by decide), h 42 (by decide), h 48 (by decide), h 54 (by decide), h 60 (by decide), h 66 (by decide), h 71 (by decide), h 78 (by decide), h 85 (by decide), h 93 (by decide), h 102 (by decide), h 108 (by decide), h 113 (by decide), h 119 (by decide), h 121 (by decide), and_self]), (fun γ γ' h => by simp only [h 121 (by decide), and_self]), trivial⟩
end Go.Proofs.YtbcnegennmpliaaDoor

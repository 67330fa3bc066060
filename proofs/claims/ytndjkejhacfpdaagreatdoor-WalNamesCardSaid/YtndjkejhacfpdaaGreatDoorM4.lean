/- Texts that lead to the law WalNames: G2. Conditions: as each says. -/
import Derived.Test.YtndjkejhacfpdaaGreatDoorM3
namespace Go.Proofs.YtndjkejhacfpdaaGreatDoor
open Go.RowKit
set_option linter.unusedVariables false
set_option linter.unusedSimpArgs false
set_option maxRecDepth 20000
set_option maxHeartbeats 20000000
def frame_Get.f (k : Nat) (x0 : List UInt8) (x1 : Int) : Option (List UInt8 × Int × Int) := if (((decide (x1 < (0 : Int))) || (decide ((x0.length : Int) < x1))) || (decide (IntKind.i64.wrap ((x0.length : Int) - x1) < (4 : Int)))) = true then (some (([] : List UInt8), 0, 2)) else (if 0 ≤ x1 ∧ x1 ≤ (x0.length : Int) ∧ (x0.length : Int) ≤ (x0.length : Int) then ((frame_read.f (cut x0 x1 (x0.length : Int))).bind fun s10v => (if (1048576 : Int) < IntKind.i64.wrap s10v then (some (([] : List UInt8), 0, 3)) else (if ((cut x0 x1 (x0.length : Int)).length : Int) < IntKind.i64.wrap (8 + (IntKind.i64.wrap s10v)) then (some (([] : List UInt8), 0, 2)) else (if 0 ≤ (8 : Int) ∧ (8 : Int) ≤ IntKind.i64.wrap (8 + (IntKind.i64.wrap s10v)) ∧ IntKind.i64.wrap (8 + (IntKind.i64.wrap s10v)) ≤ ((cut x0 x1 (x0.length : Int)).length : Int) then (if 0 ≤ (0 : Int) ∧ (0 : Int) ≤ (4 : Int) ∧ (4 : Int) ≤ ((cut x0 x1 (x0.length : Int)).length : Int) then ((frame_more.f k (4294967295 : Int) (cut (cut x0 x1 (x0.length : Int)) (0 : Int) (4 : Int))).bind fun s31v => ((frame_more.f k s31v (cut (cut x0 x1 (x0.length : Int)) (8 : Int) (IntKind.i64.wrap (8 + (IntKind.i64.wrap s10v))))).bind fun s34v => (if 0 ≤ (4 : Int) ∧ (4 : Int) ≤ ((cut x0 x1 (x0.length : Int)).length : Int) ∧ ((cut x0 x1 (x0.length : Int)).length : Int) ≤ ((cut x0 x1 (x0.length : Int)).length : Int) then ((frame_read.f (cut (cut x0 x1 (x0.length : Int)) (4 : Int) ((cut x0 x1 (x0.length : Int)).length : Int))).bind fun s44v => (if bitsV .xor .u32 (if IntKind.u32.signed then -1 else IntKind.u32.max) s34v = s44v then (if 0 ≤ (0 : Int) ∧ (0 : Int) ≤ IntKind.i64.wrap s10v ∧ IntKind.i64.wrap s10v * 1 ≤ 140737488355328 then (if ((List.replicate (0 : Int).toNat (0 : UInt8)).length + (cut (cut x0 x1 (x0.length : Int)) (8 : Int) (IntKind.i64.wrap (8 + (IntKind.i64.wrap s10v)))).length) * 1 ≤ 140737488355328 then (some ((List.replicate (0 : Int).toNat (0 : UInt8)) ++ (cut (cut x0 x1 (x0.length : Int)) (8 : Int) (IntKind.i64.wrap (8 + (IntKind.i64.wrap s10v)))), IntKind.i64.wrap (8 + (IntKind.i64.wrap s10v)), 0)) else none) else none) else (some (([] : List UInt8), 0, 5)))) else none))) else none) else none)))) else none)
theorem frame_Get.calls (W : World) (F : HA) (k : Nat) (a0 : Option Addr) (c0 : Nat) (x0 : List UInt8) (x1 : Int) (h0 : Rd F a0 (encB x0)) (hc0 : x0.length ≤ c0) (hm0 : c0 ≤ maxLen) :
    Fn Tryz.prog W 68 [.slice a0 x0.length c0, .int .i64 x1] [] F (frame_Get.f k x0 x1) (fun (r : List UInt8 × Int × Int) (y : Option Addr × Nat) => .tuple #[.slice y.1 r.1.length y.2, .int .i64 r.2.1, .int .i64 r.2.2]) (fun r y => [Row 5 1 y.1 r.1.length y.2 (encB r.1)]) := by
 unfold frame_Get.f
 refine fn_intro 58 Tryz.func68 rfl Tryz.ntmps68 rfl ?_
 refine sr ?_
 refine va rfl rfl ?_
 refine va rfl rfl ?_
 refine va rfl rfl (simL_nil (nrm_then (sim_seq (sr ?_))))
 refine vm rfl rfl ?_
 refine vq (q_lss rfl rfl rfl) rfl ?_
 refine vm rfl rfl ?_
 refine simL_valc (b := decide (x1 < (0 : Int))) (fun hb62v => RQ.sub (E' := [(1, .int .i64 x1)]) ⟨rfl, trivial⟩ (q_move rfl rfl)) rfl rfl rfl rfl rfl ?_
 refine simL_valc (b := decide (x1 < (0 : Int))) (fun hb61v => RQ.sub (E' := [(0, .slice a0 x0.length c0)]) ⟨rfl, trivial⟩ (q_move rfl rfl)) rfl rfl rfl rfl rfl ?_
 refine simL_valc (b := decide (x1 < (0 : Int))) (fun hb60v => RQ.sub (E' := [(14, .slice a0 x0.length c0)]) ⟨lk_cv rfl hb60v, trivial⟩ (q_len rfl rfl rfl Tryz.underlying33)) rfl rfl rfl rfl rfl ?_
 refine simL_valc (b := decide (x1 < (0 : Int))) (fun hb59v => RQ.sub (E' := [(13, .int .i64 x1), (15, .int .i64 (x0.length : Int))]) ⟨lk_cv rfl hb59v, lk_cv rfl hb59v, trivial⟩ (q_gtr rfl rfl rfl)) rfl rfl rfl rfl rfl ?_
 refine vq (q_or rfl rfl rfl) rfl ?_
 refine vm rfl rfl ?_
 refine simL_valc (b := (decide (x1 < (0 : Int))) || (decide ((x0.length : Int) < x1))) (fun hb58v => RQ.sub (E' := [(0, .slice a0 x0.length c0)]) ⟨rfl, trivial⟩ (q_move rfl rfl)) rfl rfl rfl rfl rfl ?_
 refine simL_valc (b := (decide (x1 < (0 : Int))) || (decide ((x0.length : Int) < x1))) (fun hb57v => RQ.sub (E' := [(19, .slice a0 x0.length c0)]) ⟨lk_cv rfl hb57v, trivial⟩ (q_len rfl rfl rfl Tryz.underlying33)) rfl rfl rfl rfl rfl ?_
 refine simL_valc (b := (decide (x1 < (0 : Int))) || (decide ((x0.length : Int) < x1))) (fun hb56v => RQ.sub (E' := [(1, .int .i64 x1)]) ⟨rfl, trivial⟩ (q_move rfl rfl)) rfl rfl rfl rfl rfl ?_
 refine simL_valc (b := (decide (x1 < (0 : Int))) || (decide ((x0.length : Int) < x1))) (fun hb55v => RQ.sub (E' := [(20, .int .i64 (x0.length : Int)), (21, .int .i64 x1)]) ⟨lk_cv rfl hb55v, lk_cv rfl hb55v, trivial⟩ (q_sub rfl rfl rfl)) rfl rfl rfl rfl rfl ?_
 refine simL_valc (b := (decide (x1 < (0 : Int))) || (decide ((x0.length : Int) < x1))) (fun hb54v => RQ.sub (E' := [(22, .int .i64 (IntKind.i64.wrap ((x0.length : Int) - x1)))]) ⟨lk_cv rfl hb54v, trivial⟩ (q_lss rfl rfl rfl)) rfl rfl rfl rfl rfl ?_
 refine vq (q_or rfl rfl rfl) rfl (simL_nil (nrm_then ?_))
 refine sim_condb rfl (fun h1v => ?_) (fun h2v => ?_)
 refine sr ?_
 refine va rfl rfl ?_
 refine va rfl rfl ?_
 refine va rfl rfl (simL_nil (nrm_then (sim_rtn ?_)))
 refine rtn_then ?_
 exact rtn_fn (none, 0) rfl rfl rfl (.row_nil (.sel 0 rfl (.nil _)))
 refine sim_skip ?_
 refine nrm_then (sr ?_)
 refine vm rfl rfl ?_
 refine vm rfl rfl ?_
 refine simL_ask (fun hb3v => ?_)
 obtain ⟨a4v, c5v, hS6v, hr7v, hc8v, hm9v⟩ := slice_pre (lo := x1) (hi := (x0.length : Int)) h0 hc0 hb3v
 refine vq (q_sub_ro (l := x0) (lo' := x1) (hi' := (x0.length : Int)) rfl rfl rfl rfl Tryz.underlying33 Tryz.sizeOf5 (.inl ⟨rfl, rfl⟩) (.inr ⟨_, rfl⟩) hb3v hc0 hS6v) rfl ?_
 refine va rfl rfl (nx ?_)
 refine vm rfl rfl ?_
 refine simL_bind (fun s10v hs11v => ?_)
 refine simL_eff (re_call (vs := [.slice a4v ((cut x0 x1 (x0.length : Int)).length) c5v]) (cap := []) (A := []) (rst := [F]) rfl rfl rfl rfl rfl rfl Tryz.call94 (.sel 0 rfl (.nil _)) (frame_read.calls _ _ a4v c5v (cut x0 x1 (x0.length : Int)) (hr7v.lend 0 rfl) hc8v (Nat.le_trans hm9v hm0)) hs11v) rfl rfl rfl ?_
 intro y12v
 refine vq (q_conv rfl rfl Tryz.underlying149 Tryz.underlying3) rfl ?_
 refine va rfl rfl (simL_nil (nrm_then (sim_seq (sr ?_))))
 refine vm rfl rfl ?_
 refine vq (q_gtr rfl rfl rfl) rfl (simL_nil (nrm_then ?_))
 refine sim_cond rfl (fun h13v => ?_) (fun h14v => ?_)
 refine sr ?_
 refine va rfl rfl ?_
 refine va rfl rfl ?_
 refine va rfl rfl (simL_nil (nrm_then (sim_rtn ?_)))
 refine rtn_then ?_
 exact rtn_fn (none, 0) rfl rfl rfl (.row_nil (.sel 0 rfl (.nil _)))
 refine sim_skip ?_
 refine nrm_then (sim_seq (sr ?_))
 refine vm rfl rfl ?_
 refine vq (q_len rfl rfl rfl Tryz.underlying33) rfl ?_
 refine vm rfl rfl ?_
 refine vq (q_add rfl rfl rfl) rfl ?_
 refine vq (q_lss rfl rfl rfl) rfl (simL_nil (nrm_then ?_))
 refine sim_cond rfl (fun h15v => ?_) (fun h16v => ?_)
 refine sr ?_
 refine va rfl rfl ?_
 refine va rfl rfl ?_
 refine va rfl rfl (simL_nil (nrm_then (sim_rtn ?_)))
 refine rtn_then ?_
 exact rtn_fn (none, 0) rfl rfl rfl (.row_nil (.sel 0 rfl (.nil _)))
 refine sim_skip ?_
 refine nrm_then (sr ?_)
 refine vm rfl rfl ?_
 refine vm rfl rfl ?_
 refine vq (q_add rfl rfl rfl) rfl ?_
 refine simL_ask (fun hb17v => ?_)
 obtain ⟨a18v, c19v, hS20v, hr21v, hc22v, hm23v⟩ := slice_pre (lo := (8 : Int)) (hi := IntKind.i64.wrap (8 + (IntKind.i64.wrap s10v))) hr7v hc8v hb17v
 refine vq (q_sub_ro (l := (cut x0 x1 (x0.length : Int))) (lo' := (8 : Int)) (hi' := IntKind.i64.wrap (8 + (IntKind.i64.wrap s10v))) rfl rfl rfl rfl Tryz.underlying33 Tryz.sizeOf5 (.inr ⟨_, rfl⟩) (.inr ⟨_, rfl⟩) hb17v hc8v hS20v) rfl ?_
 refine va rfl rfl (simL_nil (nrm_then (sim_seq (sim_seq ?_))))
 refine sim_ask (fun hb24v => ?_)
 obtain ⟨a25v, c26v, hS27v, hr28v, hc29v, hm30v⟩ := slice_pre (lo := (0 : Int)) (hi := (4 : Int)) hr7v hc8v hb24v
 refine sim_bind (fun s31v hs32v => ?_)
 refine sim_bind (fun s34v hs35v => ?_)
 refine sim_ask (fun hb37v => ?_)
 obtain ⟨a38v, c39v, hS40v, hr41v, hc42v, hm43v⟩ := slice_pre (lo := (4 : Int)) (hi := ((cut x0 x1 (x0.length : Int)).length : Int)) hr7v hc8v hb37v
 refine sim_bind (fun s44v hs45v => ?_)
 refine sim_draw (Γ := Unit) () [[], [0], [0, 1], [], rL 4, rL 5, [], [6], [0, 1, 2, 3, 4, 6, 7], rL 9] [2, 4, 8] [0, 1, 3, 5, 6, 7, 9] (fun i => [[0], [0], [], [0, 1], [], [2, 3], [0, 1, 2], [0, 1, 2], [], [3]].getD i []) (fun i => [[], [], [0, 1, 3, 6, 7], [], [0, 1, 2, 3, 6, 7], [], [], [], rL 8, []].getD i []) (fun γ i => [.slice a4v ((cut x0 x1 (x0.length : Int)).length) c5v, .slice a25v ((cut (cut x0 x1 (x0.length : Int)) (0 : Int) (4 : Int)).length) c26v, .int .u32 s31v, .slice a18v ((cut (cut x0 x1 (x0.length : Int)) (8 : Int) (IntKind.i64.wrap (8 + (IntKind.i64.wrap s10v)))).length) c19v, .int .u32 s34v, .int .u32 (bitsV .xor .u32 (if IntKind.u32.signed then -1 else IntKind.u32.max) s34v), .slice a4v ((cut x0 x1 (x0.length : Int)).length) c5v, .slice a38v ((cut (cut x0 x1 (x0.length : Int)) (4 : Int) ((cut x0 x1 (x0.length : Int)).length : Int)).length) c39v, .int .u32 s44v, .bool (!decide (bitsV .xor .u32 (if IntKind.u32.signed then -1 else IntKind.u32.max) s34v = s44v))].getD i undef) (fun j γ => [[F], [F], [F], [F]].getD j []) (fun γ => [(8, .int .i64 (IntKind.i64.wrap s10v)), (9, .slice a18v ((cut (cut x0 x1 (x0.length : Int)) (8 : Int) (IntKind.i64.wrap (8 + (IntKind.i64.wrap s10v)))).length) c19v), (51, .bool (!decide (bitsV .xor .u32 (if IntKind.u32.signed then -1 else IntKind.u32.max) s34v = s44v)))]) mixed (by decide) (by decide) (by decide) (by decide) (by decide) (by decide) (by decide) 58 rfl (by decide) (by decide) (by decide) (Ent.refl _) ?_ ?_ (fun _ => ⟨rfl, rfl, rfl, trivial⟩) ?_
 exact (aq rfl (fun γ => qm rfl (.o (s := 7) rfl (by decide) .nil) rfl) (aq rfl (fun γ => qp rfl rfl (.v 0 rfl rfl .nil) (q_sub_ro (l := (cut x0 x1 (x0.length : Int))) (lo' := (0 : Int)) (hi' := (4 : Int)) rfl rfl rfl rfl Tryz.underlying33 Tryz.sizeOf5 (.inr ⟨_, rfl⟩) (.inl ⟨rfl, rfl⟩) hb24v hc8v hS27v) rfl) (ac (fun γ => (ac (qm rfl (.o (s := 9) rfl (by decide) .nil) rfl) (ac (qm rfl (.o (s := 9) rfl (by decide) .nil) rfl) zA))) (ac (fun γ => (ac (qp rfl rfl (.v 4 rfl rfl .nil) (q_com rfl rfl) rfl) (ac (qp rfl rfl (.v 4 rfl rfl .nil) (q_com rfl rfl) rfl) zA))) (ac (fun γ => (ac (qm rfl (.o (s := 7) rfl (by decide) .nil) rfl) (ac (qm rfl (.o (s := 7) rfl (by decide) .nil) rfl) (ac (qm rfl (.o (s := 7) rfl (by decide) .nil) rfl) zA)))) (ac (fun γ => (ac (qp rfl rfl (.v 6 rfl rfl .nil) (q_sub_ro (l := (cut x0 x1 (x0.length : Int))) (lo' := (4 : Int)) (hi' := ((cut x0 x1 (x0.length : Int)).length : Int)) rfl rfl rfl rfl Tryz.underlying33 Tryz.sizeOf5 (.inl ⟨rfl, rfl⟩) (.inr ⟨_, rfl⟩) hb37v hc8v hS40v) rfl) (ac (qp rfl rfl (.v 6 rfl rfl .nil) (q_sub_ro (l := (cut x0 x1 (x0.length : Int))) (lo' := (4 : Int)) (hi' := ((cut x0 x1 (x0.length : Int)).length : Int)) rfl rfl rfl rfl Tryz.underlying33 Tryz.sizeOf5 (.inl ⟨rfl, rfl⟩) (.inr ⟨_, rfl⟩) hb37v hc8v hS40v) rfl) (ac (qp rfl rfl (.v 6 rfl rfl .nil) (q_sub_ro (l := (cut x0 x1 (x0.length : Int))) (lo' := (4 : Int)) (hi' := ((cut x0 x1 (x0.length : Int)).length : Int)) rfl rfl rfl rfl Tryz.underlying33 Tryz.sizeOf5 (.inl ⟨rfl, rfl⟩) (.inr ⟨_, rfl⟩) hb37v hc8v hS40v) rfl) zA)))) (aq rfl (fun γ => qp rfl rfl (.v 5 rfl rfl (.v 8 rfl rfl .nil)) (q_neq rfl rfl rfl) rfl) zA)))))))
 exact (ac (fun γ => eo (Z := Unit) (fun z => ()) rfl rfl (.v 1 rfl rfl .nil) (re_call (val := fun (r : Int) (y : Unit) => .int .u32 r) (B := fun _ _ => []) (vs := [.int .u32 4294967295, .slice a25v ((cut (cut x0 x1 (x0.length : Int)) (0 : Int) (4 : Int)).length) c26v]) (cap := []) (A := []) (rst := [F]) rfl rfl rfl rfl rfl rfl Tryz.call95 (.sel 0 rfl (.nil _)) (frame_more.calls _ _ k (4294967295 : Int) a25v c26v (cut (cut x0 x1 (x0.length : Int)) (0 : Int) (4 : Int)) (hr28v.lend 0 rfl) hc29v (Nat.le_trans hm30v (Nat.le_trans hm9v hm0))) hs32v) (fun _ => ⟨rfl, rfl, rfl, rfl, rfl, trivial⟩) (fun _ => .inr rfl) (fun z => Ent.refl _)) (ac (fun γ => eo (Z := Unit) (fun z => ()) rfl rfl (.v 2 rfl rfl (.v 3 rfl rfl .nil)) (re_call (val := fun (r : Int) (y : Unit) => .int .u32 r) (B := fun _ _ => []) (vs := [.int .u32 s31v, .slice a18v ((cut (cut x0 x1 (x0.length : Int)) (8 : Int) (IntKind.i64.wrap (8 + (IntKind.i64.wrap s10v)))).length) c19v]) (cap := []) (A := []) (rst := [F]) rfl rfl rfl rfl rfl rfl Tryz.call95 (.sel 0 rfl (.nil _)) (frame_more.calls _ _ k s31v a18v c19v (cut (cut x0 x1 (x0.length : Int)) (8 : Int) (IntKind.i64.wrap (8 + (IntKind.i64.wrap s10v)))) (hr21v.lend 0 rfl) hc22v (Nat.le_trans hm23v (Nat.le_trans hm9v hm0))) hs35v) (fun _ => ⟨rfl, rfl, rfl, rfl, rfl, rfl, trivial⟩) (fun _ => .inr rfl) (fun z => Ent.refl _)) (ac (fun γ => eo (Z := Unit) (fun z => ()) rfl rfl (.v 7 rfl rfl .nil) (re_call (val := fun (r : Int) (y : Unit) => .int .u32 r) (B := fun _ _ => []) (vs := [.slice a38v ((cut (cut x0 x1 (x0.length : Int)) (4 : Int) ((cut x0 x1 (x0.length : Int)).length : Int)).length) c39v]) (cap := []) (A := []) (rst := [F]) rfl rfl rfl rfl rfl rfl Tryz.call94 (.sel 0 rfl (.nil _)) (frame_read.calls _ _ a38v c39v (cut (cut x0 x1 (x0.length : Int)) (4 : Int) ((cut x0 x1 (x0.length : Int)).length : Int)) (hr41v.lend 0 rfl) hc42v (Nat.le_trans hm43v (Nat.le_trans hm9v hm0))) hs45v) (fun _ => ⟨rfl, rfl, rfl, rfl, rfl, rfl, rfl, rfl, trivial⟩) (fun _ => .inr rfl) (fun z => Ent.refl _)) zA)))
 intro g47v
 refine nrm_then ?_
 refine sim_condn rfl (fun h48v => ?_) (fun h49v => ?_)
 refine sim_skip ?_
 refine nrm_then (sr ?_)
 refine vm rfl rfl ?_
 refine simL_ask (fun hb51v => ?_)
 refine simL_eff (re_makeb rfl rfl rfl Tryz.underlying33 elt5 hb51v.1 hb51v.2.1 hb51v.2.2) rfl rfl rfl ?_
 intro b50v
 refine vm rfl rfl ?_
 refine simL_ask (fun hb53v => ?_)
 refine simL_eff (re_appendb 0 rfl rfl rfl Tryz.underlying33 elt5 rfl (hr21v.rds 0 rfl) hb53v) rfl rfl rfl ?_
 intro y52v
 refine vm rfl rfl ?_
 refine vq (q_add rfl rfl rfl) rfl ?_
 refine va rfl rfl ?_
 refine va rfl rfl ?_
 refine va rfl rfl (simL_nil (nrm_then (sim_rtn ?_)))
 exact rtn_fn (y52v.1, y52v.2) rfl rfl rfl (.sel 0 rfl (.sel 0 rfl (.nil _)))
 refine sr ?_
 refine va rfl rfl ?_
 refine va rfl rfl ?_
 refine va rfl rfl (simL_nil (nrm_then (sim_rtn ?_)))
 refine rtn_then ?_
 exact rtn_fn (none, 0) rfl rfl rfl (.row_nil (.sel 0 rfl (.nil _)))

def frame_whole_1.l0 {S : Type} (step : S → (Int × List UInt8) → Option S) (x1_0 : List UInt8) : Nat → Int → S → Option (S)
  | 0, _, _ => none
  | k + 1, z3v, z4v => if z3v < (x1_0.length : Int) then ((frame_Get.f k x1_0 z3v).bind fun s7v => ((if s7v.2.2 = (0 : Int) then ((step z4v (z3v, s7v.1)).bind fun s12v => (some (false, s12v))) else (some (true, z4v))).bind fun s10v => (if s10v.1 = true then (some s10v.2) else (frame_whole_1.l0 step x1_0 k (IntKind.i64.wrap (z3v + s7v.2.1)) s10v.2)))) else (some z4v)
def frame_whole_1.f {S : Type} (k : Nat) (step : S → (Int × List UInt8) → Option S) (s0 : S) (x1_0 : List UInt8) : Option (S) := frame_whole_1.l0 step x1_0 k 0 s0
theorem frame_whole_1.calls (W : World) (F : HA) (k : Nat) (S Y : Type) (l : Nat) (step : S → Int × List UInt8 → Option S) (A : S → Y → HA) (s0 : S) (y0 : Y) (b1 : Nat) (a1_0 : Option Addr) (c1_0 : Nat) (x1_0 : List UInt8) (hY : YieldOkH Tryz.prog W l (fun (x : Int × List UInt8) (γ : Option Addr × Nat) => [.int .i64 x.1, .slice γ.1 x.2.length γ.2]) (fun (x : Int × List UInt8) (γ : Option Addr × Nat) => Row 5 1 γ.1 x.2.length γ.2 (encB x.2)) step A) (h1_0 : Rd F a1_0 (encB x1_0)) (hc1_0 : x1_0.length ≤ c1_0) (hm1_0 : c1_0 ≤ maxLen) :
    Fn Tryz.prog W 93 [.func (.yield l) #[] #[], .pointer (some ⟨b1, 0, none⟩)] [A s0 y0, obj b1 33 [.slice a1_0 x1_0.length c1_0]] F (frame_whole_1.f k step s0 x1_0) (fun (r : S) (y : Y) => .tuple #[]) (fun r y => [A r y, obj b1 33 [.slice a1_0 x1_0.length c1_0]]) := by
 unfold frame_whole_1.f
 refine fn_intro 30 Tryz.func93 rfl Tryz.ntmps93 rfl ?_
 refine sr ?_
 refine va rfl rfl (simL_nil (nrm_then ?_))
 refine sim_block ?_
 refine sim_loop (S := Int × S) (Y) (fun k s => frame_whole_1.l0 step x1_0 k s.1 s.2) (fun s y => [(0, .func (.yield l) #[] #[]), (1, .pointer (some ⟨b1, 0, none⟩)), (3, .int .i64 s.1)]) (fun s y => [obj b1 33 [.slice a1_0 x1_0.length c1_0], A s.2 y, F]) (fun _ => by rw [frame_whole_1.l0]) ?_ k (0, s0) y0 ⟨rfl, rfl, rfl, trivial⟩ (.sel 1 rfl (.sel 0 rfl (.sel 0 rfl (.nil _))))
 intro k s1v y2v
 refine sim_eq (by rw [frame_whole_1.l0]) ?_
 refine sim_seq (sr ?_)
 refine vm rfl rfl ?_
 refine vq (q_load rfl rfl Tryz.isAgg33 (.obj 0 rfl rfl)) rfl ?_
 refine vq (q_len rfl rfl rfl Tryz.underlying33) rfl ?_
 refine vq (q_lss rfl rfl rfl) rfl (simL_nil (nrm_then ?_))
 refine sim_cond rfl (fun h5v => ?_) (fun h6v => ?_)
 refine sim_skip ?_
 refine nrm_then ?_
 refine sim_block ?_
 refine sr ?_
 refine vq (q_load rfl rfl Tryz.isAgg33 (.obj 0 rfl rfl)) rfl ?_
 refine vm rfl rfl ?_
 refine simL_bind (fun s7v hs8v => ?_)
 refine simL_eff (re_call (vs := [.slice a1_0 x1_0.length c1_0, .int .i64 s1v.1]) (cap := []) (A := []) (rst := [obj b1 33 [.slice a1_0 x1_0.length c1_0], A s1v.2 y2v, F]) rfl rfl rfl rfl rfl rfl Tryz.call68 (.sel 0 rfl (.sel 0 rfl (.sel 0 rfl (.nil _)))) (frame_Get.calls _ _ k a1_0 c1_0 x1_0 s1v.1 (h1_0.lend 2 rfl) hc1_0 hm1_0) hs8v) rfl rfl rfl ?_
 intro y9v
 refine vm rfl rfl ?_
 refine vq (q_ext rfl rfl rfl) rfl ?_
 refine vq (q_ext rfl rfl rfl) rfl ?_
 refine vq (q_ext rfl rfl rfl) rfl ?_
 refine va rfl rfl ?_
 refine va rfl rfl ?_
 refine va rfl rfl (simL_nil (nrm_then (sim_seq (sr ?_))))
 refine vm rfl rfl ?_
 refine vq (q_neq rfl rfl rfl) rfl ?_
 refine vm rfl rfl ?_
 refine simL_cut' 6 (S := Bool × S) (Y) (fun s y => [(0, .func (.yield l) #[] #[]), (1, .pointer (some ⟨b1, 0, none⟩)), (3, .int .i64 s1v.1), (5, .int .i64 s7v.2.1), (26, .bool s.1)]) (fun s y => [obj b1 33 [.slice a1_0 x1_0.length c1_0], A s.2 y, F]) ?_ ?_
 refine simL_casen (fun hb15v => ?_) (fun hb16v => ?_)
 rw [hb15v]
 refine simL_skipd rfl rfl rfl rfl rfl rfl ?_
 refine simL_skipd rfl rfl rfl rfl rfl rfl ?_
 refine simL_skipd rfl rfl rfl rfl rfl rfl ?_
 refine simL_skipd rfl rfl rfl rfl rfl rfl ?_
 refine simL_skipd rfl rfl rfl rfl rfl rfl ?_
 refine vq (q_pick rfl rfl rfl rfl rfl) rfl (simL_nil ?_)
 exact nrm_cut (s := (true, s1v.2)) y2v ⟨rfl, rfl, rfl, rfl, rfl, trivial⟩ (.sel 1 rfl (.sel 1 rfl (.sel 1 rfl (.nil _))))
 rw [hb16v]
 refine simL_valg (q_move rfl rfl) rfl rfl rfl rfl rfl rfl ?_
 refine simL_valg (q_move rfl rfl) rfl rfl rfl rfl rfl rfl ?_
 refine simL_valg (q_move rfl rfl) rfl rfl rfl rfl rfl rfl ?_
 refine simL_bind (fun s12v hs14v => ?_)
 refine simL_effg (re_yieldH (γ := Option Addr × Nat) (s1v.1, s7v.1) (y9v.1, y9v.2) [obj b1 33 [.slice a1_0 x1_0.length c1_0], F] rfl rfl rfl rfl rfl rfl hY (.sel 2 rfl (.sel 0 rfl (.sel 0 rfl (.sel 0 rfl (.nil _))))) hs14v) rfl rfl rfl rfl rfl rfl ?_
 intro y13v
 refine simL_valg (q_not rfl rfl) rfl rfl rfl rfl rfl rfl ?_
 refine vq (q_pick rfl rfl rfl rfl rfl) rfl (simL_nil ?_)
 exact nrm_cut (s := (false, s12v)) y13v ⟨rfl, rfl, rfl, rfl, rfl, trivial⟩ (.sel 1 rfl (.sel 0 rfl (.sel 0 rfl (.nil _))))
 intro s10v y11v
 refine simL_nil (nrm_then ?_)
 refine sim_condb rfl (fun h17v => ?_) (fun h18v => ?_)
 refine sim_rtn ?_
 refine rtn_then ?_
 refine rtn_block ?_
 refine rtn_loop ?_
 refine rtn_block ?_
 exact rtn_fn y11v rfl rfl rfl (.sel 1 rfl (.sel 0 rfl (.sel 0 rfl (.nil _))))
 refine sim_skip ?_
 refine nrm_then (sim_region ?_)
 refine vm rfl rfl ?_
 refine vm rfl rfl ?_
 refine vq (q_add rfl rfl rfl) rfl ?_
 refine va rfl rfl (simL_nil (nrm_block ?_))
 exact nrm_again (s := (IntKind.i64.wrap (s1v.1 + s7v.2.1), s10v.2)) y11v ⟨rfl, rfl, rfl, trivial⟩ (.sel 0 rfl (.sel 0 rfl (.sel 0 rfl (.nil _))))
 refine sim_exi ?_
 refine exi_then ?_
 refine exi_loop ?_
 refine exi_here ?_
 exact nrm_fn y2v rfl rfl rfl (.sel 1 rfl (.sel 0 rfl (.sel 0 rfl (.nil _))))

def frame_whole.f  : Option (Unit) := some ()
theorem frame_whole.calls (W : World) (F : HA) (a0 : Option Addr) (c0 : Nat) (x0 : List UInt8)  :
    Fn Tryz.prog W 67 [.slice a0 x0.length c0] [] F (frame_whole.f ) (fun (r : Unit) (y : Nat) => .func (.func 93) #[] #[.pointer (some ⟨y, 0, none⟩)]) (fun r y => [obj y 33 [.slice a0 x0.length c0]]) := by
 unfold frame_whole.f
 refine fn_intro 4 Tryz.func67 rfl Tryz.ntmps67 rfl ?_
 refine sr ?_
 refine simL_eff (re_box rfl rfl rfl) rfl rfl rfl ?_
 intro b1v
 refine va rfl rfl (nx ?_)
 refine vq (q_mkfn rfl rfl rfl) rfl ?_
 refine va rfl rfl (simL_nil (nrm_then (sim_rtn ?_)))
 exact rtn_fn b1v rfl rfl rfl (.sel 0 rfl (.sel 0 rfl (.nil _)))

def frame_All.f (k : Nat) (x0 : List UInt8) : Option (List (List UInt8) × Int × Int) := (frame_whole.f).bind fun s3v => ((frame_whole_1.f k (fun (s8v : Int × List (List UInt8)) (x6v : Int × List UInt8) => if (s8v.2.length + ([x6v.2] : List (List UInt8)).length) * 24 ≤ 140737488355328 then (some (IntKind.i64.wrap ((IntKind.i64.wrap (x6v.1 + 8)) + (x6v.2.length : Int)), s8v.2 ++ ([x6v.2] : List (List UInt8)))) else none) (0, ([] : List (List UInt8))) x0).bind fun s24v => (if s24v.1 = (x0.length : Int) then (some (s24v.2, s24v.1, 0)) else ((frame_Get.f k x0 s24v.1).bind fun s32v => (some (s24v.2, s24v.1, s32v.2.2)))))
theorem frame_All.calls (W : World) (F : HA) (k : Nat) (a0 : Option Addr) (c0 : Nat) (x0 : List UInt8) (h0 : Rd F a0 (encB x0)) (hc0 : x0.length ≤ c0) (hm0 : c0 ≤ maxLen) :
    Fn Tryz.prog W 27 [.slice a0 x0.length c0] [] F (frame_All.f k x0) (fun (r : List (List UInt8) × Int × Int) (y : Option Addr × Nat × HA) => .tuple #[.slice y.1 r.1.length y.2.1, .int .i64 r.2.1, .int .i64 r.2.2]) (fun r y => [RowV 33 1 (V33 (y.2.2)) y.1 r.1 y.2.1, y.2.2]) := by
 unfold frame_All.f
 refine fn_introM 41 Tryz.func27 rfl Tryz.ntmps27 rfl ?_
 refine sr ?_
 refine va rfl rfl ?_
 refine va rfl rfl ?_
 refine va rfl rfl (nx ?_)
 refine simL_eff (re_alloc rfl Tryz.zeroValue64 rfl) rfl rfl rfl ?_
 intro b1v
 refine nx ?_
 refine simL_eff (re_alloc rfl Tryz.zeroValue3 rfl) rfl rfl rfl ?_
 intro b2v
 refine simL_do (re_store 0 rfl rfl rfl Tryz.sizeOf3 rfl rfl (one_of (by rfl)) rfl rfl) rfl rfl ?_
 intro _
 refine simL_nil (nrm_then (sim_seq (sr ?_)))
 refine vm rfl rfl ?_
 refine simL_bind (fun s3v hs4v => ?_)
 refine simL_eff (re_call (vs := [.slice a0 x0.length c0]) (cap := []) (A := []) (rst := [obj b2v 3 [.int .i64 0], obj b1v 64 [.slice none 0 0], F]) rfl rfl rfl rfl rfl rfl Tryz.call67 (.sel 0 rfl (.sel 0 rfl (.sel 0 rfl (.nil _)))) (frame_whole.calls _ _ a0 c0 x0 ) hs4v) rfl rfl rfl ?_
 intro y5v
 refine simL_nil (nrm_then ?_)
 refine sim_block ?_
 refine sim_rangeH (γ := Option Addr × Nat) (S := Int × List (List UInt8)) (Y := HA × Option Addr × Nat) (R' := (Int × List (List UInt8))) (Y' := (HA × Option Addr × Nat)) (ps := [14, 15]) (Cap := [obj y5v 33 [.slice a0 x0.length c0]]) (rst := [F]) (CapB := fun r y => [obj y5v 33 [.slice a0 x0.length c0]]) (enc := fun (x : Int × List UInt8) (γ : Option Addr × Nat) => [.int .i64 x.1, .slice γ.1 x.2.length γ.2]) (own := fun (x : Int × List UInt8) (γ : Option Addr × Nat) => Row 5 1 γ.1 x.2.length γ.2 (encB x.2)) (oN := frame_whole_1.f k (fun (s8v : Int × List (List UInt8)) (x6v : Int × List UInt8) => if (s8v.2.length + ([x6v.2] : List (List UInt8)).length) * 24 ≤ 140737488355328 then (some (IntKind.i64.wrap ((IntKind.i64.wrap (x6v.1 + 8)) + (x6v.2.length : Int)), s8v.2 ++ ([x6v.2] : List (List UInt8)))) else none) (0, ([] : List (List UInt8))) x0) (fun s y => [obj b2v 3 [.int .i64 s.1], obj b1v 64 [.slice y.2.1 s.2.length y.2.2], RowV 33 1 (V33 (y.1)) y.2.1 s.2 y.2.2, y.1]) (0, ([] : List (List UInt8))) (tt, none, 0) (fun s8v x6v gh7v y9v => [(5, .pointer (some ⟨b1v, 0, none⟩)), (6, .pointer (some ⟨b2v, 0, none⟩)), (7, .int .i64 x6v.1), (8, .slice gh7v.1 x6v.2.length gh7v.2)]) (fun r => r) (fun r y => y) rfl rfl Tryz.call93 (fun l A hY X => frame_whole_1.calls _ _ k _ _ l _ A _ _ y5v a0 c0 x0 hY (h0.lend 1 rfl) hc0 hm0) rfl (fun _ _ => rfl) (.sel 1 rfl (.sel 1 rfl (.rowV_nil (.tt_in (.sel 0 rfl (.sel 0 rfl (.nil _))))))) ?_ ?_ ?_
 intro l s8v x6v gh7v y9v Fr
 refine sim_ent (H' := [obj b2v 3 [.int .i64 s8v.1], obj b1v 64 [.slice y9v.2.1 s8v.2.length y9v.2.2], RowV 33 1 (V33 (y9v.1)) y9v.2.1 s8v.2 y9v.2.2, y9v.1, Row 5 1 gh7v.1 x6v.2.length gh7v.2 (encB x6v.2), Fr]) (Ent.refl _) ?_
 refine sr ?_
 refine va rfl rfl (ny ?_)
 refine va rfl rfl (simL_nil ?_)
 exact nrm_cut () ⟨rfl, rfl, rfl, rfl, trivial⟩ (Ent.refl _)
 intro l s8v x6v gh7v y9v Fr
 refine sim_ent (H' := [obj b2v 3 [.int .i64 s8v.1], obj b1v 64 [.slice y9v.2.1 s8v.2.length y9v.2.2], RowV 33 1 (V33 (y9v.1)) y9v.2.1 s8v.2 y9v.2.2, y9v.1, Row 5 1 gh7v.1 x6v.2.length gh7v.2 (encB x6v.2), Fr]) (Ent.refl _) ?_
 refine sim_block ?_
 refine sr ?_
 refine vq (q_load rfl rfl Tryz.isAgg64 (.obj 1 rfl rfl)) rfl ?_
 refine vm rfl rfl ?_
 refine simL_lend 4 rfl (fun hq11v hq12v hq13v hq14v => ?_)
 have hlb15v : ListV 1 (V33 (Row 5 1 gh7v.1 x6v.2.length gh7v.2 (encB x6v.2))) ([x6v.2] : List (List UInt8)) [[.slice gh7v.1 x6v.2.length gh7v.2]] := ⟨⟨rfl, one_of (by rfl), ⟨gh7v.1, gh7v.2, rfl, ⟨hq11v, hq12v, hq13v⟩⟩⟩, trivial⟩
 refine simL_eff (re_litV (V := (V33 (Row 5 1 gh7v.1 x6v.2.length gh7v.2 (encB x6v.2)))) (xs := ([x6v.2] : List (List UInt8))) [[.slice gh7v.1 x6v.2.length gh7v.2]] rfl rfl Tryz.underlying64 elt33 rfl (by kernel_rfl) rfl hlb15v rfl rfl) rfl rfl rfl ?_
 intro b15v
 refine simL_openV 3 rfl (fun rs20v hl21v => ?_)
 refine simL_ent (H' := [stars [Row 5 1 gh7v.1 x6v.2.length gh7v.2 (encB x6v.2), y9v.1], Row 33 1 (some ⟨b15v, 0, none⟩) ([x6v.2] : List (List UInt8)).length 1 [[.slice gh7v.1 x6v.2.length gh7v.2]].flatten, obj b2v 3 [.int .i64 s8v.1], obj b1v 64 [.slice y9v.2.1 s8v.2.length y9v.2.2], Row 33 1 y9v.2.1 s8v.2.length y9v.2.2 rs20v.flatten, Fr]) (Ent.trans (m := [Row 5 1 gh7v.1 x6v.2.length gh7v.2 (encB x6v.2), y9v.1, Row 33 1 (some ⟨b15v, 0, none⟩) ([x6v.2] : List (List UInt8)).length 1 [[.slice gh7v.1 x6v.2.length gh7v.2]].flatten, obj b2v 3 [.int .i64 s8v.1], obj b1v 64 [.slice y9v.2.1 s8v.2.length y9v.2.2], Row 33 1 y9v.2.1 s8v.2.length y9v.2.2 rs20v.flatten, Fr]) (.sel 5 rfl (.sel 4 rfl (.sel 0 rfl (.sel 0 rfl (.sel 0 rfl (.sel 0 rfl (.sel 0 rfl (.nil _)))))))) (ent_pack [Row 5 1 gh7v.1 x6v.2.length gh7v.2 (encB x6v.2), y9v.1] _)) ?_
 refine simL_ask (fun hb23v => ?_)
 refine simL_eff (re_appendV 4 rfl rfl rfl Tryz.underlying64 elt33 rfl (hl21v.mono (V33.up (Up.lend (l := [Row 5 1 gh7v.1 x6v.2.length gh7v.2 (encB x6v.2), y9v.1]) 1 rfl))) (RdsV.row (hlb15v.mono (V33.up (Up.lend (l := [Row 5 1 gh7v.1 x6v.2.length gh7v.2 (encB x6v.2), y9v.1]) 0 rfl))) 1 rfl) hb23v) rfl rfl rfl ?_
 intro y22v
 refine simL_do (re_store 3 rfl rfl rfl Tryz.sizeOf64 rfl rfl (one_of (by rfl)) rfl rfl) rfl rfl ?_
 intro _
 refine ny ?_
 refine vm rfl rfl ?_
 refine vq (q_add rfl rfl rfl) rfl ?_
 refine vm rfl rfl ?_
 refine vq (q_len rfl rfl rfl Tryz.underlying33) rfl ?_
 refine vq (q_add rfl rfl rfl) rfl ?_
 refine simL_do (re_store 2 rfl rfl rfl Tryz.sizeOf3 rfl rfl (one_of (by rfl)) rfl rfl) rfl rfl ?_
 intro _
 refine simL_nil (nrm_block ?_)
 exact nrm_cut (s := (IntKind.i64.wrap ((IntKind.i64.wrap (x6v.1 + 8)) + (x6v.2.length : Int)), s8v.2 ++ ([x6v.2] : List (List UInt8)))) (stars [Row 5 1 gh7v.1 x6v.2.length gh7v.2 (encB x6v.2), y9v.1], y22v.1, y22v.2) trivial (.sel 2 rfl (.sel 2 rfl (.sel 2 rfl (.sel 0 rfl (.sel 1 rfl (.nil _))))))
 intro D26v s24v y25v
 refine nrm_ent (H' := [shutD D26v, obj b2v 3 [.int .i64 s24v.1], obj b1v 64 [.slice y25v.2.1 s24v.2.length y25v.2.2], RowV 33 1 (V33 (y25v.1)) y25v.2.1 s24v.2 y25v.2.2, y25v.1, obj y5v 33 [.slice a0 x0.length c0], F]) (Ent.refl _) ?_
 refine nrm_block (nrm_then (sim_seq (sr ?_)))
 refine vq (q_load rfl rfl Tryz.isAgg3 (.obj 1 rfl rfl)) rfl ?_
 refine vm rfl rfl ?_
 refine vq (q_len rfl rfl rfl Tryz.underlying33) rfl ?_
 refine vq (q_eql rfl rfl rfl) rfl (simL_nil (nrm_then ?_))
 refine sim_cond rfl (fun h27v => ?_) (fun h28v => ?_)
 refine sim_seq ?_
 refine sim_openV 3 rfl (fun rs29v hl30v => ?_)
 refine sim_draw (Γ := Unit) () [[], [], [0], [0, 1, 2], rL 4] [] [0, 1, 2, 3, 4] (fun i => [[0], [0], [0], [0], [0]].getD i []) (fun i => [[], [], [], [], []].getD i []) (fun γ i => [.slice y25v.2.1 s24v.2.length y25v.2.2, .int .i64 s24v.1, .slice y25v.2.1 s24v.2.length y25v.2.2, .int .i64 s24v.1, .int .i64 0].getD i undef) (fun j γ => [[shutD D26v, obj b2v 3 [.int .i64 s24v.1], obj b1v 64 [.slice y25v.2.1 s24v.2.length y25v.2.2], Row 33 1 y25v.2.1 s24v.2.length y25v.2.2 rs29v.flatten, y25v.1, obj y5v 33 [.slice a0 x0.length c0], F]].getD j []) (fun γ => [(2, .slice y25v.2.1 s24v.2.length y25v.2.2), (3, .int .i64 s24v.1), (4, .int .i64 0)]) mixed (by decide) (by decide) (by decide) (by decide) (by decide) (by decide) (by decide) 41 rfl (by decide) (by decide) (by decide) (Ent.refl _) ?_ ?_ (fun _ => ⟨rfl, rfl, rfl, trivial⟩) ?_
 exact (aq rfl (fun γ => qp rfl rfl (.o (s := 5) rfl (by decide) .nil) (q_load rfl rfl Tryz.isAgg64 (.obj 2 rfl rfl)) rfl) (aq rfl (fun γ => qp rfl rfl (.o (s := 6) rfl (by decide) .nil) (q_load rfl rfl Tryz.isAgg3 (.obj 1 rfl rfl)) rfl) (aq rfl (fun γ => qp rfl rfl (.v 0 rfl rfl .nil) (q_asg rfl rfl) rfl) (aq rfl (fun γ => qp rfl rfl (.v 1 rfl rfl .nil) (q_asg rfl rfl) rfl) (aq rfl (fun γ => qp rfl rfl .nil (q_asg rfl rfl) rfl) zA)))))
 exact zA
 intro g31v
 refine nrm_then (sim_rtn ?_)
 refine rtn_then ?_
 exact rtn_fnM [D26v] (y25v.2.1, y25v.2.2, y25v.1) rfl rfl rfl (.sel 0 rfl (.sel' 2 rfl (RowV.mk hl30v) (.sel 2 rfl (.sel 3 rfl (.nil _)))))
 refine sim_skip ?_
 refine nrm_then (sr ?_)
 refine vm rfl rfl ?_
 refine vq (q_load rfl rfl Tryz.isAgg3 (.obj 1 rfl rfl)) rfl ?_
 refine simL_bind (fun s32v hs33v => ?_)
 refine simL_eff (re_call (vs := [.slice a0 x0.length c0, .int .i64 s24v.1]) (cap := []) (A := []) (rst := [shutD D26v, obj b2v 3 [.int .i64 s24v.1], obj b1v 64 [.slice y25v.2.1 s24v.2.length y25v.2.2], RowV 33 1 (V33 (y25v.1)) y25v.2.1 s24v.2 y25v.2.2, y25v.1, obj y5v 33 [.slice a0 x0.length c0], F]) rfl rfl rfl rfl rfl rfl Tryz.call68 (.sel 0 rfl (.sel 0 rfl (.sel 0 rfl (.sel 0 rfl (.sel 0 rfl (.sel 0 rfl (.sel 0 rfl (.nil _)))))))) (frame_Get.calls _ _ k a0 c0 x0 s24v.1 (h0.lend 6 rfl) hc0 hm0) hs33v) rfl rfl rfl ?_
 intro y34v
 refine vm rfl rfl ?_
 refine vq (q_ext rfl rfl rfl) rfl ?_
 refine vq (q_ext rfl rfl rfl) rfl ?_
 refine vq (q_ext rfl rfl rfl) rfl ?_
 refine va rfl rfl ?_
 refine va rfl rfl ?_
 refine va rfl rfl (simL_nil (nrm_then (sim_seq ?_)))
 refine sim_openV 4 rfl (fun rs35v hl36v => ?_)
 refine sim_draw (Γ := Unit) () [[], [], [], [0], [0, 1, 3], rL 5] [] [0, 1, 2, 3, 4, 5] (fun i => [[0], [0], [0], [0], [0], [0]].getD i []) (fun i => [[], [], [], [], [], []].getD i []) (fun γ i => [.slice y25v.2.1 s24v.2.length y25v.2.2, .int .i64 s24v.1, .int .i64 s32v.2.2, .slice y25v.2.1 s24v.2.length y25v.2.2, .int .i64 s24v.1, .int .i64 s32v.2.2].getD i undef) (fun j γ => [[Row 5 1 y34v.1 s32v.1.length y34v.2 (encB s32v.1), shutD D26v, obj b2v 3 [.int .i64 s24v.1], obj b1v 64 [.slice y25v.2.1 s24v.2.length y25v.2.2], Row 33 1 y25v.2.1 s24v.2.length y25v.2.2 rs35v.flatten, y25v.1, obj y5v 33 [.slice a0 x0.length c0], F]].getD j []) (fun γ => [(2, .slice y25v.2.1 s24v.2.length y25v.2.2), (3, .int .i64 s24v.1), (4, .int .i64 s32v.2.2)]) mixed (by decide) (by decide) (by decide) (by decide) (by decide) (by decide) (by decide) 41 rfl (by decide) (by decide) (by decide) (Ent.refl _) ?_ ?_ (fun _ => ⟨rfl, rfl, rfl, trivial⟩) ?_
 exact (aq rfl (fun γ => qp rfl rfl (.o (s := 5) rfl (by decide) .nil) (q_load rfl rfl Tryz.isAgg64 (.obj 3 rfl rfl)) rfl) (aq rfl (fun γ => qp rfl rfl (.o (s := 6) rfl (by decide) .nil) (q_load rfl rfl Tryz.isAgg3 (.obj 2 rfl rfl)) rfl) (aq rfl (fun γ => qm rfl (.o (s := 11) rfl (by decide) .nil) rfl) (aq rfl (fun γ => qp rfl rfl (.v 0 rfl rfl .nil) (q_asg rfl rfl) rfl) (aq rfl (fun γ => qp rfl rfl (.v 1 rfl rfl .nil) (q_asg rfl rfl) rfl) (aq rfl (fun γ => qp rfl rfl (.v 2 rfl rfl .nil) (q_asg rfl rfl) rfl) zA))))))
 exact zA
 intro g37v
 refine nrm_then (sim_rtn ?_)
 exact rtn_fnM [D26v] (y25v.2.1, y25v.2.2, y25v.1) rfl rfl rfl (.sel 1 rfl (.sel' 3 rfl (RowV.mk hl36v) (.sel 3 rfl (.sel 4 rfl (.nil _)))))

def disk_Disk_Cut.f (x0_0 : List ((List UInt8) × (List UInt8 × Int))) (x0_1 : List UInt8) (x0_2 : Int) (x0_3 : Bool) (x1 : List UInt8) (x2 : Int) : Option (Int × (List ((List UInt8) × (List UInt8 × Int))) × List UInt8 × Int × Bool) := if (mget x0_0 x1).isSome = true then (if x0_3 = true then (some (11, x0_0, x0_1, x0_2, x0_3)) else (if ((decide (x2 < (0 : Int))) || (decide (((((mget x0_0 x1).getD (([] : List UInt8), (0 : Int))).1).length : Int) < x2))) = true then (some (1, x0_0, x0_1, x0_2, x0_3)) else ((disk_Disk_fails.f x0_0 x0_1 x0_2 x0_3).bind fun s7v => (if s7v.1 = true then (some (11, x0_0, s7v.2.1, s7v.2.2.1, s7v.2.2.2)) else (if 0 ≤ (0 : Int) ∧ (0 : Int) ≤ x2 ∧ x2 ≤ ((((mget x0_0 x1).getD (([] : List UInt8), (0 : Int))).1).length : Int) then (some (0, mput x0_0 x1 (cut (((mget x0_0 x1).getD (([] : List UInt8), (0 : Int))).1) (0 : Int) x2, min (((mget x0_0 x1).getD (([] : List UInt8), (0 : Int))).2) x2), s7v.2.1, s7v.2.2.1, s7v.2.2.2)) else none))))) else (if x0_3 = true then (some (11, x0_0, x0_1, x0_2, x0_3)) else (some (8, x0_0, x0_1, x0_2, x0_3)))
theorem disk_Disk_Cut.calls (W : World) (F : HA) (b0 : Nat) (m0_0 : Nat) (q0_0 : Kps) (x0_0 : List ((List UInt8) × (List UInt8 × Int))) (x0_1 : List UInt8) (x0_2 : Int) (x0_3 : Bool) (x1 : List UInt8) (x2 : Int)  :
    Fn Tryz.prog W 74 [.pointer (some ⟨b0, 0, none⟩), str x1, .int .i64 x2] [obj b0 97 [.map (some m0_0), str x0_1, .int .i64 x0_2, .bool x0_3], mapF (mapO m0_0 enc9 encP q0_0) FA109 q0_0 x0_0] F (disk_Disk_Cut.f x0_0 x0_1 x0_2 x0_3 x1 x2) (fun (r : Int × (List ((List UInt8) × (List UInt8 × Int))) × List UInt8 × Int × Bool) (y : Nat × Kps) => .int .i64 r.1) (fun r y => [obj b0 97 [.map (some y.1), str r.2.2.1, .int .i64 r.2.2.2.1, .bool r.2.2.2.2], mapF (mapO y.1 enc9 encP y.2) FA109 y.2 r.2.1]) := by
 unfold disk_Disk_Cut.f
 refine fn_intro 55 Tryz.func74 rfl Tryz.ntmps74 rfl ?_
 refine sr ?_
 refine va rfl rfl (simL_nil (nrm_then (sim_seq ?_)))
 refine sim_if (fun hk1v => ?_) (fun hk1v => ?_)
 refine sim_region ?_
 refine vm rfl rfl ?_
 refine vn rfl rfl ?_
 refine vq (q_fa rfl rfl Tryz.underlying97 rfl rfl Tryz.sizeOf95 rfl) rfl ?_
 refine vq (q_load rfl rfl Tryz.isAgg95 (.obj 0 rfl rfl)) rfl ?_
 refine vm rfl rfl ?_
 refine vq ((q_mlookY (ek := enc9) x1 (tellsF 1 rfl) hk1v rfl rfl rfl Tryz.underlying95 key9 : RQ _ _ _ _ (.pointer (some ⟨(fptr q0_0 x1), 0, none⟩)))) rfl ?_
 refine va rfl rfl (simL_nil (nrm_then (sim_seq ?_)))
 refine sim_block ?_
 refine sr ?_
 refine vm rfl rfl ?_
 refine vn rfl rfl ?_
 refine vq (q_fa rfl rfl Tryz.underlying97 rfl rfl Tryz.sizeOf4 rfl) rfl ?_
 refine vq (q_load rfl rfl Tryz.isAgg4 (.obj 0 rfl rfl)) rfl ?_
 refine va rfl rfl (simL_nil (nrm_then ?_))
 refine sim_condb rfl (fun h2v => ?_) (fun h3v => ?_)
 refine sr ?_
 refine va rfl rfl (simL_nil (nrm_then (sim_rtn ?_)))
 refine rtn_block ?_
 refine rtn_then ?_
 exact rtn_fn (m0_0, q0_0) rfl rfl rfl (.sel 0 rfl (.sel 0 rfl (.sel 0 rfl (.nil _))))
 refine sr ?_
 refine vm rfl rfl ?_
 refine vq (q_eqp rfl rfl rfl Tryz.underlying107) rfl ?_
 refine va rfl rfl (simL_nil (nrm_then ?_))
 refine sim_false rfl ?_
 refine sim_seq ?_
 refine sim_openF (v := ((mget x0_0 x1).getD (([] : List UInt8), (0 : Int)))) 1 rfl (getD_some hk1v) (fun y4v => ?_)
 refine sim_ent (H' := [obj (fptr q0_0 x1) 109 [.slice y4v.1 ((((mget x0_0 x1).getD (([] : List UInt8), (0 : Int))).1).length) y4v.2, .int .i64 (((mget x0_0 x1).getD (([] : List UInt8), (0 : Int))).2)], Row 5 1 y4v.1 (((mget x0_0 x1).getD (([] : List UInt8), (0 : Int))).1).length y4v.2 (encB (((mget x0_0 x1).getD (([] : List UInt8), (0 : Int))).1)), mapH (mapO m0_0 enc9 encP q0_0) FA109 q0_0 x0_0 x1, obj b0 97 [.map (some m0_0), str x0_1, .int .i64 x0_2, .bool x0_3], F]) (Ent.refl _) ?_
 refine sim_region ?_
 refine vm rfl rfl ?_
 refine vq (q_lss rfl rfl rfl) rfl ?_
 refine vm rfl rfl ?_
 refine simL_valc (b := decide (x2 < (0 : Int))) (fun hb30v => RQ.sub (E' := [(2, .int .i64 x2)]) ⟨rfl, trivial⟩ (q_move rfl rfl)) rfl rfl rfl rfl rfl ?_
 refine simL_valc (b := decide (x2 < (0 : Int))) (fun hb29v => RQ.sub (E' := [(7, .pointer (some ⟨(fptr q0_0 x1), 0, none⟩))]) ⟨rfl, trivial⟩ (q_move rfl rfl)) rfl rfl rfl rfl rfl ?_
 refine simL_valc (b := decide (x2 < (0 : Int))) (fun hb28v => RQ.sub (E' := [(27, .pointer (some ⟨(fptr q0_0 x1), 0, none⟩))]) ⟨lk_cv rfl hb28v, trivial⟩ (q_nil rfl rfl)) rfl rfl rfl rfl rfl ?_
 refine simL_valc (b := decide (x2 < (0 : Int))) (fun hb27v => RQ.sub (E' := [(28, .pointer (some ⟨(fptr q0_0 x1), 0, none⟩))]) ⟨lk_cv rfl hb27v, trivial⟩ (q_fa rfl rfl Tryz.underlying109 rfl rfl Tryz.sizeOf33 rfl)) rfl rfl rfl rfl rfl ?_
 refine simL_valc (b := decide (x2 < (0 : Int))) (fun hb26v => RQ.sub (E' := [(29, .pointer (some ⟨(fptr q0_0 x1), 0, none⟩))]) ⟨lk_cv rfl hb26v, trivial⟩ (q_load rfl rfl Tryz.isAgg33 (.obj 0 rfl rfl))) rfl rfl rfl rfl rfl ?_
 refine simL_valc (b := decide (x2 < (0 : Int))) (fun hb25v => RQ.sub (E' := [(30, .slice y4v.1 ((((mget x0_0 x1).getD (([] : List UInt8), (0 : Int))).1).length) y4v.2)]) ⟨lk_cv rfl hb25v, trivial⟩ (q_len rfl rfl rfl Tryz.underlying33)) rfl rfl rfl rfl rfl ?_
 refine simL_valc (b := decide (x2 < (0 : Int))) (fun hb24v => RQ.sub (E' := [(26, .int .i64 x2), (31, .int .i64 ((((mget x0_0 x1).getD (([] : List UInt8), (0 : Int))).1).length : Int))]) ⟨lk_cv rfl hb24v, lk_cv rfl hb24v, trivial⟩ (q_gtr rfl rfl rfl)) rfl rfl rfl rfl rfl ?_
 refine vq (q_or rfl rfl rfl) rfl ?_
 refine va rfl rfl (simL_nil (nrm_then ?_))
 refine sim_condb rfl (fun h5v => ?_) (fun h6v => ?_)
 refine sr ?_
 refine va rfl rfl (simL_nil (nrm_then (sim_rtn ?_)))
 refine rtn_block ?_
 refine rtn_then ?_
 exact rtn_fn (m0_0, q0_0) rfl rfl rfl (.sel 3 rfl (.foldF0 (x := x1) (p := (fptr q0_0 x1)) (v := ((mget x0_0 x1).getD (([] : List UInt8), (0 : Int)))) (y4v.1, y4v.2) rfl (getD_some hk1v) (.sel 2 rfl (.sel 0 rfl (.sel 0 rfl (.sel 0 rfl (.nil _)))))))
 refine sr ?_
 refine vm rfl rfl ?_
 refine simL_ent (H' := [mapF (mapO m0_0 enc9 encP q0_0) FA109 q0_0 x0_0, obj b0 97 [.map (some m0_0), str x0_1, .int .i64 x0_2, .bool x0_3], F]) ((.foldF0 (x := x1) (p := (fptr q0_0 x1)) (v := ((mget x0_0 x1).getD (([] : List UInt8), (0 : Int)))) (y4v.1, y4v.2) rfl (getD_some hk1v) (.sel 2 rfl (.sel 0 rfl (.sel 0 rfl (.sel 0 rfl (.sel 0 rfl (.nil _)))))))) ?_
 refine simL_bind (fun s7v hs8v => ?_)
 refine simL_eff (re_call (vs := [.pointer (some ⟨b0, 0, none⟩)]) (cap := []) (A := [obj b0 97 [.map (some m0_0), str x0_1, .int .i64 x0_2, .bool x0_3], mapF (mapO m0_0 enc9 encP q0_0) FA109 q0_0 x0_0]) (rst := [F]) rfl rfl rfl rfl rfl rfl Tryz.call58 (.sel 1 rfl (.sel 0 rfl (.sel 0 rfl (.nil _)))) (disk_Disk_fails.calls _ _ b0 m0_0 q0_0 x0_0 x0_1 x0_2 x0_3 ) hs8v) rfl rfl rfl ?_
 intro y9v
 refine va rfl rfl (simL_nil (nrm_then ?_))
 refine sim_condb rfl (fun h10v => ?_) (fun h11v => ?_)
 refine sr ?_
 refine va rfl rfl (simL_nil (nrm_then (sim_rtn ?_)))
 refine rtn_block ?_
 refine rtn_then ?_
 exact rtn_fn (m0_0, q0_0) rfl rfl rfl (.sel 0 rfl (.sel 0 rfl (.sel 0 rfl (.nil _))))
 refine sim_skip ?_
 refine nrm_block (nrm_then (sim_seq ?_))
 refine sim_openF (v := ((mget x0_0 x1).getD (([] : List UInt8), (0 : Int)))) 1 rfl (getD_some hk1v) (fun y12v => ?_)
 refine sim_ent (H' := [obj (fptr q0_0 x1) 109 [.slice y12v.1 ((((mget x0_0 x1).getD (([] : List UInt8), (0 : Int))).1).length) y12v.2, .int .i64 (((mget x0_0 x1).getD (([] : List UInt8), (0 : Int))).2)], Row 5 1 y12v.1 (((mget x0_0 x1).getD (([] : List UInt8), (0 : Int))).1).length y12v.2 (encB (((mget x0_0 x1).getD (([] : List UInt8), (0 : Int))).1)), mapH (mapO m0_0 enc9 encP q0_0) FA109 q0_0 x0_0 x1, obj b0 97 [.map (some m0_0), str s7v.2.1, .int .i64 s7v.2.2.1, .bool s7v.2.2.2], F]) (Ent.refl _) ?_
 refine sim_region ?_
 refine vm rfl rfl ?_
 refine vm rfl rfl ?_
 refine vn rfl rfl ?_
 refine vq (q_fa rfl rfl Tryz.underlying109 rfl rfl Tryz.sizeOf33 rfl) rfl ?_
 refine vq (q_load rfl rfl Tryz.isAgg33 (.obj 0 rfl rfl)) rfl ?_
 refine vm rfl rfl ?_
 refine simL_ask (fun hb13v => ?_)
 refine simL_lend 1 rfl (fun hq20v hq21v hq22v hq23v => ?_)
 obtain ⟨a14v, c15v, hS16v, hr17v, hc18v, hm19v⟩ := slice_pre (lo := (0 : Int)) (hi := x2) hq20v hq21v hb13v
 refine vq (q_sub_ro (l := (((mget x0_0 x1).getD (([] : List UInt8), (0 : Int))).1)) (lo' := (0 : Int)) (hi' := x2) rfl rfl rfl rfl Tryz.underlying33 Tryz.sizeOf5 (.inr ⟨_, rfl⟩) (.inl ⟨rfl, rfl⟩) hb13v hq21v hS16v) rfl ?_
 refine vn rfl rfl ?_
 refine vq (q_fa rfl rfl Tryz.underlying109 rfl rfl Tryz.sizeOf33 rfl) rfl ?_
 refine simL_do (RE.ent (Ent.cutB 1 rfl hS16v hb13v hq21v) (re_store 0 rfl rfl rfl Tryz.sizeOf33 rfl rfl (one_of (by rfl)) rfl rfl)) rfl rfl ?_
 intro _
 refine nx ?_
 refine vm rfl rfl ?_
 refine vm rfl rfl ?_
 refine vn rfl rfl ?_
 refine vq (q_fa rfl rfl Tryz.underlying109 rfl rfl Tryz.sizeOf3 rfl) rfl ?_
 refine vq (q_load rfl rfl Tryz.isAgg3 (.obj 0 rfl rfl)) rfl ?_
 refine vm rfl rfl ?_
 refine vq (q_min rfl rfl rfl) rfl ?_
 refine vn rfl rfl ?_
 refine vq (q_fa rfl rfl Tryz.underlying109 rfl rfl Tryz.sizeOf3 rfl) rfl ?_
 refine simL_do (re_store 0 rfl rfl rfl Tryz.sizeOf3 rfl rfl (one_of (by rfl)) rfl rfl) rfl rfl ?_
 intro _
 refine nx ?_
 refine va rfl rfl (simL_nil (nrm_then (sim_rtn ?_)))
 exact rtn_fn (m0_0, q0_0) rfl rfl rfl (.sel 3 rfl (.foldF (x := x1) (p := (fptr q0_0 x1)) (v := (cut (((mget x0_0 x1).getD (([] : List UInt8), (0 : Int))).1) (0 : Int) x2, min (((mget x0_0 x1).getD (([] : List UInt8), (0 : Int))).2) x2)) (a14v, c15v) rfl (.sel 2 rfl (.sel 0 rfl (.sel 0 rfl (.sel 0 rfl (.nil _)))))))
 refine sim_region ?_
 refine vm rfl rfl ?_
 refine vn rfl rfl ?_
 refine vq (q_fa rfl rfl Tryz.underlying97 rfl rfl Tryz.sizeOf95 rfl) rfl ?_
 refine vq (q_load rfl rfl Tryz.isAgg95 (.obj 0 rfl rfl)) rfl ?_
 refine vm rfl rfl ?_
 refine vq (q_mlookN (ek := enc9) x1 (tellsF 1 rfl) (isNone_of hk1v) rfl rfl rfl Tryz.underlying95 key9 Tryz.zeroValue107) rfl ?_
 refine va rfl rfl (simL_nil (nrm_then (sim_seq ?_)))
 refine sim_block ?_
 refine sr ?_
 refine vm rfl rfl ?_
 refine vn rfl rfl ?_
 refine vq (q_fa rfl rfl Tryz.underlying97 rfl rfl Tryz.sizeOf4 rfl) rfl ?_
 refine vq (q_load rfl rfl Tryz.isAgg4 (.obj 0 rfl rfl)) rfl ?_
 refine va rfl rfl (simL_nil (nrm_then ?_))
 refine sim_condb rfl (fun h31v => ?_) (fun h32v => ?_)
 refine sr ?_
 refine va rfl rfl (simL_nil (nrm_then (sim_rtn ?_)))
 refine rtn_block ?_
 refine rtn_then ?_
 exact rtn_fn (m0_0, q0_0) rfl rfl rfl (.sel 0 rfl (.sel 0 rfl (.sel 0 rfl (.nil _))))
 refine sr ?_
 refine vm rfl rfl ?_
 refine vq (q_eqnn rfl rfl rfl Tryz.underlying107) rfl ?_
 refine va rfl rfl (simL_nil (nrm_then ?_))
 refine sim_true rfl ?_
 refine sr ?_
 refine va rfl rfl (simL_nil (nrm_then (sim_rtn ?_)))
 refine rtn_block ?_
 refine rtn_then ?_
 exact rtn_fn (m0_0, q0_0) rfl rfl rfl (.sel 0 rfl (.sel 0 rfl (.sel 0 rfl (.nil _))))

def disk_Disk_Remove.f (x0_0 : List ((List UInt8) × (List UInt8 × Int))) (x0_1 : List UInt8) (x0_2 : Int) (x0_3 : Bool) (x1 : List UInt8) : Option (Int × (List ((List UInt8) × (List UInt8 × Int))) × List UInt8 × Int × Bool) := if x0_3 = true then (some (11, x0_0, x0_1, x0_2, x0_3)) else ((disk_Disk_Has.f x0_0 x0_1 x0_2 x0_3 x1).bind fun s3v => (if (!s3v) = true then (some (8, x0_0, x0_1, x0_2, x0_3)) else ((disk_Disk_fails.f x0_0 x0_1 x0_2 x0_3).bind fun s8v => (if s8v.1 = true then (some (11, x0_0, s8v.2.1, s8v.2.2.1, s8v.2.2.2)) else ((if s8v.2.1 = x1 then (some ([] : List UInt8)) else (some s8v.2.1)).bind fun s13v => (some (0, mdel x0_0 x1, s13v, s8v.2.2.1, s8v.2.2.2)))))))
theorem disk_Disk_Remove.calls (W : World) (F : HA) (b0 : Nat) (m0_0 : Nat) (q0_0 : Kps) (x0_0 : List ((List UInt8) × (List UInt8 × Int))) (x0_1 : List UInt8) (x0_2 : Int) (x0_3 : Bool) (x1 : List UInt8)  :
    Fn Tryz.prog W 64 [.pointer (some ⟨b0, 0, none⟩), str x1] [obj b0 97 [.map (some m0_0), str x0_1, .int .i64 x0_2, .bool x0_3], mapF (mapO m0_0 enc9 encP q0_0) FA109 q0_0 x0_0] F (disk_Disk_Remove.f x0_0 x0_1 x0_2 x0_3 x1) (fun (r : Int × (List ((List UInt8) × (List UInt8 × Int))) × List UInt8 × Int × Bool) (y : Nat × Kps) => .int .i64 r.1) (fun r y => [obj b0 97 [.map (some y.1), str r.2.2.1, .int .i64 r.2.2.2.1, .bool r.2.2.2.2], mapF (mapO y.1 enc9 encP y.2) FA109 y.2 r.2.1]) := by
 unfold disk_Disk_Remove.f
 refine fn_intro 32 Tryz.func64 rfl Tryz.ntmps64 rfl ?_
 refine sr ?_
 refine va rfl rfl (simL_nil (nrm_then (sim_seq ?_)))
 refine sim_block ?_
 refine sr ?_
 refine vm rfl rfl ?_
 refine vn rfl rfl ?_
 refine vq (q_fa rfl rfl Tryz.underlying97 rfl rfl Tryz.sizeOf4 rfl) rfl ?_
 refine vq (q_load rfl rfl Tryz.isAgg4 (.obj 0 rfl rfl)) rfl ?_
 refine va rfl rfl (simL_nil (nrm_then ?_))
 refine sim_condb rfl (fun h1v => ?_) (fun h2v => ?_)
 refine sr ?_
 refine va rfl rfl (simL_nil (nrm_then (sim_rtn ?_)))
 refine rtn_block ?_
 refine rtn_then ?_
 exact rtn_fn (m0_0, q0_0) rfl rfl rfl (.sel 0 rfl (.sel 0 rfl (.sel 0 rfl (.nil _))))
 refine sr ?_
 refine vm rfl rfl ?_
 refine vm rfl rfl ?_
 refine simL_bind (fun s3v hs4v => ?_)
 refine simL_eff (re_call (vs := [.pointer (some ⟨b0, 0, none⟩), str x1]) (cap := []) (A := [obj b0 97 [.map (some m0_0), str x0_1, .int .i64 x0_2, .bool x0_3], mapF (mapO m0_0 enc9 encP q0_0) FA109 q0_0 x0_0]) (rst := [F]) rfl rfl rfl rfl rfl rfl Tryz.call57 (.sel 0 rfl (.sel 0 rfl (.sel 0 rfl (.nil _)))) (disk_Disk_Has.calls _ _ b0 m0_0 q0_0 x0_0 x0_1 x0_2 x0_3 x1 ) hs4v) rfl rfl rfl ?_
 intro y5v
 refine vq (q_not rfl rfl) rfl ?_
 refine va rfl rfl (simL_nil (nrm_then ?_))
 refine sim_condb rfl (fun h6v => ?_) (fun h7v => ?_)
 refine sr ?_
 refine va rfl rfl (simL_nil (nrm_then (sim_rtn ?_)))
 refine rtn_block ?_
 refine rtn_then ?_
 exact rtn_fn (m0_0, q0_0) rfl rfl rfl (.sel 0 rfl (.sel 0 rfl (.sel 0 rfl (.nil _))))
 refine sr ?_
 refine vm rfl rfl ?_
 refine simL_bind (fun s8v hs9v => ?_)
 refine simL_eff (re_call (vs := [.pointer (some ⟨b0, 0, none⟩)]) (cap := []) (A := [obj b0 97 [.map (some m0_0), str x0_1, .int .i64 x0_2, .bool x0_3], mapF (mapO m0_0 enc9 encP q0_0) FA109 q0_0 x0_0]) (rst := [F]) rfl rfl rfl rfl rfl rfl Tryz.call58 (.sel 0 rfl (.sel 0 rfl (.sel 0 rfl (.nil _)))) (disk_Disk_fails.calls _ _ b0 m0_0 q0_0 x0_0 x0_1 x0_2 x0_3 ) hs9v) rfl rfl rfl ?_
 intro y10v
 refine va rfl rfl (simL_nil (nrm_then ?_))
 refine sim_condb rfl (fun h11v => ?_) (fun h12v => ?_)
 refine sr ?_
 refine va rfl rfl (simL_nil (nrm_then (sim_rtn ?_)))
 refine rtn_block ?_
 refine rtn_then ?_
 exact rtn_fn (m0_0, q0_0) rfl rfl rfl (.sel 0 rfl (.sel 0 rfl (.sel 0 rfl (.nil _))))
 refine sim_skip ?_
 refine nrm_block (nrm_then (sr ?_))
 refine vm rfl rfl ?_
 refine vn rfl rfl ?_
 refine vq (q_fa rfl rfl Tryz.underlying97 rfl rfl Tryz.sizeOf95 rfl) rfl ?_
 refine vq (q_load rfl rfl Tryz.isAgg95 (.obj 0 rfl rfl)) rfl ?_
 refine vm rfl rfl ?_
 refine simL_do (re_mdelF (ek := enc9) 1 x1 rfl rfl rfl rfl Tryz.underlying95 key9 rfl) rfl rfl ?_
 intro _
 refine simL_nil (nrm_then ?_)
 refine sim_cut (S := List UInt8) (Unit) (fun s y => []) (fun s y => [obj b0 97 [.map (some m0_0), str s, .int .i64 s8v.2.2.1, .bool s8v.2.2.2], mapF (mapO m0_0 enc9 encP (mdel q0_0 x1)) FA109 (mdel q0_0 x1) (mdel x0_0 x1), F]) ?_ ?_
 refine sr ?_
 refine vm rfl rfl ?_
 refine vn rfl rfl ?_
 refine vq (q_fa rfl rfl Tryz.underlying97 rfl rfl Tryz.sizeOf9 rfl) rfl ?_
 refine vq (q_load rfl rfl Tryz.isAgg9 (.obj 0 rfl rfl)) rfl ?_
 refine vm rfl rfl ?_
 refine vq (q_eqs rfl rfl rfl) rfl (simL_nil (nrm_then ?_))
 refine sim_cond rfl (fun h15v => ?_) (fun h16v => ?_)
 refine sim_region ?_
 refine vm rfl rfl ?_
 refine vn rfl rfl ?_
 refine vq (q_fa rfl rfl Tryz.underlying97 rfl rfl Tryz.sizeOf9 rfl) rfl ?_
 refine simL_do (re_store 0 rfl rfl rfl Tryz.sizeOf9 rfl rfl (one_of (by rfl)) rfl rfl) rfl rfl ?_
 intro _
 refine simL_nil ?_
 exact nrm_cut (s := ([] : List UInt8)) () trivial (.sel 0 rfl (.sel 0 rfl (.sel 0 rfl (.nil _))))
 refine sim_skip ?_
 exact nrm_cut (s := s8v.2.1) () trivial (.sel 0 rfl (.sel 0 rfl (.sel 0 rfl (.nil _))))
 intro s13v y14v
 refine sr ?_
 refine va rfl rfl (simL_nil (nrm_then (sim_rtn ?_)))
 exact rtn_fn (m0_0, mdel q0_0 x1) rfl rfl rfl (.sel 0 rfl (.sel 0 rfl (.sel 0 rfl (.nil _))))

def wire_NewReader.f (x0 : List UInt8) : Option (List UInt8 × Int × Int) := (wire_fresh.f x0).bind fun s1v => (some (s1v, 0, 0))
theorem wire_NewReader.calls (W : World) (F : HA) (a0 : Option Addr) (c0 : Nat) (x0 : List UInt8) (h0 : Rd F a0 (encB x0)) (hc0 : x0.length ≤ c0) (hm0 : c0 ≤ maxLen) :
    Fn Tryz.prog W 100 [.slice a0 x0.length c0] [] F (wire_NewReader.f x0) (fun (r : List UInt8 × Int × Int) (y : Nat × Option Addr × Nat) => .pointer (some ⟨y.1, 0, none⟩)) (fun r y => [obj y.1 180 [.slice y.2.1 r.1.length y.2.2, .int .i64 r.2.1, .int .i64 r.2.2], Row 5 1 y.2.1 r.1.length y.2.2 (encB r.1)]) := by
 unfold wire_NewReader.f
 refine fn_intro 7 Tryz.func100 rfl Tryz.ntmps100 rfl ?_
 refine sr ?_
 refine va rfl rfl (nx ?_)
 refine vm rfl rfl ?_
 refine simL_bind (fun s1v hs2v => ?_)
 refine simL_eff (re_call (vs := [.slice a0 x0.length c0]) (cap := []) (A := []) (rst := [F]) rfl rfl rfl rfl rfl rfl Tryz.call110 (.sel 0 rfl (.nil _)) (wire_fresh.calls _ _ a0 c0 x0 (h0.lend 0 rfl) hc0 hm0) hs2v) rfl rfl rfl ?_
 intro y3v
 refine vq (q_build (v := .agg #[.slice y3v.1 s1v.length y3v.2, .int .i64 0, .int .i64 0]) rfl rfl (fun _ => by kernel_rfl)) rfl ?_
 refine simL_eff (re_box rfl rfl rfl) rfl rfl rfl ?_
 intro b4v
 refine va rfl rfl (simL_nil (nrm_then (sim_rtn ?_)))
 exact rtn_fn (b4v, y3v.1, y3v.2) rfl rfl rfl (.sel 0 rfl (.sel 0 rfl (.sel 0 rfl (.nil _))))

def wire_Int.l0 (x0 : List UInt8) (x1 : Int) : Nat → Int → Int → Option ((Unit) ⊕ (Int × Int × Int))
  | 0, _, _ => none
  | k + 1, z7v, z8v => if z8v < (9 : Int) then (if IntKind.i64.wrap ((x0.length : Int) - x1) ≤ z8v then (some (.inr (0, 0, 2))) else (if 0 ≤ IntKind.i64.wrap (x1 + z8v) ∧ IntKind.i64.wrap (x1 + z8v) < (x0.length : Int) then (if 0 ≤ IntKind.i64.wrap (7 * z8v) then (if (128 : Int) ≤ ((x0.getD (IntKind.i64.wrap (x1 + z8v)).toNat 0).toNat : Int) then (wire_Int.l0 x0 x1 k (bitsV .or .i64 z7v (IntKind.i64.wrap ((IntKind.i64.wrap (bitsV .and .u8 ((x0.getD (IntKind.i64.wrap (x1 + z8v)).toNat 0).toNat : Int) 127)) * 2 ^ (min (IntKind.i64.wrap (7 * z8v)).toNat IntKind.i64.bits)))) (IntKind.i64.wrap (z8v + 1))) else (if ((decide (((x0.getD (IntKind.i64.wrap (x1 + z8v)).toNat 0).toNat : Int) = (0 : Int))) && (decide ((0 : Int) < z8v))) = true then (some (.inr (0, 0, 4))) else (if (4611686018427387904 : Int) < bitsV .or .i64 z7v (IntKind.i64.wrap ((IntKind.i64.wrap (bitsV .and .u8 ((x0.getD (IntKind.i64.wrap (x1 + z8v)).toNat 0).toNat : Int) 127)) * 2 ^ (min (IntKind.i64.wrap (7 * z8v)).toNat IntKind.i64.bits))) then (some (.inr (0, 0, 1))) else (some (.inr (bitsV .or .i64 z7v (IntKind.i64.wrap ((IntKind.i64.wrap (bitsV .and .u8 ((x0.getD (IntKind.i64.wrap (x1 + z8v)).toNat 0).toNat : Int) 127)) * 2 ^ (min (IntKind.i64.wrap (7 * z8v)).toNat IntKind.i64.bits))), IntKind.i64.wrap (z8v + 1), 0)))))) else none) else none)) else (some (.inl ()))
def wire_Int.f (k : Nat) (x0 : List UInt8) (x1 : Int) : Option (Int × Int × Int) := if ((decide (x1 < (0 : Int))) || (decide ((x0.length : Int) ≤ x1))) = true then (some (0, 0, 2)) else (orR (wire_Int.l0 x0 x1 k 0 0) fun s3v => (some (0, 0, 4)))
theorem wire_Int.calls (W : World) (F : HA) (k : Nat) (a0 : Option Addr) (c0 : Nat) (x0 : List UInt8) (x1 : Int) (h0 : Rd F a0 (encB x0)) (hc0 : x0.length ≤ c0) (hm0 : c0 ≤ maxLen) :
    Fn Tryz.prog W 143 [.slice a0 x0.length c0, .int .i64 x1] [] F (wire_Int.f k x0 x1) (fun (r : Int × Int × Int) (y : Unit) => .tuple #[.int .i64 r.1, .int .i64 r.2.1, .int .i64 r.2.2]) (fun r y => []) := by
 unfold wire_Int.f
 refine fn_intro 55 Tryz.func143 rfl Tryz.ntmps143 rfl ?_
 refine sr ?_
 refine va rfl rfl ?_
 refine va rfl rfl ?_
 refine va rfl rfl (simL_nil (nrm_then (sim_seq (sr ?_))))
 refine vm rfl rfl ?_
 refine vq (q_lss rfl rfl rfl) rfl ?_
 refine vm rfl rfl ?_
 refine simL_valc (b := decide (x1 < (0 : Int))) (fun hb29v => RQ.sub (E' := [(1, .int .i64 x1)]) ⟨rfl, trivial⟩ (q_move rfl rfl)) rfl rfl rfl rfl rfl ?_
 refine simL_valc (b := decide (x1 < (0 : Int))) (fun hb28v => RQ.sub (E' := [(0, .slice a0 x0.length c0)]) ⟨rfl, trivial⟩ (q_move rfl rfl)) rfl rfl rfl rfl rfl ?_
 refine simL_valc (b := decide (x1 < (0 : Int))) (fun hb27v => RQ.sub (E' := [(14, .slice a0 x0.length c0)]) ⟨lk_cv rfl hb27v, trivial⟩ (q_len rfl rfl rfl Tryz.underlying33)) rfl rfl rfl rfl rfl ?_
 refine simL_valc (b := decide (x1 < (0 : Int))) (fun hb26v => RQ.sub (E' := [(13, .int .i64 x1), (15, .int .i64 (x0.length : Int))]) ⟨lk_cv rfl hb26v, lk_cv rfl hb26v, trivial⟩ (q_geq rfl rfl rfl)) rfl rfl rfl rfl rfl ?_
 refine vq (q_or rfl rfl rfl) rfl (simL_nil (nrm_then ?_))
 refine sim_condb rfl (fun h1v => ?_) (fun h2v => ?_)
 refine sr ?_
 refine va rfl rfl ?_
 refine va rfl rfl ?_
 refine va rfl rfl (simL_nil (nrm_then (sim_rtn ?_)))
 refine rtn_then ?_
 exact rtn_fn () rfl rfl rfl (.sel 0 rfl (.nil _))
 refine sim_skip ?_
 refine nrm_then (sr ?_)
 refine va rfl rfl (simL_nil (nrm_then ?_))
 refine sim_cutR (S := Unit) (Unit) (fun s y => []) (fun s y => [F]) ?_ ?_
 refine sr ?_
 refine va rfl rfl (simL_nil (nrm_then ?_))
 refine sim_block ?_
 refine sim_loop (S := Int × Int) (Unit) (fun k s => wire_Int.l0 x0 x1 k s.1 s.2) (fun s y => [(0, .slice a0 x0.length c0), (1, .int .i64 x1), (7, .int .i64 s.1), (8, .int .i64 s.2)]) (fun s y => [F]) (fun _ => by rw [wire_Int.l0]) ?_ k (0, 0) () ⟨rfl, rfl, rfl, rfl, trivial⟩ (.sel 0 rfl (.nil _))
 intro k s5v y6v
 refine sim_eq (by rw [wire_Int.l0]) ?_
 refine sim_seq (sr ?_)
 refine vm rfl rfl ?_
 refine vq (q_lss rfl rfl rfl) rfl (simL_nil (nrm_then ?_))
 refine sim_cond rfl (fun h9v => ?_) (fun h10v => ?_)
 refine sim_skip ?_
 refine nrm_then (sim_seq ?_)
 refine sim_block ?_
 refine sim_seq (sr ?_)
 refine vm rfl rfl ?_
 refine vm rfl rfl ?_
 refine vq (q_len rfl rfl rfl Tryz.underlying33) rfl ?_
 refine vm rfl rfl ?_
 refine vq (q_sub rfl rfl rfl) rfl ?_
 refine vq (q_geq rfl rfl rfl) rfl (simL_nil (nrm_then ?_))
 refine sim_cond rfl (fun h11v => ?_) (fun h12v => ?_)
 refine sr ?_
 refine va rfl rfl ?_
 refine va rfl rfl ?_
 refine va rfl rfl (simL_nil (nrm_then (sim_rtn ?_)))
 refine rtn_then ?_
 refine rtn_block ?_
 refine rtn_then ?_
 refine rtn_loop ?_
 refine rtn_block ?_
 refine rtn_cutR ?_
 exact rtn_fn () rfl rfl rfl (.sel 0 rfl (.nil _))
 refine sim_skip ?_
 refine nrm_then (sr ?_)
 refine vm rfl rfl ?_
 refine vm rfl rfl ?_
 refine vm rfl rfl ?_
 refine vq (q_add rfl rfl rfl) rfl ?_
 refine simL_ask (fun hi13v => ?_)
 obtain ⟨b14v, b14vo, ha15v⟩ := h0.pos (encB_ne (j := (IntKind.i64.wrap (x1 + s5v.2)).toNat) (by omega))
 refine vq (q_idx1 rfl rfl rfl ha15v Tryz.underlying33 Tryz.sizeOf5 hi13v.1 hi13v.2) rfl ?_
 refine vq (q_load rfl rfl Tryz.isAgg5 (h0.cell 0 rfl ha15v (encB_get (by omega)))) rfl ?_
 refine va rfl rfl (nx ?_)
 refine vm rfl rfl ?_
 refine vm rfl rfl ?_
 refine vq (q_and_ rfl rfl rfl) rfl ?_
 refine vq (q_conv rfl rfl Tryz.underlying5 Tryz.underlying3) rfl ?_
 refine vm rfl rfl ?_
 refine vq (q_mul rfl rfl rfl) rfl ?_
 refine simL_ask (fun hb17v => ?_)
 refine vq (q_shl rfl rfl rfl hb17v) rfl ?_
 refine vq (q_or_ rfl rfl rfl) rfl ?_
 refine va rfl rfl (simL_nil (nrm_then (sim_seq (sr ?_))))
 refine vm rfl rfl ?_
 refine vq (q_geq rfl rfl rfl) rfl (simL_nil (nrm_then ?_))
 refine sim_cond rfl (fun h18v => ?_) (fun h19v => ?_)
 refine sim_exi ?_
 refine exi_then ?_
 refine exi_here ?_
 refine nrm_then (sim_region ?_)
 refine vm rfl rfl ?_
 refine vq (q_add rfl rfl rfl) rfl ?_
 refine va rfl rfl (simL_nil ?_)
 exact nrm_again (s := (bitsV .or .i64 s5v.1 (IntKind.i64.wrap ((IntKind.i64.wrap (bitsV .and .u8 ((x0.getD (IntKind.i64.wrap (x1 + s5v.2)).toNat 0).toNat : Int) 127)) * 2 ^ (min (IntKind.i64.wrap (7 * s5v.2)).toNat IntKind.i64.bits))), IntKind.i64.wrap (s5v.2 + 1))) () ⟨rfl, rfl, rfl, rfl, trivial⟩ (.sel 0 rfl (.nil _))
 refine sim_skip ?_
 refine nrm_then (sim_seq (sr ?_))
 refine vm rfl rfl ?_
 refine vq (q_eql rfl rfl rfl) rfl ?_
 refine vm rfl rfl ?_
 refine simL_valc (b := decide (((x0.getD (IntKind.i64.wrap (x1 + s5v.2)).toNat 0).toNat : Int) = (0 : Int))) (fun hb25v => RQ.sub (E' := [(8, .int .i64 s5v.2)]) ⟨rfl, trivial⟩ (q_move rfl rfl)) rfl rfl rfl rfl rfl ?_
 refine simL_valc (b := decide (((x0.getD (IntKind.i64.wrap (x1 + s5v.2)).toNat 0).toNat : Int) = (0 : Int))) (fun hb24v => RQ.sub (E' := [(47, .int .i64 s5v.2)]) ⟨lk_cv rfl hb24v, trivial⟩ (q_gtr rfl rfl rfl)) rfl rfl rfl rfl rfl ?_
 refine vq (q_and rfl rfl rfl) rfl (simL_nil (nrm_then ?_))
 refine sim_condb rfl (fun h20v => ?_) (fun h21v => ?_)
 refine sr ?_
 refine va rfl rfl ?_
 refine va rfl rfl ?_
 refine va rfl rfl (simL_nil (nrm_then (sim_rtn ?_)))
 refine rtn_then ?_
 refine rtn_block ?_
 refine rtn_then ?_
 refine rtn_loop ?_
 refine rtn_block ?_
 refine rtn_cutR ?_
 exact rtn_fn () rfl rfl rfl (.sel 0 rfl (.nil _))
 refine sim_skip ?_
 refine nrm_then (sim_seq (sr ?_))
 refine vm rfl rfl ?_
 refine vq (q_gtr rfl rfl rfl) rfl (simL_nil (nrm_then ?_))
 refine sim_cond rfl (fun h22v => ?_) (fun h23v => ?_)
 refine sr ?_
 refine va rfl rfl ?_
 refine va rfl rfl ?_
 refine va rfl rfl (simL_nil (nrm_then (sim_rtn ?_)))
 refine rtn_then ?_
 refine rtn_block ?_
 refine rtn_then ?_
 refine rtn_loop ?_
 refine rtn_block ?_
 refine rtn_cutR ?_
 exact rtn_fn () rfl rfl rfl (.sel 0 rfl (.nil _))
 refine sim_skip ?_
 refine nrm_then (sr ?_)
 refine vm rfl rfl ?_
 refine vm rfl rfl ?_
 refine vq (q_add rfl rfl rfl) rfl ?_
 refine va rfl rfl ?_
 refine va rfl rfl ?_
 refine va rfl rfl (simL_nil (nrm_then (sim_rtn ?_)))
 refine rtn_block ?_
 refine rtn_then ?_
 refine rtn_loop ?_
 refine rtn_block ?_
 refine rtn_cutR ?_
 exact rtn_fn () rfl rfl rfl (.sel 0 rfl (.nil _))
 refine sim_exi ?_
 refine exi_then ?_
 refine exi_loop ?_
 refine exi_here ?_
 exact nrm_cutR (s := ()) () trivial (.sel 0 rfl (.nil _))
 intro s3v y4v
 refine sr ?_
 refine va rfl rfl ?_
 refine va rfl rfl ?_
 refine va rfl rfl (simL_nil (nrm_then (sim_rtn ?_)))
 exact rtn_fn () rfl rfl rfl (.sel 0 rfl (.nil _))

def wire_Reader_look.f (k : Nat) (x0_0 : List UInt8) (x0_1 : Int) (x0_2 : Int) : Option (Int × Int × Bool × Int × Int) := if x0_2 = (0 : Int) then ((wire_Int.f k x0_0 x0_1).bind fun s3v => (some (s3v.1, s3v.2.1, decide (s3v.2.2 = (0 : Int)), x0_1, s3v.2.2))) else (some (0, 0, false, x0_1, x0_2))
theorem wire_Reader_look.calls (W : World) (F : HA) (k : Nat) (b0 : Nat) (a0_0 : Option Addr) (c0_0 : Nat) (x0_0 : List UInt8) (x0_1 : Int) (x0_2 : Int) (h0_0 : Rd F a0_0 (encB x0_0)) (hc0_0 : x0_0.length ≤ c0_0) (hm0_0 : c0_0 ≤ maxLen) :
    Fn Tryz.prog W 123 [.pointer (some ⟨b0, 0, none⟩)] [obj b0 180 [.slice a0_0 x0_0.length c0_0, .int .i64 x0_1, .int .i64 x0_2]] F (wire_Reader_look.f k x0_0 x0_1 x0_2) (fun (r : Int × Int × Bool × Int × Int) (y : Unit) => .tuple #[.int .i64 r.1, .int .i64 r.2.1, .bool r.2.2.1]) (fun r y => [obj b0 180 [.slice a0_0 x0_0.length c0_0, .int .i64 r.2.2.2.1, .int .i64 r.2.2.2.2]]) := by
 unfold wire_Reader_look.f
 refine fn_intro 34 Tryz.func123 rfl Tryz.ntmps123 rfl ?_
 refine sr ?_
 refine va rfl rfl ?_
 refine va rfl rfl ?_
 refine va rfl rfl (simL_nil (nrm_then (sim_seq (sr ?_))))
 refine vm rfl rfl ?_
 refine vn rfl rfl ?_
 refine vq (q_fa rfl rfl Tryz.underlying180 rfl rfl Tryz.sizeOf23 rfl) rfl ?_
 refine vq (q_load rfl rfl Tryz.isAgg23 (.obj 0 rfl rfl)) rfl ?_
 refine vq (q_neq rfl rfl rfl) rfl (simL_nil (nrm_then ?_))
 refine sim_condn rfl (fun h1v => ?_) (fun h2v => ?_)
 refine sim_skip ?_
 refine nrm_then (sim_seq ?_)
 refine sim_bind (fun s3v hs4v => ?_)
 refine sim_draw (Γ := Unit) () [[], [0], [0, 1], [0, 1, 2], [], [4], [4, 5], [4, 5, 6], rL 8, rL 9, rL 10, rL 10, rL 10, rL 11, [0, 1, 2, 3, 4, 5, 6, 7, 8, 9, 10, 11, 13], rL 15] [8] [0, 1, 2, 3, 4, 5, 6, 7, 9, 10, 11, 12, 13, 14, 15] (fun i => [[0], [0], [0], [0], [0], [0], [0], [0], [], [1], [1], [1], [1], [1], [1], [1]].getD i []) (fun i => [[], [], [], [], [], [], [], [], rL 8, [], [], [], [], [], [], []].getD i []) (fun γ i => [.pointer (some ⟨b0, 0, none⟩), .pointer (some ⟨b0, 0, none⟩), .pointer (some ⟨b0, 0, none⟩), .slice a0_0 x0_0.length c0_0, .pointer (some ⟨b0, 0, none⟩), .pointer (some ⟨b0, 0, none⟩), .pointer (some ⟨b0, 1, none⟩), .int .i64 x0_1, .tuple #[.int .i64 s3v.1, .int .i64 s3v.2.1, .int .i64 s3v.2.2], .tuple #[.int .i64 s3v.1, .int .i64 s3v.2.1, .int .i64 s3v.2.2], .int .i64 s3v.1, .int .i64 s3v.2.1, .int .i64 s3v.2.2, .int .i64 s3v.1, .int .i64 s3v.2.1, .int .i64 s3v.2.2].getD i undef) (fun j γ => [[obj b0 180 [.slice a0_0 x0_0.length c0_0, .int .i64 x0_1, .int .i64 x0_2], F], [obj b0 180 [.slice a0_0 x0_0.length c0_0, .int .i64 x0_1, .int .i64 x0_2], F]].getD j []) (fun γ => [(0, .pointer (some ⟨b0, 0, none⟩)), (5, .int .i64 s3v.1), (6, .int .i64 s3v.2.1), (7, .int .i64 s3v.2.2)]) mixed (by decide) (by decide) (by decide) (by decide) (by decide) (by decide) (by decide) 34 rfl (by decide) (by decide) (by decide) (Ent.refl _) ?_ ?_ (fun _ => ⟨rfl, rfl, rfl, rfl, trivial⟩) ?_
 exact (aq rfl (fun γ => qm rfl (.o (s := 0) rfl (by decide) .nil) rfl) (aq rfl (fun γ => qp rfl rfl (.v 0 rfl rfl .nil) (q_nil rfl rfl) rfl) (aq rfl (fun γ => qp rfl rfl (.v 1 rfl rfl .nil) (q_fa rfl rfl Tryz.underlying180 rfl rfl Tryz.sizeOf33 rfl) rfl) (aq rfl (fun γ => qp rfl rfl (.v 2 rfl rfl .nil) (q_load rfl rfl Tryz.isAgg33 (.obj 0 rfl rfl)) rfl) (aq rfl (fun γ => qm rfl (.o (s := 0) rfl (by decide) .nil) rfl) (aq rfl (fun γ => qp rfl rfl (.v 4 rfl rfl .nil) (q_nil rfl rfl) rfl) (aq rfl (fun γ => qp rfl rfl (.v 5 rfl rfl .nil) (q_fa rfl rfl Tryz.underlying180 rfl rfl Tryz.sizeOf3 rfl) rfl) (aq rfl (fun γ => qp rfl rfl (.v 6 rfl rfl .nil) (q_load rfl rfl Tryz.isAgg3 (.obj 0 rfl rfl)) rfl) (aq rfl (fun γ => qm rfl (.v 8 rfl rfl .nil) rfl) (aq rfl (fun γ => qp rfl rfl (.v 9 rfl rfl .nil) (q_ext rfl rfl rfl) rfl) (aq rfl (fun γ => qp rfl rfl (.v 9 rfl rfl .nil) (q_ext rfl rfl rfl) rfl) (aq rfl (fun γ => qp rfl rfl (.v 9 rfl rfl .nil) (q_ext rfl rfl rfl) rfl) (aq rfl (fun γ => qp rfl rfl (.v 10 rfl rfl .nil) (q_asg rfl rfl) rfl) (aq rfl (fun γ => qp rfl rfl (.v 11 rfl rfl .nil) (q_asg rfl rfl) rfl) (aq rfl (fun γ => qp rfl rfl (.v 12 rfl rfl .nil) (q_asg rfl rfl) rfl) zA)))))))))))))))
 exact (ac (fun γ => eo (Z := Unit) (fun z => ()) rfl rfl (.v 3 rfl rfl (.v 7 rfl rfl .nil)) (re_call (val := fun (r : Int × Int × Int) (y : Unit) => .tuple #[.int .i64 r.1, .int .i64 r.2.1, .int .i64 r.2.2]) (B := fun _ _ => []) (vs := [.slice a0_0 x0_0.length c0_0, .int .i64 x0_1]) (cap := []) (A := []) (rst := [obj b0 180 [.slice a0_0 x0_0.length c0_0, .int .i64 x0_1, .int .i64 x0_2], F]) rfl rfl rfl rfl rfl rfl Tryz.call143 (.sel 0 rfl (.sel 0 rfl (.nil _))) (wire_Int.calls _ _ k a0_0 c0_0 x0_0 x0_1 (h0_0.lend 1 rfl) hc0_0 hm0_0) hs4v) (fun _ => ⟨rfl, rfl, rfl, rfl, rfl, rfl, rfl, rfl, trivial⟩) (fun _ => .inr rfl) (fun z => Ent.refl _)) zA)
 intro g6v
 refine nrm_then (sr ?_)
 refine vm rfl rfl ?_
 refine vm rfl rfl ?_
 refine vn rfl rfl ?_
 refine vq (q_fa rfl rfl Tryz.underlying180 rfl rfl Tryz.sizeOf23 rfl) rfl ?_
 refine simL_do (re_store 0 rfl rfl rfl Tryz.sizeOf23 rfl rfl (one_of (by rfl)) rfl rfl) rfl rfl ?_
 intro _
 refine nx ?_
 refine vm rfl rfl ?_
 refine vm rfl rfl ?_
 refine vm rfl rfl ?_
 refine vq (q_eql rfl rfl rfl) rfl ?_
 refine va rfl rfl ?_
 refine va rfl rfl ?_
 refine va rfl rfl (simL_nil (nrm_then (sim_rtn ?_)))
 exact rtn_fn () rfl rfl rfl (.sel 0 rfl (.sel 0 rfl (.nil _)))
 refine sr ?_
 refine va rfl rfl ?_
 refine va rfl rfl ?_
 refine va rfl rfl (simL_nil (nrm_then (sim_rtn ?_)))
 refine rtn_then ?_
 exact rtn_fn () rfl rfl rfl (.sel 0 rfl (.sel 0 rfl (.nil _)))

def wire_Reader_Int.f (k : Nat) (x0_0 : List UInt8) (x0_1 : Int) (x0_2 : Int) : Option (Int × Int × Int) := (wire_Reader_look.f k x0_0 x0_1 x0_2).bind fun s1v => (if (!s1v.2.2.1) = true then (some (0, s1v.2.2.2.1, s1v.2.2.2.2)) else (some (s1v.1, IntKind.i64.wrap (s1v.2.2.2.1 + s1v.2.1), s1v.2.2.2.2)))
theorem wire_Reader_Int.calls (W : World) (F : HA) (k : Nat) (b0 : Nat) (a0_0 : Option Addr) (c0_0 : Nat) (x0_0 : List UInt8) (x0_1 : Int) (x0_2 : Int) (h0_0 : Rd F a0_0 (encB x0_0)) (hc0_0 : x0_0.length ≤ c0_0) (hm0_0 : c0_0 ≤ maxLen) :
    Fn Tryz.prog W 101 [.pointer (some ⟨b0, 0, none⟩)] [obj b0 180 [.slice a0_0 x0_0.length c0_0, .int .i64 x0_1, .int .i64 x0_2]] F (wire_Reader_Int.f k x0_0 x0_1 x0_2) (fun (r : Int × Int × Int) (y : Unit) => .int .i64 r.1) (fun r y => [obj b0 180 [.slice a0_0 x0_0.length c0_0, .int .i64 r.2.1, .int .i64 r.2.2]]) := by
 unfold wire_Reader_Int.f
 refine fn_intro 23 Tryz.func101 rfl Tryz.ntmps101 rfl ?_
 refine sr ?_
 refine va rfl rfl (nx ?_)
 refine vm rfl rfl ?_
 refine simL_bind (fun s1v hs2v => ?_)
 refine simL_eff (re_call (vs := [.pointer (some ⟨b0, 0, none⟩)]) (cap := []) (A := [obj b0 180 [.slice a0_0 x0_0.length c0_0, .int .i64 x0_1, .int .i64 x0_2]]) (rst := [F]) rfl rfl rfl rfl rfl rfl Tryz.call123 (.sel 0 rfl (.sel 0 rfl (.nil _))) (wire_Reader_look.calls _ _ k b0 a0_0 c0_0 x0_0 x0_1 x0_2 (h0_0.lend 0 rfl) hc0_0 hm0_0) hs2v) rfl rfl rfl ?_
 intro y3v
 refine vm rfl rfl ?_
 refine vq (q_ext rfl rfl rfl) rfl ?_
 refine vq (q_ext rfl rfl rfl) rfl ?_
 refine vq (q_ext rfl rfl rfl) rfl ?_
 refine va rfl rfl ?_
 refine va rfl rfl ?_
 refine va rfl rfl (simL_nil (nrm_then (sim_seq (sr ?_))))
 refine vm rfl rfl ?_
 refine vq (q_not rfl rfl) rfl (simL_nil (nrm_then ?_))
 refine sim_condb rfl (fun h4v => ?_) (fun h5v => ?_)
 refine sr ?_
 refine va rfl rfl (simL_nil (nrm_then (sim_rtn ?_)))
 refine rtn_then ?_
 exact rtn_fn () rfl rfl rfl (.sel 0 rfl (.sel 0 rfl (.nil _)))
 refine sim_skip ?_
 refine nrm_then (sr ?_)
 refine vm rfl rfl ?_
 refine vn rfl rfl ?_
 refine vq (q_fa rfl rfl Tryz.underlying180 rfl rfl Tryz.sizeOf3 rfl) rfl ?_
 refine vq (q_load rfl rfl Tryz.isAgg3 (.obj 0 rfl rfl)) rfl ?_
 refine vm rfl rfl ?_
 refine vq (q_add rfl rfl rfl) rfl ?_
 refine vn rfl rfl ?_
 refine vq (q_fa rfl rfl Tryz.underlying180 rfl rfl Tryz.sizeOf3 rfl) rfl ?_
 refine simL_do (re_store 0 rfl rfl rfl Tryz.sizeOf3 rfl rfl (one_of (by rfl)) rfl rfl) rfl rfl ?_
 intro _
 refine nx ?_
 refine vm rfl rfl ?_
 refine va rfl rfl (simL_nil (nrm_then (sim_rtn ?_)))
 exact rtn_fn () rfl rfl rfl (.sel 0 rfl (.sel 0 rfl (.nil _)))

def codec_States_Check.f (x1_0 : Int) (x1_1 : Int) (x1_2 : Int) : Option (Int) := (codec_within.f x1_0 (0 : Int)).bind fun s3v => ((if (!s3v) = true then (some true) else ((codec_within.f x1_2 (0 : Int)).bind fun s8v => (some (!s8v)))).bind fun s6v => (if ((s6v || (decide (x1_1 < (0 : Int)))) || (decide ((7 : Int) < x1_1))) = true then (some 1) else (if ((!decide (x1_1 = (0 : Int))) && (decide (x1_0 = (0 : Int)))) = true then (some 4) else (some 0))))
theorem codec_States_Check.calls (W : World) (F : HA) (x1_0 : Int) (x1_1 : Int) (x1_2 : Int)  :
    Fn Tryz.prog W 78 [.agg #[], .agg #[.int .i64 x1_0, .int .i64 x1_1, .int .i64 x1_2]] [] F (codec_States_Check.f x1_0 x1_1 x1_2) (fun (r : Int) (y : Unit) => .int .i64 r) (fun r y => []) := by
 unfold codec_States_Check.f
 refine fn_intro 35 Tryz.func78 rfl Tryz.ntmps78 rfl ?_
 refine sr ?_
 refine simL_eff (re_box rfl rfl rfl) rfl rfl rfl ?_
 intro b1v
 refine simL_eff (re_box rfl rfl rfl) rfl rfl rfl ?_
 intro b2v
 refine va rfl rfl (simL_nil (nrm_then (sim_seq ?_)))
 refine sim_block ?_
 refine sr ?_
 refine vq (q_fa rfl rfl Tryz.underlying43 rfl rfl Tryz.sizeOf3 rfl) rfl ?_
 refine vq (q_load rfl rfl Tryz.isAgg3 (.obj 0 rfl rfl)) rfl ?_
 refine simL_bind (fun s3v hs4v => ?_)
 refine simL_eff (re_call (vs := [.int .i64 x1_0, .int .i64 0]) (cap := []) (A := []) (rst := [obj b2v 43 [.int .i64 x1_0, .int .i64 x1_1, .int .i64 x1_2], obj b1v 129 [], F]) rfl rfl rfl rfl rfl rfl Tryz.call105 (.sel 0 rfl (.sel 0 rfl (.sel 0 rfl (.nil _)))) (codec_within.calls _ _ x1_0 (0 : Int) ) hs4v) rfl rfl rfl ?_
 intro y5v
 refine vq (q_not rfl rfl) rfl ?_
 refine vm rfl rfl ?_
 refine simL_cut' 5 (S := Bool) (Unit) (fun s y => [(3, .pointer (some ⟨b2v, 0, none⟩)), (15, .bool s)]) (fun s y => [obj b2v 43 [.int .i64 x1_0, .int .i64 x1_1, .int .i64 x1_2], F]) ?_ ?_
 refine simL_caseb (fun hb11v => ?_) (fun hb12v => ?_)
 rw [hb11v]
 refine simL_skipd rfl rfl rfl rfl rfl rfl ?_
 refine simL_skipd rfl rfl rfl rfl rfl rfl ?_
 refine simL_skipd rfl rfl rfl rfl rfl rfl ?_
 refine simL_skipd rfl rfl rfl rfl rfl rfl ?_
 refine vq (q_pick rfl rfl rfl rfl rfl) rfl (simL_nil ?_)
 exact nrm_cut (s := true) () ⟨rfl, rfl, trivial⟩ (.sel 0 rfl (.sel 1 rfl (.nil _)))
 rw [hb12v]
 refine simL_valg (q_fa rfl rfl Tryz.underlying43 rfl rfl Tryz.sizeOf3 rfl) rfl rfl rfl rfl rfl rfl ?_
 refine simL_valg (q_load rfl rfl Tryz.isAgg3 (.obj 0 rfl rfl)) rfl rfl rfl rfl rfl rfl ?_
 refine simL_bind (fun s8v hs9v => ?_)
 refine simL_effg (re_call (vs := [.int .i64 x1_2, .int .i64 0]) (cap := []) (A := []) (rst := [obj b2v 43 [.int .i64 x1_0, .int .i64 x1_1, .int .i64 x1_2], obj b1v 129 [], F]) rfl rfl rfl rfl rfl rfl Tryz.call105 (.sel 0 rfl (.sel 0 rfl (.sel 0 rfl (.nil _)))) (codec_within.calls _ _ x1_2 (0 : Int) ) hs9v) rfl rfl rfl rfl rfl rfl ?_
 intro y10v
 refine simL_valg (q_not rfl rfl) rfl rfl rfl rfl rfl rfl ?_
 refine vq (q_pick rfl rfl rfl rfl rfl) rfl (simL_nil ?_)
 exact nrm_cut (s := !s8v) () ⟨rfl, rfl, trivial⟩ (.sel 0 rfl (.sel 1 rfl (.nil _)))
 intro s6v y7v
 refine vm rfl rfl ?_
 refine simL_valc (b := s6v) (fun hb25v => RQ.sub (E' := [(3, .pointer (some ⟨b2v, 0, none⟩))]) ⟨rfl, trivial⟩ (q_fa rfl rfl Tryz.underlying43 rfl rfl Tryz.sizeOf3 rfl)) rfl rfl rfl rfl rfl ?_
 refine simL_valc (b := s6v) (fun hb24v => RQ.sub (E' := [(17, .pointer (some ⟨b2v, 1, none⟩))]) ⟨lk_cv rfl hb24v, trivial⟩ (q_load rfl rfl Tryz.isAgg3 (.obj 0 rfl rfl))) rfl rfl rfl rfl rfl ?_
 refine simL_valc (b := s6v) (fun hb23v => RQ.sub (E' := [(18, .int .i64 x1_1)]) ⟨lk_cv rfl hb23v, trivial⟩ (q_lss rfl rfl rfl)) rfl rfl rfl rfl rfl ?_
 refine vq (q_or rfl rfl rfl) rfl ?_
 refine vm rfl rfl ?_
 refine simL_valc (b := s6v || (decide (x1_1 < (0 : Int)))) (fun hb22v => RQ.sub (E' := [(3, .pointer (some ⟨b2v, 0, none⟩))]) ⟨rfl, trivial⟩ (q_fa rfl rfl Tryz.underlying43 rfl rfl Tryz.sizeOf3 rfl)) rfl rfl rfl rfl rfl ?_
 refine simL_valc (b := s6v || (decide (x1_1 < (0 : Int)))) (fun hb21v => RQ.sub (E' := [(22, .pointer (some ⟨b2v, 1, none⟩))]) ⟨lk_cv rfl hb21v, trivial⟩ (q_load rfl rfl Tryz.isAgg3 (.obj 0 rfl rfl))) rfl rfl rfl rfl rfl ?_
 refine simL_valc (b := s6v || (decide (x1_1 < (0 : Int)))) (fun hb20v => RQ.sub (E' := [(23, .int .i64 x1_1)]) ⟨lk_cv rfl hb20v, trivial⟩ (q_gtr rfl rfl rfl)) rfl rfl rfl rfl rfl ?_
 refine vq (q_or rfl rfl rfl) rfl ?_
 refine va rfl rfl (simL_nil (nrm_then ?_))
 refine sim_condb rfl (fun h13v => ?_) (fun h14v => ?_)
 refine sr ?_
 refine va rfl rfl (simL_nil (nrm_then (sim_rtn ?_)))
 refine rtn_block ?_
 refine rtn_then ?_
 exact rtn_fn () rfl rfl rfl (.sel 1 rfl (.nil _))
 refine sr ?_
 refine vq (q_fa rfl rfl Tryz.underlying43 rfl rfl Tryz.sizeOf3 rfl) rfl ?_
 refine vq (q_load rfl rfl Tryz.isAgg3 (.obj 0 rfl rfl)) rfl ?_
 refine vq (q_neq rfl rfl rfl) rfl ?_
 refine vm rfl rfl ?_
 refine simL_valc (b := !decide (x1_1 = (0 : Int))) (fun hb19v => RQ.sub (E' := [(3, .pointer (some ⟨b2v, 0, none⟩))]) ⟨rfl, trivial⟩ (q_fa rfl rfl Tryz.underlying43 rfl rfl Tryz.sizeOf3 rfl)) rfl rfl rfl rfl rfl ?_
 refine simL_valc (b := !decide (x1_1 = (0 : Int))) (fun hb18v => RQ.sub (E' := [(31, .pointer (some ⟨b2v, 0, none⟩))]) ⟨lk_cv rfl hb18v, trivial⟩ (q_load rfl rfl Tryz.isAgg3 (.obj 0 rfl rfl))) rfl rfl rfl rfl rfl ?_
 refine simL_valc (b := !decide (x1_1 = (0 : Int))) (fun hb17v => RQ.sub (E' := [(32, .int .i64 x1_0)]) ⟨lk_cv rfl hb17v, trivial⟩ (q_eql rfl rfl rfl)) rfl rfl rfl rfl rfl ?_
 refine vq (q_and rfl rfl rfl) rfl ?_
 refine va rfl rfl (simL_nil (nrm_then ?_))
 refine sim_condb rfl (fun h15v => ?_) (fun h16v => ?_)
 refine sr ?_
 refine va rfl rfl (simL_nil (nrm_then (sim_rtn ?_)))
 refine rtn_block ?_
 refine rtn_then ?_
 exact rtn_fn () rfl rfl rfl (.sel 1 rfl (.nil _))
 refine sim_skip ?_
 refine nrm_block (nrm_then (sr ?_))
 refine va rfl rfl (simL_nil (nrm_then (sim_rtn ?_)))
 exact rtn_fn () rfl rfl rfl (.sel 1 rfl (.nil _))

def wire_Reader_Bytes.f (k : Nat) (x0_0 : List UInt8) (x0_1 : Int) (x0_2 : Int) (x1 : Int) : Option (List UInt8 × Int × Int) := (wire_Reader_look.f k x0_0 x0_1 x0_2).bind fun s1v => (if (!s1v.2.2.1) = true then (some (([] : List UInt8), s1v.2.2.2.1, s1v.2.2.2.2)) else (if max x1 (0 : Int) < s1v.1 then (some (([] : List UInt8), s1v.2.2.2.1, 3)) else (if IntKind.i64.wrap ((IntKind.i64.wrap ((x0_0.length : Int) - s1v.2.2.2.1)) - s1v.2.1) < s1v.1 then (some (([] : List UInt8), s1v.2.2.2.1, 2)) else (if 0 ≤ IntKind.i64.wrap (s1v.2.2.2.1 + s1v.2.1) ∧ IntKind.i64.wrap (s1v.2.2.2.1 + s1v.2.1) ≤ IntKind.i64.wrap ((IntKind.i64.wrap (s1v.2.2.2.1 + s1v.2.1)) + s1v.1) ∧ IntKind.i64.wrap ((IntKind.i64.wrap (s1v.2.2.2.1 + s1v.2.1)) + s1v.1) ≤ (x0_0.length : Int) then ((wire_fresh.f (cut x0_0 (IntKind.i64.wrap (s1v.2.2.2.1 + s1v.2.1)) (IntKind.i64.wrap ((IntKind.i64.wrap (s1v.2.2.2.1 + s1v.2.1)) + s1v.1)))).bind fun s18v => (some (s18v, IntKind.i64.wrap ((IntKind.i64.wrap (s1v.2.2.2.1 + s1v.2.1)) + s1v.1), s1v.2.2.2.2))) else none))))
theorem wire_Reader_Bytes.calls (W : World) (F : HA) (k : Nat) (b0 : Nat) (a0_0 : Option Addr) (c0_0 : Nat) (x0_0 : List UInt8) (x0_1 : Int) (x0_2 : Int) (x1 : Int) (h0_0 : Rd F a0_0 (encB x0_0)) (hc0_0 : x0_0.length ≤ c0_0) (hm0_0 : c0_0 ≤ maxLen) :
    Fn Tryz.prog W 103 [.pointer (some ⟨b0, 0, none⟩), .int .i64 x1] [obj b0 180 [.slice a0_0 x0_0.length c0_0, .int .i64 x0_1, .int .i64 x0_2]] F (wire_Reader_Bytes.f k x0_0 x0_1 x0_2 x1) (fun (r : List UInt8 × Int × Int) (y : Option Addr × Nat) => .slice y.1 r.1.length y.2) (fun r y => [Row 5 1 y.1 r.1.length y.2 (encB r.1), obj b0 180 [.slice a0_0 x0_0.length c0_0, .int .i64 r.2.1, .int .i64 r.2.2]]) := by
 unfold wire_Reader_Bytes.f
 refine fn_intro 67 Tryz.func103 rfl Tryz.ntmps103 rfl ?_
 refine sr ?_
 refine va rfl rfl (nx ?_)
 refine vm rfl rfl ?_
 refine simL_bind (fun s1v hs2v => ?_)
 refine simL_eff (re_call (vs := [.pointer (some ⟨b0, 0, none⟩)]) (cap := []) (A := [obj b0 180 [.slice a0_0 x0_0.length c0_0, .int .i64 x0_1, .int .i64 x0_2]]) (rst := [F]) rfl rfl rfl rfl rfl rfl Tryz.call123 (.sel 0 rfl (.sel 0 rfl (.nil _))) (wire_Reader_look.calls _ _ k b0 a0_0 c0_0 x0_0 x0_1 x0_2 (h0_0.lend 0 rfl) hc0_0 hm0_0) hs2v) rfl rfl rfl ?_
 intro y3v
 refine vm rfl rfl ?_
 refine vq (q_ext rfl rfl rfl) rfl ?_
 refine vq (q_ext rfl rfl rfl) rfl ?_
 refine vq (q_ext rfl rfl rfl) rfl ?_
 refine va rfl rfl ?_
 refine va rfl rfl ?_
 refine va rfl rfl (simL_nil (nrm_then (sim_seq ?_)))
 refine sim_block ?_
 refine sr ?_
 refine vm rfl rfl ?_
 refine vq (q_not rfl rfl) rfl ?_
 refine va rfl rfl (simL_nil (nrm_then ?_))
 refine sim_condb rfl (fun h4v => ?_) (fun h5v => ?_)
 refine sr ?_
 refine va rfl rfl (simL_nil (nrm_then (sim_rtn ?_)))
 refine rtn_block ?_
 refine rtn_then ?_
 exact rtn_fn (none, 0) rfl rfl rfl (.row_nil (.sel 0 rfl (.sel 0 rfl (.nil _))))
 refine sr ?_
 refine vm rfl rfl ?_
 refine vm rfl rfl ?_
 refine vq (q_max rfl rfl rfl) rfl ?_
 refine vq (q_gtr rfl rfl rfl) rfl ?_
 refine va rfl rfl (simL_nil (nrm_then ?_))
 refine sim_cond rfl (fun h6v => ?_) (fun h7v => ?_)
 refine sr ?_
 refine vm rfl rfl ?_
 refine vn rfl rfl ?_
 refine vq (q_fa rfl rfl Tryz.underlying180 rfl rfl Tryz.sizeOf23 rfl) rfl ?_
 refine simL_do (re_store 0 rfl rfl rfl Tryz.sizeOf23 rfl rfl (one_of (by rfl)) rfl rfl) rfl rfl ?_
 intro _
 refine nx ?_
 refine va rfl rfl (simL_nil (nrm_then (sim_rtn ?_)))
 refine rtn_block ?_
 refine rtn_then ?_
 exact rtn_fn (none, 0) rfl rfl rfl (.row_nil (.sel 0 rfl (.sel 0 rfl (.nil _))))
 refine sim_seq ?_
 refine sim_draw (Γ := Unit) () [[], [], [1], [1, 2], [1, 2, 3], [1, 2, 3, 4], [], [6], [6, 7], [6, 7, 8], [1, 2, 3, 4, 5, 6, 7, 8, 9], [], [1, 2, 3, 4, 5, 6, 7, 8, 9, 10, 11], rL 13, rL 14] [] [0, 1, 2, 3, 4, 5, 6, 7, 8, 9, 10, 11, 12, 13, 14] (fun i => [[0], [0], [0], [0], [0], [0], [0], [0], [0], [0], [0], [0], [0], [0], [0]].getD i []) (fun i => [[], [], [], [], [], [], [], [], [], [], [], [], [], [], []].getD i []) (fun γ i => [.int .i64 s1v.1, .pointer (some ⟨b0, 0, none⟩), .pointer (some ⟨b0, 0, none⟩), .pointer (some ⟨b0, 0, none⟩), .slice a0_0 x0_0.length c0_0, .int .i64 (x0_0.length : Int), .pointer (some ⟨b0, 0, none⟩), .pointer (some ⟨b0, 0, none⟩), .pointer (some ⟨b0, 1, none⟩), .int .i64 s1v.2.2.2.1, .int .i64 (IntKind.i64.wrap ((x0_0.length : Int) - s1v.2.2.2.1)), .int .i64 s1v.2.1, .int .i64 (IntKind.i64.wrap ((IntKind.i64.wrap ((x0_0.length : Int) - s1v.2.2.2.1)) - s1v.2.1)), .bool (decide (IntKind.i64.wrap ((IntKind.i64.wrap ((x0_0.length : Int) - s1v.2.2.2.1)) - s1v.2.1) < s1v.1)), .bool (decide (IntKind.i64.wrap ((IntKind.i64.wrap ((x0_0.length : Int) - s1v.2.2.2.1)) - s1v.2.1) < s1v.1))].getD i undef) (fun j γ => [[obj b0 180 [.slice a0_0 x0_0.length c0_0, .int .i64 s1v.2.2.2.1, .int .i64 s1v.2.2.2.2], F]].getD j []) (fun γ => [(0, .pointer (some ⟨b0, 0, none⟩)), (5, .int .i64 s1v.1), (6, .int .i64 s1v.2.1), (26, .bool (decide (IntKind.i64.wrap ((IntKind.i64.wrap ((x0_0.length : Int) - s1v.2.2.2.1)) - s1v.2.1) < s1v.1)))]) mixed (by decide) (by decide) (by decide) (by decide) (by decide) (by decide) (by decide) 67 rfl (by decide) (by decide) (by decide) (Ent.refl _) ?_ ?_ (fun _ => ⟨rfl, rfl, rfl, rfl, trivial⟩) ?_
 exact (aq rfl (fun γ => qm rfl (.o (s := 5) rfl (by decide) .nil) rfl) (aq rfl (fun γ => qm rfl (.o (s := 0) rfl (by decide) .nil) rfl) (aq rfl (fun γ => qp rfl rfl (.v 1 rfl rfl .nil) (q_nil rfl rfl) rfl) (aq rfl (fun γ => qp rfl rfl (.v 2 rfl rfl .nil) (q_fa rfl rfl Tryz.underlying180 rfl rfl Tryz.sizeOf33 rfl) rfl) (aq rfl (fun γ => qp rfl rfl (.v 3 rfl rfl .nil) (q_load rfl rfl Tryz.isAgg33 (.obj 0 rfl rfl)) rfl) (aq rfl (fun γ => qp rfl rfl (.v 4 rfl rfl .nil) (q_len rfl rfl rfl Tryz.underlying33) rfl) (aq rfl (fun γ => qm rfl (.o (s := 0) rfl (by decide) .nil) rfl) (aq rfl (fun γ => qp rfl rfl (.v 6 rfl rfl .nil) (q_nil rfl rfl) rfl) (aq rfl (fun γ => qp rfl rfl (.v 7 rfl rfl .nil) (q_fa rfl rfl Tryz.underlying180 rfl rfl Tryz.sizeOf3 rfl) rfl) (aq rfl (fun γ => qp rfl rfl (.v 8 rfl rfl .nil) (q_load rfl rfl Tryz.isAgg3 (.obj 0 rfl rfl)) rfl) (aq rfl (fun γ => qp rfl rfl (.v 5 rfl rfl (.v 9 rfl rfl .nil)) (q_sub rfl rfl rfl) rfl) (aq rfl (fun γ => qm rfl (.o (s := 6) rfl (by decide) .nil) rfl) (aq rfl (fun γ => qp rfl rfl (.v 10 rfl rfl (.v 11 rfl rfl .nil)) (q_sub rfl rfl rfl) rfl) (aq rfl (fun γ => qp rfl rfl (.v 0 rfl rfl (.v 12 rfl rfl .nil)) (q_gtr rfl rfl rfl) rfl) (aq rfl (fun γ => qp rfl rfl (.v 13 rfl rfl .nil) (q_asg rfl rfl) rfl) zA)))))))))))))))
 exact zA
 intro g8v
 refine nrm_then ?_
 refine sim_cond rfl (fun h9v => ?_) (fun h10v => ?_)
 refine sr ?_
 refine vm rfl rfl ?_
 refine vn rfl rfl ?_
 refine vq (q_fa rfl rfl Tryz.underlying180 rfl rfl Tryz.sizeOf23 rfl) rfl ?_
 refine simL_do (re_store 0 rfl rfl rfl Tryz.sizeOf23 rfl rfl (one_of (by rfl)) rfl rfl) rfl rfl ?_
 intro _
 refine nx ?_
 refine va rfl rfl (simL_nil (nrm_then (sim_rtn ?_)))
 refine rtn_block ?_
 refine rtn_then ?_
 exact rtn_fn (none, 0) rfl rfl rfl (.row_nil (.sel 0 rfl (.sel 0 rfl (.nil _))))
 refine sim_skip ?_
 refine nrm_block (nrm_then (sr ?_))
 refine vm rfl rfl ?_
 refine vn rfl rfl ?_
 refine vq (q_fa rfl rfl Tryz.underlying180 rfl rfl Tryz.sizeOf3 rfl) rfl ?_
 refine vq (q_load rfl rfl Tryz.isAgg3 (.obj 0 rfl rfl)) rfl ?_
 refine vm rfl rfl ?_
 refine vq (q_add rfl rfl rfl) rfl ?_
 refine va rfl rfl (nx ?_)
 refine vm rfl rfl ?_
 refine vm rfl rfl ?_
 refine vm rfl rfl ?_
 refine vq (q_add rfl rfl rfl) rfl ?_
 refine vn rfl rfl ?_
 refine vq (q_fa rfl rfl Tryz.underlying180 rfl rfl Tryz.sizeOf3 rfl) rfl ?_
 refine simL_do (re_store 0 rfl rfl rfl Tryz.sizeOf3 rfl rfl (one_of (by rfl)) rfl rfl) rfl rfl ?_
 intro _
 refine simL_nil (nrm_then (sim_seq ?_))
 refine sim_ask (fun hb11v => ?_)
 obtain ⟨a12v, c13v, hS14v, hr15v, hc16v, hm17v⟩ := slice_pre (lo := IntKind.i64.wrap (s1v.2.2.2.1 + s1v.2.1)) (hi := IntKind.i64.wrap ((IntKind.i64.wrap (s1v.2.2.2.1 + s1v.2.1)) + s1v.1)) h0_0 hc0_0 hb11v
 refine sim_bind (fun s18v hs19v => ?_)
 refine sim_draw (Γ := (Option Addr × Nat)) (none, 0) [[], [0], [0, 1], [0, 1, 2], [], [], [5], [5, 6], [5, 6, 7], rL 9, rL 10, rL 11] [10] [0, 1, 2, 3, 4, 5, 6, 7, 8, 9, 11] (fun i => [[0], [0], [0], [0], [0], [0], [0], [0], [0], [0], [], [1]].getD i []) (fun i => [[], [], [], [], [], [], [], [], [], [], rL 10, []].getD i []) (fun γ i => [.pointer (some ⟨b0, 0, none⟩), .pointer (some ⟨b0, 0, none⟩), .pointer (some ⟨b0, 0, none⟩), .slice a0_0 x0_0.length c0_0, .int .i64 (IntKind.i64.wrap (s1v.2.2.2.1 + s1v.2.1)), .pointer (some ⟨b0, 0, none⟩), .pointer (some ⟨b0, 0, none⟩), .pointer (some ⟨b0, 1, none⟩), .int .i64 (IntKind.i64.wrap ((IntKind.i64.wrap (s1v.2.2.2.1 + s1v.2.1)) + s1v.1)), .slice a12v ((cut x0_0 (IntKind.i64.wrap (s1v.2.2.2.1 + s1v.2.1)) (IntKind.i64.wrap ((IntKind.i64.wrap (s1v.2.2.2.1 + s1v.2.1)) + s1v.1))).length) c13v, .slice γ.1 s18v.length γ.2, .slice γ.1 s18v.length γ.2].getD i undef) (fun j γ => [[obj b0 180 [.slice a0_0 x0_0.length c0_0, .int .i64 (IntKind.i64.wrap ((IntKind.i64.wrap (s1v.2.2.2.1 + s1v.2.1)) + s1v.1)), .int .i64 s1v.2.2.2.2], F], [Row 5 1 γ.1 s18v.length γ.2 (encB s18v), obj b0 180 [.slice a0_0 x0_0.length c0_0, .int .i64 (IntKind.i64.wrap ((IntKind.i64.wrap (s1v.2.2.2.1 + s1v.2.1)) + s1v.1)), .int .i64 s1v.2.2.2.2], F]].getD j []) (fun γ => [(4, .slice γ.1 s18v.length γ.2)]) mixed (by decide) (by decide) (by decide) (by decide) (by decide) (by decide) (by decide) 67 rfl (by decide) (by decide) (by decide) (Ent.refl _) ?_ ?_ (fun _ => ⟨rfl, trivial⟩) ?_
 exact (aq rfl (fun γ => qm rfl (.o (s := 0) rfl (by decide) .nil) rfl) (aq rfl (fun γ => qp rfl rfl (.v 0 rfl rfl .nil) (q_nil rfl rfl) rfl) (aq rfl (fun γ => qp rfl rfl (.v 1 rfl rfl .nil) (q_fa rfl rfl Tryz.underlying180 rfl rfl Tryz.sizeOf33 rfl) rfl) (aq rfl (fun γ => qp rfl rfl (.v 2 rfl rfl .nil) (q_load rfl rfl Tryz.isAgg33 (.obj 0 rfl rfl)) rfl) (aq rfl (fun γ => qm rfl (.o (s := 8) rfl (by decide) .nil) rfl) (aq rfl (fun γ => qm rfl (.o (s := 0) rfl (by decide) .nil) rfl) (aq rfl (fun γ => qp rfl rfl (.v 5 rfl rfl .nil) (q_nil rfl rfl) rfl) (aq rfl (fun γ => qp rfl rfl (.v 6 rfl rfl .nil) (q_fa rfl rfl Tryz.underlying180 rfl rfl Tryz.sizeOf3 rfl) rfl) (aq rfl (fun γ => qp rfl rfl (.v 7 rfl rfl .nil) (q_load rfl rfl Tryz.isAgg3 (.obj 0 rfl rfl)) rfl) (aq rfl (fun γ => qp rfl rfl (.v 3 rfl rfl (.v 4 rfl rfl (.v 8 rfl rfl .nil))) (q_sub_ro (l := x0_0) (lo' := IntKind.i64.wrap (s1v.2.2.2.1 + s1v.2.1)) (hi' := IntKind.i64.wrap ((IntKind.i64.wrap (s1v.2.2.2.1 + s1v.2.1)) + s1v.1)) rfl rfl rfl rfl Tryz.underlying33 Tryz.sizeOf5 (.inr ⟨_, rfl⟩) (.inr ⟨_, rfl⟩) hb11v hc0_0 hS14v) rfl) (aq rfl (fun γ => qp rfl rfl (.v 10 rfl rfl .nil) (q_asg rfl rfl) rfl) zA)))))))))))
 exact (ac (fun γ => eo (Z := Option Addr × Nat) (fun z => z) rfl rfl (.v 9 rfl rfl .nil) (re_call (vs := [.slice a12v ((cut x0_0 (IntKind.i64.wrap (s1v.2.2.2.1 + s1v.2.1)) (IntKind.i64.wrap ((IntKind.i64.wrap (s1v.2.2.2.1 + s1v.2.1)) + s1v.1))).length) c13v]) (cap := []) (A := []) (rst := [obj b0 180 [.slice a0_0 x0_0.length c0_0, .int .i64 (IntKind.i64.wrap ((IntKind.i64.wrap (s1v.2.2.2.1 + s1v.2.1)) + s1v.1)), .int .i64 s1v.2.2.2.2], F]) rfl rfl rfl rfl rfl rfl Tryz.call110 (.sel 0 rfl (.sel 0 rfl (.nil _))) (wire_fresh.calls _ _ a12v c13v (cut x0_0 (IntKind.i64.wrap (s1v.2.2.2.1 + s1v.2.1)) (IntKind.i64.wrap ((IntKind.i64.wrap (s1v.2.2.2.1 + s1v.2.1)) + s1v.1))) (hr15v.lend 1 rfl) hc16v (Nat.le_trans hm17v hm0_0)) hs19v) (fun _ => ⟨rfl, rfl, rfl, rfl, rfl, rfl, rfl, rfl, rfl, rfl, trivial⟩) (fun _ => .inr rfl) (fun z => Ent.refl _)) zA)
 intro g21v
 refine nrm_then (sim_rtn ?_)
 exact rtn_fn (g21v.1, g21v.2) rfl rfl rfl (.sel 0 rfl (.sel 0 rfl (.sel 0 rfl (.nil _))))

def wire_Reader_Left.f (x0_0 : List UInt8) (x0_1 : Int) (x0_2 : Int) : Option (Int) := some (IntKind.i64.wrap ((x0_0.length : Int) - x0_1))
theorem wire_Reader_Left.calls (W : World) (F : HA) (b0 : Nat) (a0_0 : Option Addr) (c0_0 : Nat) (x0_0 : List UInt8) (x0_1 : Int) (x0_2 : Int) (h0_0 : Rd F a0_0 (encB x0_0)) (hc0_0 : x0_0.length ≤ c0_0) (hm0_0 : c0_0 ≤ maxLen) :
    Fn Tryz.prog W 125 [.pointer (some ⟨b0, 0, none⟩)] [obj b0 180 [.slice a0_0 x0_0.length c0_0, .int .i64 x0_1, .int .i64 x0_2]] F (wire_Reader_Left.f x0_0 x0_1 x0_2) (fun (r : Int) (y : Unit) => .int .i64 r) (fun r y => [obj b0 180 [.slice a0_0 x0_0.length c0_0, .int .i64 x0_1, .int .i64 x0_2]]) := by
 unfold wire_Reader_Left.f
 refine fn_intro 13 Tryz.func125 rfl Tryz.ntmps125 rfl ?_
 refine sr ?_
 refine va rfl rfl (simL_nil (nrm_then (sim_seq ?_)))
 refine sim_draw (Γ := Unit) () [[], [0], [0, 1], [0, 1, 2], rL 4, [], [5], [5, 6], [5, 6, 7], rL 9, rL 10] [] [0, 1, 2, 3, 4, 5, 6, 7, 8, 9, 10] (fun i => [[0], [0], [0], [0], [0], [0], [0], [0], [0], [0], [0]].getD i []) (fun i => [[], [], [], [], [], [], [], [], [], [], []].getD i []) (fun γ i => [.pointer (some ⟨b0, 0, none⟩), .pointer (some ⟨b0, 0, none⟩), .pointer (some ⟨b0, 0, none⟩), .slice a0_0 x0_0.length c0_0, .int .i64 (x0_0.length : Int), .pointer (some ⟨b0, 0, none⟩), .pointer (some ⟨b0, 0, none⟩), .pointer (some ⟨b0, 1, none⟩), .int .i64 x0_1, .int .i64 (IntKind.i64.wrap ((x0_0.length : Int) - x0_1)), .int .i64 (IntKind.i64.wrap ((x0_0.length : Int) - x0_1))].getD i undef) (fun j γ => [[obj b0 180 [.slice a0_0 x0_0.length c0_0, .int .i64 x0_1, .int .i64 x0_2], F]].getD j []) (fun γ => [(2, .int .i64 (IntKind.i64.wrap ((x0_0.length : Int) - x0_1)))]) mixed (by decide) (by decide) (by decide) (by decide) (by decide) (by decide) (by decide) 13 rfl (by decide) (by decide) (by decide) (Ent.refl _) ?_ ?_ (fun _ => ⟨rfl, trivial⟩) ?_
 exact (aq rfl (fun γ => qm rfl (.o (s := 0) rfl (by decide) .nil) rfl) (aq rfl (fun γ => qp rfl rfl (.v 0 rfl rfl .nil) (q_nil rfl rfl) rfl) (aq rfl (fun γ => qp rfl rfl (.v 1 rfl rfl .nil) (q_fa rfl rfl Tryz.underlying180 rfl rfl Tryz.sizeOf33 rfl) rfl) (aq rfl (fun γ => qp rfl rfl (.v 2 rfl rfl .nil) (q_load rfl rfl Tryz.isAgg33 (.obj 0 rfl rfl)) rfl) (aq rfl (fun γ => qp rfl rfl (.v 3 rfl rfl .nil) (q_len rfl rfl rfl Tryz.underlying33) rfl) (aq rfl (fun γ => qm rfl (.o (s := 0) rfl (by decide) .nil) rfl) (aq rfl (fun γ => qp rfl rfl (.v 5 rfl rfl .nil) (q_nil rfl rfl) rfl) (aq rfl (fun γ => qp rfl rfl (.v 6 rfl rfl .nil) (q_fa rfl rfl Tryz.underlying180 rfl rfl Tryz.sizeOf3 rfl) rfl) (aq rfl (fun γ => qp rfl rfl (.v 7 rfl rfl .nil) (q_load rfl rfl Tryz.isAgg3 (.obj 0 rfl rfl)) rfl) (aq rfl (fun γ => qp rfl rfl (.v 4 rfl rfl (.v 8 rfl rfl .nil)) (q_sub rfl rfl rfl) rfl) (aq rfl (fun γ => qp rfl rfl (.v 9 rfl rfl .nil) (q_asg rfl rfl) rfl) zA)))))))))))
 exact zA
 intro g1v
 refine nrm_then (sim_rtn ?_)
 exact rtn_fn () rfl rfl rfl (.sel 0 rfl (.sel 0 rfl (.nil _)))
def wire_Reader_Left.v (x0_0 : List UInt8) (x0_1 : Int) (x0_2 : Int) : Int := (wire_Reader_Left.f x0_0 x0_1 x0_2).getD 0
theorem wire_Reader_Left.tot (x0_0 : List UInt8) (x0_1 : Int) (x0_2 : Int) : wire_Reader_Left.f x0_0 x0_1 x0_2 = some (wire_Reader_Left.v x0_0 x0_1 x0_2) := by
  have h : ∃ r, wire_Reader_Left.f x0_0 x0_1 x0_2 = some r := by
    unfold wire_Reader_Left.f
    repeat' (first | exact ⟨_, rfl⟩ | split | simp only [Option.bind_some])
  obtain ⟨r, h⟩ := h
  unfold wire_Reader_Left.v
  rw [h]; rfl

def wire_Reader_Done.f (x0_0 : List UInt8) (x0_1 : Int) (x0_2 : Int) : Option (Int) := (if x0_2 = (0 : Int) then ((wire_Reader_Left.f x0_0 x0_1 x0_2).bind fun s3v => (some (decide ((0 : Int) < s3v)))) else (some false)).bind fun s1v => (if s1v = true then (some 3) else (some x0_2))
theorem wire_Reader_Done.calls (W : World) (F : HA) (b0 : Nat) (a0_0 : Option Addr) (c0_0 : Nat) (x0_0 : List UInt8) (x0_1 : Int) (x0_2 : Int) (h0_0 : Rd F a0_0 (encB x0_0)) (hc0_0 : x0_0.length ≤ c0_0) (hm0_0 : c0_0 ≤ maxLen) :
    Fn Tryz.prog W 104 [.pointer (some ⟨b0, 0, none⟩)] [obj b0 180 [.slice a0_0 x0_0.length c0_0, .int .i64 x0_1, .int .i64 x0_2]] F (wire_Reader_Done.f x0_0 x0_1 x0_2) (fun (r : Int) (y : Unit) => .int .i64 r) (fun r y => [obj b0 180 [.slice a0_0 x0_0.length c0_0, .int .i64 x0_1, .int .i64 x0_2]]) := by
 unfold wire_Reader_Done.f
 refine fn_intro 17 Tryz.func104 rfl Tryz.ntmps104 rfl ?_
 refine sr ?_
 refine va rfl rfl (simL_nil (nrm_then (sim_seq (sr ?_))))
 refine vm rfl rfl ?_
 refine vn rfl rfl ?_
 refine vq (q_fa rfl rfl Tryz.underlying180 rfl rfl Tryz.sizeOf23 rfl) rfl ?_
 refine vq (q_load rfl rfl Tryz.isAgg23 (.obj 0 rfl rfl)) rfl ?_
 refine vq (q_eql rfl rfl rfl) rfl ?_
 refine vm rfl rfl ?_
 refine simL_cut' 4 (S := Bool) (Unit) (fun s y => [(0, .pointer (some ⟨b0, 0, none⟩)), (12, .bool s)]) (fun s y => [obj b0 180 [.slice a0_0 x0_0.length c0_0, .int .i64 x0_1, .int .i64 x0_2], F]) ?_ ?_
 refine simL_casep (fun hb6v => ?_) (fun hb7v => ?_)
 rw [hb6v]
 refine simL_valg (q_move rfl rfl) rfl rfl rfl rfl rfl rfl ?_
 refine simL_bind (fun s3v hs4v => ?_)
 refine simL_effg (re_call (vs := [.pointer (some ⟨b0, 0, none⟩)]) (cap := []) (A := [obj b0 180 [.slice a0_0 x0_0.length c0_0, .int .i64 x0_1, .int .i64 x0_2]]) (rst := [F]) rfl rfl rfl rfl rfl rfl Tryz.call125 (.sel 0 rfl (.sel 0 rfl (.nil _))) (wire_Reader_Left.calls _ _ b0 a0_0 c0_0 x0_0 x0_1 x0_2 (h0_0.lend 0 rfl) hc0_0 hm0_0) hs4v) rfl rfl rfl rfl rfl rfl ?_
 intro y5v
 refine simL_valg (q_gtr rfl rfl rfl) rfl rfl rfl rfl rfl rfl ?_
 refine vq (q_pick rfl rfl rfl rfl rfl) rfl (simL_nil ?_)
 exact nrm_cut (s := decide ((0 : Int) < s3v)) () ⟨rfl, rfl, trivial⟩ (.sel 0 rfl (.sel 0 rfl (.nil _)))
 rw [hb7v]
 refine simL_skipd rfl rfl rfl rfl rfl rfl ?_
 refine simL_skipd rfl rfl rfl rfl rfl rfl ?_
 refine simL_skipd rfl rfl rfl rfl rfl rfl ?_
 refine vq (q_pick rfl rfl rfl rfl rfl) rfl (simL_nil ?_)
 exact nrm_cut (s := false) () ⟨rfl, rfl, trivial⟩ (.sel 0 rfl (.sel 0 rfl (.nil _)))
 intro s1v y2v
 refine simL_nil (nrm_then ?_)
 refine sim_condb rfl (fun h8v => ?_) (fun h9v => ?_)
 refine sr ?_
 refine va rfl rfl (simL_nil (nrm_then (sim_rtn ?_)))
 refine rtn_then ?_
 exact rtn_fn () rfl rfl rfl (.sel 0 rfl (.sel 0 rfl (.nil _)))
 refine sim_skip ?_
 refine nrm_then (sr ?_)
 refine vm rfl rfl ?_
 refine vn rfl rfl ?_
 refine vq (q_fa rfl rfl Tryz.underlying180 rfl rfl Tryz.sizeOf23 rfl) rfl ?_
 refine vq (q_load rfl rfl Tryz.isAgg23 (.obj 0 rfl rfl)) rfl ?_
 refine va rfl rfl (simL_nil (nrm_then (sim_rtn ?_)))
 exact rtn_fn () rfl rfl rfl (.sel 0 rfl (.sel 0 rfl (.nil _)))
def wire_Reader_Done.v (x0_0 : List UInt8) (x0_1 : Int) (x0_2 : Int) : Int := (wire_Reader_Done.f x0_0 x0_1 x0_2).getD 0
theorem wire_Reader_Done.tot (x0_0 : List UInt8) (x0_1 : Int) (x0_2 : Int) : wire_Reader_Done.f x0_0 x0_1 x0_2 = some (wire_Reader_Done.v x0_0 x0_1 x0_2) := by
  have h : ∃ r, wire_Reader_Done.f x0_0 x0_1 x0_2 = some r := by
    unfold wire_Reader_Done.f
    repeat' (first | exact ⟨_, rfl⟩ | split | simp only [Option.bind_some, wire_Reader_Left.tot])
  obtain ⟨r, h⟩ := h
  unfold wire_Reader_Done.v
  rw [h]; rfl

def codec_last_Entry_Entries.f (xp0_0 : List UInt8) (xp0_1 : Int) (xp0_2 : Int) (x2_0 : Int) (x2_1 : Int) (x2_2 : Int) (x2_3 : List UInt8) : Option (Ty144) := (wire_Reader_Done.f xp0_0 xp0_1 xp0_2).bind fun s3v => ((if s3v = (0 : Int) then ((codec_Entries_Check.f x2_0 x2_1 x2_2 x2_3).bind fun s10v => (some s10v)) else (some s3v)).bind fun s6v => (if s6v = (0 : Int) then (some (x2_0, x2_1, x2_2, x2_3, 0)) else (some (0, 0, 0, ([] : List UInt8), s6v))))
theorem codec_last_Entry_Entries.calls (W : World) (F : HA) (G : HA) (hG : Up G F) (bp0 : Nat) (ap0_0 : Option Addr) (cp0_0 : Nat) (xp0_0 : List UInt8) (xp0_1 : Int) (xp0_2 : Int) (x2_0 : Int) (x2_1 : Int) (x2_2 : Int) (a2_3 : Option Addr) (c2_3 : Nat) (x2_3 : List UInt8) (hp0_0 : Rd G ap0_0 (encB xp0_0)) (hcp0_0 : xp0_0.length ≤ cp0_0) (hmp0_0 : cp0_0 ≤ maxLen) (h2_3 : Rd G a2_3 (encB x2_3)) (hc2_3 : x2_3.length ≤ c2_3) (hm2_3 : c2_3 ≤ maxLen) :
    Fn Tryz.prog W 124 [.pointer (some ⟨bp0, 0, none⟩), .iface 131 (.agg #[]), .agg #[.int .i64 x2_0, .int .i64 x2_1, .int .i64 x2_2, .slice a2_3 x2_3.length c2_3]] [obj bp0 180 [.slice ap0_0 xp0_0.length cp0_0, .int .i64 xp0_1, .int .i64 xp0_2]] F (codec_last_Entry_Entries.f xp0_0 xp0_1 xp0_2 x2_0 x2_1 x2_2 x2_3) (fun (r : Int × Int × Int × List UInt8 × Int) (y : Option Addr × Nat) => .tuple #[.agg #[.int .i64 r.1, .int .i64 r.2.1, .int .i64 r.2.2.1, .slice y.1 r.2.2.2.1.length y.2], .int .i64 r.2.2.2.2]) (fun r y => [pr (Rd (G) y.1 (encB r.2.2.2.1) ∧ r.2.2.2.1.length ≤ y.2 ∧ y.2 ≤ maxLen), obj bp0 180 [.slice ap0_0 xp0_0.length cp0_0, .int .i64 xp0_1, .int .i64 xp0_2]]) := by
 unfold codec_last_Entry_Entries.f
 refine fn_intro 22 Tryz.func124 rfl Tryz.ntmps124 rfl ?_
 refine sr ?_
 refine simL_eff (re_box rfl rfl rfl) rfl rfl rfl ?_
 intro b1v
 refine simL_eff (re_alloc rfl Tryz.zeroValue35 rfl) rfl rfl rfl ?_
 intro b2v
 refine va rfl rfl (nx ?_)
 refine vm rfl rfl ?_
 refine simL_bind (fun s3v hs4v => ?_)
 refine simL_eff (re_call (vs := [.pointer (some ⟨bp0, 0, none⟩)]) (cap := []) (A := [obj bp0 180 [.slice ap0_0 xp0_0.length cp0_0, .int .i64 xp0_1, .int .i64 xp0_2]]) (rst := [obj b2v 35 [.int .i64 0, .int .i64 0, .int .i64 0, .slice none 0 0], obj b1v 35 [.int .i64 x2_0, .int .i64 x2_1, .int .i64 x2_2, .slice a2_3 x2_3.length c2_3], F]) rfl rfl rfl rfl rfl rfl Tryz.call104 (.sel 2 rfl (.sel 0 rfl (.sel 0 rfl (.sel 0 rfl (.nil _))))) (wire_Reader_Done.calls _ _ bp0 ap0_0 cp0_0 xp0_0 xp0_1 xp0_2 ((hp0_0.up hG).lend 2 rfl) hcp0_0 hmp0_0) hs4v) rfl rfl rfl ?_
 intro y5v
 refine va rfl rfl (simL_nil (nrm_then ?_))
 refine sim_cut (S := Int) (Unit) (fun s y => [(5, .pointer (some ⟨b1v, 0, none⟩)), (6, .pointer (some ⟨b2v, 0, none⟩)), (8, .int .i64 s)]) (fun s y => [obj bp0 180 [.slice ap0_0 xp0_0.length cp0_0, .int .i64 xp0_1, .int .i64 xp0_2], obj b2v 35 [.int .i64 0, .int .i64 0, .int .i64 0, .slice none 0 0], obj b1v 35 [.int .i64 x2_0, .int .i64 x2_1, .int .i64 x2_2, .slice a2_3 x2_3.length c2_3], F]) ?_ ?_
 refine sr ?_
 refine vm rfl rfl ?_
 refine vq (q_eql rfl rfl rfl) rfl (simL_nil (nrm_then ?_))
 refine sim_cond rfl (fun h8v => ?_) (fun h9v => ?_)
 refine sim_region ?_
 refine vm rfl rfl ?_
 refine vq (q_loado 2 rfl rfl Tryz.isAgg35 Tryz.sizeOf35 rfl rfl) rfl ?_
 refine simL_bind (fun s10v hs11v => ?_)
 refine simL_eff (re_invoke (vs := [.agg #[.int .i64 x2_0, .int .i64 x2_1, .int .i64 x2_2, .slice a2_3 x2_3.length c2_3]]) (A := []) (rst := [obj bp0 180 [.slice ap0_0 xp0_0.length cp0_0, .int .i64 xp0_1, .int .i64 xp0_2], obj b2v 35 [.int .i64 0, .int .i64 0, .int .i64 0, .slice none 0 0], obj b1v 35 [.int .i64 x2_0, .int .i64 x2_1, .int .i64 x2_2, .slice a2_3 x2_3.length c2_3], F]) rfl rfl rfl rfl rfl (fun _ => by kernel_rfl) Tryz.call79 (.sel 0 rfl (.sel 0 rfl (.sel 0 rfl (.sel 0 rfl (.nil _))))) (codec_Entries_Check.calls _ _ x2_0 x2_1 x2_2 a2_3 c2_3 x2_3 ((h2_3.up hG).lend 3 rfl) hc2_3 hm2_3) hs11v) rfl rfl rfl ?_
 intro y12v
 refine va rfl rfl (simL_nil ?_)
 exact nrm_cut (s := s10v) () ⟨rfl, rfl, rfl, trivial⟩ (.sel 0 rfl (.sel 0 rfl (.sel 0 rfl (.sel 0 rfl (.nil _)))))
 refine sim_skip ?_
 exact nrm_cut (s := s3v) () ⟨rfl, rfl, rfl, trivial⟩ (.sel 0 rfl (.sel 0 rfl (.sel 0 rfl (.sel 0 rfl (.nil _)))))
 intro s6v y7v
 refine sim_seq (sr ?_)
 refine vm rfl rfl ?_
 refine vq (q_neq rfl rfl rfl) rfl (simL_nil (nrm_then ?_))
 refine sim_condn rfl (fun h13v => ?_) (fun h14v => ?_)
 refine sim_skip ?_
 refine nrm_then (sr ?_)
 refine vq (q_loado 2 rfl rfl Tryz.isAgg35 Tryz.sizeOf35 rfl rfl) rfl ?_
 refine simL_do (re_store 1 rfl rfl rfl Tryz.sizeOf35 rfl rfl (one_of (by rfl)) rfl rfl) rfl rfl ?_
 intro _
 refine va rfl rfl (simL_nil (nrm_then (sim_rtn ?_)))
 exact rtn_fnC (vs := [.agg #[.int .i64 x2_0, .int .i64 x2_1, .int .i64 x2_2, .slice a2_3 x2_3.length c2_3], .int .i64 0]) (a2_3, c2_3) rfl ⟨⟨b2v, rfl, load_agg 1 Tryz.isAgg35 Tryz.sizeOf35 rfl rfl⟩, rfl, trivial⟩ rfl (.pr_in ⟨h2_3, hc2_3, hm2_3⟩ (.sel 0 rfl (.sel 2 rfl (.nil _))))
 refine sr ?_
 refine simL_eff (re_alloc rfl Tryz.zeroValue35 rfl) rfl rfl rfl ?_
 intro b15v
 refine nx ?_
 refine vq (q_loado 0 rfl rfl Tryz.isAgg35 Tryz.sizeOf35 rfl rfl) rfl ?_
 refine vm rfl rfl ?_
 refine simL_do (re_store 2 rfl rfl rfl Tryz.sizeOf35 rfl rfl (one_of (by rfl)) rfl rfl) rfl rfl ?_
 intro _
 refine va rfl rfl (simL_nil (nrm_then (sim_rtn ?_)))
 refine rtn_then ?_
 exact rtn_fnC (vs := [.agg #[.int .i64 0, .int .i64 0, .int .i64 0, .slice none 0 0], .int .i64 s6v]) (none, 0) rfl ⟨⟨b2v, rfl, load_agg 2 Tryz.isAgg35 Tryz.sizeOf35 rfl rfl⟩, rfl, trivial⟩ rfl (.pr_in ⟨Rd.nil _ _, Nat.le_refl _, Nat.zero_le _⟩ (.sel 1 rfl (.sel 3 rfl (.nil _))))

def codec_last_Entry_Entries_c2.f (xp0_0 : List UInt8) (xp0_1 : Int) (xp0_2 : Int) (x2_0 : Int) (x2_1 : Int) (x2_2 : Int) (x2_3 : List UInt8) : Option (Ty144) := (wire_Reader_Done.f xp0_0 xp0_1 xp0_2).bind fun s3v => ((if s3v = (0 : Int) then ((codec_Entries_Check.f x2_0 x2_1 x2_2 x2_3).bind fun s14v => (some s14v)) else (some s3v)).bind fun s6v => (if s6v = (0 : Int) then (some (x2_0, x2_1, x2_2, x2_3, 0)) else (some (0, 0, 0, ([] : List UInt8), s6v))))
theorem codec_last_Entry_Entries_c2.calls (W : World) (F : HA) (bp0 : Nat) (ap0_0 : Option Addr) (cp0_0 : Nat) (xp0_0 : List UInt8) (xp0_1 : Int) (xp0_2 : Int) (x2_0 : Int) (x2_1 : Int) (x2_2 : Int) (a2_3 : Option Addr) (c2_3 : Nat) (x2_3 : List UInt8) (hp0_0 : Rd F ap0_0 (encB xp0_0)) (hcp0_0 : xp0_0.length ≤ cp0_0) (hmp0_0 : cp0_0 ≤ maxLen) :
    Fn Tryz.prog W 124 [.pointer (some ⟨bp0, 0, none⟩), .iface 131 (.agg #[]), .agg #[.int .i64 x2_0, .int .i64 x2_1, .int .i64 x2_2, .slice a2_3 x2_3.length c2_3]] [obj bp0 180 [.slice ap0_0 xp0_0.length cp0_0, .int .i64 xp0_1, .int .i64 xp0_2], Row 5 1 a2_3 x2_3.length c2_3 (encB x2_3)] F (codec_last_Entry_Entries_c2.f xp0_0 xp0_1 xp0_2 x2_0 x2_1 x2_2 x2_3) (fun (r : Int × Int × Int × List UInt8 × Int) (y : Option Addr × Nat) => .tuple #[.agg #[.int .i64 r.1, .int .i64 r.2.1, .int .i64 r.2.2.1, .slice y.1 r.2.2.2.1.length y.2], .int .i64 r.2.2.2.2]) (fun r y => [Row 5 1 y.1 r.2.2.2.1.length y.2 (encB r.2.2.2.1), obj bp0 180 [.slice ap0_0 xp0_0.length cp0_0, .int .i64 xp0_1, .int .i64 xp0_2]]) := by
 unfold codec_last_Entry_Entries_c2.f
 refine fn_intro 22 Tryz.func124 rfl Tryz.ntmps124 rfl ?_
 refine sr ?_
 refine simL_eff (re_box rfl rfl rfl) rfl rfl rfl ?_
 intro b1v
 refine simL_eff (re_alloc rfl Tryz.zeroValue35 rfl) rfl rfl rfl ?_
 intro b2v
 refine va rfl rfl (nx ?_)
 refine vm rfl rfl ?_
 refine simL_bind (fun s3v hs4v => ?_)
 refine simL_eff (re_call (vs := [.pointer (some ⟨bp0, 0, none⟩)]) (cap := []) (A := [obj bp0 180 [.slice ap0_0 xp0_0.length cp0_0, .int .i64 xp0_1, .int .i64 xp0_2]]) (rst := [obj b2v 35 [.int .i64 0, .int .i64 0, .int .i64 0, .slice none 0 0], obj b1v 35 [.int .i64 x2_0, .int .i64 x2_1, .int .i64 x2_2, .slice a2_3 x2_3.length c2_3], Row 5 1 a2_3 x2_3.length c2_3 (encB x2_3), F]) rfl rfl rfl rfl rfl rfl Tryz.call104 (.sel 2 rfl (.sel 0 rfl (.sel 0 rfl (.sel 0 rfl (.sel 0 rfl (.nil _)))))) (wire_Reader_Done.calls _ _ bp0 ap0_0 cp0_0 xp0_0 xp0_1 xp0_2 (hp0_0.lend 3 rfl) hcp0_0 hmp0_0) hs4v) rfl rfl rfl ?_
 intro y5v
 refine va rfl rfl (simL_nil (nrm_then ?_))
 refine sim_cut (S := Int) (Unit) (fun s y => [(5, .pointer (some ⟨b1v, 0, none⟩)), (6, .pointer (some ⟨b2v, 0, none⟩)), (8, .int .i64 s)]) (fun s y => [obj bp0 180 [.slice ap0_0 xp0_0.length cp0_0, .int .i64 xp0_1, .int .i64 xp0_2], obj b2v 35 [.int .i64 0, .int .i64 0, .int .i64 0, .slice none 0 0], obj b1v 35 [.int .i64 x2_0, .int .i64 x2_1, .int .i64 x2_2, .slice a2_3 x2_3.length c2_3], Row 5 1 a2_3 x2_3.length c2_3 (encB x2_3), F]) ?_ ?_
 refine sr ?_
 refine vm rfl rfl ?_
 refine vq (q_eql rfl rfl rfl) rfl (simL_nil (nrm_then ?_))
 refine sim_cond rfl (fun h8v => ?_) (fun h9v => ?_)
 refine sim_region ?_
 refine vm rfl rfl ?_
 refine vq (q_loado 2 rfl rfl Tryz.isAgg35 Tryz.sizeOf35 rfl rfl) rfl ?_
 refine simL_bind (fun s14v hs15v => ?_)
 refine simL_lend 3 rfl (fun hq10v hq11v hq12v hq13v => ?_)
 refine simL_eff (re_invoke (vs := [.agg #[.int .i64 x2_0, .int .i64 x2_1, .int .i64 x2_2, .slice a2_3 x2_3.length c2_3]]) (A := []) (rst := [obj bp0 180 [.slice ap0_0 xp0_0.length cp0_0, .int .i64 xp0_1, .int .i64 xp0_2], obj b2v 35 [.int .i64 0, .int .i64 0, .int .i64 0, .slice none 0 0], obj b1v 35 [.int .i64 x2_0, .int .i64 x2_1, .int .i64 x2_2, .slice a2_3 x2_3.length c2_3], Row 5 1 a2_3 x2_3.length c2_3 (encB x2_3), F]) rfl rfl rfl rfl rfl (fun _ => by kernel_rfl) Tryz.call79 (.sel 0 rfl (.sel 0 rfl (.sel 0 rfl (.sel 0 rfl (.sel 0 rfl (.nil _)))))) (codec_Entries_Check.calls _ _ x2_0 x2_1 x2_2 a2_3 c2_3 x2_3 (hq10v.lend 3 rfl) hq11v hq12v) hs15v) rfl rfl rfl ?_
 intro y16v
 refine va rfl rfl (simL_nil ?_)
 exact nrm_cut (s := s14v) () ⟨rfl, rfl, rfl, trivial⟩ (.sel 0 rfl (.sel 0 rfl (.sel 0 rfl (.sel 0 rfl (.sel 0 rfl (.nil _))))))
 refine sim_skip ?_
 exact nrm_cut (s := s3v) () ⟨rfl, rfl, rfl, trivial⟩ (.sel 0 rfl (.sel 0 rfl (.sel 0 rfl (.sel 0 rfl (.sel 0 rfl (.nil _))))))
 intro s6v y7v
 refine sim_seq (sr ?_)
 refine vm rfl rfl ?_
 refine vq (q_neq rfl rfl rfl) rfl (simL_nil (nrm_then ?_))
 refine sim_condn rfl (fun h17v => ?_) (fun h18v => ?_)
 refine sim_skip ?_
 refine nrm_then (sr ?_)
 refine vq (q_loado 2 rfl rfl Tryz.isAgg35 Tryz.sizeOf35 rfl rfl) rfl ?_
 refine simL_do (re_store 1 rfl rfl rfl Tryz.sizeOf35 rfl rfl (one_of (by rfl)) rfl rfl) rfl rfl ?_
 intro _
 refine va rfl rfl (simL_nil (nrm_then (sim_rtn ?_)))
 exact rtn_fnC (vs := [.agg #[.int .i64 x2_0, .int .i64 x2_1, .int .i64 x2_2, .slice a2_3 x2_3.length c2_3], .int .i64 0]) (a2_3, c2_3) rfl ⟨⟨b2v, rfl, load_agg 1 Tryz.isAgg35 Tryz.sizeOf35 rfl rfl⟩, rfl, trivial⟩ rfl (.sel 3 rfl (.sel 0 rfl (.sel 2 rfl (.nil _))))
 refine sr ?_
 refine simL_eff (re_alloc rfl Tryz.zeroValue35 rfl) rfl rfl rfl ?_
 intro b19v
 refine nx ?_
 refine vq (q_loado 0 rfl rfl Tryz.isAgg35 Tryz.sizeOf35 rfl rfl) rfl ?_
 refine vm rfl rfl ?_
 refine simL_do (re_store 2 rfl rfl rfl Tryz.sizeOf35 rfl rfl (one_of (by rfl)) rfl rfl) rfl rfl ?_
 intro _
 refine va rfl rfl (simL_nil (nrm_then (sim_rtn ?_)))
 refine rtn_then ?_
 exact rtn_fnC (vs := [.agg #[.int .i64 0, .int .i64 0, .int .i64 0, .slice none 0 0], .int .i64 s6v]) (none, 0) rfl ⟨⟨b2v, rfl, load_agg 2 Tryz.isAgg35 Tryz.sizeOf35 rfl rfl⟩, rfl, trivial⟩ rfl (.row_nil (.sel 1 rfl (.sel 4 rfl (.nil _))))

def codec_Entries_Get.f (k : Nat) (x1 : List UInt8) : Option (Ty144) := (wire_NewReader.f x1).bind fun s3v => ((wire_Reader_Int.f k s3v.1 s3v.2.1 s3v.2.2).bind fun s10v => ((wire_Reader_Int.f k s3v.1 s10v.2.1 s10v.2.2).bind fun s17v => ((wire_Reader_Int.f k s3v.1 s17v.2.1 s17v.2.2).bind fun s24v => ((wire_Reader_Bytes.f k s3v.1 s24v.2.1 s24v.2.2 (4096 : Int)).bind fun s31v => ((codec_last_Entry_Entries_c2.f s3v.1 s31v.2.1 s31v.2.2 s10v.1 s17v.1 s24v.1 s31v.1).bind fun s39v => (some (s39v.1, s39v.2.1, s39v.2.2.1, s39v.2.2.2.1, s39v.2.2.2.2)))))))
theorem codec_Entries_Get.calls (W : World) (F : HA) (k : Nat) (a1 : Option Addr) (c1 : Nat) (x1 : List UInt8) (h1 : Rd F a1 (encB x1)) (hc1 : x1.length ≤ c1) (hm1 : c1 ≤ maxLen) :
    Fn Tryz.prog W 102 [.agg #[], .slice a1 x1.length c1] [] F (codec_Entries_Get.f k x1) (fun (r : Int × Int × Int × List UInt8 × Int) (y : Option Addr × Nat) => .tuple #[.agg #[.int .i64 r.1, .int .i64 r.2.1, .int .i64 r.2.2.1, .slice y.1 r.2.2.2.1.length y.2], .int .i64 r.2.2.2.2]) (fun r y => [Row 5 1 y.1 r.2.2.2.1.length y.2 (encB r.2.2.2.1)]) := by
 unfold codec_Entries_Get.f
 refine fn_intro 26 Tryz.func102 rfl Tryz.ntmps102 rfl ?_
 refine sr ?_
 refine simL_eff (re_box rfl rfl rfl) rfl rfl rfl ?_
 intro b1v
 refine simL_eff (re_alloc rfl Tryz.zeroValue35 rfl) rfl rfl rfl ?_
 intro b2v
 refine va rfl rfl (nx ?_)
 refine vm rfl rfl ?_
 refine simL_bind (fun s3v hs4v => ?_)
 refine simL_eff (re_call (vs := [.slice a1 x1.length c1]) (cap := []) (A := []) (rst := [obj b2v 35 [.int .i64 0, .int .i64 0, .int .i64 0, .slice none 0 0], obj b1v 131 [], F]) rfl rfl rfl rfl rfl rfl Tryz.call100 (.sel 0 rfl (.sel 0 rfl (.sel 0 rfl (.nil _)))) (wire_NewReader.calls _ _ a1 c1 x1 (h1.lend 2 rfl) hc1 hm1) hs4v) rfl rfl rfl ?_
 intro y5v
 refine va rfl rfl (nx ?_)
 refine vm rfl rfl ?_
 refine simL_bind (fun s10v hs11v => ?_)
 refine simL_lend 1 rfl (fun hq6v hq7v hq8v hq9v => ?_)
 refine simL_eff (re_call (vs := [.pointer (some ⟨y5v.1, 0, none⟩)]) (cap := []) (A := [obj y5v.1 180 [.slice y5v.2.1 s3v.1.length y5v.2.2, .int .i64 s3v.2.1, .int .i64 s3v.2.2]]) (rst := [Row 5 1 y5v.2.1 s3v.1.length y5v.2.2 (encB s3v.1), obj b2v 35 [.int .i64 0, .int .i64 0, .int .i64 0, .slice none 0 0], obj b1v 131 [], F]) rfl rfl rfl rfl rfl rfl Tryz.call101 (.sel 0 rfl (.sel 0 rfl (.sel 0 rfl (.sel 0 rfl (.sel 0 rfl (.nil _)))))) (wire_Reader_Int.calls _ _ k y5v.1 y5v.2.1 y5v.2.2 s3v.1 s3v.2.1 s3v.2.2 (hq6v.lend 0 rfl) hq7v hq8v) hs11v) rfl rfl rfl ?_
 intro y12v
 refine vm rfl rfl ?_
 refine simL_bind (fun s17v hs18v => ?_)
 refine simL_lend 1 rfl (fun hq13v hq14v hq15v hq16v => ?_)
 refine simL_eff (re_call (vs := [.pointer (some ⟨y5v.1, 0, none⟩)]) (cap := []) (A := [obj y5v.1 180 [.slice y5v.2.1 s3v.1.length y5v.2.2, .int .i64 s10v.2.1, .int .i64 s10v.2.2]]) (rst := [Row 5 1 y5v.2.1 s3v.1.length y5v.2.2 (encB s3v.1), obj b2v 35 [.int .i64 0, .int .i64 0, .int .i64 0, .slice none 0 0], obj b1v 131 [], F]) rfl rfl rfl rfl rfl rfl Tryz.call101 (.sel 0 rfl (.sel 0 rfl (.sel 0 rfl (.sel 0 rfl (.sel 0 rfl (.nil _)))))) (wire_Reader_Int.calls _ _ k y5v.1 y5v.2.1 y5v.2.2 s3v.1 s10v.2.1 s10v.2.2 (hq13v.lend 0 rfl) hq14v hq15v) hs18v) rfl rfl rfl ?_
 intro y19v
 refine vm rfl rfl ?_
 refine simL_bind (fun s24v hs25v => ?_)
 refine simL_lend 1 rfl (fun hq20v hq21v hq22v hq23v => ?_)
 refine simL_eff (re_call (vs := [.pointer (some ⟨y5v.1, 0, none⟩)]) (cap := []) (A := [obj y5v.1 180 [.slice y5v.2.1 s3v.1.length y5v.2.2, .int .i64 s17v.2.1, .int .i64 s17v.2.2]]) (rst := [Row 5 1 y5v.2.1 s3v.1.length y5v.2.2 (encB s3v.1), obj b2v 35 [.int .i64 0, .int .i64 0, .int .i64 0, .slice none 0 0], obj b1v 131 [], F]) rfl rfl rfl rfl rfl rfl Tryz.call101 (.sel 0 rfl (.sel 0 rfl (.sel 0 rfl (.sel 0 rfl (.sel 0 rfl (.nil _)))))) (wire_Reader_Int.calls _ _ k y5v.1 y5v.2.1 y5v.2.2 s3v.1 s17v.2.1 s17v.2.2 (hq20v.lend 0 rfl) hq21v hq22v) hs25v) rfl rfl rfl ?_
 intro y26v
 refine vm rfl rfl ?_
 refine simL_bind (fun s31v hs32v => ?_)
 refine simL_lend 1 rfl (fun hq27v hq28v hq29v hq30v => ?_)
 refine simL_eff (re_call (vs := [.pointer (some ⟨y5v.1, 0, none⟩), .int .i64 4096]) (cap := []) (A := [obj y5v.1 180 [.slice y5v.2.1 s3v.1.length y5v.2.2, .int .i64 s24v.2.1, .int .i64 s24v.2.2]]) (rst := [Row 5 1 y5v.2.1 s3v.1.length y5v.2.2 (encB s3v.1), obj b2v 35 [.int .i64 0, .int .i64 0, .int .i64 0, .slice none 0 0], obj b1v 131 [], F]) rfl rfl rfl rfl rfl rfl Tryz.call103 (.sel 0 rfl (.sel 0 rfl (.sel 0 rfl (.sel 0 rfl (.sel 0 rfl (.nil _)))))) (wire_Reader_Bytes.calls _ _ k y5v.1 y5v.2.1 y5v.2.2 s3v.1 s24v.2.1 s24v.2.2 (4096 : Int) (hq27v.lend 0 rfl) hq28v hq29v) hs32v) rfl rfl rfl ?_
 intro y33v
 refine vq (q_build (v := .agg #[.int .i64 s10v.1, .int .i64 s17v.1, .int .i64 s24v.1, .slice y33v.1 s31v.1.length y33v.2]) rfl rfl (fun _ => by kernel_rfl)) rfl ?_
 refine simL_eff (re_alloc rfl Tryz.zeroValue35 rfl) rfl rfl rfl ?_
 intro b34v
 refine simL_do (re_store 0 rfl rfl rfl Tryz.sizeOf35 rfl rfl (one_of (by rfl)) rfl rfl) rfl rfl ?_
 intro _
 refine nx ?_
 refine vm rfl rfl ?_
 refine vq (q_loado 5 rfl rfl Tryz.isAgg131 Tryz.sizeOf131 rfl rfl) rfl ?_
 refine vq (q_mkif rfl rfl Tryz.underlying131 rfl) rfl ?_
 refine vq (q_loado 0 rfl rfl Tryz.isAgg35 Tryz.sizeOf35 rfl rfl) rfl ?_
 refine simL_bind (fun s39v hs40v => ?_)
 refine simL_lend 3 rfl (fun hq35v hq36v hq37v hq38v => ?_)
 refine simL_eff (re_call (vs := [.pointer (some ⟨y5v.1, 0, none⟩), .iface 131 (.agg #[]), .agg #[.int .i64 s10v.1, .int .i64 s17v.1, .int .i64 s24v.1, .slice y33v.1 s31v.1.length y33v.2]]) (cap := []) (A := [obj y5v.1 180 [.slice y5v.2.1 s3v.1.length y5v.2.2, .int .i64 s31v.2.1, .int .i64 s31v.2.2], Row 5 1 y33v.1 s31v.1.length y33v.2 (encB s31v.1)]) (rst := [obj b34v 35 [.int .i64 s10v.1, .int .i64 s17v.1, .int .i64 s24v.1, .slice y33v.1 s31v.1.length y33v.2], Row 5 1 y5v.2.1 s3v.1.length y5v.2.2 (encB s3v.1), obj b2v 35 [.int .i64 0, .int .i64 0, .int .i64 0, .slice none 0 0], obj b1v 131 [], F]) rfl rfl rfl rfl rfl rfl Tryz.call124 (.sel 2 rfl (.sel 1 rfl (.sel 0 rfl (.sel 0 rfl (.sel 0 rfl (.sel 0 rfl (.sel 0 rfl (.nil _)))))))) (codec_last_Entry_Entries_c2.calls _ _ y5v.1 y5v.2.1 y5v.2.2 s3v.1 s31v.2.1 s31v.2.2 s10v.1 s17v.1 s24v.1 y33v.1 y33v.2 s31v.1 (hq35v.lend 1 rfl) hq36v hq37v) hs40v) rfl rfl rfl ?_
 intro y41v
 refine vq (q_ext rfl rfl rfl) rfl ?_
 refine vq (q_ext rfl rfl rfl) rfl ?_
 refine simL_do (re_store 4 rfl rfl rfl Tryz.sizeOf35 rfl rfl (one_of (by rfl)) rfl rfl) rfl rfl ?_
 intro _
 refine va rfl rfl (simL_nil (nrm_then (sim_rtn ?_)))
 exact rtn_fnC (vs := [.agg #[.int .i64 s39v.1, .int .i64 s39v.2.1, .int .i64 s39v.2.2.1, .slice y41v.1 s39v.2.2.2.1.length y41v.2], .int .i64 s39v.2.2.2.2]) (y41v.1, y41v.2) rfl ⟨⟨b2v, rfl, load_agg 4 Tryz.isAgg35 Tryz.sizeOf35 rfl rfl⟩, rfl, trivial⟩ rfl (.sel 0 rfl (.sel 5 rfl (.nil _)))

def wal_parse.f (k : Nat) (x0 : List UInt8) : Option (Int × Int × Int × Int × Int × Int × Int × Int × Int × Int × List UInt8 × Bool) := (wire_NewReader.f x0).bind fun s2v => ((wire_Reader_Int.f k s2v.1 s2v.2.1 s2v.2.2).bind fun s9v => ((if s9v.1 = (0 : Int) then ((wire_Reader_Int.f k s2v.1 s9v.2.1 s9v.2.2).bind fun s21v => (some (s21v.2.1, s21v.2.2, s21v.1))) else (some (s9v.2.1, s9v.2.2, 0))).bind fun s13v => ((if ((decide (s9v.1 = (0 : Int))) || (decide (s9v.1 = (1 : Int)))) = true then ((wire_Reader_Int.f k s2v.1 s13v.1 s13v.2.1).bind fun s32v => ((wire_Reader_Int.f k s2v.1 s32v.2.1 s32v.2.2).bind fun s39v => ((wire_Reader_Int.f k s2v.1 s39v.2.1 s39v.2.2).bind fun s46v => ((codec_States_Check.f s32v.1 s39v.1 s46v.1).bind fun s49v => (some (decide (s49v = (0 : Int)), s46v.2.1, s46v.2.2, s32v.1, s39v.1, s46v.1)))))) else (some (decide (s9v.1 ≤ (3 : Int)), s13v.1, s13v.2.1, 0, 0, 0))).bind fun s24v => ((if ((decide (s9v.1 = (0 : Int))) || (decide (s9v.1 = (3 : Int)))) = true then ((wire_Reader_Int.f k s2v.1 s24v.2.1 s24v.2.2.1).bind fun s63v => ((wire_Reader_Int.f k s2v.1 s63v.2.1 s63v.2.2).bind fun s70v => ((if s24v.1 = true then ((if s9v.1 = (0 : Int) then (some true) else (some ((decide ((0 : Int) < s63v.1)) && (decide ((0 : Int) < s70v.1))))).bind fun s75v => (some s75v)) else (some false)).bind fun s73v => (some (s73v, s70v.2.1, s70v.2.2, s63v.1, s70v.1))))) else (some (s24v.1, s24v.2.1, s24v.2.2.1, 0, 0))).bind fun s55v => ((if s9v.1 = (2 : Int) then ((wire_Reader_Bytes.f k s2v.1 s55v.2.1 s55v.2.2.1 (8192 : Int)).bind fun s95v => ((codec_Entries_Get.f k s95v.1).bind fun s102v => (some (decide (s102v.2.2.2.2 = (0 : Int)), s95v.2.1, s95v.2.2, s102v.1, s102v.2.1, s102v.2.2.1, s102v.2.2.2.1)))) else (some (s55v.1, s55v.2.1, s55v.2.2.1, 0, 0, 0, ([] : List UInt8)))).bind fun s87v => (some (s9v.1, s13v.2.2, s24v.2.2.2.1, s24v.2.2.2.2.1, s24v.2.2.2.2.2, s55v.2.2.2.1, s55v.2.2.2.2, s87v.2.2.2.1, s87v.2.2.2.2.1, s87v.2.2.2.2.2.1, s87v.2.2.2.2.2.2, s87v.1 && (decide ((wire_Reader_Done.v s2v.1 s87v.2.1 s87v.2.2.1) = (0 : Int))))))))))
theorem wal_parse.calls (W : World) (F : HA) (k : Nat) (a0 : Option Addr) (c0 : Nat) (x0 : List UInt8) (h0 : Rd F a0 (encB x0)) (hc0 : x0.length ≤ c0) (hm0 : c0 ≤ maxLen) :
    Fn Tryz.prog W 76 [.slice a0 x0.length c0] [] F (wal_parse.f k x0) (fun (r : Int × Int × Int × Int × Int × Int × Int × Int × Int × Int × List UInt8 × Bool) (y : Option Addr × Nat) => .tuple #[.agg #[.int .i64 r.1, .int .i64 r.2.1, .int .i64 r.2.2.1, .int .i64 r.2.2.2.1, .int .i64 r.2.2.2.2.1, .int .i64 r.2.2.2.2.2.1, .int .i64 r.2.2.2.2.2.2.1, .int .i64 r.2.2.2.2.2.2.2.1, .int .i64 r.2.2.2.2.2.2.2.2.1, .int .i64 r.2.2.2.2.2.2.2.2.2.1, .slice y.1 r.2.2.2.2.2.2.2.2.2.2.1.length y.2], .bool r.2.2.2.2.2.2.2.2.2.2.2]) (fun r y => [Row 5 1 y.1 r.2.2.2.2.2.2.2.2.2.2.1.length y.2 (encB r.2.2.2.2.2.2.2.2.2.2.1)]) := by
 unfold wal_parse.f
 refine fn_intro 95 Tryz.func76 rfl Tryz.ntmps76 rfl ?_
 refine sr ?_
 refine simL_eff (re_alloc rfl Tryz.zeroValue102 rfl) rfl rfl rfl ?_
 intro b1v
 refine va rfl rfl (nx ?_)
 refine vm rfl rfl ?_
 refine simL_bind (fun s2v hs3v => ?_)
 refine simL_eff (re_call (vs := [.slice a0 x0.length c0]) (cap := []) (A := []) (rst := [obj b1v 102 [.int .i64 0, .int .i64 0, .int .i64 0, .int .i64 0, .int .i64 0, .int .i64 0, .int .i64 0, .int .i64 0, .int .i64 0, .int .i64 0, .slice none 0 0], F]) rfl rfl rfl rfl rfl rfl Tryz.call100 (.sel 0 rfl (.sel 0 rfl (.nil _))) (wire_NewReader.calls _ _ a0 c0 x0 (h0.lend 1 rfl) hc0 hm0) hs3v) rfl rfl rfl ?_
 intro y4v
 refine va rfl rfl (nx ?_)
 refine vm rfl rfl ?_
 refine simL_bind (fun s9v hs10v => ?_)
 refine simL_lend 1 rfl (fun hq5v hq6v hq7v hq8v => ?_)
 refine simL_eff (re_call (vs := [.pointer (some ⟨y4v.1, 0, none⟩)]) (cap := []) (A := [obj y4v.1 180 [.slice y4v.2.1 s2v.1.length y4v.2.2, .int .i64 s2v.2.1, .int .i64 s2v.2.2]]) (rst := [Row 5 1 y4v.2.1 s2v.1.length y4v.2.2 (encB s2v.1), obj b1v 102 [.int .i64 0, .int .i64 0, .int .i64 0, .int .i64 0, .int .i64 0, .int .i64 0, .int .i64 0, .int .i64 0, .int .i64 0, .int .i64 0, .slice none 0 0], F]) rfl rfl rfl rfl rfl rfl Tryz.call101 (.sel 0 rfl (.sel 0 rfl (.sel 0 rfl (.sel 0 rfl (.nil _))))) (wire_Reader_Int.calls _ _ k y4v.1 y4v.2.1 y4v.2.2 s2v.1 s2v.2.1 s2v.2.2 (hq5v.lend 0 rfl) hq6v hq7v) hs10v) rfl rfl rfl ?_
 intro y11v
 refine vq (q_build (v := .agg #[.int .i64 s9v.1, .int .i64 0, .int .i64 0, .int .i64 0, .int .i64 0, .int .i64 0, .int .i64 0, .int .i64 0, .int .i64 0, .int .i64 0, .slice none 0 0]) rfl rfl (fun _ => by kernel_rfl)) rfl ?_
 refine simL_eff (re_alloc rfl Tryz.zeroValue102 rfl) rfl rfl rfl ?_
 intro b12v
 refine simL_do (re_store 0 rfl rfl rfl Tryz.sizeOf102 rfl rfl (one_of (by rfl)) rfl rfl) rfl rfl ?_
 intro _
 refine simL_ent (H' := [obj b12v 102 [.int .i64 s9v.1, .int .i64 0, .int .i64 0, .int .i64 0, .int .i64 0, .int .i64 0, .int .i64 0, .int .i64 0, .int .i64 0, .int .i64 0, .slice none 0 0], obj y4v.1 180 [.slice y4v.2.1 s2v.1.length y4v.2.2, .int .i64 s9v.2.1, .int .i64 s9v.2.2], Row 5 1 y4v.2.1 s2v.1.length y4v.2.2 (encB s2v.1), obj b1v 102 [.int .i64 0, .int .i64 0, .int .i64 0, .int .i64 0, .int .i64 0, .int .i64 0, .int .i64 0, .int .i64 0, .int .i64 0, .int .i64 0, .slice none 0 0], F]) (Ent.refl _) ?_
 refine nx ?_
 refine vq (q_fa rfl rfl Tryz.underlying102 rfl rfl Tryz.sizeOf3 rfl) rfl ?_
 refine vq (q_load rfl rfl Tryz.isAgg3 (.obj 0 rfl rfl)) rfl ?_
 refine vq (q_leq rfl rfl rfl) rfl ?_
 refine va rfl rfl (simL_nil (nrm_then ?_))
 refine sim_cut (S := Int × Int × Int) (Unit) (fun s y => [(2, .pointer (some ⟨b1v, 0, none⟩)), (4, .pointer (some ⟨y4v.1, 0, none⟩)), (5, .pointer (some ⟨b12v, 0, none⟩)), (6, .bool (decide (s9v.1 ≤ (3 : Int))))]) (fun s y => [obj y4v.1 180 [.slice y4v.2.1 s2v.1.length y4v.2.2, .int .i64 s.1, .int .i64 s.2.1], obj b12v 102 [.int .i64 s9v.1, .int .i64 s.2.2, .int .i64 0, .int .i64 0, .int .i64 0, .int .i64 0, .int .i64 0, .int .i64 0, .int .i64 0, .int .i64 0, .slice none 0 0], obj b1v 102 [.int .i64 0, .int .i64 0, .int .i64 0, .int .i64 0, .int .i64 0, .int .i64 0, .int .i64 0, .int .i64 0, .int .i64 0, .int .i64 0, .slice none 0 0], Row 5 1 y4v.2.1 s2v.1.length y4v.2.2 (encB s2v.1), F]) ?_ ?_
 refine sr ?_
 refine vq (q_fa rfl rfl Tryz.underlying102 rfl rfl Tryz.sizeOf3 rfl) rfl ?_
 refine vq (q_load rfl rfl Tryz.isAgg3 (.obj 0 rfl rfl)) rfl ?_
 refine vq (q_eql rfl rfl rfl) rfl (simL_nil (nrm_then ?_))
 refine sim_cond rfl (fun h15v => ?_) (fun h16v => ?_)
 refine sim_region ?_
 refine vm rfl rfl ?_
 refine simL_bind (fun s21v hs22v => ?_)
 refine simL_lend 2 rfl (fun hq17v hq18v hq19v hq20v => ?_)
 refine simL_eff (re_call (vs := [.pointer (some ⟨y4v.1, 0, none⟩)]) (cap := []) (A := [obj y4v.1 180 [.slice y4v.2.1 s2v.1.length y4v.2.2, .int .i64 s9v.2.1, .int .i64 s9v.2.2]]) (rst := [obj b12v 102 [.int .i64 s9v.1, .int .i64 0, .int .i64 0, .int .i64 0, .int .i64 0, .int .i64 0, .int .i64 0, .int .i64 0, .int .i64 0, .int .i64 0, .slice none 0 0], Row 5 1 y4v.2.1 s2v.1.length y4v.2.2 (encB s2v.1), obj b1v 102 [.int .i64 0, .int .i64 0, .int .i64 0, .int .i64 0, .int .i64 0, .int .i64 0, .int .i64 0, .int .i64 0, .int .i64 0, .int .i64 0, .slice none 0 0], F]) rfl rfl rfl rfl rfl rfl Tryz.call101 (.sel 1 rfl (.sel 0 rfl (.sel 0 rfl (.sel 0 rfl (.sel 0 rfl (.nil _)))))) (wire_Reader_Int.calls _ _ k y4v.1 y4v.2.1 y4v.2.2 s2v.1 s9v.2.1 s9v.2.2 (hq17v.lend 1 rfl) hq18v hq19v) hs22v) rfl rfl rfl ?_
 intro y23v
 refine vq (q_fa rfl rfl Tryz.underlying102 rfl rfl Tryz.sizeOf3 rfl) rfl ?_
 refine simL_do (re_store 1 rfl rfl rfl Tryz.sizeOf3 rfl rfl (one_of (by rfl)) rfl rfl) rfl rfl ?_
 intro _
 refine simL_ent (H' := [obj y4v.1 180 [.slice y4v.2.1 s2v.1.length y4v.2.2, .int .i64 s21v.2.1, .int .i64 s21v.2.2], obj b12v 102 [.int .i64 s9v.1, .int .i64 s21v.1, .int .i64 0, .int .i64 0, .int .i64 0, .int .i64 0, .int .i64 0, .int .i64 0, .int .i64 0, .int .i64 0, .slice none 0 0], Row 5 1 y4v.2.1 s2v.1.length y4v.2.2 (encB s2v.1), obj b1v 102 [.int .i64 0, .int .i64 0, .int .i64 0, .int .i64 0, .int .i64 0, .int .i64 0, .int .i64 0, .int .i64 0, .int .i64 0, .int .i64 0, .slice none 0 0], F]) (Ent.refl _) ?_
 refine simL_nil ?_
 exact nrm_cut (s := (s21v.2.1, s21v.2.2, s21v.1)) () ⟨rfl, rfl, rfl, rfl, trivial⟩ (.sel 0 rfl (.sel 0 rfl (.sel 1 rfl (.sel 0 rfl (.sel 0 rfl (.nil _))))))
 refine sim_skip ?_
 exact nrm_cut (s := (s9v.2.1, s9v.2.2, 0)) () ⟨rfl, rfl, rfl, rfl, trivial⟩ (.sel 1 rfl (.sel 0 rfl (.sel 1 rfl (.sel 0 rfl (.sel 0 rfl (.nil _))))))
 intro s13v y14v
 refine sim_cut (S := Bool × Int × Int × Int × Int × Int) (Unit) (fun s y => [(2, .pointer (some ⟨b1v, 0, none⟩)), (4, .pointer (some ⟨y4v.1, 0, none⟩)), (5, .pointer (some ⟨b12v, 0, none⟩)), (6, .bool s.1)]) (fun s y => [obj y4v.1 180 [.slice y4v.2.1 s2v.1.length y4v.2.2, .int .i64 s.2.1, .int .i64 s.2.2.1], obj b12v 102 [.int .i64 s9v.1, .int .i64 s13v.2.2, .int .i64 s.2.2.2.1, .int .i64 s.2.2.2.2.1, .int .i64 s.2.2.2.2.2, .int .i64 0, .int .i64 0, .int .i64 0, .int .i64 0, .int .i64 0, .slice none 0 0], obj b1v 102 [.int .i64 0, .int .i64 0, .int .i64 0, .int .i64 0, .int .i64 0, .int .i64 0, .int .i64 0, .int .i64 0, .int .i64 0, .int .i64 0, .slice none 0 0], Row 5 1 y4v.2.1 s2v.1.length y4v.2.2 (encB s2v.1), F]) ?_ ?_
 refine sr ?_
 refine vq (q_fa rfl rfl Tryz.underlying102 rfl rfl Tryz.sizeOf3 rfl) rfl ?_
 refine vq (q_load rfl rfl Tryz.isAgg3 (.obj 1 rfl rfl)) rfl ?_
 refine vq (q_eql rfl rfl rfl) rfl ?_
 refine vm rfl rfl ?_
 refine simL_valc (b := decide (s9v.1 = (0 : Int))) (fun hb54v => RQ.sub (E' := [(5, .pointer (some ⟨b12v, 0, none⟩))]) ⟨rfl, trivial⟩ (q_fa rfl rfl Tryz.underlying102 rfl rfl Tryz.sizeOf3 rfl)) rfl rfl rfl rfl rfl ?_
 refine simL_valc (b := decide (s9v.1 = (0 : Int))) (fun hb53v => RQ.sub (E' := [(27, .pointer (some ⟨b12v, 0, none⟩))]) ⟨lk_cv rfl hb53v, trivial⟩ (q_load rfl rfl Tryz.isAgg3 (.obj 1 rfl rfl))) rfl rfl rfl rfl rfl ?_
 refine simL_valc (b := decide (s9v.1 = (0 : Int))) (fun hb52v => RQ.sub (E' := [(28, .int .i64 s9v.1)]) ⟨lk_cv rfl hb52v, trivial⟩ (q_eql rfl rfl rfl)) rfl rfl rfl rfl rfl ?_
 refine vq (q_or rfl rfl rfl) rfl (simL_nil (nrm_then ?_))
 refine sim_condb rfl (fun h26v => ?_) (fun h27v => ?_)
 refine sr ?_
 refine vm rfl rfl ?_
 refine simL_bind (fun s32v hs33v => ?_)
 refine simL_lend 3 rfl (fun hq28v hq29v hq30v hq31v => ?_)
 refine simL_eff (re_call (vs := [.pointer (some ⟨y4v.1, 0, none⟩)]) (cap := []) (A := [obj y4v.1 180 [.slice y4v.2.1 s2v.1.length y4v.2.2, .int .i64 s13v.1, .int .i64 s13v.2.1]]) (rst := [obj b12v 102 [.int .i64 s9v.1, .int .i64 s13v.2.2, .int .i64 0, .int .i64 0, .int .i64 0, .int .i64 0, .int .i64 0, .int .i64 0, .int .i64 0, .int .i64 0, .slice none 0 0], obj b1v 102 [.int .i64 0, .int .i64 0, .int .i64 0, .int .i64 0, .int .i64 0, .int .i64 0, .int .i64 0, .int .i64 0, .int .i64 0, .int .i64 0, .slice none 0 0], Row 5 1 y4v.2.1 s2v.1.length y4v.2.2 (encB s2v.1), F]) rfl rfl rfl rfl rfl rfl Tryz.call101 (.sel 0 rfl (.sel 0 rfl (.sel 0 rfl (.sel 0 rfl (.sel 0 rfl (.nil _)))))) (wire_Reader_Int.calls _ _ k y4v.1 y4v.2.1 y4v.2.2 s2v.1 s13v.1 s13v.2.1 (hq28v.lend 2 rfl) hq29v hq30v) hs33v) rfl rfl rfl ?_
 intro y34v
 refine vm rfl rfl ?_
 refine simL_bind (fun s39v hs40v => ?_)
 refine simL_lend 3 rfl (fun hq35v hq36v hq37v hq38v => ?_)
 refine simL_eff (re_call (vs := [.pointer (some ⟨y4v.1, 0, none⟩)]) (cap := []) (A := [obj y4v.1 180 [.slice y4v.2.1 s2v.1.length y4v.2.2, .int .i64 s32v.2.1, .int .i64 s32v.2.2]]) (rst := [obj b12v 102 [.int .i64 s9v.1, .int .i64 s13v.2.2, .int .i64 0, .int .i64 0, .int .i64 0, .int .i64 0, .int .i64 0, .int .i64 0, .int .i64 0, .int .i64 0, .slice none 0 0], obj b1v 102 [.int .i64 0, .int .i64 0, .int .i64 0, .int .i64 0, .int .i64 0, .int .i64 0, .int .i64 0, .int .i64 0, .int .i64 0, .int .i64 0, .slice none 0 0], Row 5 1 y4v.2.1 s2v.1.length y4v.2.2 (encB s2v.1), F]) rfl rfl rfl rfl rfl rfl Tryz.call101 (.sel 0 rfl (.sel 0 rfl (.sel 0 rfl (.sel 0 rfl (.sel 0 rfl (.nil _)))))) (wire_Reader_Int.calls _ _ k y4v.1 y4v.2.1 y4v.2.2 s2v.1 s32v.2.1 s32v.2.2 (hq35v.lend 2 rfl) hq36v hq37v) hs40v) rfl rfl rfl ?_
 intro y41v
 refine vm rfl rfl ?_
 refine simL_bind (fun s46v hs47v => ?_)
 refine simL_lend 3 rfl (fun hq42v hq43v hq44v hq45v => ?_)
 refine simL_eff (re_call (vs := [.pointer (some ⟨y4v.1, 0, none⟩)]) (cap := []) (A := [obj y4v.1 180 [.slice y4v.2.1 s2v.1.length y4v.2.2, .int .i64 s39v.2.1, .int .i64 s39v.2.2]]) (rst := [obj b12v 102 [.int .i64 s9v.1, .int .i64 s13v.2.2, .int .i64 0, .int .i64 0, .int .i64 0, .int .i64 0, .int .i64 0, .int .i64 0, .int .i64 0, .int .i64 0, .slice none 0 0], obj b1v 102 [.int .i64 0, .int .i64 0, .int .i64 0, .int .i64 0, .int .i64 0, .int .i64 0, .int .i64 0, .int .i64 0, .int .i64 0, .int .i64 0, .slice none 0 0], Row 5 1 y4v.2.1 s2v.1.length y4v.2.2 (encB s2v.1), F]) rfl rfl rfl rfl rfl rfl Tryz.call101 (.sel 0 rfl (.sel 0 rfl (.sel 0 rfl (.sel 0 rfl (.sel 0 rfl (.nil _)))))) (wire_Reader_Int.calls _ _ k y4v.1 y4v.2.1 y4v.2.2 s2v.1 s39v.2.1 s39v.2.2 (hq42v.lend 2 rfl) hq43v hq44v) hs47v) rfl rfl rfl ?_
 intro y48v
 refine vq (q_build (v := .agg #[.int .i64 s32v.1, .int .i64 s39v.1, .int .i64 s46v.1]) rfl rfl (fun _ => by kernel_rfl)) rfl ?_
 refine vq (q_fa rfl rfl Tryz.underlying102 rfl rfl Tryz.sizeOf43 rfl) rfl ?_
 refine simL_do (re_store 1 rfl rfl rfl Tryz.sizeOf43 rfl rfl (one_of (by rfl)) rfl rfl) rfl rfl ?_
 intro _
 refine simL_ent (H' := [obj y4v.1 180 [.slice y4v.2.1 s2v.1.length y4v.2.2, .int .i64 s46v.2.1, .int .i64 s46v.2.2], obj b12v 102 [.int .i64 s9v.1, .int .i64 s13v.2.2, .int .i64 s32v.1, .int .i64 s39v.1, .int .i64 s46v.1, .int .i64 0, .int .i64 0, .int .i64 0, .int .i64 0, .int .i64 0, .slice none 0 0], obj b1v 102 [.int .i64 0, .int .i64 0, .int .i64 0, .int .i64 0, .int .i64 0, .int .i64 0, .int .i64 0, .int .i64 0, .int .i64 0, .int .i64 0, .slice none 0 0], Row 5 1 y4v.2.1 s2v.1.length y4v.2.2 (encB s2v.1), F]) (Ent.refl _) ?_
 refine ny ?_
 refine vq (q_build (v := .agg #[]) rfl rfl (fun _ => by kernel_rfl)) rfl ?_
 refine vq (q_fa rfl rfl Tryz.underlying102 rfl rfl Tryz.sizeOf43 rfl) rfl ?_
 refine vq (q_loads (vs := [.int .i64 s32v.1, .int .i64 s39v.1, .int .i64 s46v.1]) rfl rfl Tryz.isAgg43 Tryz.sizeOf43 rfl (cells_obj 1 rfl (cells_lit rfl))) rfl ?_
 refine simL_bind (fun s49v hs50v => ?_)
 refine simL_eff (re_call (vs := [.agg #[], .agg #[.int .i64 s32v.1, .int .i64 s39v.1, .int .i64 s46v.1]]) (cap := []) (A := []) (rst := [obj y4v.1 180 [.slice y4v.2.1 s2v.1.length y4v.2.2, .int .i64 s46v.2.1, .int .i64 s46v.2.2], obj b12v 102 [.int .i64 s9v.1, .int .i64 s13v.2.2, .int .i64 s32v.1, .int .i64 s39v.1, .int .i64 s46v.1, .int .i64 0, .int .i64 0, .int .i64 0, .int .i64 0, .int .i64 0, .slice none 0 0], obj b1v 102 [.int .i64 0, .int .i64 0, .int .i64 0, .int .i64 0, .int .i64 0, .int .i64 0, .int .i64 0, .int .i64 0, .int .i64 0, .int .i64 0, .slice none 0 0], Row 5 1 y4v.2.1 s2v.1.length y4v.2.2 (encB s2v.1), F]) rfl rfl rfl rfl rfl rfl Tryz.call78 (.sel 0 rfl (.sel 0 rfl (.sel 0 rfl (.sel 0 rfl (.sel 0 rfl (.nil _)))))) (codec_States_Check.calls _ _ s32v.1 s39v.1 s46v.1 ) hs50v) rfl rfl rfl ?_
 intro y51v
 refine vq (q_eql rfl rfl rfl) rfl ?_
 refine va rfl rfl (simL_nil ?_)
 exact nrm_cut (s := (decide (s49v = (0 : Int)), s46v.2.1, s46v.2.2, s32v.1, s39v.1, s46v.1)) () ⟨rfl, rfl, rfl, rfl, trivial⟩ (.sel 0 rfl (.sel 0 rfl (.sel 0 rfl (.sel 0 rfl (.sel 0 rfl (.nil _))))))
 refine sim_skip ?_
 exact nrm_cut (s := (decide (s9v.1 ≤ (3 : Int)), s13v.1, s13v.2.1, 0, 0, 0)) () ⟨rfl, rfl, rfl, rfl, trivial⟩ (.sel 0 rfl (.sel 0 rfl (.sel 0 rfl (.sel 0 rfl (.sel 0 rfl (.nil _))))))
 intro s24v y25v
 refine sim_cut (S := Bool × Int × Int × Int × Int) (Unit) (fun s y => [(2, .pointer (some ⟨b1v, 0, none⟩)), (4, .pointer (some ⟨y4v.1, 0, none⟩)), (5, .pointer (some ⟨b12v, 0, none⟩)), (6, .bool s.1)]) (fun s y => [obj y4v.1 180 [.slice y4v.2.1 s2v.1.length y4v.2.2, .int .i64 s.2.1, .int .i64 s.2.2.1], obj b12v 102 [.int .i64 s9v.1, .int .i64 s13v.2.2, .int .i64 s24v.2.2.2.1, .int .i64 s24v.2.2.2.2.1, .int .i64 s24v.2.2.2.2.2, .int .i64 s.2.2.2.1, .int .i64 s.2.2.2.2, .int .i64 0, .int .i64 0, .int .i64 0, .slice none 0 0], obj b1v 102 [.int .i64 0, .int .i64 0, .int .i64 0, .int .i64 0, .int .i64 0, .int .i64 0, .int .i64 0, .int .i64 0, .int .i64 0, .int .i64 0, .slice none 0 0], Row 5 1 y4v.2.1 s2v.1.length y4v.2.2 (encB s2v.1), F]) ?_ ?_
 refine sr ?_
 refine vq (q_fa rfl rfl Tryz.underlying102 rfl rfl Tryz.sizeOf3 rfl) rfl ?_
 refine vq (q_load rfl rfl Tryz.isAgg3 (.obj 1 rfl rfl)) rfl ?_
 refine vq (q_eql rfl rfl rfl) rfl ?_
 refine vm rfl rfl ?_
 refine simL_valc (b := decide (s9v.1 = (0 : Int))) (fun hb86v => RQ.sub (E' := [(5, .pointer (some ⟨b12v, 0, none⟩))]) ⟨rfl, trivial⟩ (q_fa rfl rfl Tryz.underlying102 rfl rfl Tryz.sizeOf3 rfl)) rfl rfl rfl rfl rfl ?_
 refine simL_valc (b := decide (s9v.1 = (0 : Int))) (fun hb85v => RQ.sub (E' := [(48, .pointer (some ⟨b12v, 0, none⟩))]) ⟨lk_cv rfl hb85v, trivial⟩ (q_load rfl rfl Tryz.isAgg3 (.obj 1 rfl rfl))) rfl rfl rfl rfl rfl ?_
 refine simL_valc (b := decide (s9v.1 = (0 : Int))) (fun hb84v => RQ.sub (E' := [(49, .int .i64 s9v.1)]) ⟨lk_cv rfl hb84v, trivial⟩ (q_eql rfl rfl rfl)) rfl rfl rfl rfl rfl ?_
 refine vq (q_or rfl rfl rfl) rfl (simL_nil (nrm_then ?_))
 refine sim_condb rfl (fun h57v => ?_) (fun h58v => ?_)
 refine sr ?_
 refine vm rfl rfl ?_
 refine simL_bind (fun s63v hs64v => ?_)
 refine simL_lend 3 rfl (fun hq59v hq60v hq61v hq62v => ?_)
 refine simL_eff (re_call (vs := [.pointer (some ⟨y4v.1, 0, none⟩)]) (cap := []) (A := [obj y4v.1 180 [.slice y4v.2.1 s2v.1.length y4v.2.2, .int .i64 s24v.2.1, .int .i64 s24v.2.2.1]]) (rst := [obj b12v 102 [.int .i64 s9v.1, .int .i64 s13v.2.2, .int .i64 s24v.2.2.2.1, .int .i64 s24v.2.2.2.2.1, .int .i64 s24v.2.2.2.2.2, .int .i64 0, .int .i64 0, .int .i64 0, .int .i64 0, .int .i64 0, .slice none 0 0], obj b1v 102 [.int .i64 0, .int .i64 0, .int .i64 0, .int .i64 0, .int .i64 0, .int .i64 0, .int .i64 0, .int .i64 0, .int .i64 0, .int .i64 0, .slice none 0 0], Row 5 1 y4v.2.1 s2v.1.length y4v.2.2 (encB s2v.1), F]) rfl rfl rfl rfl rfl rfl Tryz.call101 (.sel 0 rfl (.sel 0 rfl (.sel 0 rfl (.sel 0 rfl (.sel 0 rfl (.nil _)))))) (wire_Reader_Int.calls _ _ k y4v.1 y4v.2.1 y4v.2.2 s2v.1 s24v.2.1 s24v.2.2.1 (hq59v.lend 2 rfl) hq60v hq61v) hs64v) rfl rfl rfl ?_
 intro y65v
 refine vm rfl rfl ?_
 refine simL_bind (fun s70v hs71v => ?_)
 refine simL_lend 3 rfl (fun hq66v hq67v hq68v hq69v => ?_)
 refine simL_eff (re_call (vs := [.pointer (some ⟨y4v.1, 0, none⟩)]) (cap := []) (A := [obj y4v.1 180 [.slice y4v.2.1 s2v.1.length y4v.2.2, .int .i64 s63v.2.1, .int .i64 s63v.2.2]]) (rst := [obj b12v 102 [.int .i64 s9v.1, .int .i64 s13v.2.2, .int .i64 s24v.2.2.2.1, .int .i64 s24v.2.2.2.2.1, .int .i64 s24v.2.2.2.2.2, .int .i64 0, .int .i64 0, .int .i64 0, .int .i64 0, .int .i64 0, .slice none 0 0], obj b1v 102 [.int .i64 0, .int .i64 0, .int .i64 0, .int .i64 0, .int .i64 0, .int .i64 0, .int .i64 0, .int .i64 0, .int .i64 0, .int .i64 0, .slice none 0 0], Row 5 1 y4v.2.1 s2v.1.length y4v.2.2 (encB s2v.1), F]) rfl rfl rfl rfl rfl rfl Tryz.call101 (.sel 0 rfl (.sel 0 rfl (.sel 0 rfl (.sel 0 rfl (.sel 0 rfl (.nil _)))))) (wire_Reader_Int.calls _ _ k y4v.1 y4v.2.1 y4v.2.2 s2v.1 s63v.2.1 s63v.2.2 (hq66v.lend 2 rfl) hq67v hq68v) hs71v) rfl rfl rfl ?_
 intro y72v
 refine vq (q_fa rfl rfl Tryz.underlying102 rfl rfl Tryz.sizeOf3 rfl) rfl ?_
 refine simL_do (re_store 1 rfl rfl rfl Tryz.sizeOf3 rfl rfl (one_of (by rfl)) rfl rfl) rfl rfl ?_
 intro _
 refine simL_ent (H' := [obj y4v.1 180 [.slice y4v.2.1 s2v.1.length y4v.2.2, .int .i64 s70v.2.1, .int .i64 s70v.2.2], obj b12v 102 [.int .i64 s9v.1, .int .i64 s13v.2.2, .int .i64 s24v.2.2.2.1, .int .i64 s24v.2.2.2.2.1, .int .i64 s24v.2.2.2.2.2, .int .i64 s63v.1, .int .i64 0, .int .i64 0, .int .i64 0, .int .i64 0, .slice none 0 0], obj b1v 102 [.int .i64 0, .int .i64 0, .int .i64 0, .int .i64 0, .int .i64 0, .int .i64 0, .int .i64 0, .int .i64 0, .int .i64 0, .int .i64 0, .slice none 0 0], Row 5 1 y4v.2.1 s2v.1.length y4v.2.2 (encB s2v.1), F]) (Ent.refl _) ?_
 refine vq (q_fa rfl rfl Tryz.underlying102 rfl rfl Tryz.sizeOf3 rfl) rfl ?_
 refine simL_do (re_store 1 rfl rfl rfl Tryz.sizeOf3 rfl rfl (one_of (by rfl)) rfl rfl) rfl rfl ?_
 intro _
 refine simL_ent (H' := [obj y4v.1 180 [.slice y4v.2.1 s2v.1.length y4v.2.2, .int .i64 s70v.2.1, .int .i64 s70v.2.2], obj b12v 102 [.int .i64 s9v.1, .int .i64 s13v.2.2, .int .i64 s24v.2.2.2.1, .int .i64 s24v.2.2.2.2.1, .int .i64 s24v.2.2.2.2.2, .int .i64 s63v.1, .int .i64 s70v.1, .int .i64 0, .int .i64 0, .int .i64 0, .slice none 0 0], obj b1v 102 [.int .i64 0, .int .i64 0, .int .i64 0, .int .i64 0, .int .i64 0, .int .i64 0, .int .i64 0, .int .i64 0, .int .i64 0, .int .i64 0, .slice none 0 0], Row 5 1 y4v.2.1 s2v.1.length y4v.2.2 (encB s2v.1), F]) (Ent.refl _) ?_
 refine ny ?_
 refine vm rfl rfl ?_
 refine vm rfl rfl ?_
 refine simL_cut' 14 (S := Bool) (Unit) (fun s y => [(2, .pointer (some ⟨b1v, 0, none⟩)), (4, .pointer (some ⟨y4v.1, 0, none⟩)), (5, .pointer (some ⟨b12v, 0, none⟩)), (73, .bool s)]) (fun s y => [obj y4v.1 180 [.slice y4v.2.1 s2v.1.length y4v.2.2, .int .i64 s70v.2.1, .int .i64 s70v.2.2], obj b12v 102 [.int .i64 s9v.1, .int .i64 s13v.2.2, .int .i64 s24v.2.2.2.1, .int .i64 s24v.2.2.2.2.1, .int .i64 s24v.2.2.2.2.2, .int .i64 s63v.1, .int .i64 s70v.1, .int .i64 0, .int .i64 0, .int .i64 0, .slice none 0 0], obj b1v 102 [.int .i64 0, .int .i64 0, .int .i64 0, .int .i64 0, .int .i64 0, .int .i64 0, .int .i64 0, .int .i64 0, .int .i64 0, .int .i64 0, .slice none 0 0], Row 5 1 y4v.2.1 s2v.1.length y4v.2.2 (encB s2v.1), F]) ?_ ?_
 refine simL_caseb (fun hb82v => ?_) (fun hb83v => ?_)
 rw [hb82v]
 refine simL_valg (q_fa rfl rfl Tryz.underlying102 rfl rfl Tryz.sizeOf3 rfl) rfl rfl rfl rfl rfl rfl ?_
 refine simL_valg (q_load rfl rfl Tryz.isAgg3 (.obj 1 rfl rfl)) rfl rfl rfl rfl rfl rfl ?_
 refine simL_valg (q_eql rfl rfl rfl) rfl rfl rfl rfl rfl rfl ?_
 refine simL_valg (q_move rfl rfl) rfl rfl rfl rfl rfl rfl ?_
 refine simL_cut' 9 (S := Bool) (Unit) (fun s y => [(2, .pointer (some ⟨b1v, 0, none⟩)), (4, .pointer (some ⟨y4v.1, 0, none⟩)), (5, .pointer (some ⟨b12v, 0, none⟩)), (59, .bool true), (72, .bool s)]) (fun s y => [obj y4v.1 180 [.slice y4v.2.1 s2v.1.length y4v.2.2, .int .i64 s70v.2.1, .int .i64 s70v.2.2], obj b12v 102 [.int .i64 s9v.1, .int .i64 s13v.2.2, .int .i64 s24v.2.2.2.1, .int .i64 s24v.2.2.2.2.1, .int .i64 s24v.2.2.2.2.2, .int .i64 s63v.1, .int .i64 s70v.1, .int .i64 0, .int .i64 0, .int .i64 0, .slice none 0 0], obj b1v 102 [.int .i64 0, .int .i64 0, .int .i64 0, .int .i64 0, .int .i64 0, .int .i64 0, .int .i64 0, .int .i64 0, .int .i64 0, .int .i64 0, .slice none 0 0], Row 5 1 y4v.2.1 s2v.1.length y4v.2.2 (encB s2v.1), F]) ?_ ?_
 refine simL_casep (fun hb80v => ?_) (fun hb81v => ?_)
 rw [hb80v]
 refine simL_skipd rfl rfl rfl rfl rfl rfl ?_
 refine simL_skipd rfl rfl rfl rfl rfl rfl ?_
 refine simL_skipd rfl rfl rfl rfl rfl rfl ?_
 refine simL_skipd rfl rfl rfl rfl rfl rfl ?_
 refine simL_skipu rfl rfl rfl rfl rfl ?_
 refine simL_skipu rfl rfl rfl rfl rfl ?_
 refine simL_skipu rfl rfl rfl rfl rfl ?_
 refine simL_skipd rfl rfl rfl rfl rfl rfl ?_
 refine simL_valg (q_pick rfl rfl rfl rfl rfl) rfl rfl rfl rfl rfl rfl ?_
 refine simL_nil ?_
 exact nrm_cut (s := true) () ⟨rfl, rfl, rfl, rfl, rfl, trivial⟩ (.sel 0 rfl (.sel 0 rfl (.sel 0 rfl (.sel 0 rfl (.sel 0 rfl (.nil _))))))
 rw [hb81v]
 refine simL_valg (q_fa rfl rfl Tryz.underlying102 rfl rfl Tryz.sizeOf3 rfl) rfl rfl rfl rfl rfl rfl ?_
 refine simL_valg (q_load rfl rfl Tryz.isAgg3 (.obj 1 rfl rfl)) rfl rfl rfl rfl rfl rfl ?_
 refine simL_valg (q_gtr rfl rfl rfl) rfl rfl rfl rfl rfl rfl ?_
 refine simL_valg (q_move rfl rfl) rfl rfl rfl rfl rfl rfl ?_
 refine simL_valc (b := decide ((0 : Int) < s63v.1)) (fun hb79v => RQ.sub (E' := [(5, .pointer (some ⟨b12v, 0, none⟩))]) ⟨rfl, trivial⟩ (q_fa rfl rfl Tryz.underlying102 rfl rfl Tryz.sizeOf3 rfl)) rfl rfl rfl rfl rfl ?_
 refine simL_valc (b := decide ((0 : Int) < s63v.1)) (fun hb78v => RQ.sub (E' := [(68, .pointer (some ⟨b12v, 6, none⟩))]) ⟨lk_cv rfl hb78v, trivial⟩ (q_load rfl rfl Tryz.isAgg3 (.obj 1 rfl rfl))) rfl rfl rfl rfl rfl ?_
 refine simL_valc (b := decide ((0 : Int) < s63v.1)) (fun hb77v => RQ.sub (E' := [(69, .int .i64 s70v.1)]) ⟨lk_cv rfl hb77v, trivial⟩ (q_gtr rfl rfl rfl)) rfl rfl rfl rfl rfl ?_
 refine simL_valg (q_and rfl rfl rfl) rfl rfl rfl rfl rfl rfl ?_
 refine simL_valg (q_pick rfl rfl rfl rfl rfl) rfl rfl rfl rfl rfl rfl ?_
 refine simL_nil ?_
 exact nrm_cut (s := (decide ((0 : Int) < s63v.1)) && (decide ((0 : Int) < s70v.1))) () ⟨rfl, rfl, rfl, rfl, rfl, trivial⟩ (.sel 0 rfl (.sel 0 rfl (.sel 0 rfl (.sel 0 rfl (.sel 0 rfl (.nil _))))))
 intro s75v y76v
 refine vq (q_pick rfl rfl rfl rfl rfl) rfl (simL_nil ?_)
 exact nrm_cut (s := s75v) () ⟨rfl, rfl, rfl, rfl, trivial⟩ (.sel 0 rfl (.sel 0 rfl (.sel 0 rfl (.sel 0 rfl (.sel 0 rfl (.nil _))))))
 rw [hb83v]
 refine simL_skipd rfl rfl rfl rfl rfl rfl ?_
 refine simL_skipd rfl rfl rfl rfl rfl rfl ?_
 refine simL_skipd rfl rfl rfl rfl rfl rfl ?_
 refine simL_skipd rfl rfl rfl rfl rfl rfl ?_
 refine simL_skipu rfl rfl rfl rfl rfl ?_
 refine simL_skipu rfl rfl rfl rfl rfl ?_
 refine simL_skipu rfl rfl rfl rfl rfl ?_
 refine simL_skipu rfl rfl rfl rfl rfl ?_
 refine simL_skipu rfl rfl rfl rfl rfl ?_
 refine simL_skipu rfl rfl rfl rfl rfl ?_
 refine simL_skipu rfl rfl rfl rfl rfl ?_
 refine simL_skipu rfl rfl rfl rfl rfl ?_
 refine simL_skipd rfl rfl rfl rfl rfl rfl ?_
 refine vq (q_pick rfl rfl rfl rfl rfl) rfl (simL_nil ?_)
 exact nrm_cut (s := false) () ⟨rfl, rfl, rfl, rfl, trivial⟩ (.sel 0 rfl (.sel 0 rfl (.sel 0 rfl (.sel 0 rfl (.sel 0 rfl (.nil _))))))
 intro s73v y74v
 refine va rfl rfl (simL_nil ?_)
 exact nrm_cut (s := (s73v, s70v.2.1, s70v.2.2, s63v.1, s70v.1)) () ⟨rfl, rfl, rfl, rfl, trivial⟩ (.sel 0 rfl (.sel 0 rfl (.sel 0 rfl (.sel 0 rfl (.sel 0 rfl (.nil _))))))
 refine sim_skip ?_
 exact nrm_cut (s := (s24v.1, s24v.2.1, s24v.2.2.1, 0, 0)) () ⟨rfl, rfl, rfl, rfl, trivial⟩ (.sel 0 rfl (.sel 0 rfl (.sel 0 rfl (.sel 0 rfl (.sel 0 rfl (.nil _))))))
 intro s55v y56v
 refine sim_cut (S := Bool × Int × Int × Int × Int × Int × List UInt8) (Option Addr × Nat) (fun s y => [(2, .pointer (some ⟨b1v, 0, none⟩)), (4, .pointer (some ⟨y4v.1, 0, none⟩)), (5, .pointer (some ⟨b12v, 0, none⟩)), (6, .bool s.1)]) (fun s y => [obj y4v.1 180 [.slice y4v.2.1 s2v.1.length y4v.2.2, .int .i64 s.2.1, .int .i64 s.2.2.1], obj b12v 102 [.int .i64 s9v.1, .int .i64 s13v.2.2, .int .i64 s24v.2.2.2.1, .int .i64 s24v.2.2.2.2.1, .int .i64 s24v.2.2.2.2.2, .int .i64 s55v.2.2.2.1, .int .i64 s55v.2.2.2.2, .int .i64 s.2.2.2.1, .int .i64 s.2.2.2.2.1, .int .i64 s.2.2.2.2.2.1, .slice y.1 s.2.2.2.2.2.2.length y.2], obj b1v 102 [.int .i64 0, .int .i64 0, .int .i64 0, .int .i64 0, .int .i64 0, .int .i64 0, .int .i64 0, .int .i64 0, .int .i64 0, .int .i64 0, .slice none 0 0], Row 5 1 y4v.2.1 s2v.1.length y4v.2.2 (encB s2v.1), Row 5 1 y.1 s.2.2.2.2.2.2.length y.2 (encB s.2.2.2.2.2.2), F]) ?_ ?_
 refine sr ?_
 refine vq (q_fa rfl rfl Tryz.underlying102 rfl rfl Tryz.sizeOf3 rfl) rfl ?_
 refine vq (q_load rfl rfl Tryz.isAgg3 (.obj 1 rfl rfl)) rfl ?_
 refine vq (q_eql rfl rfl rfl) rfl (simL_nil (nrm_then ?_))
 refine sim_cond rfl (fun h89v => ?_) (fun h90v => ?_)
 refine sr ?_
 refine vq (q_build (v := .agg #[]) rfl rfl (fun _ => by kernel_rfl)) rfl ?_
 refine vm rfl rfl ?_
 refine simL_bind (fun s95v hs96v => ?_)
 refine simL_lend 3 rfl (fun hq91v hq92v hq93v hq94v => ?_)
 refine simL_eff (re_call (vs := [.pointer (some ⟨y4v.1, 0, none⟩), .int .i64 8192]) (cap := []) (A := [obj y4v.1 180 [.slice y4v.2.1 s2v.1.length y4v.2.2, .int .i64 s55v.2.1, .int .i64 s55v.2.2.1]]) (rst := [obj b12v 102 [.int .i64 s9v.1, .int .i64 s13v.2.2, .int .i64 s24v.2.2.2.1, .int .i64 s24v.2.2.2.2.1, .int .i64 s24v.2.2.2.2.2, .int .i64 s55v.2.2.2.1, .int .i64 s55v.2.2.2.2, .int .i64 0, .int .i64 0, .int .i64 0, .slice none 0 0], obj b1v 102 [.int .i64 0, .int .i64 0, .int .i64 0, .int .i64 0, .int .i64 0, .int .i64 0, .int .i64 0, .int .i64 0, .int .i64 0, .int .i64 0, .slice none 0 0], Row 5 1 y4v.2.1 s2v.1.length y4v.2.2 (encB s2v.1), F]) rfl rfl rfl rfl rfl rfl Tryz.call103 (.sel 0 rfl (.sel 0 rfl (.sel 0 rfl (.sel 0 rfl (.sel 0 rfl (.nil _)))))) (wire_Reader_Bytes.calls _ _ k y4v.1 y4v.2.1 y4v.2.2 s2v.1 s55v.2.1 s55v.2.2.1 (8192 : Int) (hq91v.lend 2 rfl) hq92v hq93v) hs96v) rfl rfl rfl ?_
 intro y97v
 refine simL_bind (fun s102v hs103v => ?_)
 refine simL_lend 0 rfl (fun hq98v hq99v hq100v hq101v => ?_)
 refine simL_eff (re_call (vs := [.agg #[], .slice y97v.1 s95v.1.length y97v.2]) (cap := []) (A := []) (rst := [Row 5 1 y97v.1 s95v.1.length y97v.2 (encB s95v.1), obj y4v.1 180 [.slice y4v.2.1 s2v.1.length y4v.2.2, .int .i64 s95v.2.1, .int .i64 s95v.2.2], obj b12v 102 [.int .i64 s9v.1, .int .i64 s13v.2.2, .int .i64 s24v.2.2.2.1, .int .i64 s24v.2.2.2.2.1, .int .i64 s24v.2.2.2.2.2, .int .i64 s55v.2.2.2.1, .int .i64 s55v.2.2.2.2, .int .i64 0, .int .i64 0, .int .i64 0, .slice none 0 0], obj b1v 102 [.int .i64 0, .int .i64 0, .int .i64 0, .int .i64 0, .int .i64 0, .int .i64 0, .int .i64 0, .int .i64 0, .int .i64 0, .int .i64 0, .slice none 0 0], Row 5 1 y4v.2.1 s2v.1.length y4v.2.2 (encB s2v.1), F]) rfl rfl rfl rfl rfl rfl Tryz.call102 (.sel 0 rfl (.sel 0 rfl (.sel 0 rfl (.sel 0 rfl (.sel 0 rfl (.sel 0 rfl (.nil _))))))) (codec_Entries_Get.calls _ _ k y97v.1 y97v.2 s95v.1 (hq98v.lend 0 rfl) hq99v hq100v) hs103v) rfl rfl rfl ?_
 intro y104v
 refine vm rfl rfl ?_
 refine vq (q_ext rfl rfl rfl) rfl ?_
 refine vq (q_ext rfl rfl rfl) rfl ?_
 refine simL_eff (re_alloc rfl Tryz.zeroValue35 rfl) rfl rfl rfl ?_
 intro b105v
 refine simL_do (re_store 0 rfl rfl rfl Tryz.sizeOf35 rfl rfl (one_of (by rfl)) rfl rfl) rfl rfl ?_
 intro _
 refine va rfl rfl (ny ?_)
 refine vq (q_loado 0 rfl rfl Tryz.isAgg35 Tryz.sizeOf35 rfl rfl) rfl ?_
 refine vm rfl rfl ?_
 refine vq (q_eql rfl rfl rfl) rfl ?_
 refine vq (q_fa rfl rfl Tryz.underlying102 rfl rfl Tryz.sizeOf35 rfl) rfl ?_
 refine simL_do (re_store 4 rfl rfl rfl Tryz.sizeOf35 rfl rfl (one_of (by rfl)) rfl rfl) rfl rfl ?_
 intro _
 refine simL_ent (H' := [obj b105v 35 [.int .i64 s102v.1, .int .i64 s102v.2.1, .int .i64 s102v.2.2.1, .slice y104v.1 s102v.2.2.2.1.length y104v.2], Row 5 1 y104v.1 s102v.2.2.2.1.length y104v.2 (encB s102v.2.2.2.1), Row 5 1 y97v.1 s95v.1.length y97v.2 (encB s95v.1), obj y4v.1 180 [.slice y4v.2.1 s2v.1.length y4v.2.2, .int .i64 s95v.2.1, .int .i64 s95v.2.2], obj b12v 102 [.int .i64 s9v.1, .int .i64 s13v.2.2, .int .i64 s24v.2.2.2.1, .int .i64 s24v.2.2.2.2.1, .int .i64 s24v.2.2.2.2.2, .int .i64 s55v.2.2.2.1, .int .i64 s55v.2.2.2.2, .int .i64 s102v.1, .int .i64 s102v.2.1, .int .i64 s102v.2.2.1, .slice y104v.1 s102v.2.2.2.1.length y104v.2], obj b1v 102 [.int .i64 0, .int .i64 0, .int .i64 0, .int .i64 0, .int .i64 0, .int .i64 0, .int .i64 0, .int .i64 0, .int .i64 0, .int .i64 0, .slice none 0 0], Row 5 1 y4v.2.1 s2v.1.length y4v.2.2 (encB s2v.1), F]) (Ent.refl _) ?_
 refine va rfl rfl (simL_nil ?_)
 exact nrm_cut (s := (decide (s102v.2.2.2.2 = (0 : Int)), s95v.2.1, s95v.2.2, s102v.1, s102v.2.1, s102v.2.2.1, s102v.2.2.2.1)) (y104v.1, y104v.2) ⟨rfl, rfl, rfl, rfl, trivial⟩ (.sel 3 rfl (.sel 3 rfl (.sel 3 rfl (.sel 3 rfl (.sel 1 rfl (.sel 2 rfl (.nil _)))))))
 refine sim_skip ?_
 exact nrm_cut (s := (s55v.1, s55v.2.1, s55v.2.2.1, 0, 0, 0, ([] : List UInt8))) (none, 0) ⟨rfl, rfl, rfl, rfl, trivial⟩ (.sel 0 rfl (.sel 0 rfl (.sel 0 rfl (.sel 0 rfl (.row_nil (.sel 0 rfl (.nil _)))))))
 intro s87v y88v
 refine sim_seq ?_
 refine sim_lend 3 rfl (fun hq106v hq107v hq108v hq109v => ?_)
 refine sim_lend 3 rfl (fun hq114v hq115v hq116v hq117v => ?_)
 refine sim_draw (Γ := Unit) () [[], [], [1], [1, 2], [1, 2, 3], [1, 2, 3, 4], [1, 2, 3, 4, 5], rL 5, rL 8] [7] [0, 1, 2, 3, 4, 5, 6, 8] (fun i => [[0], [0], [0], [0], [0], [0, 1], [0, 1], [], [1]].getD i []) (fun i => [[], [], [], [], [], [], [], rL 7, []].getD i []) (fun γ i => [.agg #[.int .i64 s9v.1, .int .i64 s13v.2.2, .int .i64 s24v.2.2.2.1, .int .i64 s24v.2.2.2.2.1, .int .i64 s24v.2.2.2.2.2, .int .i64 s55v.2.2.2.1, .int .i64 s55v.2.2.2.2, .int .i64 s87v.2.2.2.1, .int .i64 s87v.2.2.2.2.1, .int .i64 s87v.2.2.2.2.2.1, .slice y88v.1 s87v.2.2.2.2.2.2.length y88v.2], .bool s87v.1, .bool s87v.1, cv (s87v.1 == true) (.pointer (some ⟨y4v.1, 0, none⟩)), cv (s87v.1 == true) (.int .i64 (wire_Reader_Done.v s2v.1 s87v.2.1 s87v.2.2.1)), cv (s87v.1 == true) (.bool (decide ((wire_Reader_Done.v s2v.1 s87v.2.1 s87v.2.2.1) = (0 : Int)))), .bool (s87v.1 && (decide ((wire_Reader_Done.v s2v.1 s87v.2.1 s87v.2.2.1) = (0 : Int)))), undef, .bool (s87v.1 && (decide ((wire_Reader_Done.v s2v.1 s87v.2.1 s87v.2.2.1) = (0 : Int))))].getD i undef) (fun j γ => [[obj y4v.1 180 [.slice y4v.2.1 s2v.1.length y4v.2.2, .int .i64 s87v.2.1, .int .i64 s87v.2.2.1], obj b12v 102 [.int .i64 s9v.1, .int .i64 s13v.2.2, .int .i64 s24v.2.2.2.1, .int .i64 s24v.2.2.2.2.1, .int .i64 s24v.2.2.2.2.2, .int .i64 s55v.2.2.2.1, .int .i64 s55v.2.2.2.2, .int .i64 s87v.2.2.2.1, .int .i64 s87v.2.2.2.2.1, .int .i64 s87v.2.2.2.2.2.1, .slice y88v.1 s87v.2.2.2.2.2.2.length y88v.2], obj b1v 102 [.int .i64 0, .int .i64 0, .int .i64 0, .int .i64 0, .int .i64 0, .int .i64 0, .int .i64 0, .int .i64 0, .int .i64 0, .int .i64 0, .slice none 0 0], Row 5 1 y4v.2.1 s2v.1.length y4v.2.2 (encB s2v.1), Row 5 1 y88v.1 s87v.2.2.2.2.2.2.length y88v.2 (encB s87v.2.2.2.2.2.2), F], [obj y4v.1 180 [.slice y4v.2.1 s2v.1.length y4v.2.2, .int .i64 s87v.2.1, .int .i64 s87v.2.2.1], obj b12v 102 [.int .i64 s9v.1, .int .i64 s13v.2.2, .int .i64 s24v.2.2.2.1, .int .i64 s24v.2.2.2.2.1, .int .i64 s24v.2.2.2.2.2, .int .i64 s55v.2.2.2.1, .int .i64 s55v.2.2.2.2, .int .i64 s87v.2.2.2.1, .int .i64 s87v.2.2.2.2.1, .int .i64 s87v.2.2.2.2.2.1, .slice y88v.1 s87v.2.2.2.2.2.2.length y88v.2], obj b1v 102 [.int .i64 s9v.1, .int .i64 s13v.2.2, .int .i64 s24v.2.2.2.1, .int .i64 s24v.2.2.2.2.1, .int .i64 s24v.2.2.2.2.2, .int .i64 s55v.2.2.2.1, .int .i64 s55v.2.2.2.2, .int .i64 s87v.2.2.2.1, .int .i64 s87v.2.2.2.2.1, .int .i64 s87v.2.2.2.2.2.1, .slice y88v.1 s87v.2.2.2.2.2.2.length y88v.2], Row 5 1 y4v.2.1 s2v.1.length y4v.2.2 (encB s2v.1), Row 5 1 y88v.1 s87v.2.2.2.2.2.2.length y88v.2 (encB s87v.2.2.2.2.2.2), F]].getD j []) (fun γ => [(2, .pointer (some ⟨b1v, 0, none⟩)), (3, .bool (s87v.1 && (decide ((wire_Reader_Done.v s2v.1 s87v.2.1 s87v.2.2.1) = (0 : Int)))))]) mixed (by decide) (by decide) (by decide) (by decide) (by decide) (by decide) (by decide) 95 rfl (by decide) (by decide) (by decide) (Ent.refl _) ?_ ?_ (fun _ => ⟨rfl, rfl, trivial⟩) ?_
 exact (aq rfl (fun γ => qp rfl rfl (.o (s := 5) rfl (by decide) .nil) (q_loado 1 rfl rfl Tryz.isAgg102 Tryz.sizeOf102 rfl rfl) rfl) (aq rfl (fun γ => qm rfl (.o (s := 6) rfl (by decide) .nil) rfl) (aq rfl (fun γ => qm rfl (.v 1 rfl rfl .nil) rfl) (aq rfl (fun γ => QOb.grd (b := s87v.1) [(4, .pointer (some ⟨y4v.1, 0, none⟩)), (90, .bool s87v.1)] rfl rfl rfl rfl (.o (s := 4) rfl (by decide) (.v 2 rfl rfl .nil)) (fun hb113v => RQ.sub (E' := [(4, .pointer (some ⟨y4v.1, 0, none⟩))]) ⟨rfl, trivial⟩ (q_move rfl rfl)) rfl) (aq rfl (fun γ => QOb.grd (b := s87v.1) [(90, .bool s87v.1), (91, cv (s87v.1 == true) (.pointer (some ⟨y4v.1, 0, none⟩)))] rfl rfl rfl rfl (.v 2 rfl rfl (.v 3 rfl rfl .nil)) (fun hb121v => RQ.sub (E' := [(91, .pointer (some ⟨y4v.1, 0, none⟩))]) ⟨lk_cv rfl hb121v, trivial⟩ (RE.rq (re_call (vs := [.pointer (some ⟨y4v.1, 0, none⟩)]) (cap := []) (A := [obj y4v.1 180 [.slice y4v.2.1 s2v.1.length y4v.2.2, .int .i64 s87v.2.1, .int .i64 s87v.2.2.1]]) (rst := [obj b12v 102 [.int .i64 s9v.1, .int .i64 s13v.2.2, .int .i64 s24v.2.2.2.1, .int .i64 s24v.2.2.2.2.1, .int .i64 s24v.2.2.2.2.2, .int .i64 s55v.2.2.2.1, .int .i64 s55v.2.2.2.2, .int .i64 s87v.2.2.2.1, .int .i64 s87v.2.2.2.2.1, .int .i64 s87v.2.2.2.2.2.1, .slice y88v.1 s87v.2.2.2.2.2.2.length y88v.2], obj b1v 102 [.int .i64 0, .int .i64 0, .int .i64 0, .int .i64 0, .int .i64 0, .int .i64 0, .int .i64 0, .int .i64 0, .int .i64 0, .int .i64 0, .slice none 0 0], Row 5 1 y4v.2.1 s2v.1.length y4v.2.2 (encB s2v.1), Row 5 1 y88v.1 s87v.2.2.2.2.2.2.length y88v.2 (encB s87v.2.2.2.2.2.2), F]) rfl rfl rfl rfl rfl rfl Tryz.call104 (.sel 0 rfl (.sel 0 rfl (.sel 0 rfl (.sel 0 rfl (.sel 0 rfl (.sel 0 rfl (.nil _))))))) (wire_Reader_Done.calls _ _ y4v.1 y4v.2.1 y4v.2.2 s2v.1 s87v.2.1 s87v.2.2.1 (hq114v.lend 2 rfl) hq115v hq116v) (wire_Reader_Done.tot s2v.1 s87v.2.1 s87v.2.2.1)) (fun _ => rfl) (fun _ => (.sel 0 rfl (.sel 0 rfl (.sel 0 rfl (.sel 0 rfl (.sel 0 rfl (.sel 0 rfl (.nil _)))))))))) rfl) (ac (fun γ => (ac (QOb.grd (b := s87v.1) [(90, .bool s87v.1), (92, cv (s87v.1 == true) (.int .i64 (wire_Reader_Done.v s2v.1 s87v.2.1 s87v.2.2.1)))] rfl rfl rfl rfl (.v 2 rfl rfl (.v 4 rfl rfl .nil)) (fun hb122v => RQ.sub (E' := [(92, .int .i64 (wire_Reader_Done.v s2v.1 s87v.2.1 s87v.2.2.1))]) ⟨lk_cv rfl hb122v, trivial⟩ (q_eql rfl rfl rfl)) rfl) (ac (QOb.grd (b := s87v.1) [(90, .bool s87v.1), (92, cv (s87v.1 == true) (.int .i64 (wire_Reader_Done.v s2v.1 s87v.2.1 s87v.2.2.1)))] rfl rfl rfl rfl (.v 2 rfl rfl (.v 4 rfl rfl .nil)) (fun hb123v => RQ.sub (E' := [(92, .int .i64 (wire_Reader_Done.v s2v.1 s87v.2.1 s87v.2.2.1))]) ⟨lk_cv rfl hb123v, trivial⟩ (q_eql rfl rfl rfl)) rfl) zA))) (ac (fun γ => (ac (qp rfl rfl (.v 2 rfl rfl (.v 5 rfl rfl .nil)) (q_and rfl rfl rfl) rfl) (ac (qp rfl rfl (.v 2 rfl rfl (.v 5 rfl rfl .nil)) (q_and rfl rfl rfl) rfl) zA))) (aq rfl (fun γ => qp rfl rfl (.v 6 rfl rfl .nil) (q_asg rfl rfl) rfl) zA))))))))
 exact (ac (fun γ => eo (Z := Unit) (fun z => ()) rfl rfl (.o (s := 2) rfl (by decide) (.v 0 rfl rfl .nil)) (re_store 2 rfl rfl rfl Tryz.sizeOf102 rfl rfl (one_of (by rfl)) rfl rfl) (fun _ => ⟨rfl, rfl, rfl, rfl, rfl, rfl, rfl, trivial⟩) (fun _ => .inl rfl) (fun z => Ent.refl _)) zA)
 intro g124v
 refine nrm_then (sim_rtn ?_)
 exact rtn_fnC (vs := [.agg #[.int .i64 s9v.1, .int .i64 s13v.2.2, .int .i64 s24v.2.2.2.1, .int .i64 s24v.2.2.2.2.1, .int .i64 s24v.2.2.2.2.2, .int .i64 s55v.2.2.2.1, .int .i64 s55v.2.2.2.2, .int .i64 s87v.2.2.2.1, .int .i64 s87v.2.2.2.2.1, .int .i64 s87v.2.2.2.2.2.1, .slice y88v.1 s87v.2.2.2.2.2.2.length y88v.2], .bool (s87v.1 && (decide ((wire_Reader_Done.v s2v.1 s87v.2.1 s87v.2.2.1) = (0 : Int))))]) (y88v.1, y88v.2) rfl ⟨⟨b1v, rfl, load_agg 2 Tryz.isAgg102 Tryz.sizeOf102 rfl rfl⟩, rfl, trivial⟩ rfl (.sel 4 rfl (.sel 4 rfl (.nil _)))

def wal_changes_1.f (x0_0 : Int) (x0_1 : Int) (x0_2 : Int) (x0_3 : Int) (x0_4 : Int) (x0_5 : List (Ty144)) (x1_0 : Int) (x1_1 : Int) (x1_2 : Int) (x1_3 : Int) (x1_4 : Int) (x1_5 : Int) (x1_6 : Int) (x1_7 : Int) (x1_8 : Int) (x1_9 : Int) (x1_10 : List UInt8) (x2 : Int) : Option (Bool × Int × Int × Int × Int × Int) := some (true, x1_2, x1_3, x1_4, x0_3, x0_4)
theorem wal_changes_1.calls (W : World) (F : HA) (b0 : Nat) (x0_0 : Int) (x0_1 : Int) (x0_2 : Int) (x0_3 : Int) (x0_4 : Int) (a0_5 : Option Addr) (c0_5 : Nat) (x0_5 : List (Ty144)) (x1_0 : Int) (x1_1 : Int) (x1_2 : Int) (x1_3 : Int) (x1_4 : Int) (x1_5 : Int) (x1_6 : Int) (x1_7 : Int) (x1_8 : Int) (x1_9 : Int) (a1_10 : Option Addr) (c1_10 : Nat) (x1_10 : List UInt8) (x2 : Int) (h0_5 : RdV F 5 (V144 F) a0_5 x0_5) (hc0_5 : x0_5.length ≤ c0_5) (hm0_5 : c0_5 ≤ maxLen) (h1_10 : Rd F a1_10 (encB x1_10)) (hc1_10 : x1_10.length ≤ c1_10) (hm1_10 : c1_10 ≤ maxLen) :
    Fn Tryz.prog W 112 [.pointer (some ⟨b0, 0, none⟩), .agg #[.int .i64 x1_0, .int .i64 x1_1, .int .i64 x1_2, .int .i64 x1_3, .int .i64 x1_4, .int .i64 x1_5, .int .i64 x1_6, .int .i64 x1_7, .int .i64 x1_8, .int .i64 x1_9, .slice a1_10 x1_10.length c1_10], .int .i64 x2] [obj b0 89 [.int .i64 x0_0, .int .i64 x0_1, .int .i64 x0_2, .int .i64 x0_3, .int .i64 x0_4, .slice a0_5 x0_5.length c0_5]] F (wal_changes_1.f x0_0 x0_1 x0_2 x0_3 x0_4 x0_5 x1_0 x1_1 x1_2 x1_3 x1_4 x1_5 x1_6 x1_7 x1_8 x1_9 x1_10 x2) (fun (r : Bool × Int × Int × Int × Int × Int) (y : Unit) => .bool r.1) (fun r y => [obj b0 89 [.int .i64 r.2.1, .int .i64 r.2.2.1, .int .i64 r.2.2.2.1, .int .i64 r.2.2.2.2.1, .int .i64 r.2.2.2.2.2, .slice a0_5 x0_5.length c0_5]]) := by
 unfold wal_changes_1.f
 refine fn_intro 12 Tryz.func112 rfl Tryz.ntmps112 rfl ?_
 refine sr ?_
 refine simL_eff (re_box rfl rfl rfl) rfl rfl rfl ?_
 intro b1v
 refine va rfl rfl (nx ?_)
 refine vm rfl rfl ?_
 refine vq (q_fa rfl rfl Tryz.underlying102 rfl rfl Tryz.sizeOf43 rfl) rfl ?_
 refine vq (q_loads (vs := [.int .i64 x1_2, .int .i64 x1_3, .int .i64 x1_4]) rfl rfl Tryz.isAgg43 Tryz.sizeOf43 rfl (cells_obj 0 rfl (cells_lit rfl))) rfl ?_
 refine vn rfl rfl ?_
 refine vq (q_fa rfl rfl Tryz.underlying89 rfl rfl Tryz.sizeOf43 rfl) rfl ?_
 refine simL_do (re_store 1 rfl rfl rfl Tryz.sizeOf43 rfl rfl (one_of (by rfl)) rfl rfl) rfl rfl ?_
 intro _
 refine simL_ent (H' := [obj b1v 102 [.int .i64 x1_0, .int .i64 x1_1, .int .i64 x1_2, .int .i64 x1_3, .int .i64 x1_4, .int .i64 x1_5, .int .i64 x1_6, .int .i64 x1_7, .int .i64 x1_8, .int .i64 x1_9, .slice a1_10 x1_10.length c1_10], obj b0 89 [.int .i64 x1_2, .int .i64 x1_3, .int .i64 x1_4, .int .i64 x0_3, .int .i64 x0_4, .slice a0_5 x0_5.length c0_5], F]) (Ent.refl _) ?_
 refine nx ?_
 refine va rfl rfl (simL_nil (nrm_then (sim_rtn ?_)))
 exact rtn_fn () rfl rfl rfl (.sel 1 rfl (.sel 1 rfl (.nil _)))

def wal_changes_2.f (x0_0 : Int) (x0_1 : Int) (x0_2 : Int) (x0_3 : Int) (x0_4 : Int) (x0_5 : List (Ty144)) (x1_0 : Int) (x1_1 : Int) (x1_2 : Int) (x1_3 : Int) (x1_4 : Int) (x1_5 : Int) (x1_6 : Int) (x1_7 : Int) (x1_8 : Int) (x1_9 : Int) (x1_10 : List UInt8) (x2 : Int) : Option (Bool × Int × Int × Int × Int × Int × (List (Ty144))) := if IntKind.i64.wrap ((IntKind.i64.wrap (x0_3 + (x0_5.length : Int))) + 1) < x1_8 then (some (false, x0_0, x0_1, x0_2, x0_3, x0_4, x0_5)) else ((if x1_8 ≤ x0_3 then (some (IntKind.i64.wrap (x1_8 - 1), 0, ([] : List (Ty144)))) else (some (x0_3, x0_4, x0_5))).bind fun s8v => (if 0 ≤ (0 : Int) ∧ (0 : Int) ≤ IntKind.i64.wrap ((IntKind.i64.wrap (x1_8 - s8v.1)) - 1) ∧ IntKind.i64.wrap ((IntKind.i64.wrap (x1_8 - s8v.1)) - 1) ≤ (s8v.2.2.length : Int) then (if ((cut s8v.2.2 (0 : Int) (IntKind.i64.wrap ((IntKind.i64.wrap (x1_8 - s8v.1)) - 1))).length + ([(x1_7, x1_8, x1_9, x1_10, x2)] : List (Ty144)).length) * 56 ≤ 140737488355328 then (some (true, x0_0, x0_1, x0_2, s8v.1, s8v.2.1, (cut s8v.2.2 (0 : Int) (IntKind.i64.wrap ((IntKind.i64.wrap (x1_8 - s8v.1)) - 1))) ++ ([(x1_7, x1_8, x1_9, x1_10, x2)] : List (Ty144)))) else none) else none))
theorem wal_changes_2.calls (W : World) (F : HA) (b0 : Nat) (x0_0 : Int) (x0_1 : Int) (x0_2 : Int) (x0_3 : Int) (x0_4 : Int) (a0_5 : Option Addr) (c0_5 : Nat) (x0_5 : List (Ty144)) (z0_5 : HA) (x1_0 : Int) (x1_1 : Int) (x1_2 : Int) (x1_3 : Int) (x1_4 : Int) (x1_5 : Int) (x1_6 : Int) (x1_7 : Int) (x1_8 : Int) (x1_9 : Int) (a1_10 : Option Addr) (c1_10 : Nat) (x1_10 : List UInt8) (x2 : Int) (h1_10 : Rd z0_5 a1_10 (encB x1_10)) (hc1_10 : x1_10.length ≤ c1_10) (hm1_10 : c1_10 ≤ maxLen) :
    Fn Tryz.prog W 113 [.pointer (some ⟨b0, 0, none⟩), .agg #[.int .i64 x1_0, .int .i64 x1_1, .int .i64 x1_2, .int .i64 x1_3, .int .i64 x1_4, .int .i64 x1_5, .int .i64 x1_6, .int .i64 x1_7, .int .i64 x1_8, .int .i64 x1_9, .slice a1_10 x1_10.length c1_10], .int .i64 x2] [obj b0 89 [.int .i64 x0_0, .int .i64 x0_1, .int .i64 x0_2, .int .i64 x0_3, .int .i64 x0_4, .slice a0_5 x0_5.length c0_5], RowV 144 5 (V144 z0_5) a0_5 x0_5 c0_5, z0_5] F (wal_changes_2.f x0_0 x0_1 x0_2 x0_3 x0_4 x0_5 x1_0 x1_1 x1_2 x1_3 x1_4 x1_5 x1_6 x1_7 x1_8 x1_9 x1_10 x2) (fun (r : Bool × Int × Int × Int × Int × Int × (List (Ty144))) (y : Option Addr × Nat × HA) => .bool r.1) (fun r y => [pr (Up z0_5 y.2.2), obj b0 89 [.int .i64 r.2.1, .int .i64 r.2.2.1, .int .i64 r.2.2.2.1, .int .i64 r.2.2.2.2.1, .int .i64 r.2.2.2.2.2.1, .slice y.1 r.2.2.2.2.2.2.length y.2.1], RowV 144 5 (V144 (y.2.2)) y.1 r.2.2.2.2.2.2 y.2.1, y.2.2]) := by
 unfold wal_changes_2.f
 refine fn_intro 64 Tryz.func113 rfl Tryz.ntmps113 rfl ?_
 refine sr ?_
 refine simL_eff (re_box rfl rfl rfl) rfl rfl rfl ?_
 intro b1v
 refine va rfl rfl (nx ?_)
 refine vq (q_fa rfl rfl Tryz.underlying102 rfl rfl Tryz.sizeOf35 rfl) rfl ?_
 refine vq (q_loads (vs := [.int .i64 x1_7, .int .i64 x1_8, .int .i64 x1_9, .slice a1_10 x1_10.length c1_10]) rfl rfl Tryz.isAgg35 Tryz.sizeOf35 rfl (cells_obj 0 rfl (cells_lit rfl))) rfl ?_
 refine simL_eff (re_alloc rfl Tryz.zeroValue35 rfl) rfl rfl rfl ?_
 intro b2v
 refine simL_do (re_store 0 rfl rfl rfl Tryz.sizeOf35 rfl rfl (one_of (by rfl)) rfl rfl) rfl rfl ?_
 intro _
 refine simL_nil (nrm_then (sim_seq (sim_seq ?_)))
 refine sim_openV 3 rfl (fun rs3v hl4v => ?_)
 refine sim_draw (Γ := Unit) () [[], [0], [], [2], [2, 3], [2, 3, 4], [], [6], [6, 7], [6, 7, 8], [6, 7, 8, 9], [2, 3, 4, 5, 6, 7, 8, 9, 10], [2, 3, 4, 5, 6, 7, 8, 9, 10, 11], rL 13] [] [0, 1, 2, 3, 4, 5, 6, 7, 8, 9, 10, 11, 12, 13] (fun i => [[0], [0], [0], [0], [0], [0], [0], [0], [0], [0], [0], [0], [0], [0]].getD i []) (fun i => [[], [], [], [], [], [], [], [], [], [], [], [], [], []].getD i []) (fun γ i => [.pointer (some ⟨b2v, 1, none⟩), .int .i64 x1_8, .pointer (some ⟨b0, 0, none⟩), .pointer (some ⟨b0, 0, none⟩), .pointer (some ⟨b0, 3, none⟩), .int .i64 x0_3, .pointer (some ⟨b0, 0, none⟩), .pointer (some ⟨b0, 0, none⟩), .pointer (some ⟨b0, 5, none⟩), .slice a0_5 x0_5.length c0_5, .int .i64 (x0_5.length : Int), .int .i64 (IntKind.i64.wrap (x0_3 + (x0_5.length : Int))), .int .i64 (IntKind.i64.wrap ((IntKind.i64.wrap (x0_3 + (x0_5.length : Int))) + 1)), .bool (decide (IntKind.i64.wrap ((IntKind.i64.wrap (x0_3 + (x0_5.length : Int))) + 1) < x1_8))].getD i undef) (fun j γ => [[obj b2v 35 [.int .i64 x1_7, .int .i64 x1_8, .int .i64 x1_9, .slice a1_10 x1_10.length c1_10], obj b1v 102 [.int .i64 x1_0, .int .i64 x1_1, .int .i64 x1_2, .int .i64 x1_3, .int .i64 x1_4, .int .i64 x1_5, .int .i64 x1_6, .int .i64 x1_7, .int .i64 x1_8, .int .i64 x1_9, .slice a1_10 x1_10.length c1_10], obj b0 89 [.int .i64 x0_0, .int .i64 x0_1, .int .i64 x0_2, .int .i64 x0_3, .int .i64 x0_4, .slice a0_5 x0_5.length c0_5], Row 144 5 a0_5 x0_5.length c0_5 rs3v.flatten, z0_5, F]].getD j []) (fun γ => [(0, .pointer (some ⟨b0, 0, none⟩)), (2, .int .i64 x2), (7, .pointer (some ⟨b2v, 0, none⟩)), (23, .bool (decide (IntKind.i64.wrap ((IntKind.i64.wrap (x0_3 + (x0_5.length : Int))) + 1) < x1_8)))]) mixed (by decide) (by decide) (by decide) (by decide) (by decide) (by decide) (by decide) 64 rfl (by decide) (by decide) (by decide) (Ent.refl _) ?_ ?_ (fun _ => ⟨rfl, rfl, rfl, rfl, trivial⟩) ?_
 exact (aq rfl (fun γ => qp rfl rfl (.o (s := 7) rfl (by decide) .nil) (q_fa rfl rfl Tryz.underlying35 rfl rfl Tryz.sizeOf3 rfl) rfl) (aq rfl (fun γ => qp rfl rfl (.v 0 rfl rfl .nil) (q_load rfl rfl Tryz.isAgg3 (.obj 0 rfl rfl)) rfl) (aq rfl (fun γ => qm rfl (.o (s := 0) rfl (by decide) .nil) rfl) (aq rfl (fun γ => qp rfl rfl (.v 2 rfl rfl .nil) (q_nil rfl rfl) rfl) (aq rfl (fun γ => qp rfl rfl (.v 3 rfl rfl .nil) (q_fa rfl rfl Tryz.underlying89 rfl rfl Tryz.sizeOf3 rfl) rfl) (aq rfl (fun γ => qp rfl rfl (.v 4 rfl rfl .nil) (q_load rfl rfl Tryz.isAgg3 (.obj 2 rfl rfl)) rfl) (aq rfl (fun γ => qm rfl (.o (s := 0) rfl (by decide) .nil) rfl) (aq rfl (fun γ => qp rfl rfl (.v 6 rfl rfl .nil) (q_nil rfl rfl) rfl) (aq rfl (fun γ => qp rfl rfl (.v 7 rfl rfl .nil) (q_fa rfl rfl Tryz.underlying89 rfl rfl Tryz.sizeOf87 rfl) rfl) (aq rfl (fun γ => qp rfl rfl (.v 8 rfl rfl .nil) (q_load rfl rfl Tryz.isAgg87 (.obj 2 rfl rfl)) rfl) (aq rfl (fun γ => qp rfl rfl (.v 9 rfl rfl .nil) (q_len rfl rfl rfl Tryz.underlying87) rfl) (aq rfl (fun γ => qp rfl rfl (.v 5 rfl rfl (.v 10 rfl rfl .nil)) (q_add rfl rfl rfl) rfl) (aq rfl (fun γ => qp rfl rfl (.v 11 rfl rfl .nil) (q_add rfl rfl rfl) rfl) (aq rfl (fun γ => qp rfl rfl (.v 1 rfl rfl (.v 12 rfl rfl .nil)) (q_gtr rfl rfl rfl) rfl) zA))))))))))))))
 exact zA
 intro g5v
 refine nrm_then ?_
 refine sim_cond rfl (fun h6v => ?_) (fun h7v => ?_)
 refine sr ?_
 refine va rfl rfl (simL_nil (nrm_then (sim_rtn ?_)))
 refine rtn_then ?_
 exact rtn_fn (a0_5, c0_5, z0_5) rfl rfl rfl (.pr_in (Up.refl _) (.sel 2 rfl (.sel' 2 rfl (RowV.mk hl4v) (.sel 2 rfl (.sel 2 rfl (.nil _))))))
 refine sim_skip ?_
 refine nrm_then ?_
 refine sim_cut (S := Int × Int × (List (Ty144))) (Option Addr × Nat) (fun s y => [(0, .pointer (some ⟨b0, 0, none⟩)), (2, .int .i64 x2), (7, .pointer (some ⟨b2v, 0, none⟩))]) (fun s y => [obj b2v 35 [.int .i64 x1_7, .int .i64 x1_8, .int .i64 x1_9, .slice a1_10 x1_10.length c1_10], obj b0 89 [.int .i64 x0_0, .int .i64 x0_1, .int .i64 x0_2, .int .i64 s.1, .int .i64 s.2.1, .slice y.1 s.2.2.length y.2], RowV 144 5 (V144 (z0_5)) y.1 s.2.2 y.2, z0_5, F]) ?_ ?_
 refine sim_seq ?_
 refine sim_draw (Γ := Unit) () [[], [0], [], [2], [2, 3], [2, 3, 4], rL 6] [] [0, 1, 2, 3, 4, 5, 6] (fun i => [[0], [0], [0], [0], [0], [0], [0]].getD i []) (fun i => [[], [], [], [], [], [], []].getD i []) (fun γ i => [.pointer (some ⟨b2v, 1, none⟩), .int .i64 x1_8, .pointer (some ⟨b0, 0, none⟩), .pointer (some ⟨b0, 0, none⟩), .pointer (some ⟨b0, 3, none⟩), .int .i64 x0_3, .bool (decide (x1_8 ≤ x0_3))].getD i undef) (fun j γ => [[obj b2v 35 [.int .i64 x1_7, .int .i64 x1_8, .int .i64 x1_9, .slice a1_10 x1_10.length c1_10], obj b1v 102 [.int .i64 x1_0, .int .i64 x1_1, .int .i64 x1_2, .int .i64 x1_3, .int .i64 x1_4, .int .i64 x1_5, .int .i64 x1_6, .int .i64 x1_7, .int .i64 x1_8, .int .i64 x1_9, .slice a1_10 x1_10.length c1_10], obj b0 89 [.int .i64 x0_0, .int .i64 x0_1, .int .i64 x0_2, .int .i64 x0_3, .int .i64 x0_4, .slice a0_5 x0_5.length c0_5], Row 144 5 a0_5 x0_5.length c0_5 rs3v.flatten, z0_5, F]].getD j []) (fun γ => [(0, .pointer (some ⟨b0, 0, none⟩)), (2, .int .i64 x2), (7, .pointer (some ⟨b2v, 0, none⟩)), (30, .bool (decide (x1_8 ≤ x0_3)))]) mixed (by decide) (by decide) (by decide) (by decide) (by decide) (by decide) (by decide) 64 rfl (by decide) (by decide) (by decide) (Ent.refl _) ?_ ?_ (fun _ => ⟨rfl, rfl, rfl, rfl, trivial⟩) ?_
 exact (aq rfl (fun γ => qp rfl rfl (.o (s := 7) rfl (by decide) .nil) (q_fa rfl rfl Tryz.underlying35 rfl rfl Tryz.sizeOf3 rfl) rfl) (aq rfl (fun γ => qp rfl rfl (.v 0 rfl rfl .nil) (q_load rfl rfl Tryz.isAgg3 (.obj 0 rfl rfl)) rfl) (aq rfl (fun γ => qm rfl (.o (s := 0) rfl (by decide) .nil) rfl) (aq rfl (fun γ => qp rfl rfl (.v 2 rfl rfl .nil) (q_nil rfl rfl) rfl) (aq rfl (fun γ => qp rfl rfl (.v 3 rfl rfl .nil) (q_fa rfl rfl Tryz.underlying89 rfl rfl Tryz.sizeOf3 rfl) rfl) (aq rfl (fun γ => qp rfl rfl (.v 4 rfl rfl .nil) (q_load rfl rfl Tryz.isAgg3 (.obj 2 rfl rfl)) rfl) (aq rfl (fun γ => qp rfl rfl (.v 1 rfl rfl (.v 5 rfl rfl .nil)) (q_leq rfl rfl rfl) rfl) zA)))))))
 exact zA
 intro g10v
 refine nrm_then ?_
 refine sim_cond rfl (fun h11v => ?_) (fun h12v => ?_)
 refine sim_region ?_
 refine vm rfl rfl ?_
 refine vm rfl rfl ?_
 refine vm rfl rfl ?_
 refine vq (q_fa rfl rfl Tryz.underlying35 rfl rfl Tryz.sizeOf3 rfl) rfl ?_
 refine vq (q_load rfl rfl Tryz.isAgg3 (.obj 0 rfl rfl)) rfl ?_
 refine vq (q_sub rfl rfl rfl) rfl ?_
 refine vn rfl rfl ?_
 refine vq (q_fa rfl rfl Tryz.underlying89 rfl rfl Tryz.sizeOf3 rfl) rfl ?_
 refine simL_do (re_store 2 rfl rfl rfl Tryz.sizeOf3 rfl rfl (one_of (by rfl)) rfl rfl) rfl rfl ?_
 intro _
 refine simL_ent (H' := [obj b2v 35 [.int .i64 x1_7, .int .i64 x1_8, .int .i64 x1_9, .slice a1_10 x1_10.length c1_10], obj b1v 102 [.int .i64 x1_0, .int .i64 x1_1, .int .i64 x1_2, .int .i64 x1_3, .int .i64 x1_4, .int .i64 x1_5, .int .i64 x1_6, .int .i64 x1_7, .int .i64 x1_8, .int .i64 x1_9, .slice a1_10 x1_10.length c1_10], obj b0 89 [.int .i64 x0_0, .int .i64 x0_1, .int .i64 x0_2, .int .i64 (IntKind.i64.wrap (x1_8 - 1)), .int .i64 x0_4, .slice a0_5 x0_5.length c0_5], Row 144 5 a0_5 x0_5.length c0_5 rs3v.flatten, z0_5, F]) (Ent.refl _) ?_
 refine vn rfl rfl ?_
 refine vq (q_fa rfl rfl Tryz.underlying89 rfl rfl Tryz.sizeOf3 rfl) rfl ?_
 refine simL_do (re_store 2 rfl rfl rfl Tryz.sizeOf3 rfl rfl (one_of (by rfl)) rfl rfl) rfl rfl ?_
 intro _
 refine simL_ent (H' := [obj b2v 35 [.int .i64 x1_7, .int .i64 x1_8, .int .i64 x1_9, .slice a1_10 x1_10.length c1_10], obj b1v 102 [.int .i64 x1_0, .int .i64 x1_1, .int .i64 x1_2, .int .i64 x1_3, .int .i64 x1_4, .int .i64 x1_5, .int .i64 x1_6, .int .i64 x1_7, .int .i64 x1_8, .int .i64 x1_9, .slice a1_10 x1_10.length c1_10], obj b0 89 [.int .i64 x0_0, .int .i64 x0_1, .int .i64 x0_2, .int .i64 (IntKind.i64.wrap (x1_8 - 1)), .int .i64 0, .slice a0_5 x0_5.length c0_5], Row 144 5 a0_5 x0_5.length c0_5 rs3v.flatten, z0_5, F]) (Ent.refl _) ?_
 refine vn rfl rfl ?_
 refine vq (q_fa rfl rfl Tryz.underlying89 rfl rfl Tryz.sizeOf87 rfl) rfl ?_
 refine simL_do (re_store 2 rfl rfl rfl Tryz.sizeOf87 rfl rfl (one_of (by rfl)) rfl rfl) rfl rfl ?_
 intro _
 refine simL_ent (H' := [obj b2v 35 [.int .i64 x1_7, .int .i64 x1_8, .int .i64 x1_9, .slice a1_10 x1_10.length c1_10], obj b1v 102 [.int .i64 x1_0, .int .i64 x1_1, .int .i64 x1_2, .int .i64 x1_3, .int .i64 x1_4, .int .i64 x1_5, .int .i64 x1_6, .int .i64 x1_7, .int .i64 x1_8, .int .i64 x1_9, .slice a1_10 x1_10.length c1_10], obj b0 89 [.int .i64 x0_0, .int .i64 x0_1, .int .i64 x0_2, .int .i64 (IntKind.i64.wrap (x1_8 - 1)), .int .i64 0, .slice none 0 0], Row 144 5 a0_5 x0_5.length c0_5 rs3v.flatten, z0_5, F]) (Ent.refl _) ?_
 refine simL_nil ?_
 exact nrm_cut (s := (IntKind.i64.wrap (x1_8 - 1), 0, ([] : List (Ty144)))) (none, 0) ⟨rfl, rfl, rfl, trivial⟩ (.sel 0 rfl (.sel 1 rfl (.rowV_nil (.sel 2 rfl (.sel 2 rfl (.nil _))))))
 refine sim_skip ?_
 exact nrm_cut (s := (x0_3, x0_4, x0_5)) (a0_5, c0_5) ⟨rfl, rfl, rfl, trivial⟩ (.sel 0 rfl (.sel 1 rfl (.sel' 1 rfl (RowV.mk hl4v) (.sel 1 rfl (.sel 1 rfl (.nil _))))))
 intro s8v y9v
 refine sim_seq ?_
 refine sim_openV 2 rfl (fun rs13v hl14v => ?_)
 refine sim_lend 2 rfl (fun hq16v hq17v hq18v hq19v => ?_)
 refine sim_ask (fun hb15v => ?_)
 obtain ⟨a20v, c21v, hS22v, hr23v, hc24v, hm25v⟩ := slice_preV (lo := (0 : Int)) (hi := IntKind.i64.wrap ((IntKind.i64.wrap (x1_8 - s8v.1)) - 1)) (Rd.asV hl14v hq16v) hq17v hb15v
 have hlb27v : ListV 5 (V144 (z0_5)) ([(x1_7, x1_8, x1_9, x1_10, x2)] : List (Ty144)) [[.int .i64 x1_7, .int .i64 x1_8, .int .i64 x1_9, .slice a1_10 x1_10.length c1_10, .int .i64 x2]] := ⟨⟨rfl, one_of (by rfl), ⟨a1_10, c1_10, rfl, ⟨h1_10, hc1_10, hm1_10⟩⟩⟩, trivial⟩
 refine sim_ask (fun hb33v => ?_)
 refine sim_draw (Γ := Nat × (Option Addr × Nat)) (0, (none, 0)) [[], [], [1], [1, 2], [1, 2, 3], [], [5], [], [7], [7, 8], [7, 8, 9], [5, 6, 7, 8, 9, 10], [5, 6, 7, 8, 9, 10, 11], [1, 2, 3, 4, 5, 6, 7, 8, 9, 10, 11, 12], [], [], [14, 15], [14, 15, 16], [1, 2, 3, 4, 5, 6, 7, 8, 9, 10, 11, 12, 13, 14, 15, 16, 17], rL 19, rL 20, rL 21] [17, 18, 21] [0, 1, 2, 3, 4, 5, 6, 7, 8, 9, 10, 11, 12, 13, 14, 15, 16, 19, 20] (fun i => [[0, 1, 2], [0, 1], [0, 1], [0, 1], [0, 1], [0, 1], [0, 1], [0, 1], [0, 1], [0, 1], [0, 1], [0, 1], [0, 1], [0, 1], [0], [0], [0], [], [], [2], [2], []].getD i []) (fun i => [[], [], [], [], [], [], [], [], [], [], [], [], [], [], [], [], [], rL 17, rL 18, [], [], rL 21].getD i []) (fun γ i => [.pointer (some ⟨b0, 0, none⟩), .pointer (some ⟨b0, 0, none⟩), .pointer (some ⟨b0, 0, none⟩), .pointer (some ⟨b0, 5, none⟩), .slice y9v.1 s8v.2.2.length y9v.2, .pointer (some ⟨b2v, 1, none⟩), .int .i64 x1_8, .pointer (some ⟨b0, 0, none⟩), .pointer (some ⟨b0, 0, none⟩), .pointer (some ⟨b0, 3, none⟩), .int .i64 s8v.1, .int .i64 (IntKind.i64.wrap (x1_8 - s8v.1)), .int .i64 (IntKind.i64.wrap ((IntKind.i64.wrap (x1_8 - s8v.1)) - 1)), .slice a20v ((cut s8v.2.2 (0 : Int) (IntKind.i64.wrap ((IntKind.i64.wrap (x1_8 - s8v.1)) - 1))).length) c21v, .agg #[.int .i64 x1_7, .int .i64 x1_8, .int .i64 x1_9, .slice a1_10 x1_10.length c1_10], .int .i64 x2, .agg #[.int .i64 x1_7, .int .i64 x1_8, .int .i64 x1_9, .slice a1_10 x1_10.length c1_10, .int .i64 x2], .slice (some ⟨γ.1, 0, none⟩) (([(x1_7, x1_8, x1_9, x1_10, x2)] : List (Ty144)).length) 1, .slice γ.2.1 (((cut s8v.2.2 (0 : Int) (IntKind.i64.wrap ((IntKind.i64.wrap (x1_8 - s8v.1)) - 1))) ++ ([(x1_7, x1_8, x1_9, x1_10, x2)] : List (Ty144))).length) γ.2.2, .pointer (some ⟨b0, 0, none⟩), .pointer (some ⟨b0, 5, none⟩), undef].getD i undef) (fun j γ => [[obj b2v 35 [.int .i64 x1_7, .int .i64 x1_8, .int .i64 x1_9, .slice a1_10 x1_10.length c1_10], obj b0 89 [.int .i64 x0_0, .int .i64 x0_1, .int .i64 x0_2, .int .i64 s8v.1, .int .i64 s8v.2.1, .slice y9v.1 s8v.2.2.length y9v.2], Row 144 5 y9v.1 s8v.2.2.length y9v.2 rs13v.flatten, z0_5, F], [Row 144 5 (some ⟨γ.1, 0, none⟩) ([(x1_7, x1_8, x1_9, x1_10, x2)] : List (Ty144)).length 1 [[.int .i64 x1_7, .int .i64 x1_8, .int .i64 x1_9, .slice a1_10 x1_10.length c1_10, .int .i64 x2]].flatten, obj b2v 35 [.int .i64 x1_7, .int .i64 x1_8, .int .i64 x1_9, .slice a1_10 x1_10.length c1_10], obj b0 89 [.int .i64 x0_0, .int .i64 x0_1, .int .i64 x0_2, .int .i64 s8v.1, .int .i64 s8v.2.1, .slice y9v.1 s8v.2.2.length y9v.2], Row 144 5 y9v.1 s8v.2.2.length y9v.2 rs13v.flatten, z0_5, F], [Row 144 5 (some ⟨γ.1, 0, none⟩) ([(x1_7, x1_8, x1_9, x1_10, x2)] : List (Ty144)).length 1 [[.int .i64 x1_7, .int .i64 x1_8, .int .i64 x1_9, .slice a1_10 x1_10.length c1_10, .int .i64 x2]].flatten, obj b2v 35 [.int .i64 x1_7, .int .i64 x1_8, .int .i64 x1_9, .slice a1_10 x1_10.length c1_10], obj b0 89 [.int .i64 x0_0, .int .i64 x0_1, .int .i64 x0_2, .int .i64 s8v.1, .int .i64 s8v.2.1, .slice y9v.1 s8v.2.2.length y9v.2], RowV 144 5 (V144 (z0_5)) γ.2.1 ((cut s8v.2.2 (0 : Int) (IntKind.i64.wrap ((IntKind.i64.wrap (x1_8 - s8v.1)) - 1))) ++ ([(x1_7, x1_8, x1_9, x1_10, x2)] : List (Ty144))) γ.2.2, z0_5, F], [Row 144 5 (some ⟨γ.1, 0, none⟩) ([(x1_7, x1_8, x1_9, x1_10, x2)] : List (Ty144)).length 1 [[.int .i64 x1_7, .int .i64 x1_8, .int .i64 x1_9, .slice a1_10 x1_10.length c1_10, .int .i64 x2]].flatten, obj b2v 35 [.int .i64 x1_7, .int .i64 x1_8, .int .i64 x1_9, .slice a1_10 x1_10.length c1_10], obj b0 89 [.int .i64 x0_0, .int .i64 x0_1, .int .i64 x0_2, .int .i64 s8v.1, .int .i64 s8v.2.1, .slice γ.2.1 (((cut s8v.2.2 (0 : Int) (IntKind.i64.wrap ((IntKind.i64.wrap (x1_8 - s8v.1)) - 1))) ++ ([(x1_7, x1_8, x1_9, x1_10, x2)] : List (Ty144))).length) γ.2.2], RowV 144 5 (V144 (z0_5)) γ.2.1 ((cut s8v.2.2 (0 : Int) (IntKind.i64.wrap ((IntKind.i64.wrap (x1_8 - s8v.1)) - 1))) ++ ([(x1_7, x1_8, x1_9, x1_10, x2)] : List (Ty144))) γ.2.2, z0_5, F]].getD j []) (fun γ => []) mixed (by decide) (by decide) (by decide) (by decide) (by decide) (by decide) (by decide) 64 rfl (by decide) (by decide) (by decide) (Ent.refl _) ?_ ?_ (fun _ => trivial) ?_
 exact (ac (fun γ => (ac (qm rfl (.o (s := 0) rfl (by decide) .nil) rfl) (ac (qm rfl (.o (s := 0) rfl (by decide) .nil) rfl) (ac (qm rfl (.o (s := 0) rfl (by decide) .nil) rfl) zA)))) (ac (fun γ => (ac (qm rfl (.o (s := 0) rfl (by decide) .nil) rfl) (ac (qm rfl (.o (s := 0) rfl (by decide) .nil) rfl) zA))) (ac (fun γ => (ac (qp rfl rfl (.v 1 rfl rfl .nil) (q_nil rfl rfl) rfl) (ac (qp rfl rfl (.v 1 rfl rfl .nil) (q_nil rfl rfl) rfl) zA))) (ac (fun γ => (ac (qp rfl rfl (.v 2 rfl rfl .nil) (q_fa rfl rfl Tryz.underlying89 rfl rfl Tryz.sizeOf87 rfl) rfl) (ac (qp rfl rfl (.v 2 rfl rfl .nil) (q_fa rfl rfl Tryz.underlying89 rfl rfl Tryz.sizeOf87 rfl) rfl) zA))) (ac (fun γ => (ac (qp rfl rfl (.v 3 rfl rfl .nil) (q_load rfl rfl Tryz.isAgg87 (.obj 1 rfl rfl)) rfl) (ac (qp rfl rfl (.v 3 rfl rfl .nil) (q_load rfl rfl Tryz.isAgg87 (.obj 2 rfl rfl)) rfl) zA))) (ac (fun γ => (ac (qp rfl rfl (.o (s := 7) rfl (by decide) .nil) (q_fa rfl rfl Tryz.underlying35 rfl rfl Tryz.sizeOf3 rfl) rfl) (ac (qp rfl rfl (.o (s := 7) rfl (by decide) .nil) (q_fa rfl rfl Tryz.underlying35 rfl rfl Tryz.sizeOf3 rfl) rfl) zA))) (ac (fun γ => (ac (qp rfl rfl (.v 5 rfl rfl .nil) (q_load rfl rfl Tryz.isAgg3 (.obj 0 rfl rfl)) rfl) (ac (qp rfl rfl (.v 5 rfl rfl .nil) (q_load rfl rfl Tryz.isAgg3 (.obj 1 rfl rfl)) rfl) zA))) (ac (fun γ => (ac (qm rfl (.o (s := 0) rfl (by decide) .nil) rfl) (ac (qm rfl (.o (s := 0) rfl (by decide) .nil) rfl) zA))) (ac (fun γ => (ac (qp rfl rfl (.v 7 rfl rfl .nil) (q_nil rfl rfl) rfl) (ac (qp rfl rfl (.v 7 rfl rfl .nil) (q_nil rfl rfl) rfl) zA))) (ac (fun γ => (ac (qp rfl rfl (.v 8 rfl rfl .nil) (q_fa rfl rfl Tryz.underlying89 rfl rfl Tryz.sizeOf3 rfl) rfl) (ac (qp rfl rfl (.v 8 rfl rfl .nil) (q_fa rfl rfl Tryz.underlying89 rfl rfl Tryz.sizeOf3 rfl) rfl) zA))) (ac (fun γ => (ac (qp rfl rfl (.v 9 rfl rfl .nil) (q_load rfl rfl Tryz.isAgg3 (.obj 1 rfl rfl)) rfl) (ac (qp rfl rfl (.v 9 rfl rfl .nil) (q_load rfl rfl Tryz.isAgg3 (.obj 2 rfl rfl)) rfl) zA))) (ac (fun γ => (ac (qp rfl rfl (.v 6 rfl rfl (.v 10 rfl rfl .nil)) (q_sub rfl rfl rfl) rfl) (ac (qp rfl rfl (.v 6 rfl rfl (.v 10 rfl rfl .nil)) (q_sub rfl rfl rfl) rfl) zA))) (ac (fun γ => (ac (qp rfl rfl (.v 11 rfl rfl .nil) (q_sub rfl rfl rfl) rfl) (ac (qp rfl rfl (.v 11 rfl rfl .nil) (q_sub rfl rfl rfl) rfl) zA))) (ac (fun γ => (ac (qp rfl rfl (.v 4 rfl rfl (.v 12 rfl rfl .nil)) (q_sub_roV (l := s8v.2.2) (lo' := (0 : Int)) (hi' := IntKind.i64.wrap ((IntKind.i64.wrap (x1_8 - s8v.1)) - 1)) rfl rfl rfl rfl Tryz.underlying87 Tryz.sizeOf144 (.inr ⟨_, rfl⟩) (.inl ⟨rfl, rfl⟩) hb15v hq17v hS22v) rfl) (ac (qp rfl rfl (.v 4 rfl rfl (.v 12 rfl rfl .nil)) (q_sub_roV (l := s8v.2.2) (lo' := (0 : Int)) (hi' := IntKind.i64.wrap ((IntKind.i64.wrap (x1_8 - s8v.1)) - 1)) rfl rfl rfl rfl Tryz.underlying87 Tryz.sizeOf144 (.inr ⟨_, rfl⟩) (.inl ⟨rfl, rfl⟩) hb15v hq17v hS22v) rfl) zA))) (aq rfl (fun γ => qp rfl rfl (.o (s := 7) rfl (by decide) .nil) (q_loado 0 rfl rfl Tryz.isAgg35 Tryz.sizeOf35 rfl rfl) rfl) (aq rfl (fun γ => qm rfl (.o (s := 2) rfl (by decide) .nil) rfl) (aq rfl (fun γ => qp rfl rfl (.v 14 rfl rfl (.v 15 rfl rfl .nil)) (q_build (v := .agg #[.int .i64 x1_7, .int .i64 x1_8, .int .i64 x1_9, .slice a1_10 x1_10.length c1_10, .int .i64 x2]) rfl rfl (fun _ => by kernel_rfl)) rfl) (aq rfl (fun γ => qp rfl rfl (.v 0 rfl rfl .nil) (q_nil rfl rfl) rfl) (aq rfl (fun γ => qp rfl rfl (.v 19 rfl rfl .nil) (q_fa rfl rfl Tryz.underlying89 rfl rfl Tryz.sizeOf87 rfl) rfl) zA)))))))))))))))))))
 exact (ac (fun γ => eo (Z := Nat) (fun z => (z, γ.2)) rfl rfl (.v 16 rfl rfl .nil) (re_litV (V := (V144 (z0_5))) (xs := ([(x1_7, x1_8, x1_9, x1_10, x2)] : List (Ty144))) [[.int .i64 x1_7, .int .i64 x1_8, .int .i64 x1_9, .slice a1_10 x1_10.length c1_10, .int .i64 x2]] rfl rfl Tryz.underlying87 elt144 rfl (by kernel_rfl) rfl hlb27v rfl rfl) (fun _ => ⟨rfl, rfl, rfl, rfl, rfl, rfl, rfl, rfl, rfl, rfl, rfl, rfl, rfl, rfl, rfl, rfl, rfl, trivial⟩) (fun _ => .inr rfl) (fun z => Ent.refl _)) (ac (fun γ => eo (Z := Option Addr × Nat) (fun z => (γ.1, z)) rfl rfl (.v 13 rfl rfl (.v 17 rfl rfl .nil)) (RE.ent (H1 := [Row 144 5 (some ⟨γ.1, 0, none⟩) ([(x1_7, x1_8, x1_9, x1_10, x2)] : List (Ty144)).length 1 [[.int .i64 x1_7, .int .i64 x1_8, .int .i64 x1_9, .slice a1_10 x1_10.length c1_10, .int .i64 x2]].flatten, obj b2v 35 [.int .i64 x1_7, .int .i64 x1_8, .int .i64 x1_9, .slice a1_10 x1_10.length c1_10], obj b0 89 [.int .i64 x0_0, .int .i64 x0_1, .int .i64 x0_2, .int .i64 s8v.1, .int .i64 s8v.2.1, .slice y9v.1 s8v.2.2.length y9v.2], RowV 144 5 (V144 (z0_5)) a20v (cut s8v.2.2 (0 : Int) (IntKind.i64.wrap ((IntKind.i64.wrap (x1_8 - s8v.1)) - 1))) c21v, z0_5, F]) (Ent.set' 3 rfl (fun _ h => cut_ent hl14v hS22v hb15v hq17v h)) (re_appendVc 3 rfl rfl rfl Tryz.underlying87 elt144 rfl  (RdsV.row hlb27v 0 rfl) hb33v)) (fun _ => ⟨rfl, rfl, rfl, rfl, rfl, rfl, rfl, rfl, rfl, rfl, rfl, rfl, rfl, rfl, rfl, rfl, rfl, rfl, trivial⟩) (fun _ => .inr rfl) (fun z => Ent.refl _)) (ac (fun γ => eo (Z := Unit) (fun z => (γ.1, γ.2)) rfl rfl (.v 18 rfl rfl (.v 20 rfl rfl .nil)) (re_store 2 rfl rfl rfl Tryz.sizeOf87 rfl rfl (one_of (by rfl)) rfl rfl) (fun _ => ⟨rfl, rfl, rfl, rfl, rfl, rfl, rfl, rfl, rfl, rfl, rfl, rfl, rfl, rfl, rfl, rfl, rfl, rfl, rfl, rfl, rfl, trivial⟩) (fun _ => .inl rfl) (fun z => Ent.refl _)) zA)))
 intro g34v
 refine nrm_then (sr ?_)
 refine va rfl rfl (simL_nil (nrm_then (sim_rtn ?_)))
 exact rtn_fn (g34v.2.1, g34v.2.2, z0_5) rfl rfl rfl (.pr_in (Up.refl _) (.sel 2 rfl (.sel 2 rfl (.sel 2 rfl (.sel 2 rfl (.nil _))))))
end Go.Proofs.YtndjkejhacfpdaaGreatDoor

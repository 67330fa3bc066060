/- Printed by gen.py: pure functions and the proofs that the Go functions simulate them. Conditions: as each theorem says. -/
import Derived.Test.YtdoghfenhoigmaaG3
namespace Go.Proofs.Ytdoghfenhoigmaa
open Go.RowKit
set_option linter.unusedVariables false
set_option maxRecDepth 20000
set_option maxHeartbeats 2000000
def synodref1_Writer_Done_s_c0p0.f (xp0_0 : List UInt8) (xp0_1 : Int) : Option (List UInt8 × Int) := if xp0_1 = (0 : Int) then (some (xp0_0, 0)) else (some (([] : List UInt8), xp0_1))
theorem synodref1_Writer_Done_s_c0p0.calls (W : World) (F : HA) (bp0 : Nat) (ap0_0 : Option Addr) (cp0_0 : Nat) (xp0_0 : List UInt8) (xp0_1 : Int)  :
    Fn Try.prog W 80 [.pointer (some ⟨bp0, 0, none⟩)] [obj bp0 143 [.slice ap0_0 xp0_0.length cp0_0, .int .i64 xp0_1], Row 5 1 ap0_0 xp0_0.length cp0_0 (encB xp0_0)] F (synodref1_Writer_Done_s_c0p0.f xp0_0 xp0_1) (fun (r : List UInt8 × Int) (y : Option Addr × Nat) => .tuple #[.slice y.1 r.1.length y.2, .int .i64 r.2]) (fun r y => [Row 5 1 y.1 r.1.length y.2 (encB r.1)]) := by
 unfold synodref1_Writer_Done_s_c0p0.f
 refine fn_intro 17 Try.func80 rfl Try.ntmps80 rfl ?_
 refine sim_seq (sim_region ?_)
 refine simL_val (q_asg rfl rfl) rfl rfl rfl ?_
 refine simL_val (q_asg rfl rfl) rfl rfl rfl (simL_nil (nrm_then (sim_seq (sim_seq (sim_region ?_)))))
 refine simL_val (q_move rfl rfl) rfl rfl rfl ?_
 refine simL_val (q_nil rfl rfl) rfl rfl rfl ?_
 refine simL_val (q_fa rfl rfl Try.underlying143 rfl rfl Try.sizeOf3 rfl) rfl rfl rfl ?_
 refine simL_val (q_load rfl rfl Try.isAgg3 (.obj 0 rfl rfl)) rfl rfl rfl ?_
 refine simL_val (q_neq rfl rfl rfl) rfl rfl rfl (simL_nil (nrm_then ?_))
 refine sim_condn rfl (fun h1v => ?_) (fun h2v => ?_)
 refine sim_skip ?_
 refine nrm_then (sim_seq (sim_region ?_))
 refine simL_val (q_move rfl rfl) rfl rfl rfl ?_
 refine simL_val (q_nil rfl rfl) rfl rfl rfl ?_
 refine simL_val (q_fa rfl rfl Try.underlying143 rfl rfl Try.sizeOf27 rfl) rfl rfl rfl ?_
 refine simL_val (q_load rfl rfl Try.isAgg27 (.obj 0 rfl rfl)) rfl rfl rfl ?_
 refine simL_val (q_asg rfl rfl) rfl rfl rfl ?_
 refine simL_val (q_asg rfl rfl) rfl rfl rfl (simL_nil (nrm_then (sim_rtn ?_)))
 exact rtn_fn (ap0_0, cp0_0) rfl rfl rfl (.sel 1 rfl (.sel 1 rfl (.nil _)))
 refine sim_seq ?_
 refine sim_draw (Γ := Unit) () [[], [0], [0, 1], [0, 1, 2], [], [0, 1, 2, 3, 4]] [] [0, 1, 2, 3, 4, 5] (fun i => [[0], [0], [0], [0], [0], [0]].getD i []) (fun i => [[], [], [], [], [], []].getD i []) (fun γ i => [.pointer (some ⟨bp0, 0, none⟩), .pointer (some ⟨bp0, 0, none⟩), .pointer (some ⟨bp0, 1, none⟩), .int .i64 xp0_1, .slice none 0 0, .int .i64 xp0_1].getD i undef) (fun j γ => [[obj bp0 143 [.slice ap0_0 xp0_0.length cp0_0, .int .i64 xp0_1], Row 5 1 ap0_0 xp0_0.length cp0_0 (encB xp0_0), F]].getD j []) (fun γ => [(2, .slice none 0 0), (3, .int .i64 xp0_1)]) mixed (by decide) (by decide) (by decide) (by decide) (by decide) (by decide) (by decide) 17 rfl (by decide) (by decide) (by decide) (Ent.refl _) ?_ ?_ (fun _ => ⟨rfl, rfl, trivial⟩) ?_
 exact (All.cons (fun γ => (All.cons (QOb.plain [(0, .pointer (some ⟨bp0, 0, none⟩))] rfl rfl (.o rfl (by decide) .nil) (q_move rfl rfl) rfl) All.nil)) (All.cons (fun γ => (All.cons (QOb.plain [(9, .pointer (some ⟨bp0, 0, none⟩))] rfl rfl (.w 0 rfl rfl rfl .nil) (q_nil rfl rfl) rfl) All.nil)) (All.cons (fun γ => (All.cons (QOb.plain [(10, .pointer (some ⟨bp0, 0, none⟩))] rfl rfl (.w 1 rfl rfl rfl .nil) (q_fa rfl rfl Try.underlying143 rfl rfl Try.sizeOf3 rfl) rfl) All.nil)) (All.cons (fun γ => (All.cons (QOb.plain [(11, .pointer (some ⟨bp0, 1, none⟩))] rfl rfl (.w 2 rfl rfl rfl .nil) (q_load rfl rfl Try.isAgg3 (.obj 0 rfl rfl)) rfl) All.nil)) (All.cons (fun γ => (All.cons (QOb.plain [] rfl rfl .nil (q_asg rfl rfl) rfl) All.nil)) (All.cons (fun γ => (All.cons (QOb.plain [(12, .int .i64 xp0_1)] rfl rfl (.w 3 rfl rfl rfl .nil) (q_asg rfl rfl) rfl) All.nil)) All.nil))))))
 exact All.nil
 intro g3v
 refine nrm_then (sim_rtn ?_)
 refine rtn_then ?_
 exact rtn_fn (none, 0) rfl rfl rfl (.row_nil (.sel 2 rfl (.nil _)))
def synodref1_Writer_Done_s_c0p0.v (xp0_0 : List UInt8) (xp0_1 : Int) : List UInt8 × Int := (synodref1_Writer_Done_s_c0p0.f xp0_0 xp0_1).getD ([], 0)
theorem synodref1_Writer_Done_s_c0p0.tot (xp0_0 : List UInt8) (xp0_1 : Int) : synodref1_Writer_Done_s_c0p0.f xp0_0 xp0_1 = some (synodref1_Writer_Done_s_c0p0.v xp0_0 xp0_1) := by
  have h : ∃ r, synodref1_Writer_Done_s_c0p0.f xp0_0 xp0_1 = some r := by
    unfold synodref1_Writer_Done_s_c0p0.f
    repeat' (first | exact ⟨_, rfl⟩ | split | simp only [Option.bind_some])
  obtain ⟨r, h⟩ := h
  unfold synodref1_Writer_Done_s_c0p0.v
  rw [h]; rfl

def synodref3_PutEntry.f (k : Nat) (x0_0 : Int) (x0_1 : Int) (x0_2 : Int) (x0_3 : List UInt8) : Option (List UInt8 × Int) := (synodref3_CheckEntry.f x0_0 x0_1 x0_2 x0_3).bind fun s2v => (if s2v = (0 : Int) then ((synodref1_Writer_Int.f k ([] : List UInt8) (0 : Int) x0_0).bind fun s8v => ((synodref1_Writer_Int.f k s8v.1 s8v.2 x0_1).bind fun s11v => ((synodref1_Writer_Int.f k s11v.1 s11v.2 x0_2).bind fun s14v => ((synodref1_Writer_Bytes.f k s14v.1 s14v.2 x0_3 (4096 : Int)).bind fun s17v => ((synodref1_Writer_Done_s_c0p0.f s17v.1 s17v.2).bind fun s20v => (some (s20v.1, s20v.2))))))) else (some (([] : List UInt8), s2v)))
theorem synodref3_PutEntry.calls (W : World) (F : HA) (k : Nat) (x0_0 : Int) (x0_1 : Int) (x0_2 : Int) (a0_3 : Option Addr) (c0_3 : Nat) (x0_3 : List UInt8) (h0_3 : Rd F a0_3 (encB x0_3)) (hc0_3 : x0_3.length ≤ c0_3) (hm0_3 : c0_3 ≤ maxLen) :
    Fn Try.prog W 33 [.agg #[.int .i64 x0_0, .int .i64 x0_1, .int .i64 x0_2, .slice a0_3 x0_3.length c0_3]] [] F (synodref3_PutEntry.f k x0_0 x0_1 x0_2 x0_3) (fun (r : List UInt8 × Int) (y : Option Addr × Nat) => .tuple #[.slice y.1 r.1.length y.2, .int .i64 r.2]) (fun r y => [Row 5 1 y.1 r.1.length y.2 (encB r.1)]) := by
 unfold synodref3_PutEntry.f
 refine fn_intro 33 Try.func33 rfl Try.ntmps33 rfl ?_
 refine sim_seq (sim_region ?_)
 refine simL_eff (re_box rfl rfl rfl) rfl rfl rfl ?_
 intro b1v
 refine simL_val (q_asg rfl rfl) rfl rfl rfl ?_
 refine simL_val (q_asg rfl rfl) rfl rfl rfl (simL_nil (nrm_then (sim_seq (sim_region ?_))))
 refine simL_val (q_loado 0 rfl rfl Try.isAgg61 Try.sizeOf61 rfl rfl) rfl rfl rfl ?_
 refine simL_bind (fun s2v hs4v => ?_)
 refine simL_eff (re_call (vs := [.agg #[.int .i64 x0_0, .int .i64 x0_1, .int .i64 x0_2, .slice a0_3 x0_3.length c0_3]]) (cap := []) (A := []) (rst := [obj b1v 61 [.int .i64 x0_0, .int .i64 x0_1, .int .i64 x0_2, .slice a0_3 x0_3.length c0_3], F]) rfl rfl rfl rfl rfl rfl Try.call35 (.sel 0 rfl (.sel 0 rfl (.nil _))) (synodref3_CheckEntry.calls _ _ x0_0 x0_1 x0_2 a0_3 c0_3 x0_3 (h0_3.lend 1 rfl) hc0_3 hm0_3) hs4v) rfl rfl rfl ?_
 intro y3v
 refine simL_val (q_asg rfl rfl) rfl rfl rfl (simL_nil (nrm_then (sim_seq (sim_seq (sim_region ?_)))))
 refine simL_val (q_move rfl rfl) rfl rfl rfl ?_
 refine simL_val (q_neq rfl rfl rfl) rfl rfl rfl (simL_nil (nrm_then ?_))
 refine sim_condn rfl (fun h5v => ?_) (fun h6v => ?_)
 refine sim_skip ?_
 refine nrm_then (sim_seq (sim_region ?_))
 refine simL_val (q_build (v := .agg #[.slice none 0 0, .int .i64 0]) rfl rfl (fun _ => by kernel_rfl)) rfl rfl rfl ?_
 refine simL_eff (re_box rfl rfl rfl) rfl rfl rfl ?_
 intro b7v
 refine simL_val (q_asg rfl rfl) rfl rfl rfl (simL_nil (nrm_then (sim_seq (sim_region ?_))))
 refine simL_val (q_move rfl rfl) rfl rfl rfl ?_
 refine simL_val (q_fa rfl rfl Try.underlying61 rfl rfl Try.sizeOf3 rfl) rfl rfl rfl ?_
 refine simL_val (q_load rfl rfl Try.isAgg3 (.obj 1 rfl rfl)) rfl rfl rfl ?_
 refine simL_bind (fun s8v hs10v => ?_)
 refine simL_eff (re_call (vs := [.pointer (some ⟨b7v, 0, none⟩), .int .i64 x0_0]) (cap := []) (A := [obj b7v 143 [.slice none 0 0, .int .i64 0], Row 5 1 none ([] : List UInt8).length 0 (encB ([] : List UInt8))]) (rst := [obj b1v 61 [.int .i64 x0_0, .int .i64 x0_1, .int .i64 x0_2, .slice a0_3 x0_3.length c0_3], F]) rfl rfl rfl rfl rfl rfl Try.call79 (.sel 0 rfl (.row_nil (.sel 0 rfl (.sel 0 rfl (.nil _))))) (synodref1_Writer_Int.calls _ _ k b7v none 0 ([] : List UInt8) (0 : Int) x0_0 ) hs10v) rfl rfl rfl ?_
 intro y9v
 refine simL_nil (nrm_then (sim_seq (sim_region ?_)))
 refine simL_val (q_move rfl rfl) rfl rfl rfl ?_
 refine simL_val (q_fa rfl rfl Try.underlying61 rfl rfl Try.sizeOf3 rfl) rfl rfl rfl ?_
 refine simL_val (q_load rfl rfl Try.isAgg3 (.obj 2 rfl rfl)) rfl rfl rfl ?_
 refine simL_bind (fun s11v hs13v => ?_)
 refine simL_eff (re_call (vs := [.pointer (some ⟨b7v, 0, none⟩), .int .i64 x0_1]) (cap := []) (A := [obj b7v 143 [.slice y9v.1 s8v.1.length y9v.2, .int .i64 s8v.2], Row 5 1 y9v.1 s8v.1.length y9v.2 (encB s8v.1)]) (rst := [obj b1v 61 [.int .i64 x0_0, .int .i64 x0_1, .int .i64 x0_2, .slice a0_3 x0_3.length c0_3], F]) rfl rfl rfl rfl rfl rfl Try.call79 (.sel 0 rfl (.sel 0 rfl (.sel 0 rfl (.sel 0 rfl (.nil _))))) (synodref1_Writer_Int.calls _ _ k b7v y9v.1 y9v.2 s8v.1 s8v.2 x0_1 ) hs13v) rfl rfl rfl ?_
 intro y12v
 refine simL_nil (nrm_then (sim_seq (sim_region ?_)))
 refine simL_val (q_move rfl rfl) rfl rfl rfl ?_
 refine simL_val (q_fa rfl rfl Try.underlying61 rfl rfl Try.sizeOf3 rfl) rfl rfl rfl ?_
 refine simL_val (q_load rfl rfl Try.isAgg3 (.obj 2 rfl rfl)) rfl rfl rfl ?_
 refine simL_bind (fun s14v hs16v => ?_)
 refine simL_eff (re_call (vs := [.pointer (some ⟨b7v, 0, none⟩), .int .i64 x0_2]) (cap := []) (A := [obj b7v 143 [.slice y12v.1 s11v.1.length y12v.2, .int .i64 s11v.2], Row 5 1 y12v.1 s11v.1.length y12v.2 (encB s11v.1)]) (rst := [obj b1v 61 [.int .i64 x0_0, .int .i64 x0_1, .int .i64 x0_2, .slice a0_3 x0_3.length c0_3], F]) rfl rfl rfl rfl rfl rfl Try.call79 (.sel 0 rfl (.sel 0 rfl (.sel 0 rfl (.sel 0 rfl (.nil _))))) (synodref1_Writer_Int.calls _ _ k b7v y12v.1 y12v.2 s11v.1 s11v.2 x0_2 ) hs16v) rfl rfl rfl ?_
 intro y15v
 refine simL_nil (nrm_then (sim_seq (sim_region ?_)))
 refine simL_val (q_move rfl rfl) rfl rfl rfl ?_
 refine simL_val (q_fa rfl rfl Try.underlying61 rfl rfl Try.sizeOf27 rfl) rfl rfl rfl ?_
 refine simL_val (q_load rfl rfl Try.isAgg27 (.obj 2 rfl rfl)) rfl rfl rfl ?_
 refine simL_bind (fun s17v hs19v => ?_)
 refine simL_eff (re_call (vs := [.pointer (some ⟨b7v, 0, none⟩), .slice a0_3 x0_3.length c0_3, .int .i64 4096]) (cap := []) (A := [obj b7v 143 [.slice y15v.1 s14v.1.length y15v.2, .int .i64 s14v.2], Row 5 1 y15v.1 s14v.1.length y15v.2 (encB s14v.1)]) (rst := [obj b1v 61 [.int .i64 x0_0, .int .i64 x0_1, .int .i64 x0_2, .slice a0_3 x0_3.length c0_3], F]) rfl rfl rfl rfl rfl rfl Try.call89 (.sel 0 rfl (.sel 0 rfl (.sel 0 rfl (.sel 0 rfl (.nil _))))) (synodref1_Writer_Bytes.calls _ _ k b7v y15v.1 y15v.2 s14v.1 s14v.2 a0_3 c0_3 x0_3 (4096 : Int) (h0_3.lend 1 rfl) hc0_3 hm0_3) hs19v) rfl rfl rfl ?_
 intro y18v
 refine simL_nil (nrm_then (sim_seq (sim_region ?_)))
 refine simL_val (q_move rfl rfl) rfl rfl rfl ?_
 refine simL_bind (fun s20v hs22v => ?_)
 refine simL_eff (re_call (vs := [.pointer (some ⟨b7v, 0, none⟩)]) (cap := []) (A := [obj b7v 143 [.slice y18v.1 s17v.1.length y18v.2, .int .i64 s17v.2], Row 5 1 y18v.1 s17v.1.length y18v.2 (encB s17v.1)]) (rst := [obj b1v 61 [.int .i64 x0_0, .int .i64 x0_1, .int .i64 x0_2, .slice a0_3 x0_3.length c0_3], F]) rfl rfl rfl rfl rfl rfl Try.call80 (.sel 0 rfl (.sel 0 rfl (.sel 0 rfl (.sel 0 rfl (.nil _))))) (synodref1_Writer_Done_s_c0p0.calls _ _ b7v y18v.1 y18v.2 s17v.1 s17v.2 ) hs22v) rfl rfl rfl ?_
 intro y21v
 refine simL_val (q_ext rfl rfl rfl) rfl rfl rfl ?_
 refine simL_val (q_ext rfl rfl rfl) rfl rfl rfl ?_
 refine simL_val (q_asg rfl rfl) rfl rfl rfl ?_
 refine simL_val (q_asg rfl rfl) rfl rfl rfl (simL_nil (nrm_then (sim_rtn ?_)))
 exact rtn_fn (y21v.1, y21v.2) rfl rfl rfl (.sel 0 rfl (.sel 1 rfl (.nil _)))
 refine sim_seq (sim_region ?_)
 refine simL_val (q_move rfl rfl) rfl rfl rfl ?_
 refine simL_val (q_asg rfl rfl) rfl rfl rfl ?_
 refine simL_val (q_asg rfl rfl) rfl rfl rfl (simL_nil (nrm_then (sim_rtn ?_)))
 refine rtn_then ?_
 exact rtn_fn (none, 0) rfl rfl rfl (.row_nil (.sel 1 rfl (.nil _)))

def synodref1_Int.l1 (x0 : List UInt8) (x1 : Int) : Nat → Int → Int → Option (Int)
  | 0, _, _ => none
  | k + 1, z42v, z43v => if (0 : Int) ≤ z43v then (if 0 ≤ IntKind.i64.wrap (x1 + z43v) ∧ IntKind.i64.wrap (x1 + z43v) < (x0.length : Int) then (synodref1_Int.l1 x0 x1 k (IntKind.i64.wrap ((IntKind.i64.wrap (z42v * 128)) + (Int.tmod (IntKind.i64.wrap ((x0.getD (IntKind.i64.wrap (x1 + z43v)).toNat 0).toNat : Int)) 128))) (IntKind.i64.wrap (z43v - 1))) else none) else (some z42v)
def synodref1_Int.l0 (x0 : List UInt8) (x1 : Int) : Nat → Int → Option (Int)
  | 0, _ => none
  | k + 1, z7v => (if ((decide (z7v < (9 : Int))) && (decide (IntKind.i64.wrap (x1 + z7v) < (x0.length : Int)))) = true then (if 0 ≤ IntKind.i64.wrap (x1 + z7v) ∧ IntKind.i64.wrap (x1 + z7v) < (x0.length : Int) then (some (decide ((128 : Int) ≤ ((x0.getD (IntKind.i64.wrap (x1 + z7v)).toNat 0).toNat : Int)))) else none) else (some false)).bind fun s8v => (if s8v = true then (synodref1_Int.l0 x0 x1 k (IntKind.i64.wrap (z7v + 1))) else (some z7v))
def synodref1_Int.f (k : Nat) (x0 : List UInt8) (x1 : Int) : Option (Int × Int × Int) := if ((decide (x1 < (0 : Int))) || (decide ((x0.length : Int) ≤ x1))) = true then (some (0, 0, 2)) else ((synodref1_Int.l0 x0 x1 k 0).bind fun s3v => (if s3v = (9 : Int) then (some (0, 0, 4)) else (if (x0.length : Int) ≤ IntKind.i64.wrap (x1 + s3v) then (some (0, 0, 2)) else ((if (0 : Int) < s3v then (if 0 ≤ IntKind.i64.wrap (x1 + s3v) ∧ IntKind.i64.wrap (x1 + s3v) < (x0.length : Int) then (some (decide (((x0.getD (IntKind.i64.wrap (x1 + s3v)).toNat 0).toNat : Int) = (0 : Int)))) else none) else (some false)).bind fun s28v => (if s28v = true then (some (0, 0, 4)) else ((synodref1_Int.l1 x0 x1 k 0 s3v).bind fun s38v => (if (4611686018427387904 : Int) < s38v then (some (0, 0, 1)) else (some (s38v, IntKind.i64.wrap (s3v + 1), 0)))))))))
theorem synodref1_Int.calls (W : World) (F : HA) (k : Nat) (a0 : Option Addr) (c0 : Nat) (x0 : List UInt8) (x1 : Int) (h0 : Rd F a0 (encB x0)) (hc0 : x0.length ≤ c0) (hm0 : c0 ≤ maxLen) :
    Fn Try.prog W 130 [.slice a0 x0.length c0, .int .i64 x1] [] F (synodref1_Int.f k x0 x1) (fun (r : Int × Int × Int) (y : Unit) => .tuple #[.int .i64 r.1, .int .i64 r.2.1, .int .i64 r.2.2]) (fun r y => []) := by
 unfold synodref1_Int.f
 refine fn_intro 79 Try.func130 rfl Try.ntmps130 rfl ?_
 refine sim_seq (sim_region ?_)
 refine simL_val (q_asg rfl rfl) rfl rfl rfl ?_
 refine simL_val (q_asg rfl rfl) rfl rfl rfl ?_
 refine simL_val (q_asg rfl rfl) rfl rfl rfl (simL_nil (nrm_then (sim_seq (sim_seq (sim_region ?_)))))
 refine simL_val (q_move rfl rfl) rfl rfl rfl ?_
 refine simL_val (q_lss rfl rfl rfl) rfl rfl rfl ?_
 refine simL_val (q_move rfl rfl) rfl rfl rfl ?_
 refine simL_valc (b := decide (x1 < (0 : Int))) (fun hb56v => RQ.sub (E' := [(1, .int .i64 x1)]) ⟨rfl, trivial⟩ (q_move rfl rfl)) rfl rfl rfl rfl rfl ?_
 refine simL_valc (b := decide (x1 < (0 : Int))) (fun hb55v => RQ.sub (E' := [(0, .slice a0 x0.length c0)]) ⟨rfl, trivial⟩ (q_move rfl rfl)) rfl rfl rfl rfl rfl ?_
 refine simL_valc (b := decide (x1 < (0 : Int))) (fun hb54v => RQ.sub (E' := [(14, .slice a0 x0.length c0)]) ⟨lk_cv rfl hb54v, trivial⟩ (q_len rfl rfl rfl Try.underlying27)) rfl rfl rfl rfl rfl ?_
 refine simL_valc (b := decide (x1 < (0 : Int))) (fun hb53v => RQ.sub (E' := [(13, .int .i64 x1), (15, .int .i64 (x0.length : Int))]) ⟨lk_cv rfl hb53v, lk_cv rfl hb53v, trivial⟩ (q_geq rfl rfl rfl)) rfl rfl rfl rfl rfl ?_
 refine simL_val (q_or rfl rfl rfl) rfl rfl rfl (simL_nil (nrm_then ?_))
 refine sim_condb rfl (fun h1v => ?_) (fun h2v => ?_)
 refine sim_seq (sim_region ?_)
 refine simL_val (q_asg rfl rfl) rfl rfl rfl ?_
 refine simL_val (q_asg rfl rfl) rfl rfl rfl ?_
 refine simL_val (q_asg rfl rfl) rfl rfl rfl (simL_nil (nrm_then (sim_rtn ?_)))
 refine rtn_then ?_
 exact rtn_fn () rfl rfl rfl (.sel 0 rfl (.nil _))
 refine sim_skip ?_
 refine nrm_then (sim_seq (sim_region ?_))
 refine simL_val (q_asg rfl rfl) rfl rfl rfl (simL_nil (nrm_then ?_))
 refine sim_cut (S := Int) (Unit) (fun s y => [(0, .slice a0 x0.length c0), (1, .int .i64 x1), (7, .int .i64 s)]) (fun s y => [F]) ?_ ?_
 refine sim_block ?_
 refine sim_loop (S := Int) (Unit) (fun k s => synodref1_Int.l0 x0 x1 k s) (fun s y => [(0, .slice a0 x0.length c0), (1, .int .i64 x1), (7, .int .i64 s)]) (fun s y => [F]) (fun _ => by rw [synodref1_Int.l0]) ?_ k 0 () ⟨rfl, rfl, rfl, trivial⟩ (.sel 0 rfl (.nil _))
 intro k s5v y6v
 refine sim_eq (by rw [synodref1_Int.l0]) ?_
 refine sim_seq (sim_seq (sim_region ?_))
 refine simL_val (q_move rfl rfl) rfl rfl rfl ?_
 refine simL_val (q_lss rfl rfl rfl) rfl rfl rfl ?_
 refine simL_val (q_move rfl rfl) rfl rfl rfl ?_
 refine simL_valc (b := decide (s5v < (9 : Int))) (fun hb23v => RQ.sub (E' := [(1, .int .i64 x1)]) ⟨rfl, trivial⟩ (q_move rfl rfl)) rfl rfl rfl rfl rfl ?_
 refine simL_valc (b := decide (s5v < (9 : Int))) (fun hb22v => RQ.sub (E' := [(7, .int .i64 s5v)]) ⟨rfl, trivial⟩ (q_move rfl rfl)) rfl rfl rfl rfl rfl ?_
 refine simL_valc (b := decide (s5v < (9 : Int))) (fun hb21v => RQ.sub (E' := [(21, .int .i64 x1), (22, .int .i64 s5v)]) ⟨lk_cv rfl hb21v, lk_cv rfl hb21v, trivial⟩ (q_add rfl rfl rfl)) rfl rfl rfl rfl rfl ?_
 refine simL_valc (b := decide (s5v < (9 : Int))) (fun hb20v => RQ.sub (E' := [(0, .slice a0 x0.length c0)]) ⟨rfl, trivial⟩ (q_move rfl rfl)) rfl rfl rfl rfl rfl ?_
 refine simL_valc (b := decide (s5v < (9 : Int))) (fun hb19v => RQ.sub (E' := [(24, .slice a0 x0.length c0)]) ⟨lk_cv rfl hb19v, trivial⟩ (q_len rfl rfl rfl Try.underlying27)) rfl rfl rfl rfl rfl ?_
 refine simL_valc (b := decide (s5v < (9 : Int))) (fun hb18v => RQ.sub (E' := [(23, .int .i64 (IntKind.i64.wrap (x1 + s5v))), (25, .int .i64 (x0.length : Int))]) ⟨lk_cv rfl hb18v, lk_cv rfl hb18v, trivial⟩ (q_lss rfl rfl rfl)) rfl rfl rfl rfl rfl ?_
 refine simL_val (q_and rfl rfl rfl) rfl rfl rfl ?_
 refine simL_val (q_move rfl rfl) rfl rfl rfl ?_
 refine simL_cut' 8 (S := Bool) (Unit) (fun s y => [(0, .slice a0 x0.length c0), (1, .int .i64 x1), (7, .int .i64 s5v), (36, .bool s)]) (fun s y => [F]) ?_ ?_
 refine simL_caseb (fun hb14v => ?_) (fun hb15v => ?_)
 rw [hb14v]
 refine simL_valg (q_move rfl rfl) rfl rfl rfl rfl rfl rfl ?_
 refine simL_valg (q_move rfl rfl) rfl rfl rfl rfl rfl rfl ?_
 refine simL_valg (q_move rfl rfl) rfl rfl rfl rfl rfl rfl ?_
 refine simL_valg (q_add rfl rfl rfl) rfl rfl rfl rfl rfl rfl ?_
 refine simL_ask (fun hi10v => ?_)
 obtain ⟨b11v, b11vo, ha12v⟩ := h0.pos (encB_ne (j := (IntKind.i64.wrap (x1 + s5v)).toNat) (by omega))
 refine simL_valg (q_idx1 rfl rfl rfl ha12v Try.underlying27 Try.sizeOf5 hi10v.1 hi10v.2) rfl rfl rfl rfl rfl rfl ?_
 refine simL_valg (q_load rfl rfl Try.isAgg5 (h0.cell 0 rfl ha12v (encB_get (by omega)))) rfl rfl rfl rfl rfl rfl ?_
 refine simL_valg (q_geq rfl rfl rfl) rfl rfl rfl rfl rfl rfl ?_
 refine simL_val (q_pick rfl rfl rfl rfl rfl) rfl rfl rfl (simL_nil ?_)
 exact nrm_cut (s := decide ((128 : Int) ≤ ((x0.getD (IntKind.i64.wrap (x1 + s5v)).toNat 0).toNat : Int))) () ⟨rfl, rfl, rfl, rfl, trivial⟩ (.sel 0 rfl (.nil _))
 rw [hb15v]
 refine simL_skipd rfl rfl rfl rfl rfl rfl ?_
 refine simL_skipd rfl rfl rfl rfl rfl rfl ?_
 refine simL_skipd rfl rfl rfl rfl rfl rfl ?_
 refine simL_skipd rfl rfl rfl rfl rfl rfl ?_
 refine simL_skipd rfl rfl rfl rfl rfl rfl ?_
 refine simL_skipd rfl rfl rfl rfl rfl rfl ?_
 refine simL_skipd rfl rfl rfl rfl rfl rfl ?_
 refine simL_val (q_pick rfl rfl rfl rfl rfl) rfl rfl rfl (simL_nil ?_)
 exact nrm_cut (s := false) () ⟨rfl, rfl, rfl, rfl, trivial⟩ (.sel 0 rfl (.nil _))
 intro s8v y9v
 refine simL_nil (nrm_then ?_)
 refine sim_condb rfl (fun h16v => ?_) (fun h17v => ?_)
 refine sim_skip ?_
 refine nrm_then ?_
 refine sim_block ?_
 refine sim_region ?_
 refine simL_val (q_move rfl rfl) rfl rfl rfl ?_
 refine simL_val (q_add rfl rfl rfl) rfl rfl rfl ?_
 refine simL_val (q_asg rfl rfl) rfl rfl rfl (simL_nil (nrm_block ?_))
 exact nrm_again (s := IntKind.i64.wrap (s5v + 1)) () ⟨rfl, rfl, rfl, trivial⟩ (.sel 0 rfl (.nil _))
 refine sim_exi ?_
 refine exi_then ?_
 refine exi_loop ?_
 refine exi_here ?_
 exact nrm_cut (s := s5v) () ⟨rfl, rfl, rfl, trivial⟩ (.sel 0 rfl (.nil _))
 intro s3v y4v
 refine sim_seq (sim_seq (sim_region ?_))
 refine simL_val (q_move rfl rfl) rfl rfl rfl ?_
 refine simL_val (q_eql rfl rfl rfl) rfl rfl rfl (simL_nil (nrm_then ?_))
 refine sim_cond rfl (fun h24v => ?_) (fun h25v => ?_)
 refine sim_seq (sim_region ?_)
 refine simL_val (q_asg rfl rfl) rfl rfl rfl ?_
 refine simL_val (q_asg rfl rfl) rfl rfl rfl ?_
 refine simL_val (q_asg rfl rfl) rfl rfl rfl (simL_nil (nrm_then (sim_rtn ?_)))
 refine rtn_then ?_
 exact rtn_fn () rfl rfl rfl (.sel 0 rfl (.nil _))
 refine sim_skip ?_
 refine nrm_then (sim_seq (sim_seq (sim_region ?_)))
 refine simL_val (q_move rfl rfl) rfl rfl rfl ?_
 refine simL_val (q_move rfl rfl) rfl rfl rfl ?_
 refine simL_val (q_add rfl rfl rfl) rfl rfl rfl ?_
 refine simL_val (q_move rfl rfl) rfl rfl rfl ?_
 refine simL_val (q_len rfl rfl rfl Try.underlying27) rfl rfl rfl ?_
 refine simL_val (q_geq rfl rfl rfl) rfl rfl rfl (simL_nil (nrm_then ?_))
 refine sim_cond rfl (fun h26v => ?_) (fun h27v => ?_)
 refine sim_seq (sim_region ?_)
 refine simL_val (q_asg rfl rfl) rfl rfl rfl ?_
 refine simL_val (q_asg rfl rfl) rfl rfl rfl ?_
 refine simL_val (q_asg rfl rfl) rfl rfl rfl (simL_nil (nrm_then (sim_rtn ?_)))
 refine rtn_then ?_
 exact rtn_fn () rfl rfl rfl (.sel 0 rfl (.nil _))
 refine sim_skip ?_
 refine nrm_then (sim_seq (sim_seq (sim_region ?_)))
 refine simL_val (q_move rfl rfl) rfl rfl rfl ?_
 refine simL_val (q_gtr rfl rfl rfl) rfl rfl rfl ?_
 refine simL_val (q_move rfl rfl) rfl rfl rfl ?_
 refine simL_cut' 8 (S := Bool) (Unit) (fun s y => [(0, .slice a0 x0.length c0), (1, .int .i64 x1), (7, .int .i64 s3v), (57, .bool s)]) (fun s y => [F]) ?_ ?_
 refine simL_casep (fun hb34v => ?_) (fun hb35v => ?_)
 rw [hb34v]
 refine simL_valg (q_move rfl rfl) rfl rfl rfl rfl rfl rfl ?_
 refine simL_valg (q_move rfl rfl) rfl rfl rfl rfl rfl rfl ?_
 refine simL_valg (q_move rfl rfl) rfl rfl rfl rfl rfl rfl ?_
 refine simL_valg (q_add rfl rfl rfl) rfl rfl rfl rfl rfl rfl ?_
 refine simL_ask (fun hi30v => ?_)
 obtain ⟨b31v, b31vo, ha32v⟩ := h0.pos (encB_ne (j := (IntKind.i64.wrap (x1 + s3v)).toNat) (by omega))
 refine simL_valg (q_idx1 rfl rfl rfl ha32v Try.underlying27 Try.sizeOf5 hi30v.1 hi30v.2) rfl rfl rfl rfl rfl rfl ?_
 refine simL_valg (q_load rfl rfl Try.isAgg5 (h0.cell 0 rfl ha32v (encB_get (by omega)))) rfl rfl rfl rfl rfl rfl ?_
 refine simL_valg (q_eql rfl rfl rfl) rfl rfl rfl rfl rfl rfl ?_
 refine simL_val (q_pick rfl rfl rfl rfl rfl) rfl rfl rfl (simL_nil ?_)
 exact nrm_cut (s := decide (((x0.getD (IntKind.i64.wrap (x1 + s3v)).toNat 0).toNat : Int) = (0 : Int))) () ⟨rfl, rfl, rfl, rfl, trivial⟩ (.sel 0 rfl (.nil _))
 rw [hb35v]
 refine simL_skipd rfl rfl rfl rfl rfl rfl ?_
 refine simL_skipd rfl rfl rfl rfl rfl rfl ?_
 refine simL_skipd rfl rfl rfl rfl rfl rfl ?_
 refine simL_skipd rfl rfl rfl rfl rfl rfl ?_
 refine simL_skipd rfl rfl rfl rfl rfl rfl ?_
 refine simL_skipd rfl rfl rfl rfl rfl rfl ?_
 refine simL_skipd rfl rfl rfl rfl rfl rfl ?_
 refine simL_val (q_pick rfl rfl rfl rfl rfl) rfl rfl rfl (simL_nil ?_)
 exact nrm_cut (s := false) () ⟨rfl, rfl, rfl, rfl, trivial⟩ (.sel 0 rfl (.nil _))
 intro s28v y29v
 refine simL_nil (nrm_then ?_)
 refine sim_condb rfl (fun h36v => ?_) (fun h37v => ?_)
 refine sim_seq (sim_region ?_)
 refine simL_val (q_asg rfl rfl) rfl rfl rfl ?_
 refine simL_val (q_asg rfl rfl) rfl rfl rfl ?_
 refine simL_val (q_asg rfl rfl) rfl rfl rfl (simL_nil (nrm_then (sim_rtn ?_)))
 refine rtn_then ?_
 exact rtn_fn () rfl rfl rfl (.sel 0 rfl (.nil _))
 refine sim_skip ?_
 refine nrm_then (sim_seq (sim_region ?_))
 refine simL_val (q_asg rfl rfl) rfl rfl rfl (simL_nil (nrm_then ?_))
 refine sim_cut (S := Int) (Unit) (fun s y => [(7, .int .i64 s3v), (8, .int .i64 s)]) (fun s y => [F]) ?_ ?_
 refine sim_seq (sim_region ?_)
 refine simL_val (q_move rfl rfl) rfl rfl rfl ?_
 refine simL_val (q_asg rfl rfl) rfl rfl rfl (simL_nil (nrm_then ?_))
 refine sim_block ?_
 refine sim_loop (S := Int × Int) (Unit) (fun k s => synodref1_Int.l1 x0 x1 k s.1 s.2) (fun s y => [(0, .slice a0 x0.length c0), (1, .int .i64 x1), (7, .int .i64 s3v), (8, .int .i64 s.1), (9, .int .i64 s.2)]) (fun s y => [F]) (fun _ => by rw [synodref1_Int.l1]) ?_ k (0, s3v) () ⟨rfl, rfl, rfl, rfl, rfl, trivial⟩ (.sel 0 rfl (.nil _))
 intro k s40v y41v
 refine sim_eq (by rw [synodref1_Int.l1]) ?_
 refine sim_seq (sim_seq (sim_region ?_))
 refine simL_val (q_move rfl rfl) rfl rfl rfl ?_
 refine simL_val (q_geq rfl rfl rfl) rfl rfl rfl (simL_nil (nrm_then ?_))
 refine sim_cond rfl (fun h44v => ?_) (fun h45v => ?_)
 refine sim_skip ?_
 refine nrm_then (sim_seq ?_)
 refine sim_block ?_
 refine sim_region ?_
 refine simL_val (q_move rfl rfl) rfl rfl rfl ?_
 refine simL_val (q_mul rfl rfl rfl) rfl rfl rfl ?_
 refine simL_val (q_move rfl rfl) rfl rfl rfl ?_
 refine simL_val (q_move rfl rfl) rfl rfl rfl ?_
 refine simL_val (q_move rfl rfl) rfl rfl rfl ?_
 refine simL_val (q_add rfl rfl rfl) rfl rfl rfl ?_
 refine simL_ask (fun hi46v => ?_)
 obtain ⟨b47v, b47vo, ha48v⟩ := h0.pos (encB_ne (j := (IntKind.i64.wrap (x1 + s40v.2)).toNat) (by omega))
 refine simL_val (q_idx1 rfl rfl rfl ha48v Try.underlying27 Try.sizeOf5 hi46v.1 hi46v.2) rfl rfl rfl ?_
 refine simL_val (q_load rfl rfl Try.isAgg5 (h0.cell 0 rfl ha48v (encB_get (by omega)))) rfl rfl rfl ?_
 refine simL_val (q_conv rfl rfl Try.underlying5 Try.underlying3) rfl rfl rfl ?_
 refine simL_val (q_rem rfl rfl rfl (by decide)) rfl rfl rfl ?_
 refine simL_val (q_add rfl rfl rfl) rfl rfl rfl ?_
 refine simL_val (q_asg rfl rfl) rfl rfl rfl (simL_nil (nrm_block (nrm_then (sim_region ?_))))
 refine simL_val (q_move rfl rfl) rfl rfl rfl ?_
 refine simL_val (q_sub rfl rfl rfl) rfl rfl rfl ?_
 refine simL_val (q_asg rfl rfl) rfl rfl rfl (simL_nil ?_)
 exact nrm_again (s := (IntKind.i64.wrap ((IntKind.i64.wrap (s40v.1 * 128)) + (Int.tmod (IntKind.i64.wrap ((x0.getD (IntKind.i64.wrap (x1 + s40v.2)).toNat 0).toNat : Int)) 128)), IntKind.i64.wrap (s40v.2 - 1))) () ⟨rfl, rfl, rfl, rfl, rfl, trivial⟩ (.sel 0 rfl (.nil _))
 refine sim_exi ?_
 refine exi_then ?_
 refine exi_loop ?_
 refine exi_here ?_
 exact nrm_cut (s := s40v.1) () ⟨rfl, rfl, trivial⟩ (.sel 0 rfl (.nil _))
 intro s38v y39v
 refine sim_seq (sim_seq (sim_region ?_))
 refine simL_val (q_move rfl rfl) rfl rfl rfl ?_
 refine simL_val (q_gtr rfl rfl rfl) rfl rfl rfl (simL_nil (nrm_then ?_))
 refine sim_cond rfl (fun h51v => ?_) (fun h52v => ?_)
 refine sim_seq (sim_region ?_)
 refine simL_val (q_asg rfl rfl) rfl rfl rfl ?_
 refine simL_val (q_asg rfl rfl) rfl rfl rfl ?_
 refine simL_val (q_asg rfl rfl) rfl rfl rfl (simL_nil (nrm_then (sim_rtn ?_)))
 refine rtn_then ?_
 exact rtn_fn () rfl rfl rfl (.sel 0 rfl (.nil _))
 refine sim_skip ?_
 refine nrm_then (sim_seq (sim_region ?_))
 refine simL_val (q_move rfl rfl) rfl rfl rfl ?_
 refine simL_val (q_move rfl rfl) rfl rfl rfl ?_
 refine simL_val (q_add rfl rfl rfl) rfl rfl rfl ?_
 refine simL_val (q_asg rfl rfl) rfl rfl rfl ?_
 refine simL_val (q_asg rfl rfl) rfl rfl rfl ?_
 refine simL_val (q_asg rfl rfl) rfl rfl rfl (simL_nil (nrm_then (sim_rtn ?_)))
 exact rtn_fn () rfl rfl rfl (.sel 0 rfl (.nil _))

def synodref1_Reader_Int.f (k : Nat) (x0_0 : List UInt8) (x0_1 : Int) (x0_2 : Int) : Option (Int × Int × Int) := if x0_2 = (0 : Int) then ((synodref1_Int.f k x0_0 x0_1).bind fun s3v => (some (s3v.1, IntKind.i64.wrap (x0_1 + s3v.2.1), s3v.2.2))) else (some (0, x0_1, x0_2))
theorem synodref1_Reader_Int.calls (W : World) (F : HA) (k : Nat) (b0 : Nat) (a0_0 : Option Addr) (c0_0 : Nat) (x0_0 : List UInt8) (x0_1 : Int) (x0_2 : Int) (h0_0 : Rd F a0_0 (encB x0_0)) (hc0_0 : x0_0.length ≤ c0_0) (hm0_0 : c0_0 ≤ maxLen) :
    Fn Try.prog W 85 [.pointer (some ⟨b0, 0, none⟩)] [obj b0 152 [.slice a0_0 x0_0.length c0_0, .int .i64 x0_1, .int .i64 x0_2]] F (synodref1_Reader_Int.f k x0_0 x0_1 x0_2) (fun (r : Int × Int × Int) (y : Unit) => .int .i64 r.1) (fun r y => [obj b0 152 [.slice a0_0 x0_0.length c0_0, .int .i64 r.2.1, .int .i64 r.2.2]]) := by
 unfold synodref1_Reader_Int.f
 refine fn_intro 38 Try.func85 rfl Try.ntmps85 rfl ?_
 refine sim_seq (sim_region ?_)
 refine simL_val (q_asg rfl rfl) rfl rfl rfl (simL_nil (nrm_then (sim_seq (sim_seq (sim_region ?_)))))
 refine simL_val (q_move rfl rfl) rfl rfl rfl ?_
 refine simL_val (q_nil rfl rfl) rfl rfl rfl ?_
 refine simL_val (q_fa rfl rfl Try.underlying152 rfl rfl Try.sizeOf3 rfl) rfl rfl rfl ?_
 refine simL_val (q_load rfl rfl Try.isAgg3 (.obj 0 rfl rfl)) rfl rfl rfl ?_
 refine simL_val (q_neq rfl rfl rfl) rfl rfl rfl (simL_nil (nrm_then ?_))
 refine sim_condn rfl (fun h1v => ?_) (fun h2v => ?_)
 refine sim_skip ?_
 refine nrm_then (sim_seq ?_)
 refine sim_bind (fun s3v hs5v => ?_)
 refine sim_draw (Γ := Unit) () [[], [0], [0, 1], [0, 1, 2], [], [4], [4, 5], [4, 5, 6], [0, 1, 2, 3, 4, 5, 6, 7], [0, 1, 2, 3, 4, 5, 6, 7, 8], [0, 1, 2, 3, 4, 5, 6, 7, 8, 9], [0, 1, 2, 3, 4, 5, 6, 7, 8, 9], [0, 1, 2, 3, 4, 5, 6, 7, 8, 9], [0, 1, 2, 3, 4, 5, 6, 7, 8, 9, 10], [0, 1, 2, 3, 4, 5, 6, 7, 8, 9, 10, 11, 13], [0, 1, 2, 3, 4, 5, 6, 7, 8, 9, 10, 11, 12, 13, 14]] [8] [0, 1, 2, 3, 4, 5, 6, 7, 9, 10, 11, 12, 13, 14, 15] (fun i => [[0], [0], [0], [0], [0], [0], [0], [0], [], [1], [1], [1], [1], [1], [1], [1]].getD i []) (fun i => [[], [], [], [], [], [], [], [], [0, 1, 2, 3, 4, 5, 6, 7], [], [], [], [], [], [], []].getD i []) (fun γ i => [.pointer (some ⟨b0, 0, none⟩), .pointer (some ⟨b0, 0, none⟩), .pointer (some ⟨b0, 0, none⟩), .slice a0_0 x0_0.length c0_0, .pointer (some ⟨b0, 0, none⟩), .pointer (some ⟨b0, 0, none⟩), .pointer (some ⟨b0, 1, none⟩), .int .i64 x0_1, .tuple #[.int .i64 s3v.1, .int .i64 s3v.2.1, .int .i64 s3v.2.2], .tuple #[.int .i64 s3v.1, .int .i64 s3v.2.1, .int .i64 s3v.2.2], .int .i64 s3v.1, .int .i64 s3v.2.1, .int .i64 s3v.2.2, .int .i64 s3v.1, .int .i64 s3v.2.1, .int .i64 s3v.2.2].getD i undef) (fun j γ => [[obj b0 152 [.slice a0_0 x0_0.length c0_0, .int .i64 x0_1, .int .i64 x0_2], F], [obj b0 152 [.slice a0_0 x0_0.length c0_0, .int .i64 x0_1, .int .i64 x0_2], F]].getD j []) (fun γ => [(0, .pointer (some ⟨b0, 0, none⟩)), (3, .int .i64 s3v.1), (4, .int .i64 s3v.2.1), (5, .int .i64 s3v.2.2)]) mixed (by decide) (by decide) (by decide) (by decide) (by decide) (by decide) (by decide) 38 rfl (by decide) (by decide) (by decide) (Ent.refl _) ?_ ?_ (fun _ => ⟨rfl, rfl, rfl, rfl, trivial⟩) ?_
 exact (All.cons (fun γ => (All.cons (QOb.plain [(0, .pointer (some ⟨b0, 0, none⟩))] rfl rfl (.o rfl (by decide) .nil) (q_move rfl rfl) rfl) All.nil)) (All.cons (fun γ => (All.cons (QOb.plain [(12, .pointer (some ⟨b0, 0, none⟩))] rfl rfl (.w 0 rfl rfl rfl .nil) (q_nil rfl rfl) rfl) All.nil)) (All.cons (fun γ => (All.cons (QOb.plain [(13, .pointer (some ⟨b0, 0, none⟩))] rfl rfl (.w 1 rfl rfl rfl .nil) (q_fa rfl rfl Try.underlying152 rfl rfl Try.sizeOf27 rfl) rfl) All.nil)) (All.cons (fun γ => (All.cons (QOb.plain [(14, .pointer (some ⟨b0, 0, none⟩))] rfl rfl (.w 2 rfl rfl rfl .nil) (q_load rfl rfl Try.isAgg27 (.obj 0 rfl rfl)) rfl) All.nil)) (All.cons (fun γ => (All.cons (QOb.plain [(0, .pointer (some ⟨b0, 0, none⟩))] rfl rfl (.o rfl (by decide) .nil) (q_move rfl rfl) rfl) All.nil)) (All.cons (fun γ => (All.cons (QOb.plain [(16, .pointer (some ⟨b0, 0, none⟩))] rfl rfl (.w 4 rfl rfl rfl .nil) (q_nil rfl rfl) rfl) All.nil)) (All.cons (fun γ => (All.cons (QOb.plain [(17, .pointer (some ⟨b0, 0, none⟩))] rfl rfl (.w 5 rfl rfl rfl .nil) (q_fa rfl rfl Try.underlying152 rfl rfl Try.sizeOf3 rfl) rfl) All.nil)) (All.cons (fun γ => (All.cons (QOb.plain [(18, .pointer (some ⟨b0, 1, none⟩))] rfl rfl (.w 6 rfl rfl rfl .nil) (q_load rfl rfl Try.isAgg3 (.obj 0 rfl rfl)) rfl) All.nil)) (All.cons (fun γ => (All.cons (QOb.plain [(20, .tuple #[.int .i64 s3v.1, .int .i64 s3v.2.1, .int .i64 s3v.2.2])] rfl rfl (.w 8 rfl rfl rfl .nil) (q_move rfl rfl) rfl) All.nil)) (All.cons (fun γ => (All.cons (QOb.plain [(11, .tuple #[.int .i64 s3v.1, .int .i64 s3v.2.1, .int .i64 s3v.2.2])] rfl rfl (.w 9 rfl rfl rfl .nil) (q_ext rfl rfl rfl) rfl) All.nil)) (All.cons (fun γ => (All.cons (QOb.plain [(11, .tuple #[.int .i64 s3v.1, .int .i64 s3v.2.1, .int .i64 s3v.2.2])] rfl rfl (.w 9 rfl rfl rfl .nil) (q_ext rfl rfl rfl) rfl) All.nil)) (All.cons (fun γ => (All.cons (QOb.plain [(11, .tuple #[.int .i64 s3v.1, .int .i64 s3v.2.1, .int .i64 s3v.2.2])] rfl rfl (.w 9 rfl rfl rfl .nil) (q_ext rfl rfl rfl) rfl) All.nil)) (All.cons (fun γ => (All.cons (QOb.plain [(21, .int .i64 s3v.1)] rfl rfl (.w 10 rfl rfl rfl .nil) (q_asg rfl rfl) rfl) All.nil)) (All.cons (fun γ => (All.cons (QOb.plain [(22, .int .i64 s3v.2.1)] rfl rfl (.w 11 rfl rfl rfl .nil) (q_asg rfl rfl) rfl) All.nil)) (All.cons (fun γ => (All.cons (QOb.plain [(23, .int .i64 s3v.2.2)] rfl rfl (.w 12 rfl rfl rfl .nil) (q_asg rfl rfl) rfl) All.nil)) All.nil)))))))))))))))
 exact (All.cons (fun γ => EOb.mk (Z := Unit) [(15, .slice a0_0 x0_0.length c0_0), (19, .int .i64 x0_1)] (fun z => ()) rfl rfl (.w 3 rfl rfl rfl (.w 7 rfl rfl rfl .nil)) (re_call (vs := [.slice a0_0 x0_0.length c0_0, .int .i64 x0_1]) (cap := []) (A := []) (rst := [obj b0 152 [.slice a0_0 x0_0.length c0_0, .int .i64 x0_1, .int .i64 x0_2], F]) rfl rfl rfl rfl rfl rfl Try.call130 (.sel 0 rfl (.sel 0 rfl (.nil _))) (synodref1_Int.calls _ _ k a0_0 c0_0 x0_0 x0_1 (h0_0.lend 1 rfl) hc0_0 hm0_0) hs5v) (fun _ => ⟨rfl, rfl, rfl, rfl, rfl, rfl, rfl, rfl, trivial⟩) (fun _ => .inr rfl) (fun z => Ent.refl _)) All.nil)
 intro g6v
 refine nrm_then (sim_seq (sim_region ?_))
 refine simL_val (q_move rfl rfl) rfl rfl rfl ?_
 refine simL_val (q_move rfl rfl) rfl rfl rfl ?_
 refine simL_val (q_nil rfl rfl) rfl rfl rfl ?_
 refine simL_val (q_fa rfl rfl Try.underlying152 rfl rfl Try.sizeOf3 rfl) rfl rfl rfl ?_
 refine simL_do (re_store 0 rfl rfl rfl Try.sizeOf3 rfl rfl (one_of (by rfl)) rfl rfl) rfl rfl ?_
 intro _
 refine simL_nil (nrm_then (sim_seq (sim_region ?_)))
 refine simL_val (q_move rfl rfl) rfl rfl rfl ?_
 refine simL_val (q_move rfl rfl) rfl rfl rfl ?_
 refine simL_val (q_nil rfl rfl) rfl rfl rfl ?_
 refine simL_val (q_fa rfl rfl Try.underlying152 rfl rfl Try.sizeOf3 rfl) rfl rfl rfl ?_
 refine simL_val (q_load rfl rfl Try.isAgg3 (.obj 0 rfl rfl)) rfl rfl rfl ?_
 refine simL_val (q_move rfl rfl) rfl rfl rfl ?_
 refine simL_val (q_add rfl rfl rfl) rfl rfl rfl ?_
 refine simL_val (q_nil rfl rfl) rfl rfl rfl ?_
 refine simL_val (q_fa rfl rfl Try.underlying152 rfl rfl Try.sizeOf3 rfl) rfl rfl rfl ?_
 refine simL_do (re_store 0 rfl rfl rfl Try.sizeOf3 rfl rfl (one_of (by rfl)) rfl rfl) rfl rfl ?_
 intro _
 refine simL_nil (nrm_then (sim_seq (sim_region ?_)))
 refine simL_val (q_move rfl rfl) rfl rfl rfl ?_
 refine simL_val (q_asg rfl rfl) rfl rfl rfl (simL_nil (nrm_then (sim_rtn ?_)))
 exact rtn_fn () rfl rfl rfl (.sel 0 rfl (.sel 0 rfl (.nil _)))
 refine sim_seq (sim_region ?_)
 refine simL_val (q_asg rfl rfl) rfl rfl rfl (simL_nil (nrm_then (sim_rtn ?_)))
 refine rtn_then ?_
 exact rtn_fn () rfl rfl rfl (.sel 0 rfl (.sel 0 rfl (.nil _)))

def synodref_Bytes.f (x0 : List UInt8) : Option (List UInt8) := if (([] : List UInt8).length + x0.length) * 1 ≤ 140737488355328 then (some (([] : List UInt8) ++ x0)) else none
theorem synodref_Bytes.calls (W : World) (F : HA) (a0 : Option Addr) (c0 : Nat) (x0 : List UInt8) (h0 : Rd F a0 (encB x0)) (hc0 : x0.length ≤ c0) (hm0 : c0 ≤ maxLen) :
    Fn Try.prog W 62 [.slice a0 x0.length c0] [] F (synodref_Bytes.f x0) (fun (r : List UInt8) (y : Option Addr × Nat) => .slice y.1 r.length y.2) (fun r y => [Row 5 1 y.1 r.length y.2 (encB r)]) := by
 unfold synodref_Bytes.f
 refine fn_intro 6 Try.func62 rfl Try.ntmps62 rfl ?_
 refine sim_seq (sim_region ?_)
 refine simL_val (q_asg rfl rfl) rfl rfl rfl (simL_nil (nrm_then (sim_seq (sim_region ?_))))
 refine simL_eff (re_lit0 rfl Try.underlying27 elt5) rfl rfl rfl ?_
 intro b1v
 refine simL_val (q_move rfl rfl) rfl rfl rfl ?_
 refine simL_ask (fun hb3v => ?_)
 refine simL_eff (re_appendb 0 rfl rfl rfl Try.underlying27 elt5 rfl (h0.rds 0 rfl) hb3v) rfl rfl rfl ?_
 intro y2v
 refine simL_val (q_asg rfl rfl) rfl rfl rfl (simL_nil (nrm_then (sim_rtn ?_)))
 exact rtn_fn (y2v.1, y2v.2) rfl rfl rfl (.sel 0 rfl (.sel 0 rfl (.nil _)))

def synodref1_Reader_Bytes.f (k : Nat) (x0_0 : List UInt8) (x0_1 : Int) (x0_2 : Int) (x1 : Int) : Option (List UInt8 × Int × Int) := (synodref1_Reader_Int.f k x0_0 x0_1 x0_2).bind fun s1v => (if s1v.2.2 = (0 : Int) then ((if max x1 (0 : Int) < s1v.1 then (some 3) else (if IntKind.i64.wrap ((x0_0.length : Int) - s1v.2.1) < s1v.1 then (some 2) else (some s1v.2.2))).bind fun s6v => (if s6v = (0 : Int) then (if 0 ≤ IntKind.i64.wrap ((IntKind.i64.wrap (s1v.2.1 + s1v.1)) - s1v.1) ∧ IntKind.i64.wrap ((IntKind.i64.wrap (s1v.2.1 + s1v.1)) - s1v.1) ≤ IntKind.i64.wrap (s1v.2.1 + s1v.1) ∧ IntKind.i64.wrap (s1v.2.1 + s1v.1) ≤ (x0_0.length : Int) then ((synodref_Bytes.f (cut x0_0 (IntKind.i64.wrap ((IntKind.i64.wrap (s1v.2.1 + s1v.1)) - s1v.1)) (IntKind.i64.wrap (s1v.2.1 + s1v.1)))).bind fun s22v => (some (s22v, IntKind.i64.wrap (s1v.2.1 + s1v.1), s6v))) else none) else (some (([] : List UInt8), x0_1, s6v)))) else (some (([] : List UInt8), s1v.2.1, s1v.2.2)))
theorem synodref1_Reader_Bytes.calls (W : World) (F : HA) (k : Nat) (b0 : Nat) (a0_0 : Option Addr) (c0_0 : Nat) (x0_0 : List UInt8) (x0_1 : Int) (x0_2 : Int) (x1 : Int) (h0_0 : Rd F a0_0 (encB x0_0)) (hc0_0 : x0_0.length ≤ c0_0) (hm0_0 : c0_0 ≤ maxLen) :
    Fn Try.prog W 92 [.pointer (some ⟨b0, 0, none⟩), .int .i64 x1] [obj b0 152 [.slice a0_0 x0_0.length c0_0, .int .i64 x0_1, .int .i64 x0_2]] F (synodref1_Reader_Bytes.f k x0_0 x0_1 x0_2 x1) (fun (r : List UInt8 × Int × Int) (y : Option Addr × Nat) => .slice y.1 r.1.length y.2) (fun r y => [Row 5 1 y.1 r.1.length y.2 (encB r.1), obj b0 152 [.slice a0_0 x0_0.length c0_0, .int .i64 r.2.1, .int .i64 r.2.2]]) := by
 unfold synodref1_Reader_Bytes.f
 refine fn_intro 74 Try.func92 rfl Try.ntmps92 rfl ?_
 refine sim_seq (sim_region ?_)
 refine simL_val (q_asg rfl rfl) rfl rfl rfl (simL_nil (nrm_then (sim_seq (sim_region ?_))))
 refine simL_val (q_move rfl rfl) rfl rfl rfl ?_
 refine simL_val (q_nil rfl rfl) rfl rfl rfl ?_
 refine simL_val (q_fa rfl rfl Try.underlying152 rfl rfl Try.sizeOf3 rfl) rfl rfl rfl ?_
 refine simL_val (q_load rfl rfl Try.isAgg3 (.obj 0 rfl rfl)) rfl rfl rfl ?_
 refine simL_val (q_asg rfl rfl) rfl rfl rfl (simL_nil (nrm_then (sim_seq (sim_region ?_))))
 refine simL_val (q_move rfl rfl) rfl rfl rfl ?_
 refine simL_bind (fun s1v hs3v => ?_)
 refine simL_eff (re_call (vs := [.pointer (some ⟨b0, 0, none⟩)]) (cap := []) (A := [obj b0 152 [.slice a0_0 x0_0.length c0_0, .int .i64 x0_1, .int .i64 x0_2]]) (rst := [F]) rfl rfl rfl rfl rfl rfl Try.call85 (.sel 0 rfl (.sel 0 rfl (.nil _))) (synodref1_Reader_Int.calls _ _ k b0 a0_0 c0_0 x0_0 x0_1 x0_2 (h0_0.lend 0 rfl) hc0_0 hm0_0) hs3v) rfl rfl rfl ?_
 intro y2v
 refine simL_val (q_asg rfl rfl) rfl rfl rfl (simL_nil (nrm_then (sim_seq (sim_seq (sim_region ?_)))))
 refine simL_val (q_move rfl rfl) rfl rfl rfl ?_
 refine simL_val (q_nil rfl rfl) rfl rfl rfl ?_
 refine simL_val (q_fa rfl rfl Try.underlying152 rfl rfl Try.sizeOf3 rfl) rfl rfl rfl ?_
 refine simL_val (q_load rfl rfl Try.isAgg3 (.obj 0 rfl rfl)) rfl rfl rfl ?_
 refine simL_val (q_neq rfl rfl rfl) rfl rfl rfl (simL_nil (nrm_then ?_))
 refine sim_condn rfl (fun h4v => ?_) (fun h5v => ?_)
 refine sim_skip ?_
 refine nrm_then ?_
 refine sim_cut (S := Int) (Unit) (fun s y => [(0, .pointer (some ⟨b0, 0, none⟩)), (5, .int .i64 x0_1), (6, .int .i64 s1v.1)]) (fun s y => [obj b0 152 [.slice a0_0 x0_0.length c0_0, .int .i64 s1v.2.1, .int .i64 s], F]) ?_ ?_
 refine sim_seq (sim_region ?_)
 refine simL_val (q_move rfl rfl) rfl rfl rfl ?_
 refine simL_val (q_move rfl rfl) rfl rfl rfl ?_
 refine simL_val (q_max rfl rfl rfl) rfl rfl rfl ?_
 refine simL_val (q_gtr rfl rfl rfl) rfl rfl rfl (simL_nil (nrm_then ?_))
 refine sim_cond rfl (fun h8v => ?_) (fun h9v => ?_)
 refine sim_region ?_
 refine simL_val (q_move rfl rfl) rfl rfl rfl ?_
 refine simL_val (q_nil rfl rfl) rfl rfl rfl ?_
 refine simL_val (q_fa rfl rfl Try.underlying152 rfl rfl Try.sizeOf3 rfl) rfl rfl rfl ?_
 refine simL_do (re_store 0 rfl rfl rfl Try.sizeOf3 rfl rfl (one_of (by rfl)) rfl rfl) rfl rfl ?_
 intro _
 refine simL_nil ?_
 exact nrm_cut (s := 3) () ⟨rfl, rfl, rfl, trivial⟩ (.sel 0 rfl (.sel 0 rfl (.nil _)))
 refine sim_seq ?_
 refine sim_draw (Γ := Unit) () [[], [], [1], [1, 2], [1, 2, 3], [1, 2, 3, 4], [], [6], [6, 7], [6, 7, 8], [1, 2, 3, 4, 5, 6, 7, 8, 9], [0, 1, 2, 3, 4, 5, 6, 7, 8, 9, 10]] [] [0, 1, 2, 3, 4, 5, 6, 7, 8, 9, 10, 11] (fun i => [[0], [0], [0], [0], [0], [0], [0], [0], [0], [0], [0], [0]].getD i []) (fun i => [[], [], [], [], [], [], [], [], [], [], [], []].getD i []) (fun γ i => [.int .i64 s1v.1, .pointer (some ⟨b0, 0, none⟩), .pointer (some ⟨b0, 0, none⟩), .pointer (some ⟨b0, 0, none⟩), .slice a0_0 x0_0.length c0_0, .int .i64 (x0_0.length : Int), .pointer (some ⟨b0, 0, none⟩), .pointer (some ⟨b0, 0, none⟩), .pointer (some ⟨b0, 1, none⟩), .int .i64 s1v.2.1, .int .i64 (IntKind.i64.wrap ((x0_0.length : Int) - s1v.2.1)), .bool (decide (IntKind.i64.wrap ((x0_0.length : Int) - s1v.2.1) < s1v.1))].getD i undef) (fun j γ => [[obj b0 152 [.slice a0_0 x0_0.length c0_0, .int .i64 s1v.2.1, .int .i64 s1v.2.2], F]].getD j []) (fun γ => [(0, .pointer (some ⟨b0, 0, none⟩)), (5, .int .i64 x0_1), (6, .int .i64 s1v.1), (36, .bool (decide (IntKind.i64.wrap ((x0_0.length : Int) - s1v.2.1) < s1v.1)))]) mixed (by decide) (by decide) (by decide) (by decide) (by decide) (by decide) (by decide) 74 rfl (by decide) (by decide) (by decide) (Ent.refl _) ?_ ?_ (fun _ => ⟨rfl, rfl, rfl, rfl, trivial⟩) ?_
 exact (All.cons (fun γ => (All.cons (QOb.plain [(6, .int .i64 s1v.1)] rfl rfl (.o rfl (by decide) .nil) (q_move rfl rfl) rfl) All.nil)) (All.cons (fun γ => (All.cons (QOb.plain [(0, .pointer (some ⟨b0, 0, none⟩))] rfl rfl (.o rfl (by decide) .nil) (q_move rfl rfl) rfl) All.nil)) (All.cons (fun γ => (All.cons (QOb.plain [(26, .pointer (some ⟨b0, 0, none⟩))] rfl rfl (.w 1 rfl rfl rfl .nil) (q_nil rfl rfl) rfl) All.nil)) (All.cons (fun γ => (All.cons (QOb.plain [(27, .pointer (some ⟨b0, 0, none⟩))] rfl rfl (.w 2 rfl rfl rfl .nil) (q_fa rfl rfl Try.underlying152 rfl rfl Try.sizeOf27 rfl) rfl) All.nil)) (All.cons (fun γ => (All.cons (QOb.plain [(28, .pointer (some ⟨b0, 0, none⟩))] rfl rfl (.w 3 rfl rfl rfl .nil) (q_load rfl rfl Try.isAgg27 (.obj 0 rfl rfl)) rfl) All.nil)) (All.cons (fun γ => (All.cons (QOb.plain [(29, .slice a0_0 x0_0.length c0_0)] rfl rfl (.w 4 rfl rfl rfl .nil) (q_len rfl rfl rfl Try.underlying27) rfl) All.nil)) (All.cons (fun γ => (All.cons (QOb.plain [(0, .pointer (some ⟨b0, 0, none⟩))] rfl rfl (.o rfl (by decide) .nil) (q_move rfl rfl) rfl) All.nil)) (All.cons (fun γ => (All.cons (QOb.plain [(31, .pointer (some ⟨b0, 0, none⟩))] rfl rfl (.w 6 rfl rfl rfl .nil) (q_nil rfl rfl) rfl) All.nil)) (All.cons (fun γ => (All.cons (QOb.plain [(32, .pointer (some ⟨b0, 0, none⟩))] rfl rfl (.w 7 rfl rfl rfl .nil) (q_fa rfl rfl Try.underlying152 rfl rfl Try.sizeOf3 rfl) rfl) All.nil)) (All.cons (fun γ => (All.cons (QOb.plain [(33, .pointer (some ⟨b0, 1, none⟩))] rfl rfl (.w 8 rfl rfl rfl .nil) (q_load rfl rfl Try.isAgg3 (.obj 0 rfl rfl)) rfl) All.nil)) (All.cons (fun γ => (All.cons (QOb.plain [(30, .int .i64 (x0_0.length : Int)), (34, .int .i64 s1v.2.1)] rfl rfl (.w 5 rfl rfl rfl (.w 9 rfl rfl rfl .nil)) (q_sub rfl rfl rfl) rfl) All.nil)) (All.cons (fun γ => (All.cons (QOb.plain [(25, .int .i64 s1v.1), (35, .int .i64 (IntKind.i64.wrap ((x0_0.length : Int) - s1v.2.1)))] rfl rfl (.w 0 rfl rfl rfl (.w 10 rfl rfl rfl .nil)) (q_gtr rfl rfl rfl) rfl) All.nil)) All.nil))))))))))))
 exact All.nil
 intro g10v
 refine nrm_then ?_
 refine sim_cond rfl (fun h11v => ?_) (fun h12v => ?_)
 refine sim_region ?_
 refine simL_val (q_move rfl rfl) rfl rfl rfl ?_
 refine simL_val (q_nil rfl rfl) rfl rfl rfl ?_
 refine simL_val (q_fa rfl rfl Try.underlying152 rfl rfl Try.sizeOf3 rfl) rfl rfl rfl ?_
 refine simL_do (re_store 0 rfl rfl rfl Try.sizeOf3 rfl rfl (one_of (by rfl)) rfl rfl) rfl rfl ?_
 intro _
 refine simL_nil ?_
 exact nrm_cut (s := 2) () ⟨rfl, rfl, rfl, trivial⟩ (.sel 0 rfl (.sel 0 rfl (.nil _)))
 refine sim_skip ?_
 exact nrm_cut (s := s1v.2.2) () ⟨rfl, rfl, rfl, trivial⟩ (.sel 0 rfl (.sel 0 rfl (.nil _)))
 intro s6v y7v
 refine sim_seq (sim_seq (sim_region ?_))
 refine simL_val (q_move rfl rfl) rfl rfl rfl ?_
 refine simL_val (q_nil rfl rfl) rfl rfl rfl ?_
 refine simL_val (q_fa rfl rfl Try.underlying152 rfl rfl Try.sizeOf3 rfl) rfl rfl rfl ?_
 refine simL_val (q_load rfl rfl Try.isAgg3 (.obj 0 rfl rfl)) rfl rfl rfl ?_
 refine simL_val (q_neq rfl rfl rfl) rfl rfl rfl (simL_nil (nrm_then ?_))
 refine sim_condn rfl (fun h13v => ?_) (fun h14v => ?_)
 refine sim_skip ?_
 refine nrm_then (sim_seq (sim_region ?_))
 refine simL_val (q_move rfl rfl) rfl rfl rfl ?_
 refine simL_val (q_move rfl rfl) rfl rfl rfl ?_
 refine simL_val (q_nil rfl rfl) rfl rfl rfl ?_
 refine simL_val (q_fa rfl rfl Try.underlying152 rfl rfl Try.sizeOf3 rfl) rfl rfl rfl ?_
 refine simL_val (q_load rfl rfl Try.isAgg3 (.obj 0 rfl rfl)) rfl rfl rfl ?_
 refine simL_val (q_move rfl rfl) rfl rfl rfl ?_
 refine simL_val (q_add rfl rfl rfl) rfl rfl rfl ?_
 refine simL_val (q_nil rfl rfl) rfl rfl rfl ?_
 refine simL_val (q_fa rfl rfl Try.underlying152 rfl rfl Try.sizeOf3 rfl) rfl rfl rfl ?_
 refine simL_do (re_store 0 rfl rfl rfl Try.sizeOf3 rfl rfl (one_of (by rfl)) rfl rfl) rfl rfl ?_
 intro _
 refine simL_nil (nrm_then (sim_seq ?_))
 refine sim_ask (fun hb15v => ?_)
 obtain ⟨a16v, c17v, hS18v, hr19v, hc20v, hm21v⟩ := slice_pre (lo := IntKind.i64.wrap ((IntKind.i64.wrap (s1v.2.1 + s1v.1)) - s1v.1)) (hi := IntKind.i64.wrap (s1v.2.1 + s1v.1)) h0_0 hc0_0 hb15v
 refine sim_bind (fun s22v hs24v => ?_)
 refine sim_draw (Γ := (Option Addr × Nat)) (none, 0) [[], [0], [0, 1], [0, 1, 2], [], [4], [4, 5], [4, 5, 6], [], [4, 5, 6, 7, 8], [], [10], [10, 11], [10, 11, 12], [0, 1, 2, 3, 4, 5, 6, 7, 8, 9, 10, 11, 12, 13], [0, 1, 2, 3, 4, 5, 6, 7, 8, 9, 10, 11, 12, 13, 14], [0, 1, 2, 3, 4, 5, 6, 7, 8, 9, 10, 11, 12, 13, 14, 15]] [15] [0, 1, 2, 3, 4, 5, 6, 7, 8, 9, 10, 11, 12, 13, 14, 16] (fun i => [[0], [0], [0], [0], [0], [0], [0], [0], [0], [0], [0], [0], [0], [0], [0], [], [1]].getD i []) (fun i => [[], [], [], [], [], [], [], [], [], [], [], [], [], [], [], [0, 1, 2, 3, 4, 5, 6, 7, 8, 9, 10, 11, 12, 13, 14], []].getD i []) (fun γ i => [.pointer (some ⟨b0, 0, none⟩), .pointer (some ⟨b0, 0, none⟩), .pointer (some ⟨b0, 0, none⟩), .slice a0_0 x0_0.length c0_0, .pointer (some ⟨b0, 0, none⟩), .pointer (some ⟨b0, 0, none⟩), .pointer (some ⟨b0, 1, none⟩), .int .i64 (IntKind.i64.wrap (s1v.2.1 + s1v.1)), .int .i64 s1v.1, .int .i64 (IntKind.i64.wrap ((IntKind.i64.wrap (s1v.2.1 + s1v.1)) - s1v.1)), .pointer (some ⟨b0, 0, none⟩), .pointer (some ⟨b0, 0, none⟩), .pointer (some ⟨b0, 1, none⟩), .int .i64 (IntKind.i64.wrap (s1v.2.1 + s1v.1)), .slice a16v ((cut x0_0 (IntKind.i64.wrap ((IntKind.i64.wrap (s1v.2.1 + s1v.1)) - s1v.1)) (IntKind.i64.wrap (s1v.2.1 + s1v.1))).length) c17v, .slice γ.1 s22v.length γ.2, .slice γ.1 s22v.length γ.2].getD i undef) (fun j γ => [[obj b0 152 [.slice a0_0 x0_0.length c0_0, .int .i64 (IntKind.i64.wrap (s1v.2.1 + s1v.1)), .int .i64 s6v], F], [Row 5 1 γ.1 s22v.length γ.2 (encB s22v), obj b0 152 [.slice a0_0 x0_0.length c0_0, .int .i64 (IntKind.i64.wrap (s1v.2.1 + s1v.1)), .int .i64 s6v], F]].getD j []) (fun γ => [(4, .slice γ.1 s22v.length γ.2)]) mixed (by decide) (by decide) (by decide) (by decide) (by decide) (by decide) (by decide) 74 rfl (by decide) (by decide) (by decide) (Ent.refl _) ?_ ?_ (fun _ => ⟨rfl, trivial⟩) ?_
 exact (All.cons (fun γ => (All.cons (QOb.plain [(0, .pointer (some ⟨b0, 0, none⟩))] rfl rfl (.o rfl (by decide) .nil) (q_move rfl rfl) rfl) All.nil)) (All.cons (fun γ => (All.cons (QOb.plain [(58, .pointer (some ⟨b0, 0, none⟩))] rfl rfl (.w 0 rfl rfl rfl .nil) (q_nil rfl rfl) rfl) All.nil)) (All.cons (fun γ => (All.cons (QOb.plain [(59, .pointer (some ⟨b0, 0, none⟩))] rfl rfl (.w 1 rfl rfl rfl .nil) (q_fa rfl rfl Try.underlying152 rfl rfl Try.sizeOf27 rfl) rfl) All.nil)) (All.cons (fun γ => (All.cons (QOb.plain [(60, .pointer (some ⟨b0, 0, none⟩))] rfl rfl (.w 2 rfl rfl rfl .nil) (q_load rfl rfl Try.isAgg27 (.obj 0 rfl rfl)) rfl) All.nil)) (All.cons (fun γ => (All.cons (QOb.plain [(0, .pointer (some ⟨b0, 0, none⟩))] rfl rfl (.o rfl (by decide) .nil) (q_move rfl rfl) rfl) All.nil)) (All.cons (fun γ => (All.cons (QOb.plain [(62, .pointer (some ⟨b0, 0, none⟩))] rfl rfl (.w 4 rfl rfl rfl .nil) (q_nil rfl rfl) rfl) All.nil)) (All.cons (fun γ => (All.cons (QOb.plain [(63, .pointer (some ⟨b0, 0, none⟩))] rfl rfl (.w 5 rfl rfl rfl .nil) (q_fa rfl rfl Try.underlying152 rfl rfl Try.sizeOf3 rfl) rfl) All.nil)) (All.cons (fun γ => (All.cons (QOb.plain [(64, .pointer (some ⟨b0, 1, none⟩))] rfl rfl (.w 6 rfl rfl rfl .nil) (q_load rfl rfl Try.isAgg3 (.obj 0 rfl rfl)) rfl) All.nil)) (All.cons (fun γ => (All.cons (QOb.plain [(6, .int .i64 s1v.1)] rfl rfl (.o rfl (by decide) .nil) (q_move rfl rfl) rfl) All.nil)) (All.cons (fun γ => (All.cons (QOb.plain [(65, .int .i64 (IntKind.i64.wrap (s1v.2.1 + s1v.1))), (66, .int .i64 s1v.1)] rfl rfl (.w 7 rfl rfl rfl (.w 8 rfl rfl rfl .nil)) (q_sub rfl rfl rfl) rfl) All.nil)) (All.cons (fun γ => (All.cons (QOb.plain [(0, .pointer (some ⟨b0, 0, none⟩))] rfl rfl (.o rfl (by decide) .nil) (q_move rfl rfl) rfl) All.nil)) (All.cons (fun γ => (All.cons (QOb.plain [(68, .pointer (some ⟨b0, 0, none⟩))] rfl rfl (.w 10 rfl rfl rfl .nil) (q_nil rfl rfl) rfl) All.nil)) (All.cons (fun γ => (All.cons (QOb.plain [(69, .pointer (some ⟨b0, 0, none⟩))] rfl rfl (.w 11 rfl rfl rfl .nil) (q_fa rfl rfl Try.underlying152 rfl rfl Try.sizeOf3 rfl) rfl) All.nil)) (All.cons (fun γ => (All.cons (QOb.plain [(70, .pointer (some ⟨b0, 1, none⟩))] rfl rfl (.w 12 rfl rfl rfl .nil) (q_load rfl rfl Try.isAgg3 (.obj 0 rfl rfl)) rfl) All.nil)) (All.cons (fun γ => (All.cons (QOb.plain [(61, .slice a0_0 x0_0.length c0_0), (67, .int .i64 (IntKind.i64.wrap ((IntKind.i64.wrap (s1v.2.1 + s1v.1)) - s1v.1))), (71, .int .i64 (IntKind.i64.wrap (s1v.2.1 + s1v.1)))] rfl rfl (.w 3 rfl rfl rfl (.w 9 rfl rfl rfl (.w 13 rfl rfl rfl .nil))) (q_sub_ro (l := x0_0) (lo' := IntKind.i64.wrap ((IntKind.i64.wrap (s1v.2.1 + s1v.1)) - s1v.1)) (hi' := IntKind.i64.wrap (s1v.2.1 + s1v.1)) rfl rfl rfl rfl Try.underlying27 Try.sizeOf5 (.inr ⟨_, rfl⟩) (.inr ⟨_, rfl⟩) hb15v hc0_0 hS18v) rfl) All.nil)) (All.cons (fun γ => (All.cons (QOb.plain [(73, .slice γ.1 s22v.length γ.2)] rfl rfl (.w 15 rfl rfl rfl .nil) (q_asg rfl rfl) rfl) All.nil)) All.nil))))))))))))))))
 exact (All.cons (fun γ => EOb.mk (Z := Option Addr × Nat) [(72, .slice a16v ((cut x0_0 (IntKind.i64.wrap ((IntKind.i64.wrap (s1v.2.1 + s1v.1)) - s1v.1)) (IntKind.i64.wrap (s1v.2.1 + s1v.1))).length) c17v)] (fun z => z) rfl rfl (.w 14 rfl rfl rfl .nil) (re_call (vs := [.slice a16v ((cut x0_0 (IntKind.i64.wrap ((IntKind.i64.wrap (s1v.2.1 + s1v.1)) - s1v.1)) (IntKind.i64.wrap (s1v.2.1 + s1v.1))).length) c17v]) (cap := []) (A := []) (rst := [obj b0 152 [.slice a0_0 x0_0.length c0_0, .int .i64 (IntKind.i64.wrap (s1v.2.1 + s1v.1)), .int .i64 s6v], F]) rfl rfl rfl rfl rfl rfl Try.call62 (.sel 0 rfl (.sel 0 rfl (.nil _))) (synodref_Bytes.calls _ _ a16v c17v (cut x0_0 (IntKind.i64.wrap ((IntKind.i64.wrap (s1v.2.1 + s1v.1)) - s1v.1)) (IntKind.i64.wrap (s1v.2.1 + s1v.1))) (hr19v.lend 1 rfl) hc20v (Nat.le_trans hm21v hm0_0)) hs24v) (fun _ => ⟨rfl, rfl, rfl, rfl, rfl, rfl, rfl, rfl, rfl, rfl, rfl, rfl, rfl, rfl, rfl, trivial⟩) (fun _ => .inr rfl) (fun z => Ent.refl _)) All.nil)
 intro g25v
 refine nrm_then (sim_rtn ?_)
 exact rtn_fn (g25v.1, g25v.2) rfl rfl rfl (.sel 0 rfl (.sel 0 rfl (.sel 0 rfl (.nil _))))
 refine sim_seq (sim_region ?_)
 refine simL_val (q_move rfl rfl) rfl rfl rfl ?_
 refine simL_val (q_move rfl rfl) rfl rfl rfl ?_
 refine simL_val (q_nil rfl rfl) rfl rfl rfl ?_
 refine simL_val (q_fa rfl rfl Try.underlying152 rfl rfl Try.sizeOf3 rfl) rfl rfl rfl ?_
 refine simL_do (re_store 0 rfl rfl rfl Try.sizeOf3 rfl rfl (one_of (by rfl)) rfl rfl) rfl rfl ?_
 intro _
 refine simL_nil (nrm_then (sim_seq (sim_region ?_)))
 refine simL_val (q_asg rfl rfl) rfl rfl rfl (simL_nil (nrm_then (sim_rtn ?_)))
 refine rtn_then ?_
 exact rtn_fn (none, 0) rfl rfl rfl (.row_nil (.sel 0 rfl (.sel 0 rfl (.nil _))))
 refine sim_seq (sim_region ?_)
 refine simL_val (q_asg rfl rfl) rfl rfl rfl (simL_nil (nrm_then (sim_rtn ?_)))
 refine rtn_then ?_
 exact rtn_fn (none, 0) rfl rfl rfl (.row_nil (.sel 0 rfl (.sel 0 rfl (.nil _))))

def synodref1_Reader_Left.f (x0_0 : List UInt8) (x0_1 : Int) (x0_2 : Int) : Option (Int) := some (IntKind.i64.wrap ((x0_0.length : Int) - x0_1))
theorem synodref1_Reader_Left.calls (W : World) (F : HA) (b0 : Nat) (a0_0 : Option Addr) (c0_0 : Nat) (x0_0 : List UInt8) (x0_1 : Int) (x0_2 : Int) (h0_0 : Rd F a0_0 (encB x0_0)) (hc0_0 : x0_0.length ≤ c0_0) (hm0_0 : c0_0 ≤ maxLen) :
    Fn Try.prog W 131 [.pointer (some ⟨b0, 0, none⟩)] [obj b0 152 [.slice a0_0 x0_0.length c0_0, .int .i64 x0_1, .int .i64 x0_2]] F (synodref1_Reader_Left.f x0_0 x0_1 x0_2) (fun (r : Int) (y : Unit) => .int .i64 r) (fun r y => [obj b0 152 [.slice a0_0 x0_0.length c0_0, .int .i64 x0_1, .int .i64 x0_2]]) := by
 unfold synodref1_Reader_Left.f
 refine fn_intro 13 Try.func131 rfl Try.ntmps131 rfl ?_
 refine sim_seq (sim_region ?_)
 refine simL_val (q_asg rfl rfl) rfl rfl rfl (simL_nil (nrm_then (sim_seq ?_)))
 refine sim_draw (Γ := Unit) () [[], [0], [0, 1], [0, 1, 2], [0, 1, 2, 3], [], [5], [5, 6], [5, 6, 7], [0, 1, 2, 3, 4, 5, 6, 7, 8], [0, 1, 2, 3, 4, 5, 6, 7, 8, 9]] [] [0, 1, 2, 3, 4, 5, 6, 7, 8, 9, 10] (fun i => [[0], [0], [0], [0], [0], [0], [0], [0], [0], [0], [0]].getD i []) (fun i => [[], [], [], [], [], [], [], [], [], [], []].getD i []) (fun γ i => [.pointer (some ⟨b0, 0, none⟩), .pointer (some ⟨b0, 0, none⟩), .pointer (some ⟨b0, 0, none⟩), .slice a0_0 x0_0.length c0_0, .int .i64 (x0_0.length : Int), .pointer (some ⟨b0, 0, none⟩), .pointer (some ⟨b0, 0, none⟩), .pointer (some ⟨b0, 1, none⟩), .int .i64 x0_1, .int .i64 (IntKind.i64.wrap ((x0_0.length : Int) - x0_1)), .int .i64 (IntKind.i64.wrap ((x0_0.length : Int) - x0_1))].getD i undef) (fun j γ => [[obj b0 152 [.slice a0_0 x0_0.length c0_0, .int .i64 x0_1, .int .i64 x0_2], F]].getD j []) (fun γ => [(2, .int .i64 (IntKind.i64.wrap ((x0_0.length : Int) - x0_1)))]) mixed (by decide) (by decide) (by decide) (by decide) (by decide) (by decide) (by decide) 13 rfl (by decide) (by decide) (by decide) (Ent.refl _) ?_ ?_ (fun _ => ⟨rfl, trivial⟩) ?_
 exact (All.cons (fun γ => (All.cons (QOb.plain [(0, .pointer (some ⟨b0, 0, none⟩))] rfl rfl (.o rfl (by decide) .nil) (q_move rfl rfl) rfl) All.nil)) (All.cons (fun γ => (All.cons (QOb.plain [(3, .pointer (some ⟨b0, 0, none⟩))] rfl rfl (.w 0 rfl rfl rfl .nil) (q_nil rfl rfl) rfl) All.nil)) (All.cons (fun γ => (All.cons (QOb.plain [(4, .pointer (some ⟨b0, 0, none⟩))] rfl rfl (.w 1 rfl rfl rfl .nil) (q_fa rfl rfl Try.underlying152 rfl rfl Try.sizeOf27 rfl) rfl) All.nil)) (All.cons (fun γ => (All.cons (QOb.plain [(5, .pointer (some ⟨b0, 0, none⟩))] rfl rfl (.w 2 rfl rfl rfl .nil) (q_load rfl rfl Try.isAgg27 (.obj 0 rfl rfl)) rfl) All.nil)) (All.cons (fun γ => (All.cons (QOb.plain [(6, .slice a0_0 x0_0.length c0_0)] rfl rfl (.w 3 rfl rfl rfl .nil) (q_len rfl rfl rfl Try.underlying27) rfl) All.nil)) (All.cons (fun γ => (All.cons (QOb.plain [(0, .pointer (some ⟨b0, 0, none⟩))] rfl rfl (.o rfl (by decide) .nil) (q_move rfl rfl) rfl) All.nil)) (All.cons (fun γ => (All.cons (QOb.plain [(8, .pointer (some ⟨b0, 0, none⟩))] rfl rfl (.w 5 rfl rfl rfl .nil) (q_nil rfl rfl) rfl) All.nil)) (All.cons (fun γ => (All.cons (QOb.plain [(9, .pointer (some ⟨b0, 0, none⟩))] rfl rfl (.w 6 rfl rfl rfl .nil) (q_fa rfl rfl Try.underlying152 rfl rfl Try.sizeOf3 rfl) rfl) All.nil)) (All.cons (fun γ => (All.cons (QOb.plain [(10, .pointer (some ⟨b0, 1, none⟩))] rfl rfl (.w 7 rfl rfl rfl .nil) (q_load rfl rfl Try.isAgg3 (.obj 0 rfl rfl)) rfl) All.nil)) (All.cons (fun γ => (All.cons (QOb.plain [(7, .int .i64 (x0_0.length : Int)), (11, .int .i64 x0_1)] rfl rfl (.w 4 rfl rfl rfl (.w 8 rfl rfl rfl .nil)) (q_sub rfl rfl rfl) rfl) All.nil)) (All.cons (fun γ => (All.cons (QOb.plain [(12, .int .i64 (IntKind.i64.wrap ((x0_0.length : Int) - x0_1)))] rfl rfl (.w 9 rfl rfl rfl .nil) (q_asg rfl rfl) rfl) All.nil)) All.nil)))))))))))
 exact All.nil
 intro g1v
 refine nrm_then (sim_rtn ?_)
 exact rtn_fn () rfl rfl rfl (.sel 0 rfl (.sel 0 rfl (.nil _)))
def synodref1_Reader_Left.v (x0_0 : List UInt8) (x0_1 : Int) (x0_2 : Int) : Int := (synodref1_Reader_Left.f x0_0 x0_1 x0_2).getD 0
theorem synodref1_Reader_Left.tot (x0_0 : List UInt8) (x0_1 : Int) (x0_2 : Int) : synodref1_Reader_Left.f x0_0 x0_1 x0_2 = some (synodref1_Reader_Left.v x0_0 x0_1 x0_2) := by
  have h : ∃ r, synodref1_Reader_Left.f x0_0 x0_1 x0_2 = some r := by
    unfold synodref1_Reader_Left.f
    repeat' (first | exact ⟨_, rfl⟩ | split | simp only [Option.bind_some])
  obtain ⟨r, h⟩ := h
  unfold synodref1_Reader_Left.v
  rw [h]; rfl

def synodref1_Reader_Done.f (x0_0 : List UInt8) (x0_1 : Int) (x0_2 : Int) : Option (Int) := (if x0_2 = (0 : Int) then ((synodref1_Reader_Left.f x0_0 x0_1 x0_2).bind fun s3v => (some (decide ((0 : Int) < s3v)))) else (some false)).bind fun s1v => (if s1v = true then (some 3) else (some x0_2))
theorem synodref1_Reader_Done.calls (W : World) (F : HA) (b0 : Nat) (a0_0 : Option Addr) (c0_0 : Nat) (x0_0 : List UInt8) (x0_1 : Int) (x0_2 : Int) (h0_0 : Rd F a0_0 (encB x0_0)) (hc0_0 : x0_0.length ≤ c0_0) (hm0_0 : c0_0 ≤ maxLen) :
    Fn Try.prog W 86 [.pointer (some ⟨b0, 0, none⟩)] [obj b0 152 [.slice a0_0 x0_0.length c0_0, .int .i64 x0_1, .int .i64 x0_2]] F (synodref1_Reader_Done.f x0_0 x0_1 x0_2) (fun (r : Int) (y : Unit) => .int .i64 r) (fun r y => [obj b0 152 [.slice a0_0 x0_0.length c0_0, .int .i64 x0_1, .int .i64 x0_2]]) := by
 unfold synodref1_Reader_Done.f
 refine fn_intro 17 Try.func86 rfl Try.ntmps86 rfl ?_
 refine sim_seq (sim_region ?_)
 refine simL_val (q_asg rfl rfl) rfl rfl rfl (simL_nil (nrm_then (sim_seq (sim_seq (sim_region ?_)))))
 refine simL_val (q_move rfl rfl) rfl rfl rfl ?_
 refine simL_val (q_nil rfl rfl) rfl rfl rfl ?_
 refine simL_val (q_fa rfl rfl Try.underlying152 rfl rfl Try.sizeOf3 rfl) rfl rfl rfl ?_
 refine simL_val (q_load rfl rfl Try.isAgg3 (.obj 0 rfl rfl)) rfl rfl rfl ?_
 refine simL_val (q_eql rfl rfl rfl) rfl rfl rfl ?_
 refine simL_val (q_move rfl rfl) rfl rfl rfl ?_
 refine simL_cut' 4 (S := Bool) (Unit) (fun s y => [(0, .pointer (some ⟨b0, 0, none⟩)), (12, .bool s)]) (fun s y => [obj b0 152 [.slice a0_0 x0_0.length c0_0, .int .i64 x0_1, .int .i64 x0_2], F]) ?_ ?_
 refine simL_casep (fun hb6v => ?_) (fun hb7v => ?_)
 rw [hb6v]
 refine simL_valg (q_move rfl rfl) rfl rfl rfl rfl rfl rfl ?_
 refine simL_bind (fun s3v hs5v => ?_)
 refine simL_effg (re_call (vs := [.pointer (some ⟨b0, 0, none⟩)]) (cap := []) (A := [obj b0 152 [.slice a0_0 x0_0.length c0_0, .int .i64 x0_1, .int .i64 x0_2]]) (rst := [F]) rfl rfl rfl rfl rfl rfl Try.call131 (.sel 0 rfl (.sel 0 rfl (.nil _))) (synodref1_Reader_Left.calls _ _ b0 a0_0 c0_0 x0_0 x0_1 x0_2 (h0_0.lend 0 rfl) hc0_0 hm0_0) hs5v) rfl rfl rfl rfl rfl rfl ?_
 intro y4v
 refine simL_valg (q_gtr rfl rfl rfl) rfl rfl rfl rfl rfl rfl ?_
 refine simL_val (q_pick rfl rfl rfl rfl rfl) rfl rfl rfl (simL_nil ?_)
 exact nrm_cut (s := decide ((0 : Int) < s3v)) () ⟨rfl, rfl, trivial⟩ (.sel 0 rfl (.sel 0 rfl (.nil _)))
 rw [hb7v]
 refine simL_skipd rfl rfl rfl rfl rfl rfl ?_
 refine simL_skipd rfl rfl rfl rfl rfl rfl ?_
 refine simL_skipd rfl rfl rfl rfl rfl rfl ?_
 refine simL_val (q_pick rfl rfl rfl rfl rfl) rfl rfl rfl (simL_nil ?_)
 exact nrm_cut (s := false) () ⟨rfl, rfl, trivial⟩ (.sel 0 rfl (.sel 0 rfl (.nil _)))
 intro s1v y2v
 refine simL_nil (nrm_then ?_)
 refine sim_condb rfl (fun h8v => ?_) (fun h9v => ?_)
 refine sim_seq (sim_region ?_)
 refine simL_val (q_asg rfl rfl) rfl rfl rfl (simL_nil (nrm_then (sim_rtn ?_)))
 refine rtn_then ?_
 exact rtn_fn () rfl rfl rfl (.sel 0 rfl (.sel 0 rfl (.nil _)))
 refine sim_skip ?_
 refine nrm_then (sim_seq (sim_region ?_))
 refine simL_val (q_move rfl rfl) rfl rfl rfl ?_
 refine simL_val (q_nil rfl rfl) rfl rfl rfl ?_
 refine simL_val (q_fa rfl rfl Try.underlying152 rfl rfl Try.sizeOf3 rfl) rfl rfl rfl ?_
 refine simL_val (q_load rfl rfl Try.isAgg3 (.obj 0 rfl rfl)) rfl rfl rfl ?_
 refine simL_val (q_asg rfl rfl) rfl rfl rfl (simL_nil (nrm_then (sim_rtn ?_)))
 exact rtn_fn () rfl rfl rfl (.sel 0 rfl (.sel 0 rfl (.nil _)))
def synodref1_Reader_Done.v (x0_0 : List UInt8) (x0_1 : Int) (x0_2 : Int) : Int := (synodref1_Reader_Done.f x0_0 x0_1 x0_2).getD 0
theorem synodref1_Reader_Done.tot (x0_0 : List UInt8) (x0_1 : Int) (x0_2 : Int) : synodref1_Reader_Done.f x0_0 x0_1 x0_2 = some (synodref1_Reader_Done.v x0_0 x0_1 x0_2) := by
  have h : ∃ r, synodref1_Reader_Done.f x0_0 x0_1 x0_2 = some r := by
    unfold synodref1_Reader_Done.f
    repeat' (first | exact ⟨_, rfl⟩ | split | simp only [Option.bind_some, synodref1_Reader_Left.tot])
  obtain ⟨r, h⟩ := h
  unfold synodref1_Reader_Done.v
  rw [h]; rfl

def synodref3_GetEntry.f (k : Nat) (x0 : List UInt8) : Option (Int × Int × Int × List UInt8 × Int) := (synodref1_Reader_Int.f k x0 (0 : Int) (0 : Int)).bind fun s3v => ((synodref1_Reader_Int.f k x0 s3v.2.1 s3v.2.2).bind fun s6v => ((synodref1_Reader_Int.f k x0 s6v.2.1 s6v.2.2).bind fun s9v => ((synodref1_Reader_Bytes.f k x0 s9v.2.1 s9v.2.2 (4096 : Int)).bind fun s12v => ((synodref1_Reader_Done.f x0 s12v.2.1 s12v.2.2).bind fun s16v => ((if s16v = (0 : Int) then ((synodref3_CheckEntry.f s3v.1 s6v.1 s9v.1 s12v.1).bind fun s27v => (some s27v)) else (some s16v)).bind fun s19v => (if s19v = (0 : Int) then (some (s3v.1, s6v.1, s9v.1, s12v.1, s19v)) else (some (0, 0, 0, ([] : List UInt8), s19v))))))))
theorem synodref3_GetEntry.calls (W : World) (F : HA) (k : Nat) (a0 : Option Addr) (c0 : Nat) (x0 : List UInt8) (h0 : Rd F a0 (encB x0)) (hc0 : x0.length ≤ c0) (hm0 : c0 ≤ maxLen) :
    Fn Try.prog W 37 [.slice a0 x0.length c0] [] F (synodref3_GetEntry.f k x0) (fun (r : Int × Int × Int × List UInt8 × Int) (y : Option Addr × Nat) => .tuple #[.agg #[.int .i64 r.1, .int .i64 r.2.1, .int .i64 r.2.2.1, .slice y.1 r.2.2.2.1.length y.2], .int .i64 r.2.2.2.2]) (fun r y => [Row 5 1 y.1 r.2.2.2.1.length y.2 (encB r.2.2.2.1)]) := by
 unfold synodref3_GetEntry.f
 refine fn_intro 31 Try.func37 rfl Try.ntmps37 rfl ?_
 refine sim_seq (sim_region ?_)
 refine simL_eff (re_alloc rfl Try.zeroValue61 rfl) rfl rfl rfl ?_
 intro b1v
 refine simL_val (q_asg rfl rfl) rfl rfl rfl (simL_nil (nrm_then (sim_seq (sim_region ?_))))
 refine simL_val (q_move rfl rfl) rfl rfl rfl ?_
 refine simL_val (q_build (v := .agg #[.slice a0 x0.length c0, .int .i64 0, .int .i64 0]) rfl rfl (fun _ => by kernel_rfl)) rfl rfl rfl ?_
 refine simL_eff (re_box rfl rfl rfl) rfl rfl rfl ?_
 intro b2v
 refine simL_val (q_asg rfl rfl) rfl rfl rfl (simL_nil (nrm_then (sim_seq (sim_region ?_))))
 refine simL_val (q_move rfl rfl) rfl rfl rfl ?_
 refine simL_bind (fun s3v hs5v => ?_)
 refine simL_eff (re_call (vs := [.pointer (some ⟨b2v, 0, none⟩)]) (cap := []) (A := [obj b2v 152 [.slice a0 x0.length c0, .int .i64 0, .int .i64 0]]) (rst := [obj b1v 61 [.int .i64 0, .int .i64 0, .int .i64 0, .slice none 0 0], F]) rfl rfl rfl rfl rfl rfl Try.call85 (.sel 0 rfl (.sel 0 rfl (.sel 0 rfl (.nil _)))) (synodref1_Reader_Int.calls _ _ k b2v a0 c0 x0 (0 : Int) (0 : Int) (h0.lend 1 rfl) hc0 hm0) hs5v) rfl rfl rfl ?_
 intro y4v
 refine simL_val (q_move rfl rfl) rfl rfl rfl ?_
 refine simL_bind (fun s6v hs8v => ?_)
 refine simL_eff (re_call (vs := [.pointer (some ⟨b2v, 0, none⟩)]) (cap := []) (A := [obj b2v 152 [.slice a0 x0.length c0, .int .i64 s3v.2.1, .int .i64 s3v.2.2]]) (rst := [obj b1v 61 [.int .i64 0, .int .i64 0, .int .i64 0, .slice none 0 0], F]) rfl rfl rfl rfl rfl rfl Try.call85 (.sel 0 rfl (.sel 0 rfl (.sel 0 rfl (.nil _)))) (synodref1_Reader_Int.calls _ _ k b2v a0 c0 x0 s3v.2.1 s3v.2.2 (h0.lend 1 rfl) hc0 hm0) hs8v) rfl rfl rfl ?_
 intro y7v
 refine simL_val (q_move rfl rfl) rfl rfl rfl ?_
 refine simL_bind (fun s9v hs11v => ?_)
 refine simL_eff (re_call (vs := [.pointer (some ⟨b2v, 0, none⟩)]) (cap := []) (A := [obj b2v 152 [.slice a0 x0.length c0, .int .i64 s6v.2.1, .int .i64 s6v.2.2]]) (rst := [obj b1v 61 [.int .i64 0, .int .i64 0, .int .i64 0, .slice none 0 0], F]) rfl rfl rfl rfl rfl rfl Try.call85 (.sel 0 rfl (.sel 0 rfl (.sel 0 rfl (.nil _)))) (synodref1_Reader_Int.calls _ _ k b2v a0 c0 x0 s6v.2.1 s6v.2.2 (h0.lend 1 rfl) hc0 hm0) hs11v) rfl rfl rfl ?_
 intro y10v
 refine simL_val (q_move rfl rfl) rfl rfl rfl ?_
 refine simL_bind (fun s12v hs14v => ?_)
 refine simL_eff (re_call (vs := [.pointer (some ⟨b2v, 0, none⟩), .int .i64 4096]) (cap := []) (A := [obj b2v 152 [.slice a0 x0.length c0, .int .i64 s9v.2.1, .int .i64 s9v.2.2]]) (rst := [obj b1v 61 [.int .i64 0, .int .i64 0, .int .i64 0, .slice none 0 0], F]) rfl rfl rfl rfl rfl rfl Try.call92 (.sel 0 rfl (.sel 0 rfl (.sel 0 rfl (.nil _)))) (synodref1_Reader_Bytes.calls _ _ k b2v a0 c0 x0 s9v.2.1 s9v.2.2 (4096 : Int) (h0.lend 1 rfl) hc0 hm0) hs14v) rfl rfl rfl ?_
 intro y13v
 refine simL_val (q_build (v := .agg #[.int .i64 s3v.1, .int .i64 s6v.1, .int .i64 s9v.1, .slice y13v.1 s12v.1.length y13v.2]) rfl rfl (fun _ => by kernel_rfl)) rfl rfl rfl ?_
 refine simL_eff (re_alloc rfl Try.zeroValue61 rfl) rfl rfl rfl ?_
 intro b15v
 refine simL_do (re_store 0 rfl rfl rfl Try.sizeOf61 rfl rfl (one_of (by rfl)) rfl rfl) rfl rfl ?_
 intro _
 refine simL_nil (nrm_then (sim_seq (sim_region ?_)))
 refine simL_val (q_move rfl rfl) rfl rfl rfl ?_
 refine simL_bind (fun s16v hs18v => ?_)
 refine simL_eff (re_call (vs := [.pointer (some ⟨b2v, 0, none⟩)]) (cap := []) (A := [obj b2v 152 [.slice a0 x0.length c0, .int .i64 s12v.2.1, .int .i64 s12v.2.2]]) (rst := [obj b15v 61 [.int .i64 s3v.1, .int .i64 s6v.1, .int .i64 s9v.1, .slice y13v.1 s12v.1.length y13v.2], Row 5 1 y13v.1 s12v.1.length y13v.2 (encB s12v.1), obj b1v 61 [.int .i64 0, .int .i64 0, .int .i64 0, .slice none 0 0], F]) rfl rfl rfl rfl rfl rfl Try.call86 (.sel 2 rfl (.sel 0 rfl (.sel 0 rfl (.sel 0 rfl (.sel 0 rfl (.nil _)))))) (synodref1_Reader_Done.calls _ _ b2v a0 c0 x0 s12v.2.1 s12v.2.2 (h0.lend 3 rfl) hc0 hm0) hs18v) rfl rfl rfl ?_
 intro y17v
 refine simL_val (q_asg rfl rfl) rfl rfl rfl (simL_nil (nrm_then ?_))
 refine sim_cut (S := Int) (Unit) (fun s y => [(2, .pointer (some ⟨b1v, 0, none⟩)), (5, .pointer (some ⟨b15v, 0, none⟩)), (6, .int .i64 s)]) (fun s y => [obj b15v 61 [.int .i64 s3v.1, .int .i64 s6v.1, .int .i64 s9v.1, .slice y13v.1 s12v.1.length y13v.2], obj b1v 61 [.int .i64 0, .int .i64 0, .int .i64 0, .slice none 0 0], Row 5 1 y13v.1 s12v.1.length y13v.2 (encB s12v.1), F]) ?_ ?_
 refine sim_seq (sim_region ?_)
 refine simL_val (q_move rfl rfl) rfl rfl rfl ?_
 refine simL_val (q_eql rfl rfl rfl) rfl rfl rfl (simL_nil (nrm_then ?_))
 refine sim_cond rfl (fun h21v => ?_) (fun h22v => ?_)
 refine sim_region ?_
 refine simL_val (q_loado 1 rfl rfl Try.isAgg61 Try.sizeOf61 rfl rfl) rfl rfl rfl ?_
 refine simL_bind (fun s27v hs29v => ?_)
 refine simL_lend 2 rfl (fun hq23v hq24v hq25v hq26v => ?_)
 refine simL_eff (re_call (vs := [.agg #[.int .i64 s3v.1, .int .i64 s6v.1, .int .i64 s9v.1, .slice y13v.1 s12v.1.length y13v.2]]) (cap := []) (A := []) (rst := [obj b2v 152 [.slice a0 x0.length c0, .int .i64 s12v.2.1, .int .i64 s12v.2.2], obj b15v 61 [.int .i64 s3v.1, .int .i64 s6v.1, .int .i64 s9v.1, .slice y13v.1 s12v.1.length y13v.2], Row 5 1 y13v.1 s12v.1.length y13v.2 (encB s12v.1), obj b1v 61 [.int .i64 0, .int .i64 0, .int .i64 0, .slice none 0 0], F]) rfl rfl rfl rfl rfl rfl Try.call35 (.sel 0 rfl (.sel 0 rfl (.sel 0 rfl (.sel 0 rfl (.sel 0 rfl (.nil _)))))) (synodref3_CheckEntry.calls _ _ s3v.1 s6v.1 s9v.1 y13v.1 y13v.2 s12v.1 (hq23v.lend 2 rfl) hq24v hq25v) hs29v) rfl rfl rfl ?_
 intro y28v
 refine simL_val (q_asg rfl rfl) rfl rfl rfl (simL_nil ?_)
 exact nrm_cut (s := s27v) () ⟨rfl, rfl, rfl, trivial⟩ (.sel 1 rfl (.sel 2 rfl (.sel 1 rfl (.sel 1 rfl (.nil _)))))
 refine sim_skip ?_
 exact nrm_cut (s := s16v) () ⟨rfl, rfl, rfl, trivial⟩ (.sel 1 rfl (.sel 2 rfl (.sel 1 rfl (.sel 1 rfl (.nil _)))))
 intro s19v y20v
 refine sim_seq (sim_seq (sim_region ?_))
 refine simL_val (q_move rfl rfl) rfl rfl rfl ?_
 refine simL_val (q_neq rfl rfl rfl) rfl rfl rfl (simL_nil (nrm_then ?_))
 refine sim_condn rfl (fun h30v => ?_) (fun h31v => ?_)
 refine sim_skip ?_
 refine nrm_then (sim_seq (sim_region ?_))
 refine simL_val (q_loado 0 rfl rfl Try.isAgg61 Try.sizeOf61 rfl rfl) rfl rfl rfl ?_
 refine simL_val (q_move rfl rfl) rfl rfl rfl ?_
 refine simL_do (re_store 1 rfl rfl rfl Try.sizeOf61 rfl rfl (one_of (by rfl)) rfl rfl) rfl rfl ?_
 intro _
 refine simL_val (q_asg rfl rfl) rfl rfl rfl (simL_nil (nrm_then (sim_rtn ?_)))
 exact rtn_fnC (vs := [.agg #[.int .i64 s3v.1, .int .i64 s6v.1, .int .i64 s9v.1, .slice y13v.1 s12v.1.length y13v.2], .int .i64 s19v]) (y13v.1, y13v.2) rfl ⟨⟨b1v, rfl, load_agg 1 Try.isAgg61 Try.sizeOf61 rfl rfl⟩, rfl, trivial⟩ rfl (.sel 2 rfl (.sel 2 rfl (.nil _)))
 refine sim_seq (sim_region ?_)
 refine simL_val (q_build (v := .agg #[.int .i64 0, .int .i64 0, .int .i64 0, .slice none 0 0]) rfl rfl (fun _ => by kernel_rfl)) rfl rfl rfl ?_
 refine simL_val (q_move rfl rfl) rfl rfl rfl ?_
 refine simL_do (re_store 1 rfl rfl rfl Try.sizeOf61 rfl rfl (one_of (by rfl)) rfl rfl) rfl rfl ?_
 intro _
 refine simL_val (q_asg rfl rfl) rfl rfl rfl (simL_nil (nrm_then (sim_rtn ?_)))
 refine rtn_then ?_
 exact rtn_fnC (vs := [.agg #[.int .i64 0, .int .i64 0, .int .i64 0, .slice none 0 0], .int .i64 s19v]) (none, 0) rfl ⟨⟨b1v, rfl, load_agg 1 Try.isAgg61 Try.sizeOf61 rfl rfl⟩, rfl, trivial⟩ rfl (.row_nil (.sel 3 rfl (.nil _)))

def synodref3_PutSnap.f (k : Nat) (x0_0 : Int) (x0_1 : Int) (x0_2 : List UInt8) : Option (List UInt8 × Int) := (synodref3_CheckSnap.f x0_0 x0_1 x0_2).bind fun s2v => (if s2v = (0 : Int) then ((synodref1_Writer_Int.f k ([] : List UInt8) (0 : Int) x0_0).bind fun s8v => ((synodref1_Writer_Int.f k s8v.1 s8v.2 x0_1).bind fun s11v => ((synodref1_Writer_Bytes.f k s11v.1 s11v.2 x0_2 (524288 : Int)).bind fun s14v => ((synodref1_Writer_Done_s_c0p0.f s14v.1 s14v.2).bind fun s17v => (some (s17v.1, s17v.2)))))) else (some (([] : List UInt8), s2v)))
theorem synodref3_PutSnap.calls (W : World) (F : HA) (k : Nat) (x0_0 : Int) (x0_1 : Int) (a0_2 : Option Addr) (c0_2 : Nat) (x0_2 : List UInt8) (h0_2 : Rd F a0_2 (encB x0_2)) (hc0_2 : x0_2.length ≤ c0_2) (hm0_2 : c0_2 ≤ maxLen) :
    Fn Try.prog W 40 [.agg #[.int .i64 x0_0, .int .i64 x0_1, .slice a0_2 x0_2.length c0_2]] [] F (synodref3_PutSnap.f k x0_0 x0_1 x0_2) (fun (r : List UInt8 × Int) (y : Option Addr × Nat) => .tuple #[.slice y.1 r.1.length y.2, .int .i64 r.2]) (fun r y => [Row 5 1 y.1 r.1.length y.2 (encB r.1)]) := by
 unfold synodref3_PutSnap.f
 refine fn_intro 29 Try.func40 rfl Try.ntmps40 rfl ?_
 refine sim_seq (sim_region ?_)
 refine simL_eff (re_box rfl rfl rfl) rfl rfl rfl ?_
 intro b1v
 refine simL_val (q_asg rfl rfl) rfl rfl rfl ?_
 refine simL_val (q_asg rfl rfl) rfl rfl rfl (simL_nil (nrm_then (sim_seq (sim_region ?_))))
 refine simL_val (q_loado 0 rfl rfl Try.isAgg29 Try.sizeOf29 rfl rfl) rfl rfl rfl ?_
 refine simL_bind (fun s2v hs4v => ?_)
 refine simL_eff (re_call (vs := [.agg #[.int .i64 x0_0, .int .i64 x0_1, .slice a0_2 x0_2.length c0_2]]) (cap := []) (A := []) (rst := [obj b1v 29 [.int .i64 x0_0, .int .i64 x0_1, .slice a0_2 x0_2.length c0_2], F]) rfl rfl rfl rfl rfl rfl Try.call42 (.sel 0 rfl (.sel 0 rfl (.nil _))) (synodref3_CheckSnap.calls _ _ x0_0 x0_1 a0_2 c0_2 x0_2 (h0_2.lend 1 rfl) hc0_2 hm0_2) hs4v) rfl rfl rfl ?_
 intro y3v
 refine simL_val (q_asg rfl rfl) rfl rfl rfl (simL_nil (nrm_then (sim_seq (sim_seq (sim_region ?_)))))
 refine simL_val (q_move rfl rfl) rfl rfl rfl ?_
 refine simL_val (q_neq rfl rfl rfl) rfl rfl rfl (simL_nil (nrm_then ?_))
 refine sim_condn rfl (fun h5v => ?_) (fun h6v => ?_)
 refine sim_skip ?_
 refine nrm_then (sim_seq (sim_region ?_))
 refine simL_val (q_build (v := .agg #[.slice none 0 0, .int .i64 0]) rfl rfl (fun _ => by kernel_rfl)) rfl rfl rfl ?_
 refine simL_eff (re_box rfl rfl rfl) rfl rfl rfl ?_
 intro b7v
 refine simL_val (q_asg rfl rfl) rfl rfl rfl (simL_nil (nrm_then (sim_seq (sim_region ?_))))
 refine simL_val (q_move rfl rfl) rfl rfl rfl ?_
 refine simL_val (q_fa rfl rfl Try.underlying29 rfl rfl Try.sizeOf3 rfl) rfl rfl rfl ?_
 refine simL_val (q_load rfl rfl Try.isAgg3 (.obj 1 rfl rfl)) rfl rfl rfl ?_
 refine simL_bind (fun s8v hs10v => ?_)
 refine simL_eff (re_call (vs := [.pointer (some ⟨b7v, 0, none⟩), .int .i64 x0_0]) (cap := []) (A := [obj b7v 143 [.slice none 0 0, .int .i64 0], Row 5 1 none ([] : List UInt8).length 0 (encB ([] : List UInt8))]) (rst := [obj b1v 29 [.int .i64 x0_0, .int .i64 x0_1, .slice a0_2 x0_2.length c0_2], F]) rfl rfl rfl rfl rfl rfl Try.call79 (.sel 0 rfl (.row_nil (.sel 0 rfl (.sel 0 rfl (.nil _))))) (synodref1_Writer_Int.calls _ _ k b7v none 0 ([] : List UInt8) (0 : Int) x0_0 ) hs10v) rfl rfl rfl ?_
 intro y9v
 refine simL_nil (nrm_then (sim_seq (sim_region ?_)))
 refine simL_val (q_move rfl rfl) rfl rfl rfl ?_
 refine simL_val (q_fa rfl rfl Try.underlying29 rfl rfl Try.sizeOf3 rfl) rfl rfl rfl ?_
 refine simL_val (q_load rfl rfl Try.isAgg3 (.obj 2 rfl rfl)) rfl rfl rfl ?_
 refine simL_bind (fun s11v hs13v => ?_)
 refine simL_eff (re_call (vs := [.pointer (some ⟨b7v, 0, none⟩), .int .i64 x0_1]) (cap := []) (A := [obj b7v 143 [.slice y9v.1 s8v.1.length y9v.2, .int .i64 s8v.2], Row 5 1 y9v.1 s8v.1.length y9v.2 (encB s8v.1)]) (rst := [obj b1v 29 [.int .i64 x0_0, .int .i64 x0_1, .slice a0_2 x0_2.length c0_2], F]) rfl rfl rfl rfl rfl rfl Try.call79 (.sel 0 rfl (.sel 0 rfl (.sel 0 rfl (.sel 0 rfl (.nil _))))) (synodref1_Writer_Int.calls _ _ k b7v y9v.1 y9v.2 s8v.1 s8v.2 x0_1 ) hs13v) rfl rfl rfl ?_
 intro y12v
 refine simL_nil (nrm_then (sim_seq (sim_region ?_)))
 refine simL_val (q_move rfl rfl) rfl rfl rfl ?_
 refine simL_val (q_fa rfl rfl Try.underlying29 rfl rfl Try.sizeOf27 rfl) rfl rfl rfl ?_
 refine simL_val (q_load rfl rfl Try.isAgg27 (.obj 2 rfl rfl)) rfl rfl rfl ?_
 refine simL_bind (fun s14v hs16v => ?_)
 refine simL_eff (re_call (vs := [.pointer (some ⟨b7v, 0, none⟩), .slice a0_2 x0_2.length c0_2, .int .i64 524288]) (cap := []) (A := [obj b7v 143 [.slice y12v.1 s11v.1.length y12v.2, .int .i64 s11v.2], Row 5 1 y12v.1 s11v.1.length y12v.2 (encB s11v.1)]) (rst := [obj b1v 29 [.int .i64 x0_0, .int .i64 x0_1, .slice a0_2 x0_2.length c0_2], F]) rfl rfl rfl rfl rfl rfl Try.call89 (.sel 0 rfl (.sel 0 rfl (.sel 0 rfl (.sel 0 rfl (.nil _))))) (synodref1_Writer_Bytes.calls _ _ k b7v y12v.1 y12v.2 s11v.1 s11v.2 a0_2 c0_2 x0_2 (524288 : Int) (h0_2.lend 1 rfl) hc0_2 hm0_2) hs16v) rfl rfl rfl ?_
 intro y15v
 refine simL_nil (nrm_then (sim_seq (sim_region ?_)))
 refine simL_val (q_move rfl rfl) rfl rfl rfl ?_
 refine simL_bind (fun s17v hs19v => ?_)
 refine simL_eff (re_call (vs := [.pointer (some ⟨b7v, 0, none⟩)]) (cap := []) (A := [obj b7v 143 [.slice y15v.1 s14v.1.length y15v.2, .int .i64 s14v.2], Row 5 1 y15v.1 s14v.1.length y15v.2 (encB s14v.1)]) (rst := [obj b1v 29 [.int .i64 x0_0, .int .i64 x0_1, .slice a0_2 x0_2.length c0_2], F]) rfl rfl rfl rfl rfl rfl Try.call80 (.sel 0 rfl (.sel 0 rfl (.sel 0 rfl (.sel 0 rfl (.nil _))))) (synodref1_Writer_Done_s_c0p0.calls _ _ b7v y15v.1 y15v.2 s14v.1 s14v.2 ) hs19v) rfl rfl rfl ?_
 intro y18v
 refine simL_val (q_ext rfl rfl rfl) rfl rfl rfl ?_
 refine simL_val (q_ext rfl rfl rfl) rfl rfl rfl ?_
 refine simL_val (q_asg rfl rfl) rfl rfl rfl ?_
 refine simL_val (q_asg rfl rfl) rfl rfl rfl (simL_nil (nrm_then (sim_rtn ?_)))
 exact rtn_fn (y18v.1, y18v.2) rfl rfl rfl (.sel 0 rfl (.sel 1 rfl (.nil _)))
 refine sim_seq (sim_region ?_)
 refine simL_val (q_move rfl rfl) rfl rfl rfl ?_
 refine simL_val (q_asg rfl rfl) rfl rfl rfl ?_
 refine simL_val (q_asg rfl rfl) rfl rfl rfl (simL_nil (nrm_then (sim_rtn ?_)))
 refine rtn_then ?_
 exact rtn_fn (none, 0) rfl rfl rfl (.row_nil (.sel 1 rfl (.nil _)))

def synodref3_GetSnap.f (k : Nat) (x0 : List UInt8) : Option (Int × Int × List UInt8 × Int) := (synodref1_Reader_Int.f k x0 (0 : Int) (0 : Int)).bind fun s3v => ((synodref1_Reader_Int.f k x0 s3v.2.1 s3v.2.2).bind fun s6v => ((synodref1_Reader_Bytes.f k x0 s6v.2.1 s6v.2.2 (524288 : Int)).bind fun s9v => ((synodref1_Reader_Done.f x0 s9v.2.1 s9v.2.2).bind fun s13v => ((if s13v = (0 : Int) then ((synodref3_CheckSnap.f s3v.1 s6v.1 s9v.1).bind fun s24v => (some s24v)) else (some s13v)).bind fun s16v => (if s16v = (0 : Int) then (some (s3v.1, s6v.1, s9v.1, s16v)) else (some (0, 0, ([] : List UInt8), s16v)))))))
theorem synodref3_GetSnap.calls (W : World) (F : HA) (k : Nat) (a0 : Option Addr) (c0 : Nat) (x0 : List UInt8) (h0 : Rd F a0 (encB x0)) (hc0 : x0.length ≤ c0) (hm0 : c0 ≤ maxLen) :
    Fn Try.prog W 44 [.slice a0 x0.length c0] [] F (synodref3_GetSnap.f k x0) (fun (r : Int × Int × List UInt8 × Int) (y : Option Addr × Nat) => .tuple #[.agg #[.int .i64 r.1, .int .i64 r.2.1, .slice y.1 r.2.2.1.length y.2], .int .i64 r.2.2.2]) (fun r y => [Row 5 1 y.1 r.2.2.1.length y.2 (encB r.2.2.1)]) := by
 unfold synodref3_GetSnap.f
 refine fn_intro 29 Try.func44 rfl Try.ntmps44 rfl ?_
 refine sim_seq (sim_region ?_)
 refine simL_eff (re_alloc rfl Try.zeroValue29 rfl) rfl rfl rfl ?_
 intro b1v
 refine simL_val (q_asg rfl rfl) rfl rfl rfl (simL_nil (nrm_then (sim_seq (sim_region ?_))))
 refine simL_val (q_move rfl rfl) rfl rfl rfl ?_
 refine simL_val (q_build (v := .agg #[.slice a0 x0.length c0, .int .i64 0, .int .i64 0]) rfl rfl (fun _ => by kernel_rfl)) rfl rfl rfl ?_
 refine simL_eff (re_box rfl rfl rfl) rfl rfl rfl ?_
 intro b2v
 refine simL_val (q_asg rfl rfl) rfl rfl rfl (simL_nil (nrm_then (sim_seq (sim_region ?_))))
 refine simL_val (q_move rfl rfl) rfl rfl rfl ?_
 refine simL_bind (fun s3v hs5v => ?_)
 refine simL_eff (re_call (vs := [.pointer (some ⟨b2v, 0, none⟩)]) (cap := []) (A := [obj b2v 152 [.slice a0 x0.length c0, .int .i64 0, .int .i64 0]]) (rst := [obj b1v 29 [.int .i64 0, .int .i64 0, .slice none 0 0], F]) rfl rfl rfl rfl rfl rfl Try.call85 (.sel 0 rfl (.sel 0 rfl (.sel 0 rfl (.nil _)))) (synodref1_Reader_Int.calls _ _ k b2v a0 c0 x0 (0 : Int) (0 : Int) (h0.lend 1 rfl) hc0 hm0) hs5v) rfl rfl rfl ?_
 intro y4v
 refine simL_val (q_move rfl rfl) rfl rfl rfl ?_
 refine simL_bind (fun s6v hs8v => ?_)
 refine simL_eff (re_call (vs := [.pointer (some ⟨b2v, 0, none⟩)]) (cap := []) (A := [obj b2v 152 [.slice a0 x0.length c0, .int .i64 s3v.2.1, .int .i64 s3v.2.2]]) (rst := [obj b1v 29 [.int .i64 0, .int .i64 0, .slice none 0 0], F]) rfl rfl rfl rfl rfl rfl Try.call85 (.sel 0 rfl (.sel 0 rfl (.sel 0 rfl (.nil _)))) (synodref1_Reader_Int.calls _ _ k b2v a0 c0 x0 s3v.2.1 s3v.2.2 (h0.lend 1 rfl) hc0 hm0) hs8v) rfl rfl rfl ?_
 intro y7v
 refine simL_val (q_move rfl rfl) rfl rfl rfl ?_
 refine simL_bind (fun s9v hs11v => ?_)
 refine simL_eff (re_call (vs := [.pointer (some ⟨b2v, 0, none⟩), .int .i64 524288]) (cap := []) (A := [obj b2v 152 [.slice a0 x0.length c0, .int .i64 s6v.2.1, .int .i64 s6v.2.2]]) (rst := [obj b1v 29 [.int .i64 0, .int .i64 0, .slice none 0 0], F]) rfl rfl rfl rfl rfl rfl Try.call92 (.sel 0 rfl (.sel 0 rfl (.sel 0 rfl (.nil _)))) (synodref1_Reader_Bytes.calls _ _ k b2v a0 c0 x0 s6v.2.1 s6v.2.2 (524288 : Int) (h0.lend 1 rfl) hc0 hm0) hs11v) rfl rfl rfl ?_
 intro y10v
 refine simL_val (q_build (v := .agg #[.int .i64 s3v.1, .int .i64 s6v.1, .slice y10v.1 s9v.1.length y10v.2]) rfl rfl (fun _ => by kernel_rfl)) rfl rfl rfl ?_
 refine simL_eff (re_alloc rfl Try.zeroValue29 rfl) rfl rfl rfl ?_
 intro b12v
 refine simL_do (re_store 0 rfl rfl rfl Try.sizeOf29 rfl rfl (one_of (by rfl)) rfl rfl) rfl rfl ?_
 intro _
 refine simL_nil (nrm_then (sim_seq (sim_region ?_)))
 refine simL_val (q_move rfl rfl) rfl rfl rfl ?_
 refine simL_bind (fun s13v hs15v => ?_)
 refine simL_eff (re_call (vs := [.pointer (some ⟨b2v, 0, none⟩)]) (cap := []) (A := [obj b2v 152 [.slice a0 x0.length c0, .int .i64 s9v.2.1, .int .i64 s9v.2.2]]) (rst := [obj b12v 29 [.int .i64 s3v.1, .int .i64 s6v.1, .slice y10v.1 s9v.1.length y10v.2], Row 5 1 y10v.1 s9v.1.length y10v.2 (encB s9v.1), obj b1v 29 [.int .i64 0, .int .i64 0, .slice none 0 0], F]) rfl rfl rfl rfl rfl rfl Try.call86 (.sel 2 rfl (.sel 0 rfl (.sel 0 rfl (.sel 0 rfl (.sel 0 rfl (.nil _)))))) (synodref1_Reader_Done.calls _ _ b2v a0 c0 x0 s9v.2.1 s9v.2.2 (h0.lend 3 rfl) hc0 hm0) hs15v) rfl rfl rfl ?_
 intro y14v
 refine simL_val (q_asg rfl rfl) rfl rfl rfl (simL_nil (nrm_then ?_))
 refine sim_cut (S := Int) (Unit) (fun s y => [(2, .pointer (some ⟨b1v, 0, none⟩)), (5, .pointer (some ⟨b12v, 0, none⟩)), (6, .int .i64 s)]) (fun s y => [obj b12v 29 [.int .i64 s3v.1, .int .i64 s6v.1, .slice y10v.1 s9v.1.length y10v.2], obj b1v 29 [.int .i64 0, .int .i64 0, .slice none 0 0], Row 5 1 y10v.1 s9v.1.length y10v.2 (encB s9v.1), F]) ?_ ?_
 refine sim_seq (sim_region ?_)
 refine simL_val (q_move rfl rfl) rfl rfl rfl ?_
 refine simL_val (q_eql rfl rfl rfl) rfl rfl rfl (simL_nil (nrm_then ?_))
 refine sim_cond rfl (fun h18v => ?_) (fun h19v => ?_)
 refine sim_region ?_
 refine simL_val (q_loado 1 rfl rfl Try.isAgg29 Try.sizeOf29 rfl rfl) rfl rfl rfl ?_
 refine simL_bind (fun s24v hs26v => ?_)
 refine simL_lend 2 rfl (fun hq20v hq21v hq22v hq23v => ?_)
 refine simL_eff (re_call (vs := [.agg #[.int .i64 s3v.1, .int .i64 s6v.1, .slice y10v.1 s9v.1.length y10v.2]]) (cap := []) (A := []) (rst := [obj b2v 152 [.slice a0 x0.length c0, .int .i64 s9v.2.1, .int .i64 s9v.2.2], obj b12v 29 [.int .i64 s3v.1, .int .i64 s6v.1, .slice y10v.1 s9v.1.length y10v.2], Row 5 1 y10v.1 s9v.1.length y10v.2 (encB s9v.1), obj b1v 29 [.int .i64 0, .int .i64 0, .slice none 0 0], F]) rfl rfl rfl rfl rfl rfl Try.call42 (.sel 0 rfl (.sel 0 rfl (.sel 0 rfl (.sel 0 rfl (.sel 0 rfl (.nil _)))))) (synodref3_CheckSnap.calls _ _ s3v.1 s6v.1 y10v.1 y10v.2 s9v.1 (hq20v.lend 2 rfl) hq21v hq22v) hs26v) rfl rfl rfl ?_
 intro y25v
 refine simL_val (q_asg rfl rfl) rfl rfl rfl (simL_nil ?_)
 exact nrm_cut (s := s24v) () ⟨rfl, rfl, rfl, trivial⟩ (.sel 1 rfl (.sel 2 rfl (.sel 1 rfl (.sel 1 rfl (.nil _)))))
 refine sim_skip ?_
 exact nrm_cut (s := s13v) () ⟨rfl, rfl, rfl, trivial⟩ (.sel 1 rfl (.sel 2 rfl (.sel 1 rfl (.sel 1 rfl (.nil _)))))
 intro s16v y17v
 refine sim_seq (sim_seq (sim_region ?_))
 refine simL_val (q_move rfl rfl) rfl rfl rfl ?_
 refine simL_val (q_neq rfl rfl rfl) rfl rfl rfl (simL_nil (nrm_then ?_))
 refine sim_condn rfl (fun h27v => ?_) (fun h28v => ?_)
 refine sim_skip ?_
 refine nrm_then (sim_seq (sim_region ?_))
 refine simL_val (q_loado 0 rfl rfl Try.isAgg29 Try.sizeOf29 rfl rfl) rfl rfl rfl ?_
 refine simL_val (q_move rfl rfl) rfl rfl rfl ?_
 refine simL_do (re_store 1 rfl rfl rfl Try.sizeOf29 rfl rfl (one_of (by rfl)) rfl rfl) rfl rfl ?_
 intro _
 refine simL_val (q_asg rfl rfl) rfl rfl rfl (simL_nil (nrm_then (sim_rtn ?_)))
 exact rtn_fnC (vs := [.agg #[.int .i64 s3v.1, .int .i64 s6v.1, .slice y10v.1 s9v.1.length y10v.2], .int .i64 s16v]) (y10v.1, y10v.2) rfl ⟨⟨b1v, rfl, load_agg 1 Try.isAgg29 Try.sizeOf29 rfl rfl⟩, rfl, trivial⟩ rfl (.sel 2 rfl (.sel 2 rfl (.nil _)))
 refine sim_seq (sim_region ?_)
 refine simL_val (q_build (v := .agg #[.int .i64 0, .int .i64 0, .slice none 0 0]) rfl rfl (fun _ => by kernel_rfl)) rfl rfl rfl ?_
 refine simL_val (q_move rfl rfl) rfl rfl rfl ?_
 refine simL_do (re_store 1 rfl rfl rfl Try.sizeOf29 rfl rfl (one_of (by rfl)) rfl rfl) rfl rfl ?_
 intro _
 refine simL_val (q_asg rfl rfl) rfl rfl rfl (simL_nil (nrm_then (sim_rtn ?_)))
 refine rtn_then ?_
 exact rtn_fnC (vs := [.agg #[.int .i64 0, .int .i64 0, .slice none 0 0], .int .i64 s16v]) (none, 0) rfl ⟨⟨b1v, rfl, load_agg 1 Try.isAgg29 Try.sizeOf29 rfl rfl⟩, rfl, trivial⟩ rfl (.row_nil (.sel 3 rfl (.nil _)))

def synodref3_PutState.f (k : Nat) (x0_0 : Int) (x0_1 : Int) (x0_2 : Int) : Option (List UInt8 × Int) := (synodref3_CheckState.f x0_0 x0_1 x0_2).bind fun s2v => (if s2v = (0 : Int) then ((synodref1_Writer_Int.f k ([] : List UInt8) (0 : Int) x0_0).bind fun s8v => ((synodref1_Writer_Int.f k s8v.1 s8v.2 x0_1).bind fun s11v => ((synodref1_Writer_Int.f k s11v.1 s11v.2 x0_2).bind fun s14v => ((synodref1_Writer_Done_s_c0p0.f s14v.1 s14v.2).bind fun s17v => (some (s17v.1, s17v.2)))))) else (some (([] : List UInt8), s2v)))
theorem synodref3_PutState.calls (W : World) (F : HA) (k : Nat) (x0_0 : Int) (x0_1 : Int) (x0_2 : Int)  :
    Fn Try.prog W 24 [.agg #[.int .i64 x0_0, .int .i64 x0_1, .int .i64 x0_2]] [] F (synodref3_PutState.f k x0_0 x0_1 x0_2) (fun (r : List UInt8 × Int) (y : Option Addr × Nat) => .tuple #[.slice y.1 r.1.length y.2, .int .i64 r.2]) (fun r y => [Row 5 1 y.1 r.1.length y.2 (encB r.1)]) := by
 unfold synodref3_PutState.f
 refine fn_intro 29 Try.func24 rfl Try.ntmps24 rfl ?_
 refine sim_seq (sim_region ?_)
 refine simL_eff (re_box rfl rfl rfl) rfl rfl rfl ?_
 intro b1v
 refine simL_val (q_asg rfl rfl) rfl rfl rfl ?_
 refine simL_val (q_asg rfl rfl) rfl rfl rfl (simL_nil (nrm_then (sim_seq (sim_region ?_))))
 refine simL_val (q_loado 0 rfl rfl Try.isAgg23 Try.sizeOf23 rfl rfl) rfl rfl rfl ?_
 refine simL_bind (fun s2v hs4v => ?_)
 refine simL_eff (re_call (vs := [.agg #[.int .i64 x0_0, .int .i64 x0_1, .int .i64 x0_2]]) (cap := []) (A := []) (rst := [obj b1v 23 [.int .i64 x0_0, .int .i64 x0_1, .int .i64 x0_2], F]) rfl rfl rfl rfl rfl rfl Try.call16 (.sel 0 rfl (.sel 0 rfl (.nil _))) (synodref3_CheckState.calls _ _ x0_0 x0_1 x0_2 ) hs4v) rfl rfl rfl ?_
 intro y3v
 refine simL_val (q_asg rfl rfl) rfl rfl rfl (simL_nil (nrm_then (sim_seq (sim_seq (sim_region ?_)))))
 refine simL_val (q_move rfl rfl) rfl rfl rfl ?_
 refine simL_val (q_neq rfl rfl rfl) rfl rfl rfl (simL_nil (nrm_then ?_))
 refine sim_condn rfl (fun h5v => ?_) (fun h6v => ?_)
 refine sim_skip ?_
 refine nrm_then (sim_seq (sim_region ?_))
 refine simL_val (q_build (v := .agg #[.slice none 0 0, .int .i64 0]) rfl rfl (fun _ => by kernel_rfl)) rfl rfl rfl ?_
 refine simL_eff (re_box rfl rfl rfl) rfl rfl rfl ?_
 intro b7v
 refine simL_val (q_asg rfl rfl) rfl rfl rfl (simL_nil (nrm_then (sim_seq (sim_region ?_))))
 refine simL_val (q_move rfl rfl) rfl rfl rfl ?_
 refine simL_val (q_fa rfl rfl Try.underlying23 rfl rfl Try.sizeOf3 rfl) rfl rfl rfl ?_
 refine simL_val (q_load rfl rfl Try.isAgg3 (.obj 1 rfl rfl)) rfl rfl rfl ?_
 refine simL_bind (fun s8v hs10v => ?_)
 refine simL_eff (re_call (vs := [.pointer (some ⟨b7v, 0, none⟩), .int .i64 x0_0]) (cap := []) (A := [obj b7v 143 [.slice none 0 0, .int .i64 0], Row 5 1 none ([] : List UInt8).length 0 (encB ([] : List UInt8))]) (rst := [obj b1v 23 [.int .i64 x0_0, .int .i64 x0_1, .int .i64 x0_2], F]) rfl rfl rfl rfl rfl rfl Try.call79 (.sel 0 rfl (.row_nil (.sel 0 rfl (.sel 0 rfl (.nil _))))) (synodref1_Writer_Int.calls _ _ k b7v none 0 ([] : List UInt8) (0 : Int) x0_0 ) hs10v) rfl rfl rfl ?_
 intro y9v
 refine simL_nil (nrm_then (sim_seq (sim_region ?_)))
 refine simL_val (q_move rfl rfl) rfl rfl rfl ?_
 refine simL_val (q_fa rfl rfl Try.underlying23 rfl rfl Try.sizeOf3 rfl) rfl rfl rfl ?_
 refine simL_val (q_load rfl rfl Try.isAgg3 (.obj 2 rfl rfl)) rfl rfl rfl ?_
 refine simL_bind (fun s11v hs13v => ?_)
 refine simL_eff (re_call (vs := [.pointer (some ⟨b7v, 0, none⟩), .int .i64 x0_1]) (cap := []) (A := [obj b7v 143 [.slice y9v.1 s8v.1.length y9v.2, .int .i64 s8v.2], Row 5 1 y9v.1 s8v.1.length y9v.2 (encB s8v.1)]) (rst := [obj b1v 23 [.int .i64 x0_0, .int .i64 x0_1, .int .i64 x0_2], F]) rfl rfl rfl rfl rfl rfl Try.call79 (.sel 0 rfl (.sel 0 rfl (.sel 0 rfl (.sel 0 rfl (.nil _))))) (synodref1_Writer_Int.calls _ _ k b7v y9v.1 y9v.2 s8v.1 s8v.2 x0_1 ) hs13v) rfl rfl rfl ?_
 intro y12v
 refine simL_nil (nrm_then (sim_seq (sim_region ?_)))
 refine simL_val (q_move rfl rfl) rfl rfl rfl ?_
 refine simL_val (q_fa rfl rfl Try.underlying23 rfl rfl Try.sizeOf3 rfl) rfl rfl rfl ?_
 refine simL_val (q_load rfl rfl Try.isAgg3 (.obj 2 rfl rfl)) rfl rfl rfl ?_
 refine simL_bind (fun s14v hs16v => ?_)
 refine simL_eff (re_call (vs := [.pointer (some ⟨b7v, 0, none⟩), .int .i64 x0_2]) (cap := []) (A := [obj b7v 143 [.slice y12v.1 s11v.1.length y12v.2, .int .i64 s11v.2], Row 5 1 y12v.1 s11v.1.length y12v.2 (encB s11v.1)]) (rst := [obj b1v 23 [.int .i64 x0_0, .int .i64 x0_1, .int .i64 x0_2], F]) rfl rfl rfl rfl rfl rfl Try.call79 (.sel 0 rfl (.sel 0 rfl (.sel 0 rfl (.sel 0 rfl (.nil _))))) (synodref1_Writer_Int.calls _ _ k b7v y12v.1 y12v.2 s11v.1 s11v.2 x0_2 ) hs16v) rfl rfl rfl ?_
 intro y15v
 refine simL_nil (nrm_then (sim_seq (sim_region ?_)))
 refine simL_val (q_move rfl rfl) rfl rfl rfl ?_
 refine simL_bind (fun s17v hs19v => ?_)
 refine simL_eff (re_call (vs := [.pointer (some ⟨b7v, 0, none⟩)]) (cap := []) (A := [obj b7v 143 [.slice y15v.1 s14v.1.length y15v.2, .int .i64 s14v.2], Row 5 1 y15v.1 s14v.1.length y15v.2 (encB s14v.1)]) (rst := [obj b1v 23 [.int .i64 x0_0, .int .i64 x0_1, .int .i64 x0_2], F]) rfl rfl rfl rfl rfl rfl Try.call80 (.sel 0 rfl (.sel 0 rfl (.sel 0 rfl (.sel 0 rfl (.nil _))))) (synodref1_Writer_Done_s_c0p0.calls _ _ b7v y15v.1 y15v.2 s14v.1 s14v.2 ) hs19v) rfl rfl rfl ?_
 intro y18v
 refine simL_val (q_ext rfl rfl rfl) rfl rfl rfl ?_
 refine simL_val (q_ext rfl rfl rfl) rfl rfl rfl ?_
 refine simL_val (q_asg rfl rfl) rfl rfl rfl ?_
 refine simL_val (q_asg rfl rfl) rfl rfl rfl (simL_nil (nrm_then (sim_rtn ?_)))
 exact rtn_fn (y18v.1, y18v.2) rfl rfl rfl (.sel 0 rfl (.sel 1 rfl (.nil _)))
 refine sim_seq (sim_region ?_)
 refine simL_val (q_move rfl rfl) rfl rfl rfl ?_
 refine simL_val (q_asg rfl rfl) rfl rfl rfl ?_
 refine simL_val (q_asg rfl rfl) rfl rfl rfl (simL_nil (nrm_then (sim_rtn ?_)))
 refine rtn_then ?_
 exact rtn_fn (none, 0) rfl rfl rfl (.row_nil (.sel 1 rfl (.nil _)))

def synodref3_GetState.f (k : Nat) (x0 : List UInt8) : Option (Int × Int × Int × Int) := (synodref1_Reader_Int.f k x0 (0 : Int) (0 : Int)).bind fun s3v => ((synodref1_Reader_Int.f k x0 s3v.2.1 s3v.2.2).bind fun s6v => ((synodref1_Reader_Int.f k x0 s6v.2.1 s6v.2.2).bind fun s9v => ((synodref1_Reader_Done.f x0 s9v.2.1 s9v.2.2).bind fun s13v => ((if s13v = (0 : Int) then ((synodref3_CheckState.f s3v.1 s6v.1 s9v.1).bind fun s20v => (some s20v)) else (some s13v)).bind fun s16v => (if s16v = (0 : Int) then (some (s3v.1, s6v.1, s9v.1, s16v)) else (some (0, 0, 0, s16v)))))))
theorem synodref3_GetState.calls (W : World) (F : HA) (k : Nat) (a0 : Option Addr) (c0 : Nat) (x0 : List UInt8) (h0 : Rd F a0 (encB x0)) (hc0 : x0.length ≤ c0) (hm0 : c0 ≤ maxLen) :
    Fn Try.prog W 30 [.slice a0 x0.length c0] [] F (synodref3_GetState.f k x0) (fun (r : Int × Int × Int × Int) (y : Unit) => .tuple #[.agg #[.int .i64 r.1, .int .i64 r.2.1, .int .i64 r.2.2.1], .int .i64 r.2.2.2]) (fun r y => []) := by
 unfold synodref3_GetState.f
 refine fn_intro 29 Try.func30 rfl Try.ntmps30 rfl ?_
 refine sim_seq (sim_region ?_)
 refine simL_eff (re_alloc rfl Try.zeroValue23 rfl) rfl rfl rfl ?_
 intro b1v
 refine simL_val (q_asg rfl rfl) rfl rfl rfl (simL_nil (nrm_then (sim_seq (sim_region ?_))))
 refine simL_val (q_move rfl rfl) rfl rfl rfl ?_
 refine simL_val (q_build (v := .agg #[.slice a0 x0.length c0, .int .i64 0, .int .i64 0]) rfl rfl (fun _ => by kernel_rfl)) rfl rfl rfl ?_
 refine simL_eff (re_box rfl rfl rfl) rfl rfl rfl ?_
 intro b2v
 refine simL_val (q_asg rfl rfl) rfl rfl rfl (simL_nil (nrm_then (sim_seq (sim_region ?_))))
 refine simL_val (q_move rfl rfl) rfl rfl rfl ?_
 refine simL_bind (fun s3v hs5v => ?_)
 refine simL_eff (re_call (vs := [.pointer (some ⟨b2v, 0, none⟩)]) (cap := []) (A := [obj b2v 152 [.slice a0 x0.length c0, .int .i64 0, .int .i64 0]]) (rst := [obj b1v 23 [.int .i64 0, .int .i64 0, .int .i64 0], F]) rfl rfl rfl rfl rfl rfl Try.call85 (.sel 0 rfl (.sel 0 rfl (.sel 0 rfl (.nil _)))) (synodref1_Reader_Int.calls _ _ k b2v a0 c0 x0 (0 : Int) (0 : Int) (h0.lend 1 rfl) hc0 hm0) hs5v) rfl rfl rfl ?_
 intro y4v
 refine simL_val (q_move rfl rfl) rfl rfl rfl ?_
 refine simL_bind (fun s6v hs8v => ?_)
 refine simL_eff (re_call (vs := [.pointer (some ⟨b2v, 0, none⟩)]) (cap := []) (A := [obj b2v 152 [.slice a0 x0.length c0, .int .i64 s3v.2.1, .int .i64 s3v.2.2]]) (rst := [obj b1v 23 [.int .i64 0, .int .i64 0, .int .i64 0], F]) rfl rfl rfl rfl rfl rfl Try.call85 (.sel 0 rfl (.sel 0 rfl (.sel 0 rfl (.nil _)))) (synodref1_Reader_Int.calls _ _ k b2v a0 c0 x0 s3v.2.1 s3v.2.2 (h0.lend 1 rfl) hc0 hm0) hs8v) rfl rfl rfl ?_
 intro y7v
 refine simL_val (q_move rfl rfl) rfl rfl rfl ?_
 refine simL_bind (fun s9v hs11v => ?_)
 refine simL_eff (re_call (vs := [.pointer (some ⟨b2v, 0, none⟩)]) (cap := []) (A := [obj b2v 152 [.slice a0 x0.length c0, .int .i64 s6v.2.1, .int .i64 s6v.2.2]]) (rst := [obj b1v 23 [.int .i64 0, .int .i64 0, .int .i64 0], F]) rfl rfl rfl rfl rfl rfl Try.call85 (.sel 0 rfl (.sel 0 rfl (.sel 0 rfl (.nil _)))) (synodref1_Reader_Int.calls _ _ k b2v a0 c0 x0 s6v.2.1 s6v.2.2 (h0.lend 1 rfl) hc0 hm0) hs11v) rfl rfl rfl ?_
 intro y10v
 refine simL_val (q_build (v := .agg #[.int .i64 s3v.1, .int .i64 s6v.1, .int .i64 s9v.1]) rfl rfl (fun _ => by kernel_rfl)) rfl rfl rfl ?_
 refine simL_eff (re_alloc rfl Try.zeroValue23 rfl) rfl rfl rfl ?_
 intro b12v
 refine simL_do (re_store 0 rfl rfl rfl Try.sizeOf23 rfl rfl (one_of (by rfl)) rfl rfl) rfl rfl ?_
 intro _
 refine simL_nil (nrm_then (sim_seq (sim_region ?_)))
 refine simL_val (q_move rfl rfl) rfl rfl rfl ?_
 refine simL_bind (fun s13v hs15v => ?_)
 refine simL_eff (re_call (vs := [.pointer (some ⟨b2v, 0, none⟩)]) (cap := []) (A := [obj b2v 152 [.slice a0 x0.length c0, .int .i64 s9v.2.1, .int .i64 s9v.2.2]]) (rst := [obj b12v 23 [.int .i64 s3v.1, .int .i64 s6v.1, .int .i64 s9v.1], obj b1v 23 [.int .i64 0, .int .i64 0, .int .i64 0], F]) rfl rfl rfl rfl rfl rfl Try.call86 (.sel 1 rfl (.sel 0 rfl (.sel 0 rfl (.sel 0 rfl (.nil _))))) (synodref1_Reader_Done.calls _ _ b2v a0 c0 x0 s9v.2.1 s9v.2.2 (h0.lend 2 rfl) hc0 hm0) hs15v) rfl rfl rfl ?_
 intro y14v
 refine simL_val (q_asg rfl rfl) rfl rfl rfl (simL_nil (nrm_then ?_))
 refine sim_cut (S := Int) (Unit) (fun s y => [(2, .pointer (some ⟨b1v, 0, none⟩)), (5, .pointer (some ⟨b12v, 0, none⟩)), (6, .int .i64 s)]) (fun s y => [obj b12v 23 [.int .i64 s3v.1, .int .i64 s6v.1, .int .i64 s9v.1], obj b1v 23 [.int .i64 0, .int .i64 0, .int .i64 0], F]) ?_ ?_
 refine sim_seq (sim_region ?_)
 refine simL_val (q_move rfl rfl) rfl rfl rfl ?_
 refine simL_val (q_eql rfl rfl rfl) rfl rfl rfl (simL_nil (nrm_then ?_))
 refine sim_cond rfl (fun h18v => ?_) (fun h19v => ?_)
 refine sim_region ?_
 refine simL_val (q_loado 1 rfl rfl Try.isAgg23 Try.sizeOf23 rfl rfl) rfl rfl rfl ?_
 refine simL_bind (fun s20v hs22v => ?_)
 refine simL_eff (re_call (vs := [.agg #[.int .i64 s3v.1, .int .i64 s6v.1, .int .i64 s9v.1]]) (cap := []) (A := []) (rst := [obj b2v 152 [.slice a0 x0.length c0, .int .i64 s9v.2.1, .int .i64 s9v.2.2], obj b12v 23 [.int .i64 s3v.1, .int .i64 s6v.1, .int .i64 s9v.1], obj b1v 23 [.int .i64 0, .int .i64 0, .int .i64 0], F]) rfl rfl rfl rfl rfl rfl Try.call16 (.sel 0 rfl (.sel 0 rfl (.sel 0 rfl (.sel 0 rfl (.nil _))))) (synodref3_CheckState.calls _ _ s3v.1 s6v.1 s9v.1 ) hs22v) rfl rfl rfl ?_
 intro y21v
 refine simL_val (q_asg rfl rfl) rfl rfl rfl (simL_nil ?_)
 exact nrm_cut (s := s20v) () ⟨rfl, rfl, rfl, trivial⟩ (.sel 1 rfl (.sel 1 rfl (.sel 1 rfl (.nil _))))
 refine sim_skip ?_
 exact nrm_cut (s := s13v) () ⟨rfl, rfl, rfl, trivial⟩ (.sel 1 rfl (.sel 1 rfl (.sel 1 rfl (.nil _))))
 intro s16v y17v
 refine sim_seq (sim_seq (sim_region ?_))
 refine simL_val (q_move rfl rfl) rfl rfl rfl ?_
 refine simL_val (q_neq rfl rfl rfl) rfl rfl rfl (simL_nil (nrm_then ?_))
 refine sim_condn rfl (fun h23v => ?_) (fun h24v => ?_)
 refine sim_skip ?_
 refine nrm_then (sim_seq (sim_region ?_))
 refine simL_val (q_loado 0 rfl rfl Try.isAgg23 Try.sizeOf23 rfl rfl) rfl rfl rfl ?_
 refine simL_val (q_move rfl rfl) rfl rfl rfl ?_
 refine simL_do (re_store 1 rfl rfl rfl Try.sizeOf23 rfl rfl (one_of (by rfl)) rfl rfl) rfl rfl ?_
 intro _
 refine simL_val (q_asg rfl rfl) rfl rfl rfl (simL_nil (nrm_then (sim_rtn ?_)))
 exact rtn_fnC (vs := [.agg #[.int .i64 s3v.1, .int .i64 s6v.1, .int .i64 s9v.1], .int .i64 s16v]) () rfl ⟨⟨b1v, rfl, load_agg 1 Try.isAgg23 Try.sizeOf23 rfl rfl⟩, rfl, trivial⟩ rfl (.sel 2 rfl (.nil _))
 refine sim_seq (sim_region ?_)
 refine simL_val (q_build (v := .agg #[.int .i64 0, .int .i64 0, .int .i64 0]) rfl rfl (fun _ => by kernel_rfl)) rfl rfl rfl ?_
 refine simL_val (q_move rfl rfl) rfl rfl rfl ?_
 refine simL_do (re_store 1 rfl rfl rfl Try.sizeOf23 rfl rfl (one_of (by rfl)) rfl rfl) rfl rfl ?_
 intro _
 refine simL_val (q_asg rfl rfl) rfl rfl rfl (simL_nil (nrm_then (sim_rtn ?_)))
 refine rtn_then ?_
 exact rtn_fnC (vs := [.agg #[.int .i64 0, .int .i64 0, .int .i64 0], .int .i64 s16v]) () rfl ⟨⟨b1v, rfl, load_agg 1 Try.isAgg23 Try.sizeOf23 rfl rfl⟩, rfl, trivial⟩ rfl (.sel 2 rfl (.nil _))

def wire_NewReader.f (x0 : List UInt8) : Option (List UInt8 × Int × Int) := (wire_fresh.f x0).bind fun s1v => (some (s1v, 0, 0))
theorem wire_NewReader.calls (W : World) (F : HA) (a0 : Option Addr) (c0 : Nat) (x0 : List UInt8) (h0 : Rd F a0 (encB x0)) (hc0 : x0.length ≤ c0) (hm0 : c0 ≤ maxLen) :
    Fn Try.prog W 82 [.slice a0 x0.length c0] [] F (wire_NewReader.f x0) (fun (r : List UInt8 × Int × Int) (y : Nat × Option Addr × Nat) => .pointer (some ⟨y.1, 0, none⟩)) (fun r y => [obj y.1 194 [.slice y.2.1 r.1.length y.2.2, .int .i64 r.2.1, .int .i64 r.2.2], Row 5 1 y.2.1 r.1.length y.2.2 (encB r.1)]) := by
 unfold wire_NewReader.f
 refine fn_intro 7 Try.func82 rfl Try.ntmps82 rfl ?_
 refine sim_seq (sim_region ?_)
 refine simL_val (q_asg rfl rfl) rfl rfl rfl (simL_nil (nrm_then (sim_seq (sim_region ?_))))
 refine simL_val (q_move rfl rfl) rfl rfl rfl ?_
 refine simL_bind (fun s1v hs3v => ?_)
 refine simL_eff (re_call (vs := [.slice a0 x0.length c0]) (cap := []) (A := []) (rst := [F]) rfl rfl rfl rfl rfl rfl Try.call128 (.sel 0 rfl (.nil _)) (wire_fresh.calls _ _ a0 c0 x0 (h0.lend 0 rfl) hc0 hm0) hs3v) rfl rfl rfl ?_
 intro y2v
 refine simL_val (q_build (v := .agg #[.slice y2v.1 s1v.length y2v.2, .int .i64 0, .int .i64 0]) rfl rfl (fun _ => by kernel_rfl)) rfl rfl rfl ?_
 refine simL_eff (re_box rfl rfl rfl) rfl rfl rfl ?_
 intro b4v
 refine simL_val (q_asg rfl rfl) rfl rfl rfl (simL_nil (nrm_then (sim_rtn ?_)))
 exact rtn_fn (b4v, y2v.1, y2v.2) rfl rfl rfl (.sel 0 rfl (.sel 0 rfl (.sel 0 rfl (.nil _))))

def wire_Int.l0 (x0 : List UInt8) (x1 : Int) : Nat → Int → Int → Option ((Unit) ⊕ (Int × Int × Int))
  | 0, _, _ => none
  | k + 1, z7v, z8v => if z8v < (9 : Int) then (if IntKind.i64.wrap ((x0.length : Int) - x1) ≤ z8v then (some (.inr (0, 0, 2))) else (if 0 ≤ IntKind.i64.wrap (x1 + z8v) ∧ IntKind.i64.wrap (x1 + z8v) < (x0.length : Int) then (if 0 ≤ IntKind.i64.wrap (7 * z8v) then (if (128 : Int) ≤ ((x0.getD (IntKind.i64.wrap (x1 + z8v)).toNat 0).toNat : Int) then (wire_Int.l0 x0 x1 k (bitsV .or .i64 z7v (IntKind.i64.wrap ((IntKind.i64.wrap (bitsV .and .u8 ((x0.getD (IntKind.i64.wrap (x1 + z8v)).toNat 0).toNat : Int) 127)) * 2 ^ (min (IntKind.i64.wrap (7 * z8v)).toNat IntKind.i64.bits)))) (IntKind.i64.wrap (z8v + 1))) else (if ((decide (((x0.getD (IntKind.i64.wrap (x1 + z8v)).toNat 0).toNat : Int) = (0 : Int))) && (decide ((0 : Int) < z8v))) = true then (some (.inr (0, 0, 4))) else (if (4611686018427387904 : Int) < bitsV .or .i64 z7v (IntKind.i64.wrap ((IntKind.i64.wrap (bitsV .and .u8 ((x0.getD (IntKind.i64.wrap (x1 + z8v)).toNat 0).toNat : Int) 127)) * 2 ^ (min (IntKind.i64.wrap (7 * z8v)).toNat IntKind.i64.bits))) then (some (.inr (0, 0, 1))) else (some (.inr (bitsV .or .i64 z7v (IntKind.i64.wrap ((IntKind.i64.wrap (bitsV .and .u8 ((x0.getD (IntKind.i64.wrap (x1 + z8v)).toNat 0).toNat : Int) 127)) * 2 ^ (min (IntKind.i64.wrap (7 * z8v)).toNat IntKind.i64.bits))), IntKind.i64.wrap (z8v + 1), 0)))))) else none) else none)) else (some (.inl ()))
def wire_Int.f (k : Nat) (x0 : List UInt8) (x1 : Int) : Option (Int × Int × Int) := if ((decide (x1 < (0 : Int))) || (decide ((x0.length : Int) ≤ x1))) = true then (some (0, 0, 2)) else (orR (wire_Int.l0 x0 x1 k 0 0) fun s3v => (some (0, 0, 4)))
theorem wire_Int.calls (W : World) (F : HA) (k : Nat) (a0 : Option Addr) (c0 : Nat) (x0 : List UInt8) (x1 : Int) (h0 : Rd F a0 (encB x0)) (hc0 : x0.length ≤ c0) (hm0 : c0 ≤ maxLen) :
    Fn Try.prog W 138 [.slice a0 x0.length c0, .int .i64 x1] [] F (wire_Int.f k x0 x1) (fun (r : Int × Int × Int) (y : Unit) => .tuple #[.int .i64 r.1, .int .i64 r.2.1, .int .i64 r.2.2]) (fun r y => []) := by
 unfold wire_Int.f
 refine fn_intro 55 Try.func138 rfl Try.ntmps138 rfl ?_
 refine sim_seq (sim_region ?_)
 refine simL_val (q_asg rfl rfl) rfl rfl rfl ?_
 refine simL_val (q_asg rfl rfl) rfl rfl rfl ?_
 refine simL_val (q_asg rfl rfl) rfl rfl rfl (simL_nil (nrm_then (sim_seq (sim_seq (sim_region ?_)))))
 refine simL_val (q_move rfl rfl) rfl rfl rfl ?_
 refine simL_val (q_lss rfl rfl rfl) rfl rfl rfl ?_
 refine simL_val (q_move rfl rfl) rfl rfl rfl ?_
 refine simL_valc (b := decide (x1 < (0 : Int))) (fun hb29v => RQ.sub (E' := [(1, .int .i64 x1)]) ⟨rfl, trivial⟩ (q_move rfl rfl)) rfl rfl rfl rfl rfl ?_
 refine simL_valc (b := decide (x1 < (0 : Int))) (fun hb28v => RQ.sub (E' := [(0, .slice a0 x0.length c0)]) ⟨rfl, trivial⟩ (q_move rfl rfl)) rfl rfl rfl rfl rfl ?_
 refine simL_valc (b := decide (x1 < (0 : Int))) (fun hb27v => RQ.sub (E' := [(14, .slice a0 x0.length c0)]) ⟨lk_cv rfl hb27v, trivial⟩ (q_len rfl rfl rfl Try.underlying27)) rfl rfl rfl rfl rfl ?_
 refine simL_valc (b := decide (x1 < (0 : Int))) (fun hb26v => RQ.sub (E' := [(13, .int .i64 x1), (15, .int .i64 (x0.length : Int))]) ⟨lk_cv rfl hb26v, lk_cv rfl hb26v, trivial⟩ (q_geq rfl rfl rfl)) rfl rfl rfl rfl rfl ?_
 refine simL_val (q_or rfl rfl rfl) rfl rfl rfl (simL_nil (nrm_then ?_))
 refine sim_condb rfl (fun h1v => ?_) (fun h2v => ?_)
 refine sim_seq (sim_region ?_)
 refine simL_val (q_asg rfl rfl) rfl rfl rfl ?_
 refine simL_val (q_asg rfl rfl) rfl rfl rfl ?_
 refine simL_val (q_asg rfl rfl) rfl rfl rfl (simL_nil (nrm_then (sim_rtn ?_)))
 refine rtn_then ?_
 exact rtn_fn () rfl rfl rfl (.sel 0 rfl (.nil _))
 refine sim_skip ?_
 refine nrm_then (sim_seq (sim_region ?_))
 refine simL_val (q_asg rfl rfl) rfl rfl rfl (simL_nil (nrm_then ?_))
 refine sim_cutR (S := Unit) (Unit) (fun s y => []) (fun s y => [F]) ?_ ?_
 refine sim_seq (sim_region ?_)
 refine simL_val (q_asg rfl rfl) rfl rfl rfl (simL_nil (nrm_then ?_))
 refine sim_block ?_
 refine sim_loop (S := Int × Int) (Unit) (fun k s => wire_Int.l0 x0 x1 k s.1 s.2) (fun s y => [(0, .slice a0 x0.length c0), (1, .int .i64 x1), (7, .int .i64 s.1), (8, .int .i64 s.2)]) (fun s y => [F]) (fun _ => by rw [wire_Int.l0]) ?_ k (0, 0) () ⟨rfl, rfl, rfl, rfl, trivial⟩ (.sel 0 rfl (.nil _))
 intro k s5v y6v
 refine sim_eq (by rw [wire_Int.l0]) ?_
 refine sim_seq (sim_seq (sim_region ?_))
 refine simL_val (q_move rfl rfl) rfl rfl rfl ?_
 refine simL_val (q_lss rfl rfl rfl) rfl rfl rfl (simL_nil (nrm_then ?_))
 refine sim_cond rfl (fun h9v => ?_) (fun h10v => ?_)
 refine sim_skip ?_
 refine nrm_then (sim_seq ?_)
 refine sim_block ?_
 refine sim_seq (sim_seq (sim_region ?_))
 refine simL_val (q_move rfl rfl) rfl rfl rfl ?_
 refine simL_val (q_move rfl rfl) rfl rfl rfl ?_
 refine simL_val (q_len rfl rfl rfl Try.underlying27) rfl rfl rfl ?_
 refine simL_val (q_move rfl rfl) rfl rfl rfl ?_
 refine simL_val (q_sub rfl rfl rfl) rfl rfl rfl ?_
 refine simL_val (q_geq rfl rfl rfl) rfl rfl rfl (simL_nil (nrm_then ?_))
 refine sim_cond rfl (fun h11v => ?_) (fun h12v => ?_)
 refine sim_seq (sim_region ?_)
 refine simL_val (q_asg rfl rfl) rfl rfl rfl ?_
 refine simL_val (q_asg rfl rfl) rfl rfl rfl ?_
 refine simL_val (q_asg rfl rfl) rfl rfl rfl (simL_nil (nrm_then (sim_rtn ?_)))
 refine rtn_then ?_
 refine rtn_block ?_
 refine rtn_then ?_
 refine rtn_loop ?_
 refine rtn_block ?_
 refine rtn_cutR ?_
 exact rtn_fn () rfl rfl rfl (.sel 0 rfl (.nil _))
 refine sim_skip ?_
 refine nrm_then (sim_seq (sim_region ?_))
 refine simL_val (q_move rfl rfl) rfl rfl rfl ?_
 refine simL_val (q_move rfl rfl) rfl rfl rfl ?_
 refine simL_val (q_move rfl rfl) rfl rfl rfl ?_
 refine simL_val (q_add rfl rfl rfl) rfl rfl rfl ?_
 refine simL_ask (fun hi13v => ?_)
 obtain ⟨b14v, b14vo, ha15v⟩ := h0.pos (encB_ne (j := (IntKind.i64.wrap (x1 + s5v.2)).toNat) (by omega))
 refine simL_val (q_idx1 rfl rfl rfl ha15v Try.underlying27 Try.sizeOf5 hi13v.1 hi13v.2) rfl rfl rfl ?_
 refine simL_val (q_load rfl rfl Try.isAgg5 (h0.cell 0 rfl ha15v (encB_get (by omega)))) rfl rfl rfl ?_
 refine simL_val (q_asg rfl rfl) rfl rfl rfl (simL_nil (nrm_then (sim_seq (sim_region ?_))))
 refine simL_val (q_move rfl rfl) rfl rfl rfl ?_
 refine simL_val (q_move rfl rfl) rfl rfl rfl ?_
 refine simL_val (q_and_ rfl rfl rfl) rfl rfl rfl ?_
 refine simL_val (q_conv rfl rfl Try.underlying5 Try.underlying3) rfl rfl rfl ?_
 refine simL_val (q_move rfl rfl) rfl rfl rfl ?_
 refine simL_val (q_mul rfl rfl rfl) rfl rfl rfl ?_
 refine simL_ask (fun hb17v => ?_)
 refine simL_val (q_shl rfl rfl rfl hb17v) rfl rfl rfl ?_
 refine simL_val (q_or_ rfl rfl rfl) rfl rfl rfl ?_
 refine simL_val (q_asg rfl rfl) rfl rfl rfl (simL_nil (nrm_then (sim_seq (sim_seq (sim_region ?_)))))
 refine simL_val (q_move rfl rfl) rfl rfl rfl ?_
 refine simL_val (q_geq rfl rfl rfl) rfl rfl rfl (simL_nil (nrm_then ?_))
 refine sim_cond rfl (fun h18v => ?_) (fun h19v => ?_)
 refine sim_exi ?_
 refine exi_then ?_
 refine exi_here ?_
 refine nrm_then (sim_region ?_)
 refine simL_val (q_move rfl rfl) rfl rfl rfl ?_
 refine simL_val (q_add rfl rfl rfl) rfl rfl rfl ?_
 refine simL_val (q_asg rfl rfl) rfl rfl rfl (simL_nil ?_)
 exact nrm_again (s := (bitsV .or .i64 s5v.1 (IntKind.i64.wrap ((IntKind.i64.wrap (bitsV .and .u8 ((x0.getD (IntKind.i64.wrap (x1 + s5v.2)).toNat 0).toNat : Int) 127)) * 2 ^ (min (IntKind.i64.wrap (7 * s5v.2)).toNat IntKind.i64.bits))), IntKind.i64.wrap (s5v.2 + 1))) () ⟨rfl, rfl, rfl, rfl, trivial⟩ (.sel 0 rfl (.nil _))
 refine sim_skip ?_
 refine nrm_then (sim_seq (sim_seq (sim_region ?_)))
 refine simL_val (q_move rfl rfl) rfl rfl rfl ?_
 refine simL_val (q_eql rfl rfl rfl) rfl rfl rfl ?_
 refine simL_val (q_move rfl rfl) rfl rfl rfl ?_
 refine simL_valc (b := decide (((x0.getD (IntKind.i64.wrap (x1 + s5v.2)).toNat 0).toNat : Int) = (0 : Int))) (fun hb25v => RQ.sub (E' := [(8, .int .i64 s5v.2)]) ⟨rfl, trivial⟩ (q_move rfl rfl)) rfl rfl rfl rfl rfl ?_
 refine simL_valc (b := decide (((x0.getD (IntKind.i64.wrap (x1 + s5v.2)).toNat 0).toNat : Int) = (0 : Int))) (fun hb24v => RQ.sub (E' := [(47, .int .i64 s5v.2)]) ⟨lk_cv rfl hb24v, trivial⟩ (q_gtr rfl rfl rfl)) rfl rfl rfl rfl rfl ?_
 refine simL_val (q_and rfl rfl rfl) rfl rfl rfl (simL_nil (nrm_then ?_))
 refine sim_condb rfl (fun h20v => ?_) (fun h21v => ?_)
 refine sim_seq (sim_region ?_)
 refine simL_val (q_asg rfl rfl) rfl rfl rfl ?_
 refine simL_val (q_asg rfl rfl) rfl rfl rfl ?_
 refine simL_val (q_asg rfl rfl) rfl rfl rfl (simL_nil (nrm_then (sim_rtn ?_)))
 refine rtn_then ?_
 refine rtn_block ?_
 refine rtn_then ?_
 refine rtn_loop ?_
 refine rtn_block ?_
 refine rtn_cutR ?_
 exact rtn_fn () rfl rfl rfl (.sel 0 rfl (.nil _))
 refine sim_skip ?_
 refine nrm_then (sim_seq (sim_seq (sim_region ?_)))
 refine simL_val (q_move rfl rfl) rfl rfl rfl ?_
 refine simL_val (q_gtr rfl rfl rfl) rfl rfl rfl (simL_nil (nrm_then ?_))
 refine sim_cond rfl (fun h22v => ?_) (fun h23v => ?_)
 refine sim_seq (sim_region ?_)
 refine simL_val (q_asg rfl rfl) rfl rfl rfl ?_
 refine simL_val (q_asg rfl rfl) rfl rfl rfl ?_
 refine simL_val (q_asg rfl rfl) rfl rfl rfl (simL_nil (nrm_then (sim_rtn ?_)))
 refine rtn_then ?_
 refine rtn_block ?_
 refine rtn_then ?_
 refine rtn_loop ?_
 refine rtn_block ?_
 refine rtn_cutR ?_
 exact rtn_fn () rfl rfl rfl (.sel 0 rfl (.nil _))
 refine sim_skip ?_
 refine nrm_then (sim_seq (sim_region ?_))
 refine simL_val (q_move rfl rfl) rfl rfl rfl ?_
 refine simL_val (q_move rfl rfl) rfl rfl rfl ?_
 refine simL_val (q_add rfl rfl rfl) rfl rfl rfl ?_
 refine simL_val (q_asg rfl rfl) rfl rfl rfl ?_
 refine simL_val (q_asg rfl rfl) rfl rfl rfl ?_
 refine simL_val (q_asg rfl rfl) rfl rfl rfl (simL_nil (nrm_then (sim_rtn ?_)))
 refine rtn_block ?_
 refine rtn_then ?_
 refine rtn_loop ?_
 refine rtn_block ?_
 refine rtn_cutR ?_
 exact rtn_fn () rfl rfl rfl (.sel 0 rfl (.nil _))
 refine sim_exi ?_
 refine exi_then ?_
 refine exi_loop ?_
 refine exi_here ?_
 exact nrm_cutR (s := ()) () trivial (.sel 0 rfl (.nil _))
 intro s3v y4v
 refine sim_seq (sim_region ?_)
 refine simL_val (q_asg rfl rfl) rfl rfl rfl ?_
 refine simL_val (q_asg rfl rfl) rfl rfl rfl ?_
 refine simL_val (q_asg rfl rfl) rfl rfl rfl (simL_nil (nrm_then (sim_rtn ?_)))
 exact rtn_fn () rfl rfl rfl (.sel 0 rfl (.nil _))

def wire_Reader_look.f (k : Nat) (x0_0 : List UInt8) (x0_1 : Int) (x0_2 : Int) : Option (Int × Int × Bool × Int × Int) := if x0_2 = (0 : Int) then ((wire_Int.f k x0_0 x0_1).bind fun s3v => (some (s3v.1, s3v.2.1, decide (s3v.2.2 = (0 : Int)), x0_1, s3v.2.2))) else (some (0, 0, false, x0_1, x0_2))
theorem wire_Reader_look.calls (W : World) (F : HA) (k : Nat) (b0 : Nat) (a0_0 : Option Addr) (c0_0 : Nat) (x0_0 : List UInt8) (x0_1 : Int) (x0_2 : Int) (h0_0 : Rd F a0_0 (encB x0_0)) (hc0_0 : x0_0.length ≤ c0_0) (hm0_0 : c0_0 ≤ maxLen) :
    Fn Try.prog W 129 [.pointer (some ⟨b0, 0, none⟩)] [obj b0 194 [.slice a0_0 x0_0.length c0_0, .int .i64 x0_1, .int .i64 x0_2]] F (wire_Reader_look.f k x0_0 x0_1 x0_2) (fun (r : Int × Int × Bool × Int × Int) (y : Unit) => .tuple #[.int .i64 r.1, .int .i64 r.2.1, .bool r.2.2.1]) (fun r y => [obj b0 194 [.slice a0_0 x0_0.length c0_0, .int .i64 r.2.2.2.1, .int .i64 r.2.2.2.2]]) := by
 unfold wire_Reader_look.f
 refine fn_intro 34 Try.func129 rfl Try.ntmps129 rfl ?_
 refine sim_seq (sim_region ?_)
 refine simL_val (q_asg rfl rfl) rfl rfl rfl ?_
 refine simL_val (q_asg rfl rfl) rfl rfl rfl ?_
 refine simL_val (q_asg rfl rfl) rfl rfl rfl (simL_nil (nrm_then (sim_seq (sim_seq (sim_region ?_)))))
 refine simL_val (q_move rfl rfl) rfl rfl rfl ?_
 refine simL_val (q_nil rfl rfl) rfl rfl rfl ?_
 refine simL_val (q_fa rfl rfl Try.underlying194 rfl rfl Try.sizeOf46 rfl) rfl rfl rfl ?_
 refine simL_val (q_load rfl rfl Try.isAgg46 (.obj 0 rfl rfl)) rfl rfl rfl ?_
 refine simL_val (q_neq rfl rfl rfl) rfl rfl rfl (simL_nil (nrm_then ?_))
 refine sim_condn rfl (fun h1v => ?_) (fun h2v => ?_)
 refine sim_skip ?_
 refine nrm_then (sim_seq ?_)
 refine sim_bind (fun s3v hs5v => ?_)
 refine sim_draw (Γ := Unit) () [[], [0], [0, 1], [0, 1, 2], [], [4], [4, 5], [4, 5, 6], [0, 1, 2, 3, 4, 5, 6, 7], [0, 1, 2, 3, 4, 5, 6, 7, 8], [0, 1, 2, 3, 4, 5, 6, 7, 8, 9], [0, 1, 2, 3, 4, 5, 6, 7, 8, 9], [0, 1, 2, 3, 4, 5, 6, 7, 8, 9], [0, 1, 2, 3, 4, 5, 6, 7, 8, 9, 10], [0, 1, 2, 3, 4, 5, 6, 7, 8, 9, 10, 11, 13], [0, 1, 2, 3, 4, 5, 6, 7, 8, 9, 10, 11, 12, 13, 14]] [8] [0, 1, 2, 3, 4, 5, 6, 7, 9, 10, 11, 12, 13, 14, 15] (fun i => [[0], [0], [0], [0], [0], [0], [0], [0], [], [1], [1], [1], [1], [1], [1], [1]].getD i []) (fun i => [[], [], [], [], [], [], [], [], [0, 1, 2, 3, 4, 5, 6, 7], [], [], [], [], [], [], []].getD i []) (fun γ i => [.pointer (some ⟨b0, 0, none⟩), .pointer (some ⟨b0, 0, none⟩), .pointer (some ⟨b0, 0, none⟩), .slice a0_0 x0_0.length c0_0, .pointer (some ⟨b0, 0, none⟩), .pointer (some ⟨b0, 0, none⟩), .pointer (some ⟨b0, 1, none⟩), .int .i64 x0_1, .tuple #[.int .i64 s3v.1, .int .i64 s3v.2.1, .int .i64 s3v.2.2], .tuple #[.int .i64 s3v.1, .int .i64 s3v.2.1, .int .i64 s3v.2.2], .int .i64 s3v.1, .int .i64 s3v.2.1, .int .i64 s3v.2.2, .int .i64 s3v.1, .int .i64 s3v.2.1, .int .i64 s3v.2.2].getD i undef) (fun j γ => [[obj b0 194 [.slice a0_0 x0_0.length c0_0, .int .i64 x0_1, .int .i64 x0_2], F], [obj b0 194 [.slice a0_0 x0_0.length c0_0, .int .i64 x0_1, .int .i64 x0_2], F]].getD j []) (fun γ => [(0, .pointer (some ⟨b0, 0, none⟩)), (5, .int .i64 s3v.1), (6, .int .i64 s3v.2.1), (7, .int .i64 s3v.2.2)]) mixed (by decide) (by decide) (by decide) (by decide) (by decide) (by decide) (by decide) 34 rfl (by decide) (by decide) (by decide) (Ent.refl _) ?_ ?_ (fun _ => ⟨rfl, rfl, rfl, rfl, trivial⟩) ?_
 exact (All.cons (fun γ => (All.cons (QOb.plain [(0, .pointer (some ⟨b0, 0, none⟩))] rfl rfl (.o rfl (by decide) .nil) (q_move rfl rfl) rfl) All.nil)) (All.cons (fun γ => (All.cons (QOb.plain [(14, .pointer (some ⟨b0, 0, none⟩))] rfl rfl (.w 0 rfl rfl rfl .nil) (q_nil rfl rfl) rfl) All.nil)) (All.cons (fun γ => (All.cons (QOb.plain [(15, .pointer (some ⟨b0, 0, none⟩))] rfl rfl (.w 1 rfl rfl rfl .nil) (q_fa rfl rfl Try.underlying194 rfl rfl Try.sizeOf27 rfl) rfl) All.nil)) (All.cons (fun γ => (All.cons (QOb.plain [(16, .pointer (some ⟨b0, 0, none⟩))] rfl rfl (.w 2 rfl rfl rfl .nil) (q_load rfl rfl Try.isAgg27 (.obj 0 rfl rfl)) rfl) All.nil)) (All.cons (fun γ => (All.cons (QOb.plain [(0, .pointer (some ⟨b0, 0, none⟩))] rfl rfl (.o rfl (by decide) .nil) (q_move rfl rfl) rfl) All.nil)) (All.cons (fun γ => (All.cons (QOb.plain [(18, .pointer (some ⟨b0, 0, none⟩))] rfl rfl (.w 4 rfl rfl rfl .nil) (q_nil rfl rfl) rfl) All.nil)) (All.cons (fun γ => (All.cons (QOb.plain [(19, .pointer (some ⟨b0, 0, none⟩))] rfl rfl (.w 5 rfl rfl rfl .nil) (q_fa rfl rfl Try.underlying194 rfl rfl Try.sizeOf3 rfl) rfl) All.nil)) (All.cons (fun γ => (All.cons (QOb.plain [(20, .pointer (some ⟨b0, 1, none⟩))] rfl rfl (.w 6 rfl rfl rfl .nil) (q_load rfl rfl Try.isAgg3 (.obj 0 rfl rfl)) rfl) All.nil)) (All.cons (fun γ => (All.cons (QOb.plain [(22, .tuple #[.int .i64 s3v.1, .int .i64 s3v.2.1, .int .i64 s3v.2.2])] rfl rfl (.w 8 rfl rfl rfl .nil) (q_move rfl rfl) rfl) All.nil)) (All.cons (fun γ => (All.cons (QOb.plain [(13, .tuple #[.int .i64 s3v.1, .int .i64 s3v.2.1, .int .i64 s3v.2.2])] rfl rfl (.w 9 rfl rfl rfl .nil) (q_ext rfl rfl rfl) rfl) All.nil)) (All.cons (fun γ => (All.cons (QOb.plain [(13, .tuple #[.int .i64 s3v.1, .int .i64 s3v.2.1, .int .i64 s3v.2.2])] rfl rfl (.w 9 rfl rfl rfl .nil) (q_ext rfl rfl rfl) rfl) All.nil)) (All.cons (fun γ => (All.cons (QOb.plain [(13, .tuple #[.int .i64 s3v.1, .int .i64 s3v.2.1, .int .i64 s3v.2.2])] rfl rfl (.w 9 rfl rfl rfl .nil) (q_ext rfl rfl rfl) rfl) All.nil)) (All.cons (fun γ => (All.cons (QOb.plain [(23, .int .i64 s3v.1)] rfl rfl (.w 10 rfl rfl rfl .nil) (q_asg rfl rfl) rfl) All.nil)) (All.cons (fun γ => (All.cons (QOb.plain [(24, .int .i64 s3v.2.1)] rfl rfl (.w 11 rfl rfl rfl .nil) (q_asg rfl rfl) rfl) All.nil)) (All.cons (fun γ => (All.cons (QOb.plain [(25, .int .i64 s3v.2.2)] rfl rfl (.w 12 rfl rfl rfl .nil) (q_asg rfl rfl) rfl) All.nil)) All.nil)))))))))))))))
 exact (All.cons (fun γ => EOb.mk (Z := Unit) [(17, .slice a0_0 x0_0.length c0_0), (21, .int .i64 x0_1)] (fun z => ()) rfl rfl (.w 3 rfl rfl rfl (.w 7 rfl rfl rfl .nil)) (re_call (vs := [.slice a0_0 x0_0.length c0_0, .int .i64 x0_1]) (cap := []) (A := []) (rst := [obj b0 194 [.slice a0_0 x0_0.length c0_0, .int .i64 x0_1, .int .i64 x0_2], F]) rfl rfl rfl rfl rfl rfl Try.call138 (.sel 0 rfl (.sel 0 rfl (.nil _))) (wire_Int.calls _ _ k a0_0 c0_0 x0_0 x0_1 (h0_0.lend 1 rfl) hc0_0 hm0_0) hs5v) (fun _ => ⟨rfl, rfl, rfl, rfl, rfl, rfl, rfl, rfl, trivial⟩) (fun _ => .inr rfl) (fun z => Ent.refl _)) All.nil)
 intro g6v
 refine nrm_then (sim_seq (sim_region ?_))
 refine simL_val (q_move rfl rfl) rfl rfl rfl ?_
 refine simL_val (q_move rfl rfl) rfl rfl rfl ?_
 refine simL_val (q_nil rfl rfl) rfl rfl rfl ?_
 refine simL_val (q_fa rfl rfl Try.underlying194 rfl rfl Try.sizeOf46 rfl) rfl rfl rfl ?_
 refine simL_do (re_store 0 rfl rfl rfl Try.sizeOf46 rfl rfl (one_of (by rfl)) rfl rfl) rfl rfl ?_
 intro _
 refine simL_nil (nrm_then (sim_seq (sim_region ?_)))
 refine simL_val (q_move rfl rfl) rfl rfl rfl ?_
 refine simL_val (q_move rfl rfl) rfl rfl rfl ?_
 refine simL_val (q_move rfl rfl) rfl rfl rfl ?_
 refine simL_val (q_eql rfl rfl rfl) rfl rfl rfl ?_
 refine simL_val (q_asg rfl rfl) rfl rfl rfl ?_
 refine simL_val (q_asg rfl rfl) rfl rfl rfl ?_
 refine simL_val (q_asg rfl rfl) rfl rfl rfl (simL_nil (nrm_then (sim_rtn ?_)))
 exact rtn_fn () rfl rfl rfl (.sel 0 rfl (.sel 0 rfl (.nil _)))
 refine sim_seq (sim_region ?_)
 refine simL_val (q_asg rfl rfl) rfl rfl rfl ?_
 refine simL_val (q_asg rfl rfl) rfl rfl rfl ?_
 refine simL_val (q_asg rfl rfl) rfl rfl rfl (simL_nil (nrm_then (sim_rtn ?_)))
 refine rtn_then ?_
 exact rtn_fn () rfl rfl rfl (.sel 0 rfl (.sel 0 rfl (.nil _)))

def wire_Reader_Int.f (k : Nat) (x0_0 : List UInt8) (x0_1 : Int) (x0_2 : Int) : Option (Int × Int × Int) := (wire_Reader_look.f k x0_0 x0_1 x0_2).bind fun s1v => (if (!s1v.2.2.1) = true then (some (0, s1v.2.2.2.1, s1v.2.2.2.2)) else (some (s1v.1, IntKind.i64.wrap (s1v.2.2.2.1 + s1v.2.1), s1v.2.2.2.2)))
theorem wire_Reader_Int.calls (W : World) (F : HA) (k : Nat) (b0 : Nat) (a0_0 : Option Addr) (c0_0 : Nat) (x0_0 : List UInt8) (x0_1 : Int) (x0_2 : Int) (h0_0 : Rd F a0_0 (encB x0_0)) (hc0_0 : x0_0.length ≤ c0_0) (hm0_0 : c0_0 ≤ maxLen) :
    Fn Try.prog W 83 [.pointer (some ⟨b0, 0, none⟩)] [obj b0 194 [.slice a0_0 x0_0.length c0_0, .int .i64 x0_1, .int .i64 x0_2]] F (wire_Reader_Int.f k x0_0 x0_1 x0_2) (fun (r : Int × Int × Int) (y : Unit) => .int .i64 r.1) (fun r y => [obj b0 194 [.slice a0_0 x0_0.length c0_0, .int .i64 r.2.1, .int .i64 r.2.2]]) := by
 unfold wire_Reader_Int.f
 refine fn_intro 23 Try.func83 rfl Try.ntmps83 rfl ?_
 refine sim_seq (sim_region ?_)
 refine simL_val (q_asg rfl rfl) rfl rfl rfl (simL_nil (nrm_then (sim_seq (sim_region ?_))))
 refine simL_val (q_move rfl rfl) rfl rfl rfl ?_
 refine simL_bind (fun s1v hs3v => ?_)
 refine simL_eff (re_call (vs := [.pointer (some ⟨b0, 0, none⟩)]) (cap := []) (A := [obj b0 194 [.slice a0_0 x0_0.length c0_0, .int .i64 x0_1, .int .i64 x0_2]]) (rst := [F]) rfl rfl rfl rfl rfl rfl Try.call129 (.sel 0 rfl (.sel 0 rfl (.nil _))) (wire_Reader_look.calls _ _ k b0 a0_0 c0_0 x0_0 x0_1 x0_2 (h0_0.lend 0 rfl) hc0_0 hm0_0) hs3v) rfl rfl rfl ?_
 intro y2v
 refine simL_val (q_move rfl rfl) rfl rfl rfl ?_
 refine simL_val (q_ext rfl rfl rfl) rfl rfl rfl ?_
 refine simL_val (q_ext rfl rfl rfl) rfl rfl rfl ?_
 refine simL_val (q_ext rfl rfl rfl) rfl rfl rfl ?_
 refine simL_val (q_asg rfl rfl) rfl rfl rfl ?_
 refine simL_val (q_asg rfl rfl) rfl rfl rfl ?_
 refine simL_val (q_asg rfl rfl) rfl rfl rfl (simL_nil (nrm_then (sim_seq (sim_seq (sim_region ?_)))))
 refine simL_val (q_move rfl rfl) rfl rfl rfl ?_
 refine simL_val (q_not rfl rfl) rfl rfl rfl (simL_nil (nrm_then ?_))
 refine sim_condb rfl (fun h4v => ?_) (fun h5v => ?_)
 refine sim_seq (sim_region ?_)
 refine simL_val (q_asg rfl rfl) rfl rfl rfl (simL_nil (nrm_then (sim_rtn ?_)))
 refine rtn_then ?_
 exact rtn_fn () rfl rfl rfl (.sel 0 rfl (.sel 0 rfl (.nil _)))
 refine sim_skip ?_
 refine nrm_then (sim_seq (sim_region ?_))
 refine simL_val (q_move rfl rfl) rfl rfl rfl ?_
 refine simL_val (q_nil rfl rfl) rfl rfl rfl ?_
 refine simL_val (q_fa rfl rfl Try.underlying194 rfl rfl Try.sizeOf3 rfl) rfl rfl rfl ?_
 refine simL_val (q_load rfl rfl Try.isAgg3 (.obj 0 rfl rfl)) rfl rfl rfl ?_
 refine simL_val (q_move rfl rfl) rfl rfl rfl ?_
 refine simL_val (q_add rfl rfl rfl) rfl rfl rfl ?_
 refine simL_val (q_nil rfl rfl) rfl rfl rfl ?_
 refine simL_val (q_fa rfl rfl Try.underlying194 rfl rfl Try.sizeOf3 rfl) rfl rfl rfl ?_
 refine simL_do (re_store 0 rfl rfl rfl Try.sizeOf3 rfl rfl (one_of (by rfl)) rfl rfl) rfl rfl ?_
 intro _
 refine simL_nil (nrm_then (sim_seq (sim_region ?_)))
 refine simL_val (q_move rfl rfl) rfl rfl rfl ?_
 refine simL_val (q_asg rfl rfl) rfl rfl rfl (simL_nil (nrm_then (sim_rtn ?_)))
 exact rtn_fn () rfl rfl rfl (.sel 0 rfl (.sel 0 rfl (.nil _)))

def wire_Reader_Bytes.f (k : Nat) (x0_0 : List UInt8) (x0_1 : Int) (x0_2 : Int) (x1 : Int) : Option (List UInt8 × Int × Int) := (wire_Reader_look.f k x0_0 x0_1 x0_2).bind fun s1v => (if (!s1v.2.2.1) = true then (some (([] : List UInt8), s1v.2.2.2.1, s1v.2.2.2.2)) else (if max x1 (0 : Int) < s1v.1 then (some (([] : List UInt8), s1v.2.2.2.1, 3)) else (if IntKind.i64.wrap ((IntKind.i64.wrap ((x0_0.length : Int) - s1v.2.2.2.1)) - s1v.2.1) < s1v.1 then (some (([] : List UInt8), s1v.2.2.2.1, 2)) else (if 0 ≤ IntKind.i64.wrap (s1v.2.2.2.1 + s1v.2.1) ∧ IntKind.i64.wrap (s1v.2.2.2.1 + s1v.2.1) ≤ IntKind.i64.wrap ((IntKind.i64.wrap (s1v.2.2.2.1 + s1v.2.1)) + s1v.1) ∧ IntKind.i64.wrap ((IntKind.i64.wrap (s1v.2.2.2.1 + s1v.2.1)) + s1v.1) ≤ (x0_0.length : Int) then ((wire_fresh.f (cut x0_0 (IntKind.i64.wrap (s1v.2.2.2.1 + s1v.2.1)) (IntKind.i64.wrap ((IntKind.i64.wrap (s1v.2.2.2.1 + s1v.2.1)) + s1v.1)))).bind fun s18v => (some (s18v, IntKind.i64.wrap ((IntKind.i64.wrap (s1v.2.2.2.1 + s1v.2.1)) + s1v.1), s1v.2.2.2.2))) else none))))
theorem wire_Reader_Bytes.calls (W : World) (F : HA) (k : Nat) (b0 : Nat) (a0_0 : Option Addr) (c0_0 : Nat) (x0_0 : List UInt8) (x0_1 : Int) (x0_2 : Int) (x1 : Int) (h0_0 : Rd F a0_0 (encB x0_0)) (hc0_0 : x0_0.length ≤ c0_0) (hm0_0 : c0_0 ≤ maxLen) :
    Fn Try.prog W 90 [.pointer (some ⟨b0, 0, none⟩), .int .i64 x1] [obj b0 194 [.slice a0_0 x0_0.length c0_0, .int .i64 x0_1, .int .i64 x0_2]] F (wire_Reader_Bytes.f k x0_0 x0_1 x0_2 x1) (fun (r : List UInt8 × Int × Int) (y : Option Addr × Nat) => .slice y.1 r.1.length y.2) (fun r y => [Row 5 1 y.1 r.1.length y.2 (encB r.1), obj b0 194 [.slice a0_0 x0_0.length c0_0, .int .i64 r.2.1, .int .i64 r.2.2]]) := by
 unfold wire_Reader_Bytes.f
 refine fn_intro 67 Try.func90 rfl Try.ntmps90 rfl ?_
 refine sim_seq (sim_region ?_)
 refine simL_val (q_asg rfl rfl) rfl rfl rfl (simL_nil (nrm_then (sim_seq (sim_region ?_))))
 refine simL_val (q_move rfl rfl) rfl rfl rfl ?_
 refine simL_bind (fun s1v hs3v => ?_)
 refine simL_eff (re_call (vs := [.pointer (some ⟨b0, 0, none⟩)]) (cap := []) (A := [obj b0 194 [.slice a0_0 x0_0.length c0_0, .int .i64 x0_1, .int .i64 x0_2]]) (rst := [F]) rfl rfl rfl rfl rfl rfl Try.call129 (.sel 0 rfl (.sel 0 rfl (.nil _))) (wire_Reader_look.calls _ _ k b0 a0_0 c0_0 x0_0 x0_1 x0_2 (h0_0.lend 0 rfl) hc0_0 hm0_0) hs3v) rfl rfl rfl ?_
 intro y2v
 refine simL_val (q_move rfl rfl) rfl rfl rfl ?_
 refine simL_val (q_ext rfl rfl rfl) rfl rfl rfl ?_
 refine simL_val (q_ext rfl rfl rfl) rfl rfl rfl ?_
 refine simL_val (q_ext rfl rfl rfl) rfl rfl rfl ?_
 refine simL_val (q_asg rfl rfl) rfl rfl rfl ?_
 refine simL_val (q_asg rfl rfl) rfl rfl rfl ?_
 refine simL_val (q_asg rfl rfl) rfl rfl rfl (simL_nil (nrm_then (sim_seq ?_)))
 refine sim_block ?_
 refine sim_seq (sim_region ?_)
 refine simL_val (q_move rfl rfl) rfl rfl rfl ?_
 refine simL_val (q_not rfl rfl) rfl rfl rfl ?_
 refine simL_val (q_asg rfl rfl) rfl rfl rfl (simL_nil (nrm_then ?_))
 refine sim_condb rfl (fun h4v => ?_) (fun h5v => ?_)
 refine sim_seq (sim_region ?_)
 refine simL_val (q_asg rfl rfl) rfl rfl rfl (simL_nil (nrm_then (sim_rtn ?_)))
 refine rtn_block ?_
 refine rtn_then ?_
 exact rtn_fn (none, 0) rfl rfl rfl (.row_nil (.sel 0 rfl (.sel 0 rfl (.nil _))))
 refine sim_seq (sim_region ?_)
 refine simL_val (q_move rfl rfl) rfl rfl rfl ?_
 refine simL_val (q_move rfl rfl) rfl rfl rfl ?_
 refine simL_val (q_max rfl rfl rfl) rfl rfl rfl ?_
 refine simL_val (q_gtr rfl rfl rfl) rfl rfl rfl ?_
 refine simL_val (q_asg rfl rfl) rfl rfl rfl (simL_nil (nrm_then ?_))
 refine sim_cond rfl (fun h6v => ?_) (fun h7v => ?_)
 refine sim_seq (sim_region ?_)
 refine simL_val (q_move rfl rfl) rfl rfl rfl ?_
 refine simL_val (q_nil rfl rfl) rfl rfl rfl ?_
 refine simL_val (q_fa rfl rfl Try.underlying194 rfl rfl Try.sizeOf46 rfl) rfl rfl rfl ?_
 refine simL_do (re_store 0 rfl rfl rfl Try.sizeOf46 rfl rfl (one_of (by rfl)) rfl rfl) rfl rfl ?_
 intro _
 refine simL_nil (nrm_then (sim_seq (sim_region ?_)))
 refine simL_val (q_asg rfl rfl) rfl rfl rfl (simL_nil (nrm_then (sim_rtn ?_)))
 refine rtn_block ?_
 refine rtn_then ?_
 exact rtn_fn (none, 0) rfl rfl rfl (.row_nil (.sel 0 rfl (.sel 0 rfl (.nil _))))
 refine sim_seq ?_
 refine sim_draw (Γ := Unit) () [[], [], [1], [1, 2], [1, 2, 3], [1, 2, 3, 4], [], [6], [6, 7], [6, 7, 8], [1, 2, 3, 4, 5, 6, 7, 8, 9], [], [1, 2, 3, 4, 5, 6, 7, 8, 9, 10, 11], [0, 1, 2, 3, 4, 5, 6, 7, 8, 9, 10, 11, 12], [0, 1, 2, 3, 4, 5, 6, 7, 8, 9, 10, 11, 12, 13]] [] [0, 1, 2, 3, 4, 5, 6, 7, 8, 9, 10, 11, 12, 13, 14] (fun i => [[0], [0], [0], [0], [0], [0], [0], [0], [0], [0], [0], [0], [0], [0], [0]].getD i []) (fun i => [[], [], [], [], [], [], [], [], [], [], [], [], [], [], []].getD i []) (fun γ i => [.int .i64 s1v.1, .pointer (some ⟨b0, 0, none⟩), .pointer (some ⟨b0, 0, none⟩), .pointer (some ⟨b0, 0, none⟩), .slice a0_0 x0_0.length c0_0, .int .i64 (x0_0.length : Int), .pointer (some ⟨b0, 0, none⟩), .pointer (some ⟨b0, 0, none⟩), .pointer (some ⟨b0, 1, none⟩), .int .i64 s1v.2.2.2.1, .int .i64 (IntKind.i64.wrap ((x0_0.length : Int) - s1v.2.2.2.1)), .int .i64 s1v.2.1, .int .i64 (IntKind.i64.wrap ((IntKind.i64.wrap ((x0_0.length : Int) - s1v.2.2.2.1)) - s1v.2.1)), .bool (decide (IntKind.i64.wrap ((IntKind.i64.wrap ((x0_0.length : Int) - s1v.2.2.2.1)) - s1v.2.1) < s1v.1)), .bool (decide (IntKind.i64.wrap ((IntKind.i64.wrap ((x0_0.length : Int) - s1v.2.2.2.1)) - s1v.2.1) < s1v.1))].getD i undef) (fun j γ => [[obj b0 194 [.slice a0_0 x0_0.length c0_0, .int .i64 s1v.2.2.2.1, .int .i64 s1v.2.2.2.2], F]].getD j []) (fun γ => [(0, .pointer (some ⟨b0, 0, none⟩)), (5, .int .i64 s1v.1), (6, .int .i64 s1v.2.1), (26, .bool (decide (IntKind.i64.wrap ((IntKind.i64.wrap ((x0_0.length : Int) - s1v.2.2.2.1)) - s1v.2.1) < s1v.1)))]) mixed (by decide) (by decide) (by decide) (by decide) (by decide) (by decide) (by decide) 67 rfl (by decide) (by decide) (by decide) (Ent.refl _) ?_ ?_ (fun _ => ⟨rfl, rfl, rfl, rfl, trivial⟩) ?_
 exact (All.cons (fun γ => (All.cons (QOb.plain [(5, .int .i64 s1v.1)] rfl rfl (.o rfl (by decide) .nil) (q_move rfl rfl) rfl) All.nil)) (All.cons (fun γ => (All.cons (QOb.plain [(0, .pointer (some ⟨b0, 0, none⟩))] rfl rfl (.o rfl (by decide) .nil) (q_move rfl rfl) rfl) All.nil)) (All.cons (fun γ => (All.cons (QOb.plain [(28, .pointer (some ⟨b0, 0, none⟩))] rfl rfl (.w 1 rfl rfl rfl .nil) (q_nil rfl rfl) rfl) All.nil)) (All.cons (fun γ => (All.cons (QOb.plain [(29, .pointer (some ⟨b0, 0, none⟩))] rfl rfl (.w 2 rfl rfl rfl .nil) (q_fa rfl rfl Try.underlying194 rfl rfl Try.sizeOf27 rfl) rfl) All.nil)) (All.cons (fun γ => (All.cons (QOb.plain [(30, .pointer (some ⟨b0, 0, none⟩))] rfl rfl (.w 3 rfl rfl rfl .nil) (q_load rfl rfl Try.isAgg27 (.obj 0 rfl rfl)) rfl) All.nil)) (All.cons (fun γ => (All.cons (QOb.plain [(31, .slice a0_0 x0_0.length c0_0)] rfl rfl (.w 4 rfl rfl rfl .nil) (q_len rfl rfl rfl Try.underlying27) rfl) All.nil)) (All.cons (fun γ => (All.cons (QOb.plain [(0, .pointer (some ⟨b0, 0, none⟩))] rfl rfl (.o rfl (by decide) .nil) (q_move rfl rfl) rfl) All.nil)) (All.cons (fun γ => (All.cons (QOb.plain [(33, .pointer (some ⟨b0, 0, none⟩))] rfl rfl (.w 6 rfl rfl rfl .nil) (q_nil rfl rfl) rfl) All.nil)) (All.cons (fun γ => (All.cons (QOb.plain [(34, .pointer (some ⟨b0, 0, none⟩))] rfl rfl (.w 7 rfl rfl rfl .nil) (q_fa rfl rfl Try.underlying194 rfl rfl Try.sizeOf3 rfl) rfl) All.nil)) (All.cons (fun γ => (All.cons (QOb.plain [(35, .pointer (some ⟨b0, 1, none⟩))] rfl rfl (.w 8 rfl rfl rfl .nil) (q_load rfl rfl Try.isAgg3 (.obj 0 rfl rfl)) rfl) All.nil)) (All.cons (fun γ => (All.cons (QOb.plain [(32, .int .i64 (x0_0.length : Int)), (36, .int .i64 s1v.2.2.2.1)] rfl rfl (.w 5 rfl rfl rfl (.w 9 rfl rfl rfl .nil)) (q_sub rfl rfl rfl) rfl) All.nil)) (All.cons (fun γ => (All.cons (QOb.plain [(6, .int .i64 s1v.2.1)] rfl rfl (.o rfl (by decide) .nil) (q_move rfl rfl) rfl) All.nil)) (All.cons (fun γ => (All.cons (QOb.plain [(37, .int .i64 (IntKind.i64.wrap ((x0_0.length : Int) - s1v.2.2.2.1))), (38, .int .i64 s1v.2.1)] rfl rfl (.w 10 rfl rfl rfl (.w 11 rfl rfl rfl .nil)) (q_sub rfl rfl rfl) rfl) All.nil)) (All.cons (fun γ => (All.cons (QOb.plain [(27, .int .i64 s1v.1), (39, .int .i64 (IntKind.i64.wrap ((IntKind.i64.wrap ((x0_0.length : Int) - s1v.2.2.2.1)) - s1v.2.1)))] rfl rfl (.w 0 rfl rfl rfl (.w 12 rfl rfl rfl .nil)) (q_gtr rfl rfl rfl) rfl) All.nil)) (All.cons (fun γ => (All.cons (QOb.plain [(40, .bool (decide (IntKind.i64.wrap ((IntKind.i64.wrap ((x0_0.length : Int) - s1v.2.2.2.1)) - s1v.2.1) < s1v.1)))] rfl rfl (.w 13 rfl rfl rfl .nil) (q_asg rfl rfl) rfl) All.nil)) All.nil)))))))))))))))
 exact All.nil
 intro g8v
 refine nrm_then ?_
 refine sim_cond rfl (fun h9v => ?_) (fun h10v => ?_)
 refine sim_seq (sim_region ?_)
 refine simL_val (q_move rfl rfl) rfl rfl rfl ?_
 refine simL_val (q_nil rfl rfl) rfl rfl rfl ?_
 refine simL_val (q_fa rfl rfl Try.underlying194 rfl rfl Try.sizeOf46 rfl) rfl rfl rfl ?_
 refine simL_do (re_store 0 rfl rfl rfl Try.sizeOf46 rfl rfl (one_of (by rfl)) rfl rfl) rfl rfl ?_
 intro _
 refine simL_nil (nrm_then (sim_seq (sim_region ?_)))
 refine simL_val (q_asg rfl rfl) rfl rfl rfl (simL_nil (nrm_then (sim_rtn ?_)))
 refine rtn_block ?_
 refine rtn_then ?_
 exact rtn_fn (none, 0) rfl rfl rfl (.row_nil (.sel 0 rfl (.sel 0 rfl (.nil _))))
 refine sim_skip ?_
 refine nrm_block (nrm_then (sim_seq (sim_region ?_)))
 refine simL_val (q_move rfl rfl) rfl rfl rfl ?_
 refine simL_val (q_nil rfl rfl) rfl rfl rfl ?_
 refine simL_val (q_fa rfl rfl Try.underlying194 rfl rfl Try.sizeOf3 rfl) rfl rfl rfl ?_
 refine simL_val (q_load rfl rfl Try.isAgg3 (.obj 0 rfl rfl)) rfl rfl rfl ?_
 refine simL_val (q_move rfl rfl) rfl rfl rfl ?_
 refine simL_val (q_add rfl rfl rfl) rfl rfl rfl ?_
 refine simL_val (q_asg rfl rfl) rfl rfl rfl (simL_nil (nrm_then (sim_seq (sim_region ?_))))
 refine simL_val (q_move rfl rfl) rfl rfl rfl ?_
 refine simL_val (q_move rfl rfl) rfl rfl rfl ?_
 refine simL_val (q_move rfl rfl) rfl rfl rfl ?_
 refine simL_val (q_add rfl rfl rfl) rfl rfl rfl ?_
 refine simL_val (q_nil rfl rfl) rfl rfl rfl ?_
 refine simL_val (q_fa rfl rfl Try.underlying194 rfl rfl Try.sizeOf3 rfl) rfl rfl rfl ?_
 refine simL_do (re_store 0 rfl rfl rfl Try.sizeOf3 rfl rfl (one_of (by rfl)) rfl rfl) rfl rfl ?_
 intro _
 refine simL_nil (nrm_then (sim_seq ?_))
 refine sim_ask (fun hb11v => ?_)
 obtain ⟨a12v, c13v, hS14v, hr15v, hc16v, hm17v⟩ := slice_pre (lo := IntKind.i64.wrap (s1v.2.2.2.1 + s1v.2.1)) (hi := IntKind.i64.wrap ((IntKind.i64.wrap (s1v.2.2.2.1 + s1v.2.1)) + s1v.1)) h0_0 hc0_0 hb11v
 refine sim_bind (fun s18v hs20v => ?_)
 refine sim_draw (Γ := (Option Addr × Nat)) (none, 0) [[], [0], [0, 1], [0, 1, 2], [], [], [5], [5, 6], [5, 6, 7], [0, 1, 2, 3, 4, 5, 6, 7, 8], [0, 1, 2, 3, 4, 5, 6, 7, 8, 9], [0, 1, 2, 3, 4, 5, 6, 7, 8, 9, 10]] [10] [0, 1, 2, 3, 4, 5, 6, 7, 8, 9, 11] (fun i => [[0], [0], [0], [0], [0], [0], [0], [0], [0], [0], [], [1]].getD i []) (fun i => [[], [], [], [], [], [], [], [], [], [], [0, 1, 2, 3, 4, 5, 6, 7, 8, 9], []].getD i []) (fun γ i => [.pointer (some ⟨b0, 0, none⟩), .pointer (some ⟨b0, 0, none⟩), .pointer (some ⟨b0, 0, none⟩), .slice a0_0 x0_0.length c0_0, .int .i64 (IntKind.i64.wrap (s1v.2.2.2.1 + s1v.2.1)), .pointer (some ⟨b0, 0, none⟩), .pointer (some ⟨b0, 0, none⟩), .pointer (some ⟨b0, 1, none⟩), .int .i64 (IntKind.i64.wrap ((IntKind.i64.wrap (s1v.2.2.2.1 + s1v.2.1)) + s1v.1)), .slice a12v ((cut x0_0 (IntKind.i64.wrap (s1v.2.2.2.1 + s1v.2.1)) (IntKind.i64.wrap ((IntKind.i64.wrap (s1v.2.2.2.1 + s1v.2.1)) + s1v.1))).length) c13v, .slice γ.1 s18v.length γ.2, .slice γ.1 s18v.length γ.2].getD i undef) (fun j γ => [[obj b0 194 [.slice a0_0 x0_0.length c0_0, .int .i64 (IntKind.i64.wrap ((IntKind.i64.wrap (s1v.2.2.2.1 + s1v.2.1)) + s1v.1)), .int .i64 s1v.2.2.2.2], F], [Row 5 1 γ.1 s18v.length γ.2 (encB s18v), obj b0 194 [.slice a0_0 x0_0.length c0_0, .int .i64 (IntKind.i64.wrap ((IntKind.i64.wrap (s1v.2.2.2.1 + s1v.2.1)) + s1v.1)), .int .i64 s1v.2.2.2.2], F]].getD j []) (fun γ => [(4, .slice γ.1 s18v.length γ.2)]) mixed (by decide) (by decide) (by decide) (by decide) (by decide) (by decide) (by decide) 67 rfl (by decide) (by decide) (by decide) (Ent.refl _) ?_ ?_ (fun _ => ⟨rfl, trivial⟩) ?_
 exact (All.cons (fun γ => (All.cons (QOb.plain [(0, .pointer (some ⟨b0, 0, none⟩))] rfl rfl (.o rfl (by decide) .nil) (q_move rfl rfl) rfl) All.nil)) (All.cons (fun γ => (All.cons (QOb.plain [(56, .pointer (some ⟨b0, 0, none⟩))] rfl rfl (.w 0 rfl rfl rfl .nil) (q_nil rfl rfl) rfl) All.nil)) (All.cons (fun γ => (All.cons (QOb.plain [(57, .pointer (some ⟨b0, 0, none⟩))] rfl rfl (.w 1 rfl rfl rfl .nil) (q_fa rfl rfl Try.underlying194 rfl rfl Try.sizeOf27 rfl) rfl) All.nil)) (All.cons (fun γ => (All.cons (QOb.plain [(58, .pointer (some ⟨b0, 0, none⟩))] rfl rfl (.w 2 rfl rfl rfl .nil) (q_load rfl rfl Try.isAgg27 (.obj 0 rfl rfl)) rfl) All.nil)) (All.cons (fun γ => (All.cons (QOb.plain [(8, .int .i64 (IntKind.i64.wrap (s1v.2.2.2.1 + s1v.2.1)))] rfl rfl (.o rfl (by decide) .nil) (q_move rfl rfl) rfl) All.nil)) (All.cons (fun γ => (All.cons (QOb.plain [(0, .pointer (some ⟨b0, 0, none⟩))] rfl rfl (.o rfl (by decide) .nil) (q_move rfl rfl) rfl) All.nil)) (All.cons (fun γ => (All.cons (QOb.plain [(61, .pointer (some ⟨b0, 0, none⟩))] rfl rfl (.w 5 rfl rfl rfl .nil) (q_nil rfl rfl) rfl) All.nil)) (All.cons (fun γ => (All.cons (QOb.plain [(62, .pointer (some ⟨b0, 0, none⟩))] rfl rfl (.w 6 rfl rfl rfl .nil) (q_fa rfl rfl Try.underlying194 rfl rfl Try.sizeOf3 rfl) rfl) All.nil)) (All.cons (fun γ => (All.cons (QOb.plain [(63, .pointer (some ⟨b0, 1, none⟩))] rfl rfl (.w 7 rfl rfl rfl .nil) (q_load rfl rfl Try.isAgg3 (.obj 0 rfl rfl)) rfl) All.nil)) (All.cons (fun γ => (All.cons (QOb.plain [(59, .slice a0_0 x0_0.length c0_0), (60, .int .i64 (IntKind.i64.wrap (s1v.2.2.2.1 + s1v.2.1))), (64, .int .i64 (IntKind.i64.wrap ((IntKind.i64.wrap (s1v.2.2.2.1 + s1v.2.1)) + s1v.1)))] rfl rfl (.w 3 rfl rfl rfl (.w 4 rfl rfl rfl (.w 8 rfl rfl rfl .nil))) (q_sub_ro (l := x0_0) (lo' := IntKind.i64.wrap (s1v.2.2.2.1 + s1v.2.1)) (hi' := IntKind.i64.wrap ((IntKind.i64.wrap (s1v.2.2.2.1 + s1v.2.1)) + s1v.1)) rfl rfl rfl rfl Try.underlying27 Try.sizeOf5 (.inr ⟨_, rfl⟩) (.inr ⟨_, rfl⟩) hb11v hc0_0 hS14v) rfl) All.nil)) (All.cons (fun γ => (All.cons (QOb.plain [(66, .slice γ.1 s18v.length γ.2)] rfl rfl (.w 10 rfl rfl rfl .nil) (q_asg rfl rfl) rfl) All.nil)) All.nil)))))))))))
 exact (All.cons (fun γ => EOb.mk (Z := Option Addr × Nat) [(65, .slice a12v ((cut x0_0 (IntKind.i64.wrap (s1v.2.2.2.1 + s1v.2.1)) (IntKind.i64.wrap ((IntKind.i64.wrap (s1v.2.2.2.1 + s1v.2.1)) + s1v.1))).length) c13v)] (fun z => z) rfl rfl (.w 9 rfl rfl rfl .nil) (re_call (vs := [.slice a12v ((cut x0_0 (IntKind.i64.wrap (s1v.2.2.2.1 + s1v.2.1)) (IntKind.i64.wrap ((IntKind.i64.wrap (s1v.2.2.2.1 + s1v.2.1)) + s1v.1))).length) c13v]) (cap := []) (A := []) (rst := [obj b0 194 [.slice a0_0 x0_0.length c0_0, .int .i64 (IntKind.i64.wrap ((IntKind.i64.wrap (s1v.2.2.2.1 + s1v.2.1)) + s1v.1)), .int .i64 s1v.2.2.2.2], F]) rfl rfl rfl rfl rfl rfl Try.call128 (.sel 0 rfl (.sel 0 rfl (.nil _))) (wire_fresh.calls _ _ a12v c13v (cut x0_0 (IntKind.i64.wrap (s1v.2.2.2.1 + s1v.2.1)) (IntKind.i64.wrap ((IntKind.i64.wrap (s1v.2.2.2.1 + s1v.2.1)) + s1v.1))) (hr15v.lend 1 rfl) hc16v (Nat.le_trans hm17v hm0_0)) hs20v) (fun _ => ⟨rfl, rfl, rfl, rfl, rfl, rfl, rfl, rfl, rfl, rfl, trivial⟩) (fun _ => .inr rfl) (fun z => Ent.refl _)) All.nil)
 intro g21v
 refine nrm_then (sim_rtn ?_)
 exact rtn_fn (g21v.1, g21v.2) rfl rfl rfl (.sel 0 rfl (.sel 0 rfl (.sel 0 rfl (.nil _))))

def wire_Reader_Left.f (x0_0 : List UInt8) (x0_1 : Int) (x0_2 : Int) : Option (Int) := some (IntKind.i64.wrap ((x0_0.length : Int) - x0_1))
theorem wire_Reader_Left.calls (W : World) (F : HA) (b0 : Nat) (a0_0 : Option Addr) (c0_0 : Nat) (x0_0 : List UInt8) (x0_1 : Int) (x0_2 : Int) (h0_0 : Rd F a0_0 (encB x0_0)) (hc0_0 : x0_0.length ≤ c0_0) (hm0_0 : c0_0 ≤ maxLen) :
    Fn Try.prog W 135 [.pointer (some ⟨b0, 0, none⟩)] [obj b0 194 [.slice a0_0 x0_0.length c0_0, .int .i64 x0_1, .int .i64 x0_2]] F (wire_Reader_Left.f x0_0 x0_1 x0_2) (fun (r : Int) (y : Unit) => .int .i64 r) (fun r y => [obj b0 194 [.slice a0_0 x0_0.length c0_0, .int .i64 x0_1, .int .i64 x0_2]]) := by
 unfold wire_Reader_Left.f
 refine fn_intro 13 Try.func135 rfl Try.ntmps135 rfl ?_
 refine sim_seq (sim_region ?_)
 refine simL_val (q_asg rfl rfl) rfl rfl rfl (simL_nil (nrm_then (sim_seq ?_)))
 refine sim_draw (Γ := Unit) () [[], [0], [0, 1], [0, 1, 2], [0, 1, 2, 3], [], [5], [5, 6], [5, 6, 7], [0, 1, 2, 3, 4, 5, 6, 7, 8], [0, 1, 2, 3, 4, 5, 6, 7, 8, 9]] [] [0, 1, 2, 3, 4, 5, 6, 7, 8, 9, 10] (fun i => [[0], [0], [0], [0], [0], [0], [0], [0], [0], [0], [0]].getD i []) (fun i => [[], [], [], [], [], [], [], [], [], [], []].getD i []) (fun γ i => [.pointer (some ⟨b0, 0, none⟩), .pointer (some ⟨b0, 0, none⟩), .pointer (some ⟨b0, 0, none⟩), .slice a0_0 x0_0.length c0_0, .int .i64 (x0_0.length : Int), .pointer (some ⟨b0, 0, none⟩), .pointer (some ⟨b0, 0, none⟩), .pointer (some ⟨b0, 1, none⟩), .int .i64 x0_1, .int .i64 (IntKind.i64.wrap ((x0_0.length : Int) - x0_1)), .int .i64 (IntKind.i64.wrap ((x0_0.length : Int) - x0_1))].getD i undef) (fun j γ => [[obj b0 194 [.slice a0_0 x0_0.length c0_0, .int .i64 x0_1, .int .i64 x0_2], F]].getD j []) (fun γ => [(2, .int .i64 (IntKind.i64.wrap ((x0_0.length : Int) - x0_1)))]) mixed (by decide) (by decide) (by decide) (by decide) (by decide) (by decide) (by decide) 13 rfl (by decide) (by decide) (by decide) (Ent.refl _) ?_ ?_ (fun _ => ⟨rfl, trivial⟩) ?_
 exact (All.cons (fun γ => (All.cons (QOb.plain [(0, .pointer (some ⟨b0, 0, none⟩))] rfl rfl (.o rfl (by decide) .nil) (q_move rfl rfl) rfl) All.nil)) (All.cons (fun γ => (All.cons (QOb.plain [(3, .pointer (some ⟨b0, 0, none⟩))] rfl rfl (.w 0 rfl rfl rfl .nil) (q_nil rfl rfl) rfl) All.nil)) (All.cons (fun γ => (All.cons (QOb.plain [(4, .pointer (some ⟨b0, 0, none⟩))] rfl rfl (.w 1 rfl rfl rfl .nil) (q_fa rfl rfl Try.underlying194 rfl rfl Try.sizeOf27 rfl) rfl) All.nil)) (All.cons (fun γ => (All.cons (QOb.plain [(5, .pointer (some ⟨b0, 0, none⟩))] rfl rfl (.w 2 rfl rfl rfl .nil) (q_load rfl rfl Try.isAgg27 (.obj 0 rfl rfl)) rfl) All.nil)) (All.cons (fun γ => (All.cons (QOb.plain [(6, .slice a0_0 x0_0.length c0_0)] rfl rfl (.w 3 rfl rfl rfl .nil) (q_len rfl rfl rfl Try.underlying27) rfl) All.nil)) (All.cons (fun γ => (All.cons (QOb.plain [(0, .pointer (some ⟨b0, 0, none⟩))] rfl rfl (.o rfl (by decide) .nil) (q_move rfl rfl) rfl) All.nil)) (All.cons (fun γ => (All.cons (QOb.plain [(8, .pointer (some ⟨b0, 0, none⟩))] rfl rfl (.w 5 rfl rfl rfl .nil) (q_nil rfl rfl) rfl) All.nil)) (All.cons (fun γ => (All.cons (QOb.plain [(9, .pointer (some ⟨b0, 0, none⟩))] rfl rfl (.w 6 rfl rfl rfl .nil) (q_fa rfl rfl Try.underlying194 rfl rfl Try.sizeOf3 rfl) rfl) All.nil)) (All.cons (fun γ => (All.cons (QOb.plain [(10, .pointer (some ⟨b0, 1, none⟩))] rfl rfl (.w 7 rfl rfl rfl .nil) (q_load rfl rfl Try.isAgg3 (.obj 0 rfl rfl)) rfl) All.nil)) (All.cons (fun γ => (All.cons (QOb.plain [(7, .int .i64 (x0_0.length : Int)), (11, .int .i64 x0_1)] rfl rfl (.w 4 rfl rfl rfl (.w 8 rfl rfl rfl .nil)) (q_sub rfl rfl rfl) rfl) All.nil)) (All.cons (fun γ => (All.cons (QOb.plain [(12, .int .i64 (IntKind.i64.wrap ((x0_0.length : Int) - x0_1)))] rfl rfl (.w 9 rfl rfl rfl .nil) (q_asg rfl rfl) rfl) All.nil)) All.nil)))))))))))
 exact All.nil
 intro g1v
 refine nrm_then (sim_rtn ?_)
 exact rtn_fn () rfl rfl rfl (.sel 0 rfl (.sel 0 rfl (.nil _)))
def wire_Reader_Left.v (x0_0 : List UInt8) (x0_1 : Int) (x0_2 : Int) : Int := (wire_Reader_Left.f x0_0 x0_1 x0_2).getD 0
theorem wire_Reader_Left.tot (x0_0 : List UInt8) (x0_1 : Int) (x0_2 : Int) : wire_Reader_Left.f x0_0 x0_1 x0_2 = some (wire_Reader_Left.v x0_0 x0_1 x0_2) := by
  have h : ∃ r, wire_Reader_Left.f x0_0 x0_1 x0_2 = some r := by
    unfold wire_Reader_Left.f
    repeat' (first | exact ⟨_, rfl⟩ | split | simp only [Option.bind_some])
  obtain ⟨r, h⟩ := h
  unfold wire_Reader_Left.v
  rw [h]; rfl

def wire_Reader_Done.f (x0_0 : List UInt8) (x0_1 : Int) (x0_2 : Int) : Option (Int) := (if x0_2 = (0 : Int) then ((wire_Reader_Left.f x0_0 x0_1 x0_2).bind fun s3v => (some (decide ((0 : Int) < s3v)))) else (some false)).bind fun s1v => (if s1v = true then (some 3) else (some x0_2))
theorem wire_Reader_Done.calls (W : World) (F : HA) (b0 : Nat) (a0_0 : Option Addr) (c0_0 : Nat) (x0_0 : List UInt8) (x0_1 : Int) (x0_2 : Int) (h0_0 : Rd F a0_0 (encB x0_0)) (hc0_0 : x0_0.length ≤ c0_0) (hm0_0 : c0_0 ≤ maxLen) :
    Fn Try.prog W 124 [.pointer (some ⟨b0, 0, none⟩)] [obj b0 194 [.slice a0_0 x0_0.length c0_0, .int .i64 x0_1, .int .i64 x0_2]] F (wire_Reader_Done.f x0_0 x0_1 x0_2) (fun (r : Int) (y : Unit) => .int .i64 r) (fun r y => [obj b0 194 [.slice a0_0 x0_0.length c0_0, .int .i64 x0_1, .int .i64 x0_2]]) := by
 unfold wire_Reader_Done.f
 refine fn_intro 17 Try.func124 rfl Try.ntmps124 rfl ?_
 refine sim_seq (sim_region ?_)
 refine simL_val (q_asg rfl rfl) rfl rfl rfl (simL_nil (nrm_then (sim_seq (sim_seq (sim_region ?_)))))
 refine simL_val (q_move rfl rfl) rfl rfl rfl ?_
 refine simL_val (q_nil rfl rfl) rfl rfl rfl ?_
 refine simL_val (q_fa rfl rfl Try.underlying194 rfl rfl Try.sizeOf46 rfl) rfl rfl rfl ?_
 refine simL_val (q_load rfl rfl Try.isAgg46 (.obj 0 rfl rfl)) rfl rfl rfl ?_
 refine simL_val (q_eql rfl rfl rfl) rfl rfl rfl ?_
 refine simL_val (q_move rfl rfl) rfl rfl rfl ?_
 refine simL_cut' 4 (S := Bool) (Unit) (fun s y => [(0, .pointer (some ⟨b0, 0, none⟩)), (12, .bool s)]) (fun s y => [obj b0 194 [.slice a0_0 x0_0.length c0_0, .int .i64 x0_1, .int .i64 x0_2], F]) ?_ ?_
 refine simL_casep (fun hb6v => ?_) (fun hb7v => ?_)
 rw [hb6v]
 refine simL_valg (q_move rfl rfl) rfl rfl rfl rfl rfl rfl ?_
 refine simL_bind (fun s3v hs5v => ?_)
 refine simL_effg (re_call (vs := [.pointer (some ⟨b0, 0, none⟩)]) (cap := []) (A := [obj b0 194 [.slice a0_0 x0_0.length c0_0, .int .i64 x0_1, .int .i64 x0_2]]) (rst := [F]) rfl rfl rfl rfl rfl rfl Try.call135 (.sel 0 rfl (.sel 0 rfl (.nil _))) (wire_Reader_Left.calls _ _ b0 a0_0 c0_0 x0_0 x0_1 x0_2 (h0_0.lend 0 rfl) hc0_0 hm0_0) hs5v) rfl rfl rfl rfl rfl rfl ?_
 intro y4v
 refine simL_valg (q_gtr rfl rfl rfl) rfl rfl rfl rfl rfl rfl ?_
 refine simL_val (q_pick rfl rfl rfl rfl rfl) rfl rfl rfl (simL_nil ?_)
 exact nrm_cut (s := decide ((0 : Int) < s3v)) () ⟨rfl, rfl, trivial⟩ (.sel 0 rfl (.sel 0 rfl (.nil _)))
 rw [hb7v]
 refine simL_skipd rfl rfl rfl rfl rfl rfl ?_
 refine simL_skipd rfl rfl rfl rfl rfl rfl ?_
 refine simL_skipd rfl rfl rfl rfl rfl rfl ?_
 refine simL_val (q_pick rfl rfl rfl rfl rfl) rfl rfl rfl (simL_nil ?_)
 exact nrm_cut (s := false) () ⟨rfl, rfl, trivial⟩ (.sel 0 rfl (.sel 0 rfl (.nil _)))
 intro s1v y2v
 refine simL_nil (nrm_then ?_)
 refine sim_condb rfl (fun h8v => ?_) (fun h9v => ?_)
 refine sim_seq (sim_region ?_)
 refine simL_val (q_asg rfl rfl) rfl rfl rfl (simL_nil (nrm_then (sim_rtn ?_)))
 refine rtn_then ?_
 exact rtn_fn () rfl rfl rfl (.sel 0 rfl (.sel 0 rfl (.nil _)))
 refine sim_skip ?_
 refine nrm_then (sim_seq (sim_region ?_))
 refine simL_val (q_move rfl rfl) rfl rfl rfl ?_
 refine simL_val (q_nil rfl rfl) rfl rfl rfl ?_
 refine simL_val (q_fa rfl rfl Try.underlying194 rfl rfl Try.sizeOf46 rfl) rfl rfl rfl ?_
 refine simL_val (q_load rfl rfl Try.isAgg46 (.obj 0 rfl rfl)) rfl rfl rfl ?_
 refine simL_val (q_asg rfl rfl) rfl rfl rfl (simL_nil (nrm_then (sim_rtn ?_)))
 exact rtn_fn () rfl rfl rfl (.sel 0 rfl (.sel 0 rfl (.nil _)))
def wire_Reader_Done.v (x0_0 : List UInt8) (x0_1 : Int) (x0_2 : Int) : Int := (wire_Reader_Done.f x0_0 x0_1 x0_2).getD 0
theorem wire_Reader_Done.tot (x0_0 : List UInt8) (x0_1 : Int) (x0_2 : Int) : wire_Reader_Done.f x0_0 x0_1 x0_2 = some (wire_Reader_Done.v x0_0 x0_1 x0_2) := by
  have h : ∃ r, wire_Reader_Done.f x0_0 x0_1 x0_2 = some r := by
    unfold wire_Reader_Done.f
    repeat' (first | exact ⟨_, rfl⟩ | split | simp only [Option.bind_some, wire_Reader_Left.tot])
  obtain ⟨r, h⟩ := h
  unfold wire_Reader_Done.v
  rw [h]; rfl

def codec_last_Entry_Entries.f (xp0_0 : List UInt8) (xp0_1 : Int) (xp0_2 : Int) (x2_0 : Int) (x2_1 : Int) (x2_2 : Int) (x2_3 : List UInt8) : Option (Int × Int × Int × List UInt8 × Int) := (wire_Reader_Done.f xp0_0 xp0_1 xp0_2).bind fun s3v => ((if s3v = (0 : Int) then ((codec_Entries_Check.f x2_0 x2_1 x2_2 x2_3).bind fun s10v => (some s10v)) else (some s3v)).bind fun s6v => (if s6v = (0 : Int) then (some (x2_0, x2_1, x2_2, x2_3, 0)) else (some (0, 0, 0, ([] : List UInt8), s6v))))
theorem codec_last_Entry_Entries.calls (W : World) (F : HA) (G : HA) (hG : Up G F) (bp0 : Nat) (ap0_0 : Option Addr) (cp0_0 : Nat) (xp0_0 : List UInt8) (xp0_1 : Int) (xp0_2 : Int) (x2_0 : Int) (x2_1 : Int) (x2_2 : Int) (a2_3 : Option Addr) (c2_3 : Nat) (x2_3 : List UInt8) (hp0_0 : Rd G ap0_0 (encB xp0_0)) (hcp0_0 : xp0_0.length ≤ cp0_0) (hmp0_0 : cp0_0 ≤ maxLen) (h2_3 : Rd G a2_3 (encB x2_3)) (hc2_3 : x2_3.length ≤ c2_3) (hm2_3 : c2_3 ≤ maxLen) :
    Fn Try.prog W 91 [.pointer (some ⟨bp0, 0, none⟩), .iface 62 (.agg #[]), .agg #[.int .i64 x2_0, .int .i64 x2_1, .int .i64 x2_2, .slice a2_3 x2_3.length c2_3]] [obj bp0 194 [.slice ap0_0 xp0_0.length cp0_0, .int .i64 xp0_1, .int .i64 xp0_2]] F (codec_last_Entry_Entries.f xp0_0 xp0_1 xp0_2 x2_0 x2_1 x2_2 x2_3) (fun (r : Int × Int × Int × List UInt8 × Int) (y : Option Addr × Nat) => .tuple #[.agg #[.int .i64 r.1, .int .i64 r.2.1, .int .i64 r.2.2.1, .slice y.1 r.2.2.2.1.length y.2], .int .i64 r.2.2.2.2]) (fun r y => [pr (Rd (G) y.1 (encB r.2.2.2.1) ∧ r.2.2.2.1.length ≤ y.2 ∧ y.2 ≤ maxLen), obj bp0 194 [.slice ap0_0 xp0_0.length cp0_0, .int .i64 xp0_1, .int .i64 xp0_2]]) := by
 unfold codec_last_Entry_Entries.f
 refine fn_intro 22 Try.func91 rfl Try.ntmps91 rfl ?_
 refine sim_seq (sim_region ?_)
 refine simL_eff (re_box rfl rfl rfl) rfl rfl rfl ?_
 intro b1v
 refine simL_eff (re_alloc rfl Try.zeroValue61 rfl) rfl rfl rfl ?_
 intro b2v
 refine simL_val (q_asg rfl rfl) rfl rfl rfl (simL_nil (nrm_then (sim_seq (sim_region ?_))))
 refine simL_val (q_move rfl rfl) rfl rfl rfl ?_
 refine simL_bind (fun s3v hs5v => ?_)
 refine simL_eff (re_call (vs := [.pointer (some ⟨bp0, 0, none⟩)]) (cap := []) (A := [obj bp0 194 [.slice ap0_0 xp0_0.length cp0_0, .int .i64 xp0_1, .int .i64 xp0_2]]) (rst := [obj b2v 61 [.int .i64 0, .int .i64 0, .int .i64 0, .slice none 0 0], obj b1v 61 [.int .i64 x2_0, .int .i64 x2_1, .int .i64 x2_2, .slice a2_3 x2_3.length c2_3], F]) rfl rfl rfl rfl rfl rfl Try.call124 (.sel 2 rfl (.sel 0 rfl (.sel 0 rfl (.sel 0 rfl (.nil _))))) (wire_Reader_Done.calls _ _ bp0 ap0_0 cp0_0 xp0_0 xp0_1 xp0_2 ((hp0_0.up hG).lend 2 rfl) hcp0_0 hmp0_0) hs5v) rfl rfl rfl ?_
 intro y4v
 refine simL_val (q_asg rfl rfl) rfl rfl rfl (simL_nil (nrm_then ?_))
 refine sim_cut (S := Int) (Unit) (fun s y => [(5, .pointer (some ⟨b1v, 0, none⟩)), (6, .pointer (some ⟨b2v, 0, none⟩)), (8, .int .i64 s)]) (fun s y => [obj bp0 194 [.slice ap0_0 xp0_0.length cp0_0, .int .i64 xp0_1, .int .i64 xp0_2], obj b2v 61 [.int .i64 0, .int .i64 0, .int .i64 0, .slice none 0 0], obj b1v 61 [.int .i64 x2_0, .int .i64 x2_1, .int .i64 x2_2, .slice a2_3 x2_3.length c2_3], F]) ?_ ?_
 refine sim_seq (sim_region ?_)
 refine simL_val (q_move rfl rfl) rfl rfl rfl ?_
 refine simL_val (q_eql rfl rfl rfl) rfl rfl rfl (simL_nil (nrm_then ?_))
 refine sim_cond rfl (fun h8v => ?_) (fun h9v => ?_)
 refine sim_region ?_
 refine simL_val (q_move rfl rfl) rfl rfl rfl ?_
 refine simL_val (q_loado 2 rfl rfl Try.isAgg61 Try.sizeOf61 rfl rfl) rfl rfl rfl ?_
 refine simL_bind (fun s10v hs12v => ?_)
 refine simL_eff (re_invoke (vs := [.agg #[.int .i64 x2_0, .int .i64 x2_1, .int .i64 x2_2, .slice a2_3 x2_3.length c2_3]]) (A := []) (rst := [obj bp0 194 [.slice ap0_0 xp0_0.length cp0_0, .int .i64 xp0_1, .int .i64 xp0_2], obj b2v 61 [.int .i64 0, .int .i64 0, .int .i64 0, .slice none 0 0], obj b1v 61 [.int .i64 x2_0, .int .i64 x2_1, .int .i64 x2_2, .slice a2_3 x2_3.length c2_3], F]) rfl rfl rfl rfl rfl (fun _ => by kernel_rfl) Try.call34 (.sel 0 rfl (.sel 0 rfl (.sel 0 rfl (.sel 0 rfl (.nil _))))) (codec_Entries_Check.calls _ _ x2_0 x2_1 x2_2 a2_3 c2_3 x2_3 ((h2_3.up hG).lend 3 rfl) hc2_3 hm2_3) hs12v) rfl rfl rfl ?_
 intro y11v
 refine simL_val (q_asg rfl rfl) rfl rfl rfl (simL_nil ?_)
 exact nrm_cut (s := s10v) () ⟨rfl, rfl, rfl, trivial⟩ (.sel 0 rfl (.sel 0 rfl (.sel 0 rfl (.sel 0 rfl (.nil _)))))
 refine sim_skip ?_
 exact nrm_cut (s := s3v) () ⟨rfl, rfl, rfl, trivial⟩ (.sel 0 rfl (.sel 0 rfl (.sel 0 rfl (.sel 0 rfl (.nil _)))))
 intro s6v y7v
 refine sim_seq (sim_seq (sim_region ?_))
 refine simL_val (q_move rfl rfl) rfl rfl rfl ?_
 refine simL_val (q_neq rfl rfl rfl) rfl rfl rfl (simL_nil (nrm_then ?_))
 refine sim_condn rfl (fun h13v => ?_) (fun h14v => ?_)
 refine sim_skip ?_
 refine nrm_then (sim_seq (sim_region ?_))
 refine simL_val (q_loado 2 rfl rfl Try.isAgg61 Try.sizeOf61 rfl rfl) rfl rfl rfl ?_
 refine simL_do (re_store 1 rfl rfl rfl Try.sizeOf61 rfl rfl (one_of (by rfl)) rfl rfl) rfl rfl ?_
 intro _
 refine simL_val (q_asg rfl rfl) rfl rfl rfl (simL_nil (nrm_then (sim_rtn ?_)))
 exact rtn_fnC (vs := [.agg #[.int .i64 x2_0, .int .i64 x2_1, .int .i64 x2_2, .slice a2_3 x2_3.length c2_3], .int .i64 0]) (a2_3, c2_3) rfl ⟨⟨b2v, rfl, load_agg 1 Try.isAgg61 Try.sizeOf61 rfl rfl⟩, rfl, trivial⟩ rfl (.pr_in ⟨h2_3, hc2_3, hm2_3⟩ (.sel 0 rfl (.sel 2 rfl (.nil _))))
 refine sim_seq (sim_region ?_)
 refine simL_eff (re_alloc rfl Try.zeroValue61 rfl) rfl rfl rfl ?_
 intro b15v
 refine simL_nil (nrm_then (sim_seq (sim_region ?_)))
 refine simL_val (q_loado 0 rfl rfl Try.isAgg61 Try.sizeOf61 rfl rfl) rfl rfl rfl ?_
 refine simL_val (q_move rfl rfl) rfl rfl rfl ?_
 refine simL_do (re_store 2 rfl rfl rfl Try.sizeOf61 rfl rfl (one_of (by rfl)) rfl rfl) rfl rfl ?_
 intro _
 refine simL_val (q_asg rfl rfl) rfl rfl rfl (simL_nil (nrm_then (sim_rtn ?_)))
 refine rtn_then ?_
 exact rtn_fnC (vs := [.agg #[.int .i64 0, .int .i64 0, .int .i64 0, .slice none 0 0], .int .i64 s6v]) (none, 0) rfl ⟨⟨b2v, rfl, load_agg 2 Try.isAgg61 Try.sizeOf61 rfl rfl⟩, rfl, trivial⟩ rfl (.pr_in ⟨Rd.nil _ _, Nat.le_refl _, Nat.zero_le _⟩ (.sel 1 rfl (.sel 3 rfl (.nil _))))
def codec_last_Entry_Entries.v (xp0_0 : List UInt8) (xp0_1 : Int) (xp0_2 : Int) (x2_0 : Int) (x2_1 : Int) (x2_2 : Int) (x2_3 : List UInt8) : Int × Int × Int × List UInt8 × Int := (codec_last_Entry_Entries.f xp0_0 xp0_1 xp0_2 x2_0 x2_1 x2_2 x2_3).getD (0, 0, 0, [], 0)
theorem codec_last_Entry_Entries.tot (xp0_0 : List UInt8) (xp0_1 : Int) (xp0_2 : Int) (x2_0 : Int) (x2_1 : Int) (x2_2 : Int) (x2_3 : List UInt8) : codec_last_Entry_Entries.f xp0_0 xp0_1 xp0_2 x2_0 x2_1 x2_2 x2_3 = some (codec_last_Entry_Entries.v xp0_0 xp0_1 xp0_2 x2_0 x2_1 x2_2 x2_3) := by
  have h : ∃ r, codec_last_Entry_Entries.f xp0_0 xp0_1 xp0_2 x2_0 x2_1 x2_2 x2_3 = some r := by
    unfold codec_last_Entry_Entries.f
    repeat' (first | exact ⟨_, rfl⟩ | split | simp only [Option.bind_some, wire_Reader_Done.tot, codec_Entries_Check.tot])
  obtain ⟨r, h⟩ := h
  unfold codec_last_Entry_Entries.v
  rw [h]; rfl

def codec_last_Entry_Entries_c2.f (xp0_0 : List UInt8) (xp0_1 : Int) (xp0_2 : Int) (x2_0 : Int) (x2_1 : Int) (x2_2 : Int) (x2_3 : List UInt8) : Option (Int × Int × Int × List UInt8 × Int) := (wire_Reader_Done.f xp0_0 xp0_1 xp0_2).bind fun s3v => ((if s3v = (0 : Int) then ((codec_Entries_Check.f x2_0 x2_1 x2_2 x2_3).bind fun s14v => (some s14v)) else (some s3v)).bind fun s6v => (if s6v = (0 : Int) then (some (x2_0, x2_1, x2_2, x2_3, 0)) else (some (0, 0, 0, ([] : List UInt8), s6v))))
theorem codec_last_Entry_Entries_c2.calls (W : World) (F : HA) (bp0 : Nat) (ap0_0 : Option Addr) (cp0_0 : Nat) (xp0_0 : List UInt8) (xp0_1 : Int) (xp0_2 : Int) (x2_0 : Int) (x2_1 : Int) (x2_2 : Int) (a2_3 : Option Addr) (c2_3 : Nat) (x2_3 : List UInt8) (hp0_0 : Rd F ap0_0 (encB xp0_0)) (hcp0_0 : xp0_0.length ≤ cp0_0) (hmp0_0 : cp0_0 ≤ maxLen) :
    Fn Try.prog W 91 [.pointer (some ⟨bp0, 0, none⟩), .iface 62 (.agg #[]), .agg #[.int .i64 x2_0, .int .i64 x2_1, .int .i64 x2_2, .slice a2_3 x2_3.length c2_3]] [obj bp0 194 [.slice ap0_0 xp0_0.length cp0_0, .int .i64 xp0_1, .int .i64 xp0_2], Row 5 1 a2_3 x2_3.length c2_3 (encB x2_3)] F (codec_last_Entry_Entries_c2.f xp0_0 xp0_1 xp0_2 x2_0 x2_1 x2_2 x2_3) (fun (r : Int × Int × Int × List UInt8 × Int) (y : Option Addr × Nat) => .tuple #[.agg #[.int .i64 r.1, .int .i64 r.2.1, .int .i64 r.2.2.1, .slice y.1 r.2.2.2.1.length y.2], .int .i64 r.2.2.2.2]) (fun r y => [Row 5 1 y.1 r.2.2.2.1.length y.2 (encB r.2.2.2.1), obj bp0 194 [.slice ap0_0 xp0_0.length cp0_0, .int .i64 xp0_1, .int .i64 xp0_2]]) := by
 unfold codec_last_Entry_Entries_c2.f
 refine fn_intro 22 Try.func91 rfl Try.ntmps91 rfl ?_
 refine sim_seq (sim_region ?_)
 refine simL_eff (re_box rfl rfl rfl) rfl rfl rfl ?_
 intro b1v
 refine simL_eff (re_alloc rfl Try.zeroValue61 rfl) rfl rfl rfl ?_
 intro b2v
 refine simL_val (q_asg rfl rfl) rfl rfl rfl (simL_nil (nrm_then (sim_seq (sim_region ?_))))
 refine simL_val (q_move rfl rfl) rfl rfl rfl ?_
 refine simL_bind (fun s3v hs5v => ?_)
 refine simL_eff (re_call (vs := [.pointer (some ⟨bp0, 0, none⟩)]) (cap := []) (A := [obj bp0 194 [.slice ap0_0 xp0_0.length cp0_0, .int .i64 xp0_1, .int .i64 xp0_2]]) (rst := [obj b2v 61 [.int .i64 0, .int .i64 0, .int .i64 0, .slice none 0 0], obj b1v 61 [.int .i64 x2_0, .int .i64 x2_1, .int .i64 x2_2, .slice a2_3 x2_3.length c2_3], Row 5 1 a2_3 x2_3.length c2_3 (encB x2_3), F]) rfl rfl rfl rfl rfl rfl Try.call124 (.sel 2 rfl (.sel 0 rfl (.sel 0 rfl (.sel 0 rfl (.sel 0 rfl (.nil _)))))) (wire_Reader_Done.calls _ _ bp0 ap0_0 cp0_0 xp0_0 xp0_1 xp0_2 (hp0_0.lend 3 rfl) hcp0_0 hmp0_0) hs5v) rfl rfl rfl ?_
 intro y4v
 refine simL_val (q_asg rfl rfl) rfl rfl rfl (simL_nil (nrm_then ?_))
 refine sim_cut (S := Int) (Unit) (fun s y => [(5, .pointer (some ⟨b1v, 0, none⟩)), (6, .pointer (some ⟨b2v, 0, none⟩)), (8, .int .i64 s)]) (fun s y => [obj bp0 194 [.slice ap0_0 xp0_0.length cp0_0, .int .i64 xp0_1, .int .i64 xp0_2], obj b2v 61 [.int .i64 0, .int .i64 0, .int .i64 0, .slice none 0 0], obj b1v 61 [.int .i64 x2_0, .int .i64 x2_1, .int .i64 x2_2, .slice a2_3 x2_3.length c2_3], Row 5 1 a2_3 x2_3.length c2_3 (encB x2_3), F]) ?_ ?_
 refine sim_seq (sim_region ?_)
 refine simL_val (q_move rfl rfl) rfl rfl rfl ?_
 refine simL_val (q_eql rfl rfl rfl) rfl rfl rfl (simL_nil (nrm_then ?_))
 refine sim_cond rfl (fun h8v => ?_) (fun h9v => ?_)
 refine sim_region ?_
 refine simL_val (q_move rfl rfl) rfl rfl rfl ?_
 refine simL_val (q_loado 2 rfl rfl Try.isAgg61 Try.sizeOf61 rfl rfl) rfl rfl rfl ?_
 refine simL_bind (fun s14v hs16v => ?_)
 refine simL_lend 3 rfl (fun hq10v hq11v hq12v hq13v => ?_)
 refine simL_eff (re_invoke (vs := [.agg #[.int .i64 x2_0, .int .i64 x2_1, .int .i64 x2_2, .slice a2_3 x2_3.length c2_3]]) (A := []) (rst := [obj bp0 194 [.slice ap0_0 xp0_0.length cp0_0, .int .i64 xp0_1, .int .i64 xp0_2], obj b2v 61 [.int .i64 0, .int .i64 0, .int .i64 0, .slice none 0 0], obj b1v 61 [.int .i64 x2_0, .int .i64 x2_1, .int .i64 x2_2, .slice a2_3 x2_3.length c2_3], Row 5 1 a2_3 x2_3.length c2_3 (encB x2_3), F]) rfl rfl rfl rfl rfl (fun _ => by kernel_rfl) Try.call34 (.sel 0 rfl (.sel 0 rfl (.sel 0 rfl (.sel 0 rfl (.sel 0 rfl (.nil _)))))) (codec_Entries_Check.calls _ _ x2_0 x2_1 x2_2 a2_3 c2_3 x2_3 (hq10v.lend 3 rfl) hq11v hq12v) hs16v) rfl rfl rfl ?_
 intro y15v
 refine simL_val (q_asg rfl rfl) rfl rfl rfl (simL_nil ?_)
 exact nrm_cut (s := s14v) () ⟨rfl, rfl, rfl, trivial⟩ (.sel 0 rfl (.sel 0 rfl (.sel 0 rfl (.sel 0 rfl (.sel 0 rfl (.nil _))))))
 refine sim_skip ?_
 exact nrm_cut (s := s3v) () ⟨rfl, rfl, rfl, trivial⟩ (.sel 0 rfl (.sel 0 rfl (.sel 0 rfl (.sel 0 rfl (.sel 0 rfl (.nil _))))))
 intro s6v y7v
 refine sim_seq (sim_seq (sim_region ?_))
 refine simL_val (q_move rfl rfl) rfl rfl rfl ?_
 refine simL_val (q_neq rfl rfl rfl) rfl rfl rfl (simL_nil (nrm_then ?_))
 refine sim_condn rfl (fun h17v => ?_) (fun h18v => ?_)
 refine sim_skip ?_
 refine nrm_then (sim_seq (sim_region ?_))
 refine simL_val (q_loado 2 rfl rfl Try.isAgg61 Try.sizeOf61 rfl rfl) rfl rfl rfl ?_
 refine simL_do (re_store 1 rfl rfl rfl Try.sizeOf61 rfl rfl (one_of (by rfl)) rfl rfl) rfl rfl ?_
 intro _
 refine simL_val (q_asg rfl rfl) rfl rfl rfl (simL_nil (nrm_then (sim_rtn ?_)))
 exact rtn_fnC (vs := [.agg #[.int .i64 x2_0, .int .i64 x2_1, .int .i64 x2_2, .slice a2_3 x2_3.length c2_3], .int .i64 0]) (a2_3, c2_3) rfl ⟨⟨b2v, rfl, load_agg 1 Try.isAgg61 Try.sizeOf61 rfl rfl⟩, rfl, trivial⟩ rfl (.sel 3 rfl (.sel 0 rfl (.sel 2 rfl (.nil _))))
 refine sim_seq (sim_region ?_)
 refine simL_eff (re_alloc rfl Try.zeroValue61 rfl) rfl rfl rfl ?_
 intro b19v
 refine simL_nil (nrm_then (sim_seq (sim_region ?_)))
 refine simL_val (q_loado 0 rfl rfl Try.isAgg61 Try.sizeOf61 rfl rfl) rfl rfl rfl ?_
 refine simL_val (q_move rfl rfl) rfl rfl rfl ?_
 refine simL_do (re_store 2 rfl rfl rfl Try.sizeOf61 rfl rfl (one_of (by rfl)) rfl rfl) rfl rfl ?_
 intro _
 refine simL_val (q_asg rfl rfl) rfl rfl rfl (simL_nil (nrm_then (sim_rtn ?_)))
 refine rtn_then ?_
 exact rtn_fnC (vs := [.agg #[.int .i64 0, .int .i64 0, .int .i64 0, .slice none 0 0], .int .i64 s6v]) (none, 0) rfl ⟨⟨b2v, rfl, load_agg 2 Try.isAgg61 Try.sizeOf61 rfl rfl⟩, rfl, trivial⟩ rfl (.row_nil (.sel 1 rfl (.sel 4 rfl (.nil _))))
def codec_last_Entry_Entries_c2.v (xp0_0 : List UInt8) (xp0_1 : Int) (xp0_2 : Int) (x2_0 : Int) (x2_1 : Int) (x2_2 : Int) (x2_3 : List UInt8) : Int × Int × Int × List UInt8 × Int := (codec_last_Entry_Entries_c2.f xp0_0 xp0_1 xp0_2 x2_0 x2_1 x2_2 x2_3).getD (0, 0, 0, [], 0)
theorem codec_last_Entry_Entries_c2.tot (xp0_0 : List UInt8) (xp0_1 : Int) (xp0_2 : Int) (x2_0 : Int) (x2_1 : Int) (x2_2 : Int) (x2_3 : List UInt8) : codec_last_Entry_Entries_c2.f xp0_0 xp0_1 xp0_2 x2_0 x2_1 x2_2 x2_3 = some (codec_last_Entry_Entries_c2.v xp0_0 xp0_1 xp0_2 x2_0 x2_1 x2_2 x2_3) := by
  have h : ∃ r, codec_last_Entry_Entries_c2.f xp0_0 xp0_1 xp0_2 x2_0 x2_1 x2_2 x2_3 = some r := by
    unfold codec_last_Entry_Entries_c2.f
    repeat' (first | exact ⟨_, rfl⟩ | split | simp only [Option.bind_some, wire_Reader_Done.tot, codec_Entries_Check.tot])
  obtain ⟨r, h⟩ := h
  unfold codec_last_Entry_Entries_c2.v
  rw [h]; rfl

def codec_Entries_Get.f (k : Nat) (x1 : List UInt8) : Option (Int × Int × Int × List UInt8 × Int) := (wire_NewReader.f x1).bind fun s3v => ((wire_Reader_Int.f k s3v.1 s3v.2.1 s3v.2.2).bind fun s10v => ((wire_Reader_Int.f k s3v.1 s10v.2.1 s10v.2.2).bind fun s17v => ((wire_Reader_Int.f k s3v.1 s17v.2.1 s17v.2.2).bind fun s24v => ((wire_Reader_Bytes.f k s3v.1 s24v.2.1 s24v.2.2 (4096 : Int)).bind fun s31v => ((codec_last_Entry_Entries_c2.f s3v.1 s31v.2.1 s31v.2.2 s10v.1 s17v.1 s24v.1 s31v.1).bind fun s39v => (some (s39v.1, s39v.2.1, s39v.2.2.1, s39v.2.2.2.1, s39v.2.2.2.2)))))))
theorem codec_Entries_Get.calls (W : World) (F : HA) (k : Nat) (a1 : Option Addr) (c1 : Nat) (x1 : List UInt8) (h1 : Rd F a1 (encB x1)) (hc1 : x1.length ≤ c1) (hm1 : c1 ≤ maxLen) :
    Fn Try.prog W 36 [.agg #[], .slice a1 x1.length c1] [] F (codec_Entries_Get.f k x1) (fun (r : Int × Int × Int × List UInt8 × Int) (y : Option Addr × Nat) => .tuple #[.agg #[.int .i64 r.1, .int .i64 r.2.1, .int .i64 r.2.2.1, .slice y.1 r.2.2.2.1.length y.2], .int .i64 r.2.2.2.2]) (fun r y => [Row 5 1 y.1 r.2.2.2.1.length y.2 (encB r.2.2.2.1)]) := by
 unfold codec_Entries_Get.f
 refine fn_intro 26 Try.func36 rfl Try.ntmps36 rfl ?_
 refine sim_seq (sim_region ?_)
 refine simL_eff (re_box rfl rfl rfl) rfl rfl rfl ?_
 intro b1v
 refine simL_eff (re_alloc rfl Try.zeroValue61 rfl) rfl rfl rfl ?_
 intro b2v
 refine simL_val (q_asg rfl rfl) rfl rfl rfl (simL_nil (nrm_then (sim_seq (sim_region ?_))))
 refine simL_val (q_move rfl rfl) rfl rfl rfl ?_
 refine simL_bind (fun s3v hs5v => ?_)
 refine simL_eff (re_call (vs := [.slice a1 x1.length c1]) (cap := []) (A := []) (rst := [obj b2v 61 [.int .i64 0, .int .i64 0, .int .i64 0, .slice none 0 0], obj b1v 62 [], F]) rfl rfl rfl rfl rfl rfl Try.call82 (.sel 0 rfl (.sel 0 rfl (.sel 0 rfl (.nil _)))) (wire_NewReader.calls _ _ a1 c1 x1 (h1.lend 2 rfl) hc1 hm1) hs5v) rfl rfl rfl ?_
 intro y4v
 refine simL_val (q_asg rfl rfl) rfl rfl rfl (simL_nil (nrm_then (sim_seq (sim_region ?_))))
 refine simL_val (q_move rfl rfl) rfl rfl rfl ?_
 refine simL_bind (fun s10v hs12v => ?_)
 refine simL_lend 1 rfl (fun hq6v hq7v hq8v hq9v => ?_)
 refine simL_eff (re_call (vs := [.pointer (some ⟨y4v.1, 0, none⟩)]) (cap := []) (A := [obj y4v.1 194 [.slice y4v.2.1 s3v.1.length y4v.2.2, .int .i64 s3v.2.1, .int .i64 s3v.2.2]]) (rst := [Row 5 1 y4v.2.1 s3v.1.length y4v.2.2 (encB s3v.1), obj b2v 61 [.int .i64 0, .int .i64 0, .int .i64 0, .slice none 0 0], obj b1v 62 [], F]) rfl rfl rfl rfl rfl rfl Try.call83 (.sel 0 rfl (.sel 0 rfl (.sel 0 rfl (.sel 0 rfl (.sel 0 rfl (.nil _)))))) (wire_Reader_Int.calls _ _ k y4v.1 y4v.2.1 y4v.2.2 s3v.1 s3v.2.1 s3v.2.2 (hq6v.lend 0 rfl) hq7v hq8v) hs12v) rfl rfl rfl ?_
 intro y11v
 refine simL_val (q_move rfl rfl) rfl rfl rfl ?_
 refine simL_bind (fun s17v hs19v => ?_)
 refine simL_lend 1 rfl (fun hq13v hq14v hq15v hq16v => ?_)
 refine simL_eff (re_call (vs := [.pointer (some ⟨y4v.1, 0, none⟩)]) (cap := []) (A := [obj y4v.1 194 [.slice y4v.2.1 s3v.1.length y4v.2.2, .int .i64 s10v.2.1, .int .i64 s10v.2.2]]) (rst := [Row 5 1 y4v.2.1 s3v.1.length y4v.2.2 (encB s3v.1), obj b2v 61 [.int .i64 0, .int .i64 0, .int .i64 0, .slice none 0 0], obj b1v 62 [], F]) rfl rfl rfl rfl rfl rfl Try.call83 (.sel 0 rfl (.sel 0 rfl (.sel 0 rfl (.sel 0 rfl (.sel 0 rfl (.nil _)))))) (wire_Reader_Int.calls _ _ k y4v.1 y4v.2.1 y4v.2.2 s3v.1 s10v.2.1 s10v.2.2 (hq13v.lend 0 rfl) hq14v hq15v) hs19v) rfl rfl rfl ?_
 intro y18v
 refine simL_val (q_move rfl rfl) rfl rfl rfl ?_
 refine simL_bind (fun s24v hs26v => ?_)
 refine simL_lend 1 rfl (fun hq20v hq21v hq22v hq23v => ?_)
 refine simL_eff (re_call (vs := [.pointer (some ⟨y4v.1, 0, none⟩)]) (cap := []) (A := [obj y4v.1 194 [.slice y4v.2.1 s3v.1.length y4v.2.2, .int .i64 s17v.2.1, .int .i64 s17v.2.2]]) (rst := [Row 5 1 y4v.2.1 s3v.1.length y4v.2.2 (encB s3v.1), obj b2v 61 [.int .i64 0, .int .i64 0, .int .i64 0, .slice none 0 0], obj b1v 62 [], F]) rfl rfl rfl rfl rfl rfl Try.call83 (.sel 0 rfl (.sel 0 rfl (.sel 0 rfl (.sel 0 rfl (.sel 0 rfl (.nil _)))))) (wire_Reader_Int.calls _ _ k y4v.1 y4v.2.1 y4v.2.2 s3v.1 s17v.2.1 s17v.2.2 (hq20v.lend 0 rfl) hq21v hq22v) hs26v) rfl rfl rfl ?_
 intro y25v
 refine simL_val (q_move rfl rfl) rfl rfl rfl ?_
 refine simL_bind (fun s31v hs33v => ?_)
 refine simL_lend 1 rfl (fun hq27v hq28v hq29v hq30v => ?_)
 refine simL_eff (re_call (vs := [.pointer (some ⟨y4v.1, 0, none⟩), .int .i64 4096]) (cap := []) (A := [obj y4v.1 194 [.slice y4v.2.1 s3v.1.length y4v.2.2, .int .i64 s24v.2.1, .int .i64 s24v.2.2]]) (rst := [Row 5 1 y4v.2.1 s3v.1.length y4v.2.2 (encB s3v.1), obj b2v 61 [.int .i64 0, .int .i64 0, .int .i64 0, .slice none 0 0], obj b1v 62 [], F]) rfl rfl rfl rfl rfl rfl Try.call90 (.sel 0 rfl (.sel 0 rfl (.sel 0 rfl (.sel 0 rfl (.sel 0 rfl (.nil _)))))) (wire_Reader_Bytes.calls _ _ k y4v.1 y4v.2.1 y4v.2.2 s3v.1 s24v.2.1 s24v.2.2 (4096 : Int) (hq27v.lend 0 rfl) hq28v hq29v) hs33v) rfl rfl rfl ?_
 intro y32v
 refine simL_val (q_build (v := .agg #[.int .i64 s10v.1, .int .i64 s17v.1, .int .i64 s24v.1, .slice y32v.1 s31v.1.length y32v.2]) rfl rfl (fun _ => by kernel_rfl)) rfl rfl rfl ?_
 refine simL_eff (re_alloc rfl Try.zeroValue61 rfl) rfl rfl rfl ?_
 intro b34v
 refine simL_do (re_store 0 rfl rfl rfl Try.sizeOf61 rfl rfl (one_of (by rfl)) rfl rfl) rfl rfl ?_
 intro _
 refine simL_nil (nrm_then (sim_seq (sim_region ?_)))
 refine simL_val (q_move rfl rfl) rfl rfl rfl ?_
 refine simL_val (q_loado 5 rfl rfl Try.isAgg62 Try.sizeOf62 rfl rfl) rfl rfl rfl ?_
 refine simL_val (q_mkif rfl rfl Try.underlying62 rfl) rfl rfl rfl ?_
 refine simL_val (q_loado 0 rfl rfl Try.isAgg61 Try.sizeOf61 rfl rfl) rfl rfl rfl ?_
 refine simL_bind (fun s39v hs41v => ?_)
 refine simL_lend 3 rfl (fun hq35v hq36v hq37v hq38v => ?_)
 refine simL_eff (re_call (vs := [.pointer (some ⟨y4v.1, 0, none⟩), .iface 62 (.agg #[]), .agg #[.int .i64 s10v.1, .int .i64 s17v.1, .int .i64 s24v.1, .slice y32v.1 s31v.1.length y32v.2]]) (cap := []) (A := [obj y4v.1 194 [.slice y4v.2.1 s3v.1.length y4v.2.2, .int .i64 s31v.2.1, .int .i64 s31v.2.2], Row 5 1 y32v.1 s31v.1.length y32v.2 (encB s31v.1)]) (rst := [obj b34v 61 [.int .i64 s10v.1, .int .i64 s17v.1, .int .i64 s24v.1, .slice y32v.1 s31v.1.length y32v.2], Row 5 1 y4v.2.1 s3v.1.length y4v.2.2 (encB s3v.1), obj b2v 61 [.int .i64 0, .int .i64 0, .int .i64 0, .slice none 0 0], obj b1v 62 [], F]) rfl rfl rfl rfl rfl rfl Try.call91 (.sel 2 rfl (.sel 1 rfl (.sel 0 rfl (.sel 0 rfl (.sel 0 rfl (.sel 0 rfl (.sel 0 rfl (.nil _)))))))) (codec_last_Entry_Entries_c2.calls _ _ y4v.1 y4v.2.1 y4v.2.2 s3v.1 s31v.2.1 s31v.2.2 s10v.1 s17v.1 s24v.1 y32v.1 y32v.2 s31v.1 (hq35v.lend 1 rfl) hq36v hq37v) hs41v) rfl rfl rfl ?_
 intro y40v
 refine simL_val (q_ext rfl rfl rfl) rfl rfl rfl ?_
 refine simL_val (q_ext rfl rfl rfl) rfl rfl rfl ?_
 refine simL_do (re_store 4 rfl rfl rfl Try.sizeOf61 rfl rfl (one_of (by rfl)) rfl rfl) rfl rfl ?_
 intro _
 refine simL_val (q_asg rfl rfl) rfl rfl rfl (simL_nil (nrm_then (sim_rtn ?_)))
 exact rtn_fnC (vs := [.agg #[.int .i64 s39v.1, .int .i64 s39v.2.1, .int .i64 s39v.2.2.1, .slice y40v.1 s39v.2.2.2.1.length y40v.2], .int .i64 s39v.2.2.2.2]) (y40v.1, y40v.2) rfl ⟨⟨b2v, rfl, load_agg 4 Try.isAgg61 Try.sizeOf61 rfl rfl⟩, rfl, trivial⟩ rfl (.sel 0 rfl (.sel 5 rfl (.nil _)))

def codec_last_State_States.f (xp0_0 : List UInt8) (xp0_1 : Int) (xp0_2 : Int) (x2_0 : Int) (x2_1 : Int) (x2_2 : Int) : Option (Int × Int × Int × Int) := (wire_Reader_Done.f xp0_0 xp0_1 xp0_2).bind fun s3v => ((if s3v = (0 : Int) then ((codec_States_Check.f x2_0 x2_1 x2_2).bind fun s10v => (some s10v)) else (some s3v)).bind fun s6v => (if s6v = (0 : Int) then (some (x2_0, x2_1, x2_2, 0)) else (some (0, 0, 0, s6v))))
theorem codec_last_State_States.calls (W : World) (F : HA) (bp0 : Nat) (ap0_0 : Option Addr) (cp0_0 : Nat) (xp0_0 : List UInt8) (xp0_1 : Int) (xp0_2 : Int) (x2_0 : Int) (x2_1 : Int) (x2_2 : Int) (hp0_0 : Rd F ap0_0 (encB xp0_0)) (hcp0_0 : xp0_0.length ≤ cp0_0) (hmp0_0 : cp0_0 ≤ maxLen) :
    Fn Try.prog W 84 [.pointer (some ⟨bp0, 0, none⟩), .iface 40 (.agg #[]), .agg #[.int .i64 x2_0, .int .i64 x2_1, .int .i64 x2_2]] [obj bp0 194 [.slice ap0_0 xp0_0.length cp0_0, .int .i64 xp0_1, .int .i64 xp0_2]] F (codec_last_State_States.f xp0_0 xp0_1 xp0_2 x2_0 x2_1 x2_2) (fun (r : Int × Int × Int × Int) (y : Unit) => .tuple #[.agg #[.int .i64 r.1, .int .i64 r.2.1, .int .i64 r.2.2.1], .int .i64 r.2.2.2]) (fun r y => [obj bp0 194 [.slice ap0_0 xp0_0.length cp0_0, .int .i64 xp0_1, .int .i64 xp0_2]]) := by
 unfold codec_last_State_States.f
 refine fn_intro 22 Try.func84 rfl Try.ntmps84 rfl ?_
 refine sim_seq (sim_region ?_)
 refine simL_eff (re_box rfl rfl rfl) rfl rfl rfl ?_
 intro b1v
 refine simL_eff (re_alloc rfl Try.zeroValue23 rfl) rfl rfl rfl ?_
 intro b2v
 refine simL_val (q_asg rfl rfl) rfl rfl rfl (simL_nil (nrm_then (sim_seq (sim_region ?_))))
 refine simL_val (q_move rfl rfl) rfl rfl rfl ?_
 refine simL_bind (fun s3v hs5v => ?_)
 refine simL_eff (re_call (vs := [.pointer (some ⟨bp0, 0, none⟩)]) (cap := []) (A := [obj bp0 194 [.slice ap0_0 xp0_0.length cp0_0, .int .i64 xp0_1, .int .i64 xp0_2]]) (rst := [obj b2v 23 [.int .i64 0, .int .i64 0, .int .i64 0], obj b1v 23 [.int .i64 x2_0, .int .i64 x2_1, .int .i64 x2_2], F]) rfl rfl rfl rfl rfl rfl Try.call124 (.sel 2 rfl (.sel 0 rfl (.sel 0 rfl (.sel 0 rfl (.nil _))))) (wire_Reader_Done.calls _ _ bp0 ap0_0 cp0_0 xp0_0 xp0_1 xp0_2 (hp0_0.lend 2 rfl) hcp0_0 hmp0_0) hs5v) rfl rfl rfl ?_
 intro y4v
 refine simL_val (q_asg rfl rfl) rfl rfl rfl (simL_nil (nrm_then ?_))
 refine sim_cut (S := Int) (Unit) (fun s y => [(5, .pointer (some ⟨b1v, 0, none⟩)), (6, .pointer (some ⟨b2v, 0, none⟩)), (8, .int .i64 s)]) (fun s y => [obj bp0 194 [.slice ap0_0 xp0_0.length cp0_0, .int .i64 xp0_1, .int .i64 xp0_2], obj b2v 23 [.int .i64 0, .int .i64 0, .int .i64 0], obj b1v 23 [.int .i64 x2_0, .int .i64 x2_1, .int .i64 x2_2], F]) ?_ ?_
 refine sim_seq (sim_region ?_)
 refine simL_val (q_move rfl rfl) rfl rfl rfl ?_
 refine simL_val (q_eql rfl rfl rfl) rfl rfl rfl (simL_nil (nrm_then ?_))
 refine sim_cond rfl (fun h8v => ?_) (fun h9v => ?_)
 refine sim_region ?_
 refine simL_val (q_move rfl rfl) rfl rfl rfl ?_
 refine simL_val (q_loado 2 rfl rfl Try.isAgg23 Try.sizeOf23 rfl rfl) rfl rfl rfl ?_
 refine simL_bind (fun s10v hs12v => ?_)
 refine simL_eff (re_invoke (vs := [.agg #[.int .i64 x2_0, .int .i64 x2_1, .int .i64 x2_2]]) (A := []) (rst := [obj bp0 194 [.slice ap0_0 xp0_0.length cp0_0, .int .i64 xp0_1, .int .i64 xp0_2], obj b2v 23 [.int .i64 0, .int .i64 0, .int .i64 0], obj b1v 23 [.int .i64 x2_0, .int .i64 x2_1, .int .i64 x2_2], F]) rfl rfl rfl rfl rfl (fun _ => by kernel_rfl) Try.call27 (.sel 0 rfl (.sel 0 rfl (.sel 0 rfl (.sel 0 rfl (.nil _))))) (codec_States_Check.calls _ _ x2_0 x2_1 x2_2 ) hs12v) rfl rfl rfl ?_
 intro y11v
 refine simL_val (q_asg rfl rfl) rfl rfl rfl (simL_nil ?_)
 exact nrm_cut (s := s10v) () ⟨rfl, rfl, rfl, trivial⟩ (.sel 0 rfl (.sel 0 rfl (.sel 0 rfl (.sel 0 rfl (.nil _)))))
 refine sim_skip ?_
 exact nrm_cut (s := s3v) () ⟨rfl, rfl, rfl, trivial⟩ (.sel 0 rfl (.sel 0 rfl (.sel 0 rfl (.sel 0 rfl (.nil _)))))
 intro s6v y7v
 refine sim_seq (sim_seq (sim_region ?_))
 refine simL_val (q_move rfl rfl) rfl rfl rfl ?_
 refine simL_val (q_neq rfl rfl rfl) rfl rfl rfl (simL_nil (nrm_then ?_))
 refine sim_condn rfl (fun h13v => ?_) (fun h14v => ?_)
 refine sim_skip ?_
 refine nrm_then (sim_seq (sim_region ?_))
 refine simL_val (q_loado 2 rfl rfl Try.isAgg23 Try.sizeOf23 rfl rfl) rfl rfl rfl ?_
 refine simL_do (re_store 1 rfl rfl rfl Try.sizeOf23 rfl rfl (one_of (by rfl)) rfl rfl) rfl rfl ?_
 intro _
 refine simL_val (q_asg rfl rfl) rfl rfl rfl (simL_nil (nrm_then (sim_rtn ?_)))
 exact rtn_fnC (vs := [.agg #[.int .i64 x2_0, .int .i64 x2_1, .int .i64 x2_2], .int .i64 0]) () rfl ⟨⟨b2v, rfl, load_agg 1 Try.isAgg23 Try.sizeOf23 rfl rfl⟩, rfl, trivial⟩ rfl (.sel 0 rfl (.sel 2 rfl (.nil _)))
 refine sim_seq (sim_region ?_)
 refine simL_eff (re_alloc rfl Try.zeroValue23 rfl) rfl rfl rfl ?_
 intro b15v
 refine simL_nil (nrm_then (sim_seq (sim_region ?_)))
 refine simL_val (q_loado 0 rfl rfl Try.isAgg23 Try.sizeOf23 rfl rfl) rfl rfl rfl ?_
 refine simL_val (q_move rfl rfl) rfl rfl rfl ?_
 refine simL_do (re_store 2 rfl rfl rfl Try.sizeOf23 rfl rfl (one_of (by rfl)) rfl rfl) rfl rfl ?_
 intro _
 refine simL_val (q_asg rfl rfl) rfl rfl rfl (simL_nil (nrm_then (sim_rtn ?_)))
 refine rtn_then ?_
 exact rtn_fnC (vs := [.agg #[.int .i64 0, .int .i64 0, .int .i64 0], .int .i64 s6v]) () rfl ⟨⟨b2v, rfl, load_agg 2 Try.isAgg23 Try.sizeOf23 rfl rfl⟩, rfl, trivial⟩ rfl (.sel 1 rfl (.sel 3 rfl (.nil _)))
def codec_last_State_States.v (xp0_0 : List UInt8) (xp0_1 : Int) (xp0_2 : Int) (x2_0 : Int) (x2_1 : Int) (x2_2 : Int) : Int × Int × Int × Int := (codec_last_State_States.f xp0_0 xp0_1 xp0_2 x2_0 x2_1 x2_2).getD (0, 0, 0, 0)
theorem codec_last_State_States.tot (xp0_0 : List UInt8) (xp0_1 : Int) (xp0_2 : Int) (x2_0 : Int) (x2_1 : Int) (x2_2 : Int) : codec_last_State_States.f xp0_0 xp0_1 xp0_2 x2_0 x2_1 x2_2 = some (codec_last_State_States.v xp0_0 xp0_1 xp0_2 x2_0 x2_1 x2_2) := by
  have h : ∃ r, codec_last_State_States.f xp0_0 xp0_1 xp0_2 x2_0 x2_1 x2_2 = some r := by
    unfold codec_last_State_States.f
    repeat' (first | exact ⟨_, rfl⟩ | split | simp only [Option.bind_some, wire_Reader_Done.tot, codec_States_Check.tot])
  obtain ⟨r, h⟩ := h
  unfold codec_last_State_States.v
  rw [h]; rfl

def codec_States_Get.f (k : Nat) (x1 : List UInt8) : Option (Int × Int × Int × Int) := (wire_NewReader.f x1).bind fun s3v => ((wire_Reader_Int.f k s3v.1 s3v.2.1 s3v.2.2).bind fun s10v => ((wire_Reader_Int.f k s3v.1 s10v.2.1 s10v.2.2).bind fun s17v => ((wire_Reader_Int.f k s3v.1 s17v.2.1 s17v.2.2).bind fun s24v => ((codec_last_State_States.f s3v.1 s24v.2.1 s24v.2.2 s10v.1 s17v.1 s24v.1).bind fun s32v => (some (s32v.1, s32v.2.1, s32v.2.2.1, s32v.2.2.2))))))
theorem codec_States_Get.calls (W : World) (F : HA) (k : Nat) (a1 : Option Addr) (c1 : Nat) (x1 : List UInt8) (h1 : Rd F a1 (encB x1)) (hc1 : x1.length ≤ c1) (hm1 : c1 ≤ maxLen) :
    Fn Try.prog W 29 [.agg #[], .slice a1 x1.length c1] [] F (codec_States_Get.f k x1) (fun (r : Int × Int × Int × Int) (y : Unit) => .tuple #[.agg #[.int .i64 r.1, .int .i64 r.2.1, .int .i64 r.2.2.1], .int .i64 r.2.2.2]) (fun r y => []) := by
 unfold codec_States_Get.f
 refine fn_intro 24 Try.func29 rfl Try.ntmps29 rfl ?_
 refine sim_seq (sim_region ?_)
 refine simL_eff (re_box rfl rfl rfl) rfl rfl rfl ?_
 intro b1v
 refine simL_eff (re_alloc rfl Try.zeroValue23 rfl) rfl rfl rfl ?_
 intro b2v
 refine simL_val (q_asg rfl rfl) rfl rfl rfl (simL_nil (nrm_then (sim_seq (sim_region ?_))))
 refine simL_val (q_move rfl rfl) rfl rfl rfl ?_
 refine simL_bind (fun s3v hs5v => ?_)
 refine simL_eff (re_call (vs := [.slice a1 x1.length c1]) (cap := []) (A := []) (rst := [obj b2v 23 [.int .i64 0, .int .i64 0, .int .i64 0], obj b1v 40 [], F]) rfl rfl rfl rfl rfl rfl Try.call82 (.sel 0 rfl (.sel 0 rfl (.sel 0 rfl (.nil _)))) (wire_NewReader.calls _ _ a1 c1 x1 (h1.lend 2 rfl) hc1 hm1) hs5v) rfl rfl rfl ?_
 intro y4v
 refine simL_val (q_asg rfl rfl) rfl rfl rfl (simL_nil (nrm_then (sim_seq (sim_region ?_))))
 refine simL_val (q_move rfl rfl) rfl rfl rfl ?_
 refine simL_bind (fun s10v hs12v => ?_)
 refine simL_lend 1 rfl (fun hq6v hq7v hq8v hq9v => ?_)
 refine simL_eff (re_call (vs := [.pointer (some ⟨y4v.1, 0, none⟩)]) (cap := []) (A := [obj y4v.1 194 [.slice y4v.2.1 s3v.1.length y4v.2.2, .int .i64 s3v.2.1, .int .i64 s3v.2.2]]) (rst := [Row 5 1 y4v.2.1 s3v.1.length y4v.2.2 (encB s3v.1), obj b2v 23 [.int .i64 0, .int .i64 0, .int .i64 0], obj b1v 40 [], F]) rfl rfl rfl rfl rfl rfl Try.call83 (.sel 0 rfl (.sel 0 rfl (.sel 0 rfl (.sel 0 rfl (.sel 0 rfl (.nil _)))))) (wire_Reader_Int.calls _ _ k y4v.1 y4v.2.1 y4v.2.2 s3v.1 s3v.2.1 s3v.2.2 (hq6v.lend 0 rfl) hq7v hq8v) hs12v) rfl rfl rfl ?_
 intro y11v
 refine simL_val (q_move rfl rfl) rfl rfl rfl ?_
 refine simL_bind (fun s17v hs19v => ?_)
 refine simL_lend 1 rfl (fun hq13v hq14v hq15v hq16v => ?_)
 refine simL_eff (re_call (vs := [.pointer (some ⟨y4v.1, 0, none⟩)]) (cap := []) (A := [obj y4v.1 194 [.slice y4v.2.1 s3v.1.length y4v.2.2, .int .i64 s10v.2.1, .int .i64 s10v.2.2]]) (rst := [Row 5 1 y4v.2.1 s3v.1.length y4v.2.2 (encB s3v.1), obj b2v 23 [.int .i64 0, .int .i64 0, .int .i64 0], obj b1v 40 [], F]) rfl rfl rfl rfl rfl rfl Try.call83 (.sel 0 rfl (.sel 0 rfl (.sel 0 rfl (.sel 0 rfl (.sel 0 rfl (.nil _)))))) (wire_Reader_Int.calls _ _ k y4v.1 y4v.2.1 y4v.2.2 s3v.1 s10v.2.1 s10v.2.2 (hq13v.lend 0 rfl) hq14v hq15v) hs19v) rfl rfl rfl ?_
 intro y18v
 refine simL_val (q_move rfl rfl) rfl rfl rfl ?_
 refine simL_bind (fun s24v hs26v => ?_)
 refine simL_lend 1 rfl (fun hq20v hq21v hq22v hq23v => ?_)
 refine simL_eff (re_call (vs := [.pointer (some ⟨y4v.1, 0, none⟩)]) (cap := []) (A := [obj y4v.1 194 [.slice y4v.2.1 s3v.1.length y4v.2.2, .int .i64 s17v.2.1, .int .i64 s17v.2.2]]) (rst := [Row 5 1 y4v.2.1 s3v.1.length y4v.2.2 (encB s3v.1), obj b2v 23 [.int .i64 0, .int .i64 0, .int .i64 0], obj b1v 40 [], F]) rfl rfl rfl rfl rfl rfl Try.call83 (.sel 0 rfl (.sel 0 rfl (.sel 0 rfl (.sel 0 rfl (.sel 0 rfl (.nil _)))))) (wire_Reader_Int.calls _ _ k y4v.1 y4v.2.1 y4v.2.2 s3v.1 s17v.2.1 s17v.2.2 (hq20v.lend 0 rfl) hq21v hq22v) hs26v) rfl rfl rfl ?_
 intro y25v
 refine simL_val (q_build (v := .agg #[.int .i64 s10v.1, .int .i64 s17v.1, .int .i64 s24v.1]) rfl rfl (fun _ => by kernel_rfl)) rfl rfl rfl ?_
 refine simL_eff (re_alloc rfl Try.zeroValue23 rfl) rfl rfl rfl ?_
 intro b27v
 refine simL_do (re_store 0 rfl rfl rfl Try.sizeOf23 rfl rfl (one_of (by rfl)) rfl rfl) rfl rfl ?_
 intro _
 refine simL_nil (nrm_then (sim_seq (sim_region ?_)))
 refine simL_val (q_move rfl rfl) rfl rfl rfl ?_
 refine simL_val (q_loado 4 rfl rfl Try.isAgg40 Try.sizeOf40 rfl rfl) rfl rfl rfl ?_
 refine simL_val (q_mkif rfl rfl Try.underlying40 rfl) rfl rfl rfl ?_
 refine simL_val (q_loado 0 rfl rfl Try.isAgg23 Try.sizeOf23 rfl rfl) rfl rfl rfl ?_
 refine simL_bind (fun s32v hs34v => ?_)
 refine simL_lend 2 rfl (fun hq28v hq29v hq30v hq31v => ?_)
 refine simL_eff (re_call (vs := [.pointer (some ⟨y4v.1, 0, none⟩), .iface 40 (.agg #[]), .agg #[.int .i64 s10v.1, .int .i64 s17v.1, .int .i64 s24v.1]]) (cap := []) (A := [obj y4v.1 194 [.slice y4v.2.1 s3v.1.length y4v.2.2, .int .i64 s24v.2.1, .int .i64 s24v.2.2]]) (rst := [obj b27v 23 [.int .i64 s10v.1, .int .i64 s17v.1, .int .i64 s24v.1], Row 5 1 y4v.2.1 s3v.1.length y4v.2.2 (encB s3v.1), obj b2v 23 [.int .i64 0, .int .i64 0, .int .i64 0], obj b1v 40 [], F]) rfl rfl rfl rfl rfl rfl Try.call84 (.sel 1 rfl (.sel 0 rfl (.sel 0 rfl (.sel 0 rfl (.sel 0 rfl (.sel 0 rfl (.nil _))))))) (codec_last_State_States.calls _ _ y4v.1 y4v.2.1 y4v.2.2 s3v.1 s24v.2.1 s24v.2.2 s10v.1 s17v.1 s24v.1 (hq28v.lend 1 rfl) hq29v hq30v) hs34v) rfl rfl rfl ?_
 intro y33v
 refine simL_val (q_ext rfl rfl rfl) rfl rfl rfl ?_
 refine simL_val (q_ext rfl rfl rfl) rfl rfl rfl ?_
 refine simL_do (re_store 3 rfl rfl rfl Try.sizeOf23 rfl rfl (one_of (by rfl)) rfl rfl) rfl rfl ?_
 intro _
 refine simL_val (q_asg rfl rfl) rfl rfl rfl (simL_nil (nrm_then (sim_rtn ?_)))
 exact rtn_fnC (vs := [.agg #[.int .i64 s32v.1, .int .i64 s32v.2.1, .int .i64 s32v.2.2.1], .int .i64 s32v.2.2.2]) () rfl ⟨⟨b2v, rfl, load_agg 3 Try.isAgg23 Try.sizeOf23 rfl rfl⟩, rfl, trivial⟩ rfl (.sel 5 rfl (.nil _))

def codec_last_Snap_Snaps.f (xp0_0 : List UInt8) (xp0_1 : Int) (xp0_2 : Int) (x2_0 : Int) (x2_1 : Int) (x2_2 : List UInt8) : Option (Int × Int × List UInt8 × Int) := (wire_Reader_Done.f xp0_0 xp0_1 xp0_2).bind fun s3v => ((if s3v = (0 : Int) then ((codec_Snaps_Check.f x2_0 x2_1 x2_2).bind fun s10v => (some s10v)) else (some s3v)).bind fun s6v => (if s6v = (0 : Int) then (some (x2_0, x2_1, x2_2, 0)) else (some (0, 0, ([] : List UInt8), s6v))))
theorem codec_last_Snap_Snaps.calls (W : World) (F : HA) (G : HA) (hG : Up G F) (bp0 : Nat) (ap0_0 : Option Addr) (cp0_0 : Nat) (xp0_0 : List UInt8) (xp0_1 : Int) (xp0_2 : Int) (x2_0 : Int) (x2_1 : Int) (a2_2 : Option Addr) (c2_2 : Nat) (x2_2 : List UInt8) (hp0_0 : Rd G ap0_0 (encB xp0_0)) (hcp0_0 : xp0_0.length ≤ cp0_0) (hmp0_0 : cp0_0 ≤ maxLen) (h2_2 : Rd G a2_2 (encB x2_2)) (hc2_2 : x2_2.length ≤ c2_2) (hm2_2 : c2_2 ≤ maxLen) :
    Fn Try.prog W 95 [.pointer (some ⟨bp0, 0, none⟩), .iface 73 (.agg #[]), .agg #[.int .i64 x2_0, .int .i64 x2_1, .slice a2_2 x2_2.length c2_2]] [obj bp0 194 [.slice ap0_0 xp0_0.length cp0_0, .int .i64 xp0_1, .int .i64 xp0_2]] F (codec_last_Snap_Snaps.f xp0_0 xp0_1 xp0_2 x2_0 x2_1 x2_2) (fun (r : Int × Int × List UInt8 × Int) (y : Option Addr × Nat) => .tuple #[.agg #[.int .i64 r.1, .int .i64 r.2.1, .slice y.1 r.2.2.1.length y.2], .int .i64 r.2.2.2]) (fun r y => [pr (Rd (G) y.1 (encB r.2.2.1) ∧ r.2.2.1.length ≤ y.2 ∧ y.2 ≤ maxLen), obj bp0 194 [.slice ap0_0 xp0_0.length cp0_0, .int .i64 xp0_1, .int .i64 xp0_2]]) := by
 unfold codec_last_Snap_Snaps.f
 refine fn_intro 22 Try.func95 rfl Try.ntmps95 rfl ?_
 refine sim_seq (sim_region ?_)
 refine simL_eff (re_box rfl rfl rfl) rfl rfl rfl ?_
 intro b1v
 refine simL_eff (re_alloc rfl Try.zeroValue29 rfl) rfl rfl rfl ?_
 intro b2v
 refine simL_val (q_asg rfl rfl) rfl rfl rfl (simL_nil (nrm_then (sim_seq (sim_region ?_))))
 refine simL_val (q_move rfl rfl) rfl rfl rfl ?_
 refine simL_bind (fun s3v hs5v => ?_)
 refine simL_eff (re_call (vs := [.pointer (some ⟨bp0, 0, none⟩)]) (cap := []) (A := [obj bp0 194 [.slice ap0_0 xp0_0.length cp0_0, .int .i64 xp0_1, .int .i64 xp0_2]]) (rst := [obj b2v 29 [.int .i64 0, .int .i64 0, .slice none 0 0], obj b1v 29 [.int .i64 x2_0, .int .i64 x2_1, .slice a2_2 x2_2.length c2_2], F]) rfl rfl rfl rfl rfl rfl Try.call124 (.sel 2 rfl (.sel 0 rfl (.sel 0 rfl (.sel 0 rfl (.nil _))))) (wire_Reader_Done.calls _ _ bp0 ap0_0 cp0_0 xp0_0 xp0_1 xp0_2 ((hp0_0.up hG).lend 2 rfl) hcp0_0 hmp0_0) hs5v) rfl rfl rfl ?_
 intro y4v
 refine simL_val (q_asg rfl rfl) rfl rfl rfl (simL_nil (nrm_then ?_))
 refine sim_cut (S := Int) (Unit) (fun s y => [(5, .pointer (some ⟨b1v, 0, none⟩)), (6, .pointer (some ⟨b2v, 0, none⟩)), (8, .int .i64 s)]) (fun s y => [obj bp0 194 [.slice ap0_0 xp0_0.length cp0_0, .int .i64 xp0_1, .int .i64 xp0_2], obj b2v 29 [.int .i64 0, .int .i64 0, .slice none 0 0], obj b1v 29 [.int .i64 x2_0, .int .i64 x2_1, .slice a2_2 x2_2.length c2_2], F]) ?_ ?_
 refine sim_seq (sim_region ?_)
 refine simL_val (q_move rfl rfl) rfl rfl rfl ?_
 refine simL_val (q_eql rfl rfl rfl) rfl rfl rfl (simL_nil (nrm_then ?_))
 refine sim_cond rfl (fun h8v => ?_) (fun h9v => ?_)
 refine sim_region ?_
 refine simL_val (q_move rfl rfl) rfl rfl rfl ?_
 refine simL_val (q_loado 2 rfl rfl Try.isAgg29 Try.sizeOf29 rfl rfl) rfl rfl rfl ?_
 refine simL_bind (fun s10v hs12v => ?_)
 refine simL_eff (re_invoke (vs := [.agg #[.int .i64 x2_0, .int .i64 x2_1, .slice a2_2 x2_2.length c2_2]]) (A := []) (rst := [obj bp0 194 [.slice ap0_0 xp0_0.length cp0_0, .int .i64 xp0_1, .int .i64 xp0_2], obj b2v 29 [.int .i64 0, .int .i64 0, .slice none 0 0], obj b1v 29 [.int .i64 x2_0, .int .i64 x2_1, .slice a2_2 x2_2.length c2_2], F]) rfl rfl rfl rfl rfl (fun _ => by kernel_rfl) Try.call41 (.sel 0 rfl (.sel 0 rfl (.sel 0 rfl (.sel 0 rfl (.nil _))))) (codec_Snaps_Check.calls _ _ x2_0 x2_1 a2_2 c2_2 x2_2 ((h2_2.up hG).lend 3 rfl) hc2_2 hm2_2) hs12v) rfl rfl rfl ?_
 intro y11v
 refine simL_val (q_asg rfl rfl) rfl rfl rfl (simL_nil ?_)
 exact nrm_cut (s := s10v) () ⟨rfl, rfl, rfl, trivial⟩ (.sel 0 rfl (.sel 0 rfl (.sel 0 rfl (.sel 0 rfl (.nil _)))))
 refine sim_skip ?_
 exact nrm_cut (s := s3v) () ⟨rfl, rfl, rfl, trivial⟩ (.sel 0 rfl (.sel 0 rfl (.sel 0 rfl (.sel 0 rfl (.nil _)))))
 intro s6v y7v
 refine sim_seq (sim_seq (sim_region ?_))
 refine simL_val (q_move rfl rfl) rfl rfl rfl ?_
 refine simL_val (q_neq rfl rfl rfl) rfl rfl rfl (simL_nil (nrm_then ?_))
 refine sim_condn rfl (fun h13v => ?_) (fun h14v => ?_)
 refine sim_skip ?_
 refine nrm_then (sim_seq (sim_region ?_))
 refine simL_val (q_loado 2 rfl rfl Try.isAgg29 Try.sizeOf29 rfl rfl) rfl rfl rfl ?_
 refine simL_do (re_store 1 rfl rfl rfl Try.sizeOf29 rfl rfl (one_of (by rfl)) rfl rfl) rfl rfl ?_
 intro _
 refine simL_val (q_asg rfl rfl) rfl rfl rfl (simL_nil (nrm_then (sim_rtn ?_)))
 exact rtn_fnC (vs := [.agg #[.int .i64 x2_0, .int .i64 x2_1, .slice a2_2 x2_2.length c2_2], .int .i64 0]) (a2_2, c2_2) rfl ⟨⟨b2v, rfl, load_agg 1 Try.isAgg29 Try.sizeOf29 rfl rfl⟩, rfl, trivial⟩ rfl (.pr_in ⟨h2_2, hc2_2, hm2_2⟩ (.sel 0 rfl (.sel 2 rfl (.nil _))))
 refine sim_seq (sim_region ?_)
 refine simL_eff (re_alloc rfl Try.zeroValue29 rfl) rfl rfl rfl ?_
 intro b15v
 refine simL_nil (nrm_then (sim_seq (sim_region ?_)))
 refine simL_val (q_loado 0 rfl rfl Try.isAgg29 Try.sizeOf29 rfl rfl) rfl rfl rfl ?_
 refine simL_val (q_move rfl rfl) rfl rfl rfl ?_
 refine simL_do (re_store 2 rfl rfl rfl Try.sizeOf29 rfl rfl (one_of (by rfl)) rfl rfl) rfl rfl ?_
 intro _
 refine simL_val (q_asg rfl rfl) rfl rfl rfl (simL_nil (nrm_then (sim_rtn ?_)))
 refine rtn_then ?_
 exact rtn_fnC (vs := [.agg #[.int .i64 0, .int .i64 0, .slice none 0 0], .int .i64 s6v]) (none, 0) rfl ⟨⟨b2v, rfl, load_agg 2 Try.isAgg29 Try.sizeOf29 rfl rfl⟩, rfl, trivial⟩ rfl (.pr_in ⟨Rd.nil _ _, Nat.le_refl _, Nat.zero_le _⟩ (.sel 1 rfl (.sel 3 rfl (.nil _))))
def codec_last_Snap_Snaps.v (xp0_0 : List UInt8) (xp0_1 : Int) (xp0_2 : Int) (x2_0 : Int) (x2_1 : Int) (x2_2 : List UInt8) : Int × Int × List UInt8 × Int := (codec_last_Snap_Snaps.f xp0_0 xp0_1 xp0_2 x2_0 x2_1 x2_2).getD (0, 0, [], 0)
theorem codec_last_Snap_Snaps.tot (xp0_0 : List UInt8) (xp0_1 : Int) (xp0_2 : Int) (x2_0 : Int) (x2_1 : Int) (x2_2 : List UInt8) : codec_last_Snap_Snaps.f xp0_0 xp0_1 xp0_2 x2_0 x2_1 x2_2 = some (codec_last_Snap_Snaps.v xp0_0 xp0_1 xp0_2 x2_0 x2_1 x2_2) := by
  have h : ∃ r, codec_last_Snap_Snaps.f xp0_0 xp0_1 xp0_2 x2_0 x2_1 x2_2 = some r := by
    unfold codec_last_Snap_Snaps.f
    repeat' (first | exact ⟨_, rfl⟩ | split | simp only [Option.bind_some, wire_Reader_Done.tot, codec_Snaps_Check.tot])
  obtain ⟨r, h⟩ := h
  unfold codec_last_Snap_Snaps.v
  rw [h]; rfl

def codec_last_Snap_Snaps_c2.f (xp0_0 : List UInt8) (xp0_1 : Int) (xp0_2 : Int) (x2_0 : Int) (x2_1 : Int) (x2_2 : List UInt8) : Option (Int × Int × List UInt8 × Int) := (wire_Reader_Done.f xp0_0 xp0_1 xp0_2).bind fun s3v => ((if s3v = (0 : Int) then ((codec_Snaps_Check.f x2_0 x2_1 x2_2).bind fun s14v => (some s14v)) else (some s3v)).bind fun s6v => (if s6v = (0 : Int) then (some (x2_0, x2_1, x2_2, 0)) else (some (0, 0, ([] : List UInt8), s6v))))
theorem codec_last_Snap_Snaps_c2.calls (W : World) (F : HA) (bp0 : Nat) (ap0_0 : Option Addr) (cp0_0 : Nat) (xp0_0 : List UInt8) (xp0_1 : Int) (xp0_2 : Int) (x2_0 : Int) (x2_1 : Int) (a2_2 : Option Addr) (c2_2 : Nat) (x2_2 : List UInt8) (hp0_0 : Rd F ap0_0 (encB xp0_0)) (hcp0_0 : xp0_0.length ≤ cp0_0) (hmp0_0 : cp0_0 ≤ maxLen) :
    Fn Try.prog W 95 [.pointer (some ⟨bp0, 0, none⟩), .iface 73 (.agg #[]), .agg #[.int .i64 x2_0, .int .i64 x2_1, .slice a2_2 x2_2.length c2_2]] [obj bp0 194 [.slice ap0_0 xp0_0.length cp0_0, .int .i64 xp0_1, .int .i64 xp0_2], Row 5 1 a2_2 x2_2.length c2_2 (encB x2_2)] F (codec_last_Snap_Snaps_c2.f xp0_0 xp0_1 xp0_2 x2_0 x2_1 x2_2) (fun (r : Int × Int × List UInt8 × Int) (y : Option Addr × Nat) => .tuple #[.agg #[.int .i64 r.1, .int .i64 r.2.1, .slice y.1 r.2.2.1.length y.2], .int .i64 r.2.2.2]) (fun r y => [Row 5 1 y.1 r.2.2.1.length y.2 (encB r.2.2.1), obj bp0 194 [.slice ap0_0 xp0_0.length cp0_0, .int .i64 xp0_1, .int .i64 xp0_2]]) := by
 unfold codec_last_Snap_Snaps_c2.f
 refine fn_intro 22 Try.func95 rfl Try.ntmps95 rfl ?_
 refine sim_seq (sim_region ?_)
 refine simL_eff (re_box rfl rfl rfl) rfl rfl rfl ?_
 intro b1v
 refine simL_eff (re_alloc rfl Try.zeroValue29 rfl) rfl rfl rfl ?_
 intro b2v
 refine simL_val (q_asg rfl rfl) rfl rfl rfl (simL_nil (nrm_then (sim_seq (sim_region ?_))))
 refine simL_val (q_move rfl rfl) rfl rfl rfl ?_
 refine simL_bind (fun s3v hs5v => ?_)
 refine simL_eff (re_call (vs := [.pointer (some ⟨bp0, 0, none⟩)]) (cap := []) (A := [obj bp0 194 [.slice ap0_0 xp0_0.length cp0_0, .int .i64 xp0_1, .int .i64 xp0_2]]) (rst := [obj b2v 29 [.int .i64 0, .int .i64 0, .slice none 0 0], obj b1v 29 [.int .i64 x2_0, .int .i64 x2_1, .slice a2_2 x2_2.length c2_2], Row 5 1 a2_2 x2_2.length c2_2 (encB x2_2), F]) rfl rfl rfl rfl rfl rfl Try.call124 (.sel 2 rfl (.sel 0 rfl (.sel 0 rfl (.sel 0 rfl (.sel 0 rfl (.nil _)))))) (wire_Reader_Done.calls _ _ bp0 ap0_0 cp0_0 xp0_0 xp0_1 xp0_2 (hp0_0.lend 3 rfl) hcp0_0 hmp0_0) hs5v) rfl rfl rfl ?_
 intro y4v
 refine simL_val (q_asg rfl rfl) rfl rfl rfl (simL_nil (nrm_then ?_))
 refine sim_cut (S := Int) (Unit) (fun s y => [(5, .pointer (some ⟨b1v, 0, none⟩)), (6, .pointer (some ⟨b2v, 0, none⟩)), (8, .int .i64 s)]) (fun s y => [obj bp0 194 [.slice ap0_0 xp0_0.length cp0_0, .int .i64 xp0_1, .int .i64 xp0_2], obj b2v 29 [.int .i64 0, .int .i64 0, .slice none 0 0], obj b1v 29 [.int .i64 x2_0, .int .i64 x2_1, .slice a2_2 x2_2.length c2_2], Row 5 1 a2_2 x2_2.length c2_2 (encB x2_2), F]) ?_ ?_
 refine sim_seq (sim_region ?_)
 refine simL_val (q_move rfl rfl) rfl rfl rfl ?_
 refine simL_val (q_eql rfl rfl rfl) rfl rfl rfl (simL_nil (nrm_then ?_))
 refine sim_cond rfl (fun h8v => ?_) (fun h9v => ?_)
 refine sim_region ?_
 refine simL_val (q_move rfl rfl) rfl rfl rfl ?_
 refine simL_val (q_loado 2 rfl rfl Try.isAgg29 Try.sizeOf29 rfl rfl) rfl rfl rfl ?_
 refine simL_bind (fun s14v hs16v => ?_)
 refine simL_lend 3 rfl (fun hq10v hq11v hq12v hq13v => ?_)
 refine simL_eff (re_invoke (vs := [.agg #[.int .i64 x2_0, .int .i64 x2_1, .slice a2_2 x2_2.length c2_2]]) (A := []) (rst := [obj bp0 194 [.slice ap0_0 xp0_0.length cp0_0, .int .i64 xp0_1, .int .i64 xp0_2], obj b2v 29 [.int .i64 0, .int .i64 0, .slice none 0 0], obj b1v 29 [.int .i64 x2_0, .int .i64 x2_1, .slice a2_2 x2_2.length c2_2], Row 5 1 a2_2 x2_2.length c2_2 (encB x2_2), F]) rfl rfl rfl rfl rfl (fun _ => by kernel_rfl) Try.call41 (.sel 0 rfl (.sel 0 rfl (.sel 0 rfl (.sel 0 rfl (.sel 0 rfl (.nil _)))))) (codec_Snaps_Check.calls _ _ x2_0 x2_1 a2_2 c2_2 x2_2 (hq10v.lend 3 rfl) hq11v hq12v) hs16v) rfl rfl rfl ?_
 intro y15v
 refine simL_val (q_asg rfl rfl) rfl rfl rfl (simL_nil ?_)
 exact nrm_cut (s := s14v) () ⟨rfl, rfl, rfl, trivial⟩ (.sel 0 rfl (.sel 0 rfl (.sel 0 rfl (.sel 0 rfl (.sel 0 rfl (.nil _))))))
 refine sim_skip ?_
 exact nrm_cut (s := s3v) () ⟨rfl, rfl, rfl, trivial⟩ (.sel 0 rfl (.sel 0 rfl (.sel 0 rfl (.sel 0 rfl (.sel 0 rfl (.nil _))))))
 intro s6v y7v
 refine sim_seq (sim_seq (sim_region ?_))
 refine simL_val (q_move rfl rfl) rfl rfl rfl ?_
 refine simL_val (q_neq rfl rfl rfl) rfl rfl rfl (simL_nil (nrm_then ?_))
 refine sim_condn rfl (fun h17v => ?_) (fun h18v => ?_)
 refine sim_skip ?_
 refine nrm_then (sim_seq (sim_region ?_))
 refine simL_val (q_loado 2 rfl rfl Try.isAgg29 Try.sizeOf29 rfl rfl) rfl rfl rfl ?_
 refine simL_do (re_store 1 rfl rfl rfl Try.sizeOf29 rfl rfl (one_of (by rfl)) rfl rfl) rfl rfl ?_
 intro _
 refine simL_val (q_asg rfl rfl) rfl rfl rfl (simL_nil (nrm_then (sim_rtn ?_)))
 exact rtn_fnC (vs := [.agg #[.int .i64 x2_0, .int .i64 x2_1, .slice a2_2 x2_2.length c2_2], .int .i64 0]) (a2_2, c2_2) rfl ⟨⟨b2v, rfl, load_agg 1 Try.isAgg29 Try.sizeOf29 rfl rfl⟩, rfl, trivial⟩ rfl (.sel 3 rfl (.sel 0 rfl (.sel 2 rfl (.nil _))))
 refine sim_seq (sim_region ?_)
 refine simL_eff (re_alloc rfl Try.zeroValue29 rfl) rfl rfl rfl ?_
 intro b19v
 refine simL_nil (nrm_then (sim_seq (sim_region ?_)))
 refine simL_val (q_loado 0 rfl rfl Try.isAgg29 Try.sizeOf29 rfl rfl) rfl rfl rfl ?_
 refine simL_val (q_move rfl rfl) rfl rfl rfl ?_
 refine simL_do (re_store 2 rfl rfl rfl Try.sizeOf29 rfl rfl (one_of (by rfl)) rfl rfl) rfl rfl ?_
 intro _
 refine simL_val (q_asg rfl rfl) rfl rfl rfl (simL_nil (nrm_then (sim_rtn ?_)))
 refine rtn_then ?_
 exact rtn_fnC (vs := [.agg #[.int .i64 0, .int .i64 0, .slice none 0 0], .int .i64 s6v]) (none, 0) rfl ⟨⟨b2v, rfl, load_agg 2 Try.isAgg29 Try.sizeOf29 rfl rfl⟩, rfl, trivial⟩ rfl (.row_nil (.sel 1 rfl (.sel 4 rfl (.nil _))))
def codec_last_Snap_Snaps_c2.v (xp0_0 : List UInt8) (xp0_1 : Int) (xp0_2 : Int) (x2_0 : Int) (x2_1 : Int) (x2_2 : List UInt8) : Int × Int × List UInt8 × Int := (codec_last_Snap_Snaps_c2.f xp0_0 xp0_1 xp0_2 x2_0 x2_1 x2_2).getD (0, 0, [], 0)
theorem codec_last_Snap_Snaps_c2.tot (xp0_0 : List UInt8) (xp0_1 : Int) (xp0_2 : Int) (x2_0 : Int) (x2_1 : Int) (x2_2 : List UInt8) : codec_last_Snap_Snaps_c2.f xp0_0 xp0_1 xp0_2 x2_0 x2_1 x2_2 = some (codec_last_Snap_Snaps_c2.v xp0_0 xp0_1 xp0_2 x2_0 x2_1 x2_2) := by
  have h : ∃ r, codec_last_Snap_Snaps_c2.f xp0_0 xp0_1 xp0_2 x2_0 x2_1 x2_2 = some r := by
    unfold codec_last_Snap_Snaps_c2.f
    repeat' (first | exact ⟨_, rfl⟩ | split | simp only [Option.bind_some, wire_Reader_Done.tot, codec_Snaps_Check.tot])
  obtain ⟨r, h⟩ := h
  unfold codec_last_Snap_Snaps_c2.v
  rw [h]; rfl
end Go.Proofs.Ytdoghfenhoigmaa

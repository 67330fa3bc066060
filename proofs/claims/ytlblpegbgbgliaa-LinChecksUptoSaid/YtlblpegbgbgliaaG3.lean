/- Printed by gen.py: pure functions and the proofs that the Go functions simulate them. Conditions: as each theorem says. -/
import Derived.Test.YtlblpegbgbgliaaG2
namespace Go.Proofs.Ytlblpegbgbgliaa
open Go.RowKit
set_option linter.unusedVariables false
set_option maxRecDepth 20000
set_option maxHeartbeats 2000000
def synodref_SameTexts.l0 (x0 : List (List UInt8)) (x1 : List (List UInt8)) : Nat → Int → Option ((Unit) ⊕ (Bool))
  | 0, _ => none
  | k + 1, z7v => if z7v < (x0.length : Int) then (if 0 ≤ z7v ∧ z7v < (x0.length : Int) then (if 0 ≤ z7v ∧ z7v < (x1.length : Int) then (if (x0.getD z7v.toNat ([] : List UInt8)) = (x1.getD z7v.toNat ([] : List UInt8)) then (synodref_SameTexts.l0 x0 x1 k (IntKind.i64.wrap (z7v + 1))) else (some (.inr false))) else none) else none) else (some (.inl ()))
def synodref_SameTexts.f (k : Nat) (x0 : List (List UInt8)) (x1 : List (List UInt8)) : Option (Bool) := if (x0.length : Int) = (x1.length : Int) then (orR (synodref_SameTexts.l0 x0 x1 k 0) fun s3v => (some true)) else (some false)
theorem synodref_SameTexts.calls (W : World) (F : HA) (k : Nat) (a0 : Option Addr) (c0 : Nat) (x0 : List (List UInt8)) (a1 : Option Addr) (c1 : Nat) (x1 : List (List UInt8)) (h0 : RdV F 1 (V9 tt) a0 x0) (hc0 : x0.length ≤ c0) (hm0 : c0 ≤ maxLen) (h1 : RdV F 1 (V9 tt) a1 x1) (hc1 : x1.length ≤ c1) (hm1 : c1 ≤ maxLen) :
    Fn Try.prog W 17 [.slice a0 x0.length c0, .slice a1 x1.length c1] [] F (synodref_SameTexts.f k x0 x1) (fun (r : Bool) (y : Unit) => .bool r) (fun r y => []) := by
 unfold synodref_SameTexts.f
 refine fn_intro 26 Try.func17 rfl Try.ntmps17 rfl ?_
 refine sim_seq (sim_region ?_)
 refine simL_val (q_asg rfl rfl) rfl rfl rfl (simL_nil (nrm_then (sim_seq (sim_seq (sim_region ?_)))))
 refine simL_val (q_move rfl rfl) rfl rfl rfl ?_
 refine simL_val (q_len rfl rfl rfl Try.underlying29) rfl rfl rfl ?_
 refine simL_val (q_move rfl rfl) rfl rfl rfl ?_
 refine simL_val (q_len rfl rfl rfl Try.underlying29) rfl rfl rfl ?_
 refine simL_val (q_neq rfl rfl rfl) rfl rfl rfl (simL_nil (nrm_then ?_))
 refine sim_condn rfl (fun h1v => ?_) (fun h2v => ?_)
 refine sim_skip ?_
 refine nrm_then ?_
 refine sim_cutR (S := Unit) (Unit) (fun s y => []) (fun s y => [F]) ?_ ?_
 refine sim_seq (sim_region ?_)
 refine simL_val (q_asg rfl rfl) rfl rfl rfl (simL_nil (nrm_then ?_))
 refine sim_block ?_
 refine sim_loop (S := Int) (Unit) (fun k s => synodref_SameTexts.l0 x0 x1 k s) (fun s y => [(0, .slice a0 x0.length c0), (1, .slice a1 x1.length c1), (5, .int .i64 s)]) (fun s y => [F]) (fun _ => by rw [synodref_SameTexts.l0]) ?_ k 0 () ⟨rfl, rfl, rfl, trivial⟩ (.sel 0 rfl (.nil _))
 intro k s5v y6v
 refine sim_eq (by rw [synodref_SameTexts.l0]) ?_
 refine sim_seq (sim_seq (sim_region ?_))
 refine simL_val (q_move rfl rfl) rfl rfl rfl ?_
 refine simL_val (q_move rfl rfl) rfl rfl rfl ?_
 refine simL_val (q_len rfl rfl rfl Try.underlying29) rfl rfl rfl ?_
 refine simL_val (q_lss rfl rfl rfl) rfl rfl rfl (simL_nil (nrm_then ?_))
 refine sim_cond rfl (fun h8v => ?_) (fun h9v => ?_)
 refine sim_skip ?_
 refine nrm_then (sim_seq ?_)
 refine sim_block ?_
 refine sim_seq ?_
 refine sim_ask (fun hi10v => ?_)
 obtain ⟨b11v, b11vo, r14v, ha12v, hV15v, hlr16v, hcell17v⟩ := RdV.pos h0 (Up.refl _) rfl (i := s5v.toNat) (by omega) ([] : List UInt8)
 obtain rfl := hV15v
 refine sim_ask (fun hi18v => ?_)
 obtain ⟨b19v, b19vo, r22v, ha20v, hV23v, hlr24v, hcell25v⟩ := RdV.pos h1 (Up.refl _) rfl (i := s5v.toNat) (by omega) ([] : List UInt8)
 obtain rfl := hV23v
 refine sim_draw (Γ := Unit) () [[], [], [0, 1], [0, 1, 2], [], [], [4, 5], [4, 5, 6], [0, 1, 2, 3, 4, 5, 6, 7]] [] [0, 1, 2, 3, 4, 5, 6, 7, 8] (fun i => [[0], [0], [0], [0], [0], [0], [0], [0], [0]].getD i []) (fun i => [[], [], [], [], [], [], [], [], []].getD i []) (fun γ i => [.slice a0 x0.length c0, .int .i64 s5v, .pointer (some ⟨b11v, b11vo + s5v.toNat * 1, none⟩), str (x0.getD s5v.toNat ([] : List UInt8)), .slice a1 x1.length c1, .int .i64 s5v, .pointer (some ⟨b19v, b19vo + s5v.toNat * 1, none⟩), str (x1.getD s5v.toNat ([] : List UInt8)), .bool (!decide ((x0.getD s5v.toNat ([] : List UInt8)) = (x1.getD s5v.toNat ([] : List UInt8))))].getD i undef) (fun j γ => [[F]].getD j []) (fun γ => [(0, .slice a0 x0.length c0), (1, .slice a1 x1.length c1), (5, .int .i64 s5v), (25, .bool (!decide ((x0.getD s5v.toNat ([] : List UInt8)) = (x1.getD s5v.toNat ([] : List UInt8)))))]) mixed (by decide) (by decide) (by decide) (by decide) (by decide) (by decide) (by decide) 26 rfl (by decide) (by decide) (by decide) (Ent.refl _) ?_ ?_ (fun _ => ⟨rfl, rfl, rfl, rfl, trivial⟩) ?_
 exact (All.cons (fun γ => (All.cons (QOb.plain [(0, .slice a0 x0.length c0)] rfl rfl (.o rfl (by decide) .nil) (q_move rfl rfl) rfl) All.nil)) (All.cons (fun γ => (All.cons (QOb.plain [(5, .int .i64 s5v)] rfl rfl (.o rfl (by decide) .nil) (q_move rfl rfl) rfl) All.nil)) (All.cons (fun γ => (All.cons (QOb.plain [(17, .slice a0 x0.length c0), (18, .int .i64 s5v)] rfl rfl (.w 0 rfl rfl rfl (.w 1 rfl rfl rfl .nil)) (q_idx rfl rfl rfl ha12v Try.underlying29 Try.sizeOf9 hi10v.1 hi10v.2) rfl) All.nil)) (All.cons (fun γ => (All.cons (QOb.plain [(19, .pointer (some ⟨b11v, b11vo + s5v.toNat * 1, none⟩))] rfl rfl (.w 2 rfl rfl rfl .nil) (q_load rfl rfl Try.isAgg9 (hcell17v 0 rfl 0 _ rfl)) rfl) All.nil)) (All.cons (fun γ => (All.cons (QOb.plain [(1, .slice a1 x1.length c1)] rfl rfl (.o rfl (by decide) .nil) (q_move rfl rfl) rfl) All.nil)) (All.cons (fun γ => (All.cons (QOb.plain [(5, .int .i64 s5v)] rfl rfl (.o rfl (by decide) .nil) (q_move rfl rfl) rfl) All.nil)) (All.cons (fun γ => (All.cons (QOb.plain [(21, .slice a1 x1.length c1), (22, .int .i64 s5v)] rfl rfl (.w 4 rfl rfl rfl (.w 5 rfl rfl rfl .nil)) (q_idx rfl rfl rfl ha20v Try.underlying29 Try.sizeOf9 hi18v.1 hi18v.2) rfl) All.nil)) (All.cons (fun γ => (All.cons (QOb.plain [(23, .pointer (some ⟨b19v, b19vo + s5v.toNat * 1, none⟩))] rfl rfl (.w 6 rfl rfl rfl .nil) (q_load rfl rfl Try.isAgg9 (hcell25v 0 rfl 0 _ rfl)) rfl) All.nil)) (All.cons (fun γ => (All.cons (QOb.plain [(20, str (x0.getD s5v.toNat ([] : List UInt8))), (24, str (x1.getD s5v.toNat ([] : List UInt8)))] rfl rfl (.w 3 rfl rfl rfl (.w 7 rfl rfl rfl .nil)) (q_nes rfl rfl rfl) rfl) All.nil)) All.nil)))))))))
 exact All.nil
 intro g26v
 refine nrm_then ?_
 refine sim_condn rfl (fun h27v => ?_) (fun h28v => ?_)
 refine sim_skip ?_
 refine nrm_block (nrm_then (sim_region ?_))
 refine simL_val (q_move rfl rfl) rfl rfl rfl ?_
 refine simL_val (q_add rfl rfl rfl) rfl rfl rfl ?_
 refine simL_val (q_asg rfl rfl) rfl rfl rfl (simL_nil ?_)
 exact nrm_again (s := IntKind.i64.wrap (s5v + 1)) () ⟨rfl, rfl, rfl, trivial⟩ (.sel 0 rfl (.nil _))
 refine sim_seq (sim_region ?_)
 refine simL_val (q_asg rfl rfl) rfl rfl rfl (simL_nil (nrm_then (sim_rtn ?_)))
 refine rtn_block ?_
 refine rtn_then ?_
 refine rtn_loop ?_
 refine rtn_block ?_
 refine rtn_cutR ?_
 exact rtn_fn () rfl rfl rfl (.sel 0 rfl (.nil _))
 refine sim_exi ?_
 refine exi_then ?_
 refine exi_loop ?_
 refine exi_here ?_
 exact nrm_cutR (s := ()) () trivial (.sel 0 rfl (.nil _))
 intro s3v y4v
 refine sim_seq (sim_region ?_)
 refine simL_val (q_asg rfl rfl) rfl rfl rfl (simL_nil (nrm_then (sim_rtn ?_)))
 exact rtn_fn () rfl rfl rfl (.sel 0 rfl (.nil _))
 refine sim_seq (sim_region ?_)
 refine simL_val (q_asg rfl rfl) rfl rfl rfl (simL_nil (nrm_then (sim_rtn ?_)))
 refine rtn_then ?_
 exact rtn_fn () rfl rfl rfl (.sel 0 rfl (.nil _))

def synodref16_Valid.l2 (x0 : List (Ty35)) (s60v : Int) : Nat → Int → Int → Option (Int)
  | 0, _, _ => none
  | k + 1, z71v, z72v => if z72v < (x0.length : Int) then (if 0 ≤ z72v ∧ z72v < (x0.length : Int) then ((synodref16_Counts.f ((x0.getD z72v.toNat dz35).1) ((x0.getD z72v.toNat dz35).2.1) ((x0.getD z72v.toNat dz35).2.2.1) ((x0.getD z72v.toNat dz35).2.2.2.1) ((x0.getD z72v.toNat dz35).2.2.2.2.1) ((x0.getD z72v.toNat dz35).2.2.2.2.2.1) ((x0.getD z72v.toNat dz35).2.2.2.2.2.2.1) ((x0.getD z72v.toNat dz35).2.2.2.2.2.2.2.1) ((x0.getD z72v.toNat dz35).2.2.2.2.2.2.2.2.1) ((x0.getD z72v.toNat dz35).2.2.2.2.2.2.2.2.2)).bind fun s83v => ((if s83v = true then (if 0 ≤ z72v ∧ z72v < (x0.length : Int) then (if 0 ≤ s60v ∧ s60v < (x0.length : Int) then (some (decide (((x0.getD z72v.toNat dz35).2.2.2.1) = ((x0.getD s60v.toNat dz35).2.2.2.1)))) else none) else none) else (some false)).bind fun s86v => (if s86v = true then (synodref16_Valid.l2 x0 s60v k (IntKind.i64.wrap (z71v + 1)) (IntKind.i64.wrap (z72v + 1))) else (synodref16_Valid.l2 x0 s60v k z71v (IntKind.i64.wrap (z72v + 1)))))) else none) else (some z71v)
def synodref16_Valid.l1 (x0 : List (Ty35)) : Nat → Int → Option ((Unit) ⊕ (Int))
  | 0, _ => none
  | k + 1, z62v => if z62v < (x0.length : Int) then (orR ((synodref16_Valid.l2 x0 z62v k 0 0).bind fun s67v => (if (12 : Int) < s67v then (some (.inr (.inr 23))) else (some (.inl ())))) fun s65v => (synodref16_Valid.l1 x0 k (IntKind.i64.wrap (z62v + 1)))) else (some (.inl ()))
def synodref16_Valid.l0 (x0 : List (Ty35)) : Nat → Int → Option ((Unit) ⊕ (Int))
  | 0, _ => none
  | k + 1, z7v => if z7v < (x0.length : Int) then (if 0 ≤ z7v ∧ z7v < (x0.length : Int) then (if ((decide ((x0.getD z7v.toNat dz35).2.2.1 < (1 : Int))) || (decide ((4 : Int) < (x0.getD z7v.toNat dz35).2.2.1))) = true then (some (.inr 6)) else ((if ((decide ((x0.getD z7v.toNat dz35).2.2.2.2.2.2.1 < (1 : Int))) || (decide ((x0.getD z7v.toNat dz35).2.2.2.2.2.2.2.1 < (0 : Int)))) = true then (some true) else (some ((!decide ((x0.getD z7v.toNat dz35).2.2.2.2.2.2.2.1 = (0 : Int))) && (decide ((x0.getD z7v.toNat dz35).2.2.2.2.2.2.2.1 < (x0.getD z7v.toNat dz35).2.2.2.2.2.2.1))))).bind fun s21v => ((if s21v = true then (some true) else (some ((decide ((x0.getD z7v.toNat dz35).2.2.2.2.2.2.2.1 = (0 : Int))) && (!(decide ((x0.getD z7v.toNat dz35).2.2.2.2.2.2.2.2.1 = (0 : Int)) && (decide (((x0.getD z7v.toNat dz35).2.2.2.2.2.2.2.2.2) = ([] : List UInt8)))))))).bind fun s30v => ((if s30v = true then (some true) else ((if (x0.getD z7v.toNat dz35).2.2.2.2.2.2.2.1 = (0 : Int) then (some (false, false, false)) else (some (true, true, (decide ((x0.getD z7v.toNat dz35).2.2.2.2.2.2.2.2.1 < (1 : Int))) || (decide ((10 : Int) < (x0.getD z7v.toNat dz35).2.2.2.2.2.2.2.2.1))))).bind fun s40v => (some s40v.2.2))).bind fun s38v => (if s38v = true then (some (.inr 4)) else (synodref16_Valid.l0 x0 k (IntKind.i64.wrap (z7v + 1)))))))) else none) else (some (.inl ()))
def synodref16_Valid.f (k : Nat) (x0 : List (Ty35)) : Option (Int) := if (400 : Int) < (x0.length : Int) then (some 23) else (orR (synodref16_Valid.l0 x0 k 0) fun s3v => (orR (synodref16_Valid.l1 x0 k 0) fun s58v => (some 0)))
theorem synodref16_Valid.calls (W : World) (F : HA) (k : Nat) (a0 : Option Addr) (c0 : Nat) (x0 : List (Ty35)) (h0 : RdV F 10 (V35 tt) a0 x0) (hc0 : x0.length ≤ c0) (hm0 : c0 ≤ maxLen) :
    Fn Try.prog W 20 [.slice a0 x0.length c0] [] F (synodref16_Valid.f k x0) (fun (r : Int) (y : Unit) => .int .i64 r) (fun r y => []) := by
 unfold synodref16_Valid.f
 refine fn_intro 113 Try.func20 rfl Try.ntmps20 rfl ?_
 refine sim_seq (sim_region ?_)
 refine simL_val (q_asg rfl rfl) rfl rfl rfl (simL_nil (nrm_then (sim_seq (sim_seq (sim_region ?_)))))
 refine simL_val (q_move rfl rfl) rfl rfl rfl ?_
 refine simL_val (q_len rfl rfl rfl Try.underlying22) rfl rfl rfl ?_
 refine simL_val (q_gtr rfl rfl rfl) rfl rfl rfl (simL_nil (nrm_then ?_))
 refine sim_cond rfl (fun h1v => ?_) (fun h2v => ?_)
 refine sim_seq (sim_region ?_)
 refine simL_val (q_asg rfl rfl) rfl rfl rfl (simL_nil (nrm_then (sim_rtn ?_)))
 refine rtn_then ?_
 exact rtn_fn () rfl rfl rfl (.sel 0 rfl (.nil _))
 refine sim_skip ?_
 refine nrm_then ?_
 refine sim_cutR (S := Unit) (Unit) (fun s y => [(0, .slice a0 x0.length c0)]) (fun s y => [F]) ?_ ?_
 refine sim_seq (sim_region ?_)
 refine simL_val (q_asg rfl rfl) rfl rfl rfl (simL_nil (nrm_then ?_))
 refine sim_block ?_
 refine sim_loop (S := Int) (Unit) (fun k s => synodref16_Valid.l0 x0 k s) (fun s y => [(0, .slice a0 x0.length c0), (3, .int .i64 s)]) (fun s y => [F]) (fun _ => by rw [synodref16_Valid.l0]) ?_ k 0 () ⟨rfl, rfl, trivial⟩ (.sel 0 rfl (.nil _))
 intro k s5v y6v
 refine sim_eq (by rw [synodref16_Valid.l0]) ?_
 refine sim_seq (sim_seq (sim_region ?_))
 refine simL_val (q_move rfl rfl) rfl rfl rfl ?_
 refine simL_val (q_move rfl rfl) rfl rfl rfl ?_
 refine simL_val (q_len rfl rfl rfl Try.underlying22) rfl rfl rfl ?_
 refine simL_val (q_lss rfl rfl rfl) rfl rfl rfl (simL_nil (nrm_then ?_))
 refine sim_cond rfl (fun h8v => ?_) (fun h9v => ?_)
 refine sim_skip ?_
 refine nrm_then (sim_seq ?_)
 refine sim_block ?_
 refine sim_seq (sim_region ?_)
 refine simL_val (q_move rfl rfl) rfl rfl rfl ?_
 refine simL_val (q_move rfl rfl) rfl rfl rfl ?_
 refine simL_ask (fun hi10v => ?_)
 obtain ⟨b11v, b11vo, r14v, ha12v, hV15v, hlr16v, hcell17v⟩ := RdV.pos h0 (Up.refl _) rfl (i := s5v.toNat) (by omega) dz35
 obtain rfl := hV15v
 refine simL_val (q_idx rfl rfl rfl ha12v Try.underlying22 Try.sizeOf35 hi10v.1 hi10v.2) rfl rfl rfl ?_
 refine simL_val (q_loads rfl rfl Try.isAgg35 Try.sizeOf35 rfl (fun j v hj => hcell17v 0 rfl j v hj)) rfl rfl rfl ?_
 refine simL_eff (re_alloc rfl Try.zeroValue35 rfl) rfl rfl rfl ?_
 intro b18v
 refine simL_do (re_store 0 rfl rfl rfl Try.sizeOf35 rfl rfl (one_of (by rfl)) rfl rfl) rfl rfl ?_
 intro _
 refine simL_ent (H' := [obj b18v 35 [.int .i64 ((x0.getD s5v.toNat dz35).1), .int .i64 ((x0.getD s5v.toNat dz35).2.1), .int .i64 ((x0.getD s5v.toNat dz35).2.2.1), str ((x0.getD s5v.toNat dz35).2.2.2.1), str ((x0.getD s5v.toNat dz35).2.2.2.2.1), str ((x0.getD s5v.toNat dz35).2.2.2.2.2.1), .int .i64 ((x0.getD s5v.toNat dz35).2.2.2.2.2.2.1), .int .i64 ((x0.getD s5v.toNat dz35).2.2.2.2.2.2.2.1), .int .i64 ((x0.getD s5v.toNat dz35).2.2.2.2.2.2.2.2.1), str ((x0.getD s5v.toNat dz35).2.2.2.2.2.2.2.2.2)], F]) (Ent.refl _) ?_
 refine simL_nil (nrm_then (sim_seq (sim_seq (sim_region ?_))))
 refine simL_val (q_fa rfl rfl Try.underlying35 rfl rfl Try.sizeOf3 rfl) rfl rfl rfl ?_
 refine simL_val (q_load rfl rfl Try.isAgg3 (.obj 0 rfl rfl)) rfl rfl rfl ?_
 refine simL_val (q_lss rfl rfl rfl) rfl rfl rfl ?_
 refine simL_val (q_move rfl rfl) rfl rfl rfl ?_
 refine simL_valc (b := decide ((x0.getD s5v.toNat dz35).2.2.1 < (1 : Int))) (fun hb57v => RQ.sub (E' := [(4, .pointer (some ⟨b18v, 0, none⟩))]) ⟨rfl, trivial⟩ (q_fa rfl rfl Try.underlying35 rfl rfl Try.sizeOf3 rfl)) rfl rfl rfl rfl rfl ?_
 refine simL_valc (b := decide ((x0.getD s5v.toNat dz35).2.2.1 < (1 : Int))) (fun hb56v => RQ.sub (E' := [(27, .pointer (some ⟨b18v, 2, none⟩))]) ⟨lk_cv rfl hb56v, trivial⟩ (q_load rfl rfl Try.isAgg3 (.obj 0 rfl rfl))) rfl rfl rfl rfl rfl ?_
 refine simL_valc (b := decide ((x0.getD s5v.toNat dz35).2.2.1 < (1 : Int))) (fun hb55v => RQ.sub (E' := [(28, .int .i64 ((x0.getD s5v.toNat dz35).2.2.1))]) ⟨lk_cv rfl hb55v, trivial⟩ (q_gtr rfl rfl rfl)) rfl rfl rfl rfl rfl ?_
 refine simL_val (q_or rfl rfl rfl) rfl rfl rfl (simL_nil (nrm_then ?_))
 refine sim_condb rfl (fun h19v => ?_) (fun h20v => ?_)
 refine sim_seq (sim_region ?_)
 refine simL_val (q_asg rfl rfl) rfl rfl rfl (simL_nil (nrm_then (sim_rtn ?_)))
 refine rtn_then ?_
 refine rtn_block ?_
 refine rtn_then ?_
 refine rtn_loop ?_
 refine rtn_block ?_
 refine rtn_cutR ?_
 exact rtn_fn () rfl rfl rfl (.sel 1 rfl (.nil _))
 refine sim_skip ?_
 refine nrm_then (sim_seq (sim_region ?_))
 refine simL_val (q_fa rfl rfl Try.underlying35 rfl rfl Try.sizeOf3 rfl) rfl rfl rfl ?_
 refine simL_val (q_load rfl rfl Try.isAgg3 (.obj 0 rfl rfl)) rfl rfl rfl ?_
 refine simL_val (q_eql rfl rfl rfl) rfl rfl rfl ?_
 refine simL_val (q_asg rfl rfl) rfl rfl rfl (simL_nil (nrm_then (sim_seq (sim_region ?_))))
 refine simL_val (q_fa rfl rfl Try.underlying35 rfl rfl Try.sizeOf3 rfl) rfl rfl rfl ?_
 refine simL_val (q_load rfl rfl Try.isAgg3 (.obj 0 rfl rfl)) rfl rfl rfl ?_
 refine simL_val (q_lss rfl rfl rfl) rfl rfl rfl ?_
 refine simL_val (q_move rfl rfl) rfl rfl rfl ?_
 refine simL_valc (b := decide ((x0.getD s5v.toNat dz35).2.2.2.2.2.2.1 < (1 : Int))) (fun hb54v => RQ.sub (E' := [(4, .pointer (some ⟨b18v, 0, none⟩))]) ⟨rfl, trivial⟩ (q_fa rfl rfl Try.underlying35 rfl rfl Try.sizeOf3 rfl)) rfl rfl rfl rfl rfl ?_
 refine simL_valc (b := decide ((x0.getD s5v.toNat dz35).2.2.2.2.2.2.1 < (1 : Int))) (fun hb53v => RQ.sub (E' := [(38, .pointer (some ⟨b18v, 7, none⟩))]) ⟨lk_cv rfl hb53v, trivial⟩ (q_load rfl rfl Try.isAgg3 (.obj 0 rfl rfl))) rfl rfl rfl rfl rfl ?_
 refine simL_valc (b := decide ((x0.getD s5v.toNat dz35).2.2.2.2.2.2.1 < (1 : Int))) (fun hb52v => RQ.sub (E' := [(39, .int .i64 ((x0.getD s5v.toNat dz35).2.2.2.2.2.2.2.1))]) ⟨lk_cv rfl hb52v, trivial⟩ (q_lss rfl rfl rfl)) rfl rfl rfl rfl rfl ?_
 refine simL_val (q_or rfl rfl rfl) rfl rfl rfl ?_
 refine simL_val (q_move rfl rfl) rfl rfl rfl ?_
 refine simL_cut' 10 (S := Bool) (Unit) (fun s y => [(0, .slice a0 x0.length c0), (3, .int .i64 s5v), (4, .pointer (some ⟨b18v, 0, none⟩)), (5, .bool (decide ((x0.getD s5v.toNat dz35).2.2.2.2.2.2.2.1 = (0 : Int)))), (52, .bool s)]) (fun s y => [obj b18v 35 [.int .i64 ((x0.getD s5v.toNat dz35).1), .int .i64 ((x0.getD s5v.toNat dz35).2.1), .int .i64 ((x0.getD s5v.toNat dz35).2.2.1), str ((x0.getD s5v.toNat dz35).2.2.2.1), str ((x0.getD s5v.toNat dz35).2.2.2.2.1), str ((x0.getD s5v.toNat dz35).2.2.2.2.2.1), .int .i64 ((x0.getD s5v.toNat dz35).2.2.2.2.2.2.1), .int .i64 ((x0.getD s5v.toNat dz35).2.2.2.2.2.2.2.1), .int .i64 ((x0.getD s5v.toNat dz35).2.2.2.2.2.2.2.2.1), str ((x0.getD s5v.toNat dz35).2.2.2.2.2.2.2.2.2)], F]) ?_ ?_
 refine simL_caseb (fun hb28v => ?_) (fun hb29v => ?_)
 rw [hb28v]
 refine simL_skipd rfl rfl rfl rfl rfl rfl ?_
 refine simL_skipd rfl rfl rfl rfl rfl rfl ?_
 refine simL_skipd rfl rfl rfl rfl rfl rfl ?_
 refine simL_skipu rfl rfl rfl rfl rfl ?_
 refine simL_skipu rfl rfl rfl rfl rfl ?_
 refine simL_skipu rfl rfl rfl rfl rfl ?_
 refine simL_skipu rfl rfl rfl rfl rfl ?_
 refine simL_skipu rfl rfl rfl rfl rfl ?_
 refine simL_skipd rfl rfl rfl rfl rfl rfl ?_
 refine simL_val (q_pick rfl rfl rfl rfl rfl) rfl rfl rfl (simL_nil ?_)
 exact nrm_cut (s := true) () ⟨rfl, rfl, rfl, rfl, rfl, trivial⟩ (.sel 0 rfl (.sel 0 rfl (.nil _)))
 rw [hb29v]
 refine simL_valg (q_move rfl rfl) rfl rfl rfl rfl rfl rfl ?_
 refine simL_valg (q_not rfl rfl) rfl rfl rfl rfl rfl rfl ?_
 refine simL_valg (q_move rfl rfl) rfl rfl rfl rfl rfl rfl ?_
 refine simL_valc (b := !decide ((x0.getD s5v.toNat dz35).2.2.2.2.2.2.2.1 = (0 : Int))) (fun hb27v => RQ.sub (E' := [(4, .pointer (some ⟨b18v, 0, none⟩))]) ⟨rfl, trivial⟩ (q_fa rfl rfl Try.underlying35 rfl rfl Try.sizeOf3 rfl)) rfl rfl rfl rfl rfl ?_
 refine simL_valc (b := !decide ((x0.getD s5v.toNat dz35).2.2.2.2.2.2.2.1 = (0 : Int))) (fun hb26v => RQ.sub (E' := [(46, .pointer (some ⟨b18v, 7, none⟩))]) ⟨lk_cv rfl hb26v, trivial⟩ (q_load rfl rfl Try.isAgg3 (.obj 0 rfl rfl))) rfl rfl rfl rfl rfl ?_
 refine simL_valc (b := !decide ((x0.getD s5v.toNat dz35).2.2.2.2.2.2.2.1 = (0 : Int))) (fun hb25v => RQ.sub (E' := [(4, .pointer (some ⟨b18v, 0, none⟩))]) ⟨rfl, trivial⟩ (q_fa rfl rfl Try.underlying35 rfl rfl Try.sizeOf3 rfl)) rfl rfl rfl rfl rfl ?_
 refine simL_valc (b := !decide ((x0.getD s5v.toNat dz35).2.2.2.2.2.2.2.1 = (0 : Int))) (fun hb24v => RQ.sub (E' := [(48, .pointer (some ⟨b18v, 6, none⟩))]) ⟨lk_cv rfl hb24v, trivial⟩ (q_load rfl rfl Try.isAgg3 (.obj 0 rfl rfl))) rfl rfl rfl rfl rfl ?_
 refine simL_valc (b := !decide ((x0.getD s5v.toNat dz35).2.2.2.2.2.2.2.1 = (0 : Int))) (fun hb23v => RQ.sub (E' := [(47, .int .i64 ((x0.getD s5v.toNat dz35).2.2.2.2.2.2.2.1)), (49, .int .i64 ((x0.getD s5v.toNat dz35).2.2.2.2.2.2.1))]) ⟨lk_cv rfl hb23v, lk_cv rfl hb23v, trivial⟩ (q_lss rfl rfl rfl)) rfl rfl rfl rfl rfl ?_
 refine simL_valg (q_and rfl rfl rfl) rfl rfl rfl rfl rfl rfl ?_
 refine simL_val (q_pick rfl rfl rfl rfl rfl) rfl rfl rfl (simL_nil ?_)
 exact nrm_cut (s := (!decide ((x0.getD s5v.toNat dz35).2.2.2.2.2.2.2.1 = (0 : Int))) && (decide ((x0.getD s5v.toNat dz35).2.2.2.2.2.2.2.1 < (x0.getD s5v.toNat dz35).2.2.2.2.2.2.1))) () ⟨rfl, rfl, rfl, rfl, rfl, trivial⟩ (.sel 0 rfl (.sel 0 rfl (.nil _)))
 intro s21v y22v
 refine simL_val (q_move rfl rfl) rfl rfl rfl ?_
 refine simL_cut' 8 (S := Bool) (Unit) (fun s y => [(0, .slice a0 x0.length c0), (3, .int .i64 s5v), (4, .pointer (some ⟨b18v, 0, none⟩)), (5, .bool (decide ((x0.getD s5v.toNat dz35).2.2.2.2.2.2.2.1 = (0 : Int)))), (61, .bool s)]) (fun s y => [obj b18v 35 [.int .i64 ((x0.getD s5v.toNat dz35).1), .int .i64 ((x0.getD s5v.toNat dz35).2.1), .int .i64 ((x0.getD s5v.toNat dz35).2.2.1), str ((x0.getD s5v.toNat dz35).2.2.2.1), str ((x0.getD s5v.toNat dz35).2.2.2.2.1), str ((x0.getD s5v.toNat dz35).2.2.2.2.2.1), .int .i64 ((x0.getD s5v.toNat dz35).2.2.2.2.2.2.1), .int .i64 ((x0.getD s5v.toNat dz35).2.2.2.2.2.2.2.1), .int .i64 ((x0.getD s5v.toNat dz35).2.2.2.2.2.2.2.2.1), str ((x0.getD s5v.toNat dz35).2.2.2.2.2.2.2.2.2)], F]) ?_ ?_
 refine simL_caseb (fun hb36v => ?_) (fun hb37v => ?_)
 rw [hb36v]
 refine simL_skipd rfl rfl rfl rfl rfl rfl ?_
 refine simL_skipd rfl rfl rfl rfl rfl rfl ?_
 refine simL_skipu rfl rfl rfl rfl rfl ?_
 refine simL_skipu rfl rfl rfl rfl rfl ?_
 refine simL_skipu rfl rfl rfl rfl rfl ?_
 refine simL_skipu rfl rfl rfl rfl rfl ?_
 refine simL_skipd rfl rfl rfl rfl rfl rfl ?_
 refine simL_val (q_pick rfl rfl rfl rfl rfl) rfl rfl rfl (simL_nil ?_)
 exact nrm_cut (s := true) () ⟨rfl, rfl, rfl, rfl, rfl, trivial⟩ (.sel 0 rfl (.sel 0 rfl (.nil _)))
 rw [hb37v]
 refine simL_valg (q_move rfl rfl) rfl rfl rfl rfl rfl rfl ?_
 refine simL_valg (q_move rfl rfl) rfl rfl rfl rfl rfl rfl ?_
 refine simL_valc (b := decide ((x0.getD s5v.toNat dz35).2.2.2.2.2.2.2.1 = (0 : Int))) (fun hb35v => RQ.sub (E' := [(4, .pointer (some ⟨b18v, 0, none⟩))]) ⟨rfl, trivial⟩ (q_fa rfl rfl Try.underlying35 rfl rfl Try.sizeOf33 rfl)) rfl rfl rfl rfl rfl ?_
 refine simL_valc (b := decide ((x0.getD s5v.toNat dz35).2.2.2.2.2.2.2.1 = (0 : Int))) (fun hb34v => RQ.sub (E' := [(56, .pointer (some ⟨b18v, 8, none⟩))]) ⟨lk_cv rfl hb34v, trivial⟩ (q_loads (vs := [.int .i64 ((x0.getD s5v.toNat dz35).2.2.2.2.2.2.2.2.1), str ((x0.getD s5v.toNat dz35).2.2.2.2.2.2.2.2.2)]) rfl rfl Try.isAgg33 Try.sizeOf33 rfl (cells_obj 0 rfl (cells_lit rfl)))) rfl rfl rfl rfl rfl ?_
 refine simL_valc (b := decide ((x0.getD s5v.toNat dz35).2.2.2.2.2.2.2.1 = (0 : Int))) (fun hb33v => RQ.sub (E' := []) trivial (q_build (v := .agg #[.int .i64 0, str ([] : List UInt8)]) rfl rfl (fun _ => by kernel_rfl))) rfl rfl rfl rfl rfl ?_
 refine simL_valc (b := decide ((x0.getD s5v.toNat dz35).2.2.2.2.2.2.2.1 = (0 : Int))) (fun hb32v => RQ.sub (E' := [(57, .agg #[.int .i64 ((x0.getD s5v.toNat dz35).2.2.2.2.2.2.2.2.1), str ((x0.getD s5v.toNat dz35).2.2.2.2.2.2.2.2.2)]), (58, .agg #[.int .i64 0, str ([] : List UInt8)])]) ⟨lk_cv rfl hb32v, lk_cv rfl hb32v, trivial⟩ (q_neagg rfl rfl rfl (by kernel_rfl) (fun d w => eqi_struct Try.underlying33 (by kernel_rfl) (eqf_cons (by rfl) (part_of Try.isAgg3 rfl) (part_of Try.isAgg3 rfl) (eqi_int Try.underlying3) (eqf_last (by rfl) (part_of Try.isAgg9 rfl) (part_of Try.isAgg9 rfl) (eqi_str Try.underlying9)))))) rfl rfl rfl rfl rfl ?_
 refine simL_valg (q_and rfl rfl rfl) rfl rfl rfl rfl rfl rfl ?_
 refine simL_val (q_pick rfl rfl rfl rfl rfl) rfl rfl rfl (simL_nil ?_)
 exact nrm_cut (s := (decide ((x0.getD s5v.toNat dz35).2.2.2.2.2.2.2.1 = (0 : Int))) && (!(decide ((x0.getD s5v.toNat dz35).2.2.2.2.2.2.2.2.1 = (0 : Int)) && (decide (((x0.getD s5v.toNat dz35).2.2.2.2.2.2.2.2.2) = ([] : List UInt8)))))) () ⟨rfl, rfl, rfl, rfl, rfl, trivial⟩ (.sel 0 rfl (.sel 0 rfl (.nil _)))
 intro s30v y31v
 refine simL_val (q_move rfl rfl) rfl rfl rfl ?_
 refine simL_cut' 15 (S := Bool) (Unit) (fun s y => [(0, .slice a0 x0.length c0), (3, .int .i64 s5v), (77, .bool s)]) (fun s y => [F]) ?_ ?_
 refine simL_caseb (fun hb48v => ?_) (fun hb49v => ?_)
 rw [hb48v]
 refine simL_skipd rfl rfl rfl rfl rfl rfl ?_
 refine simL_skipd rfl rfl rfl rfl rfl rfl ?_
 refine simL_skipd rfl rfl rfl rfl rfl rfl ?_
 refine simL_skipu rfl rfl rfl rfl rfl ?_
 refine simL_skipu rfl rfl rfl rfl rfl ?_
 refine simL_skipu rfl rfl rfl rfl rfl ?_
 refine simL_skipu rfl rfl rfl rfl rfl ?_
 refine simL_skipu rfl rfl rfl rfl rfl ?_
 refine simL_skipu rfl rfl rfl rfl rfl ?_
 refine simL_skipu rfl rfl rfl rfl rfl ?_
 refine simL_skipu rfl rfl rfl rfl rfl ?_
 refine simL_skipu rfl rfl rfl rfl rfl ?_
 refine simL_skipu rfl rfl rfl rfl rfl ?_
 refine simL_skipd rfl rfl rfl rfl rfl rfl ?_
 refine simL_val (q_pick rfl rfl rfl rfl rfl) rfl rfl rfl (simL_nil ?_)
 exact nrm_cut (s := true) () ⟨rfl, rfl, rfl, trivial⟩ (.sel 1 rfl (.nil _))
 rw [hb49v]
 refine simL_valg (q_move rfl rfl) rfl rfl rfl rfl rfl rfl ?_
 refine simL_valg (q_not rfl rfl) rfl rfl rfl rfl rfl rfl ?_
 refine simL_valg (q_move rfl rfl) rfl rfl rfl rfl rfl rfl ?_
 refine simL_cut' 11 (S := Bool × Bool × Bool) (Unit) (fun s y => [(0, .slice a0 x0.length c0), (3, .int .i64 s5v), (62, .bool false), (63, .bool (decide ((x0.getD s5v.toNat dz35).2.2.2.2.2.2.2.1 = (0 : Int)))), (64, .bool s.1), (65, .bool s.2.1), (76, .bool s.2.2)]) (fun s y => [F]) ?_ ?_
 refine simL_casen (fun hb46v => ?_) (fun hb47v => ?_)
 rw [hb46v]
 refine simL_valg (q_fa rfl rfl Try.underlying35 rfl rfl Try.sizeOf33 rfl) rfl rfl rfl rfl rfl rfl ?_
 refine simL_valg (q_fa rfl rfl Try.underlying33 rfl rfl Try.sizeOf3 rfl) rfl rfl rfl rfl rfl rfl ?_
 refine simL_valg (q_load rfl rfl Try.isAgg3 (.obj 0 rfl rfl)) rfl rfl rfl rfl rfl rfl ?_
 refine simL_valg (q_lss rfl rfl rfl) rfl rfl rfl rfl rfl rfl ?_
 refine simL_valg (q_move rfl rfl) rfl rfl rfl rfl rfl rfl ?_
 refine simL_valc (b := decide ((x0.getD s5v.toNat dz35).2.2.2.2.2.2.2.2.1 < (1 : Int))) (fun hb45v => RQ.sub (E' := [(4, .pointer (some ⟨b18v, 0, none⟩))]) ⟨rfl, trivial⟩ (q_fa rfl rfl Try.underlying35 rfl rfl Try.sizeOf33 rfl)) rfl rfl rfl rfl rfl ?_
 refine simL_valc (b := decide ((x0.getD s5v.toNat dz35).2.2.2.2.2.2.2.2.1 < (1 : Int))) (fun hb44v => RQ.sub (E' := [(71, .pointer (some ⟨b18v, 8, none⟩))]) ⟨lk_cv rfl hb44v, trivial⟩ (q_fa rfl rfl Try.underlying33 rfl rfl Try.sizeOf3 rfl)) rfl rfl rfl rfl rfl ?_
 refine simL_valc (b := decide ((x0.getD s5v.toNat dz35).2.2.2.2.2.2.2.2.1 < (1 : Int))) (fun hb43v => RQ.sub (E' := [(72, .pointer (some ⟨b18v, 8, none⟩))]) ⟨lk_cv rfl hb43v, trivial⟩ (q_load rfl rfl Try.isAgg3 (.obj 0 rfl rfl))) rfl rfl rfl rfl rfl ?_
 refine simL_valc (b := decide ((x0.getD s5v.toNat dz35).2.2.2.2.2.2.2.2.1 < (1 : Int))) (fun hb42v => RQ.sub (E' := [(73, .int .i64 ((x0.getD s5v.toNat dz35).2.2.2.2.2.2.2.2.1))]) ⟨lk_cv rfl hb42v, trivial⟩ (q_gtr rfl rfl rfl)) rfl rfl rfl rfl rfl ?_
 refine simL_valg (q_or rfl rfl rfl) rfl rfl rfl rfl rfl rfl ?_
 refine simL_valg (q_pick rfl rfl rfl rfl rfl) rfl rfl rfl rfl rfl rfl ?_
 refine simL_nil ?_
 exact nrm_cut (s := (true, true, (decide ((x0.getD s5v.toNat dz35).2.2.2.2.2.2.2.2.1 < (1 : Int))) || (decide ((10 : Int) < (x0.getD s5v.toNat dz35).2.2.2.2.2.2.2.2.1)))) () ⟨rfl, rfl, rfl, rfl, rfl, rfl, rfl, trivial⟩ (.sel 1 rfl (.nil _))
 rw [hb47v]
 refine simL_skipd rfl rfl rfl rfl rfl rfl ?_
 refine simL_skipd rfl rfl rfl rfl rfl rfl ?_
 refine simL_skipd rfl rfl rfl rfl rfl rfl ?_
 refine simL_skipd rfl rfl rfl rfl rfl rfl ?_
 refine simL_skipd rfl rfl rfl rfl rfl rfl ?_
 refine simL_skipu rfl rfl rfl rfl rfl ?_
 refine simL_skipu rfl rfl rfl rfl rfl ?_
 refine simL_skipu rfl rfl rfl rfl rfl ?_
 refine simL_skipu rfl rfl rfl rfl rfl ?_
 refine simL_skipd rfl rfl rfl rfl rfl rfl ?_
 refine simL_valg (q_pick rfl rfl rfl rfl rfl) rfl rfl rfl rfl rfl rfl ?_
 refine simL_nil ?_
 exact nrm_cut (s := (false, false, false)) () ⟨rfl, rfl, rfl, rfl, rfl, rfl, rfl, trivial⟩ (.sel 1 rfl (.nil _))
 intro s40v y41v
 refine simL_val (q_pick rfl rfl rfl rfl rfl) rfl rfl rfl (simL_nil ?_)
 exact nrm_cut (s := s40v.2.2) () ⟨rfl, rfl, rfl, trivial⟩ (.sel 0 rfl (.nil _))
 intro s38v y39v
 refine simL_nil (nrm_then ?_)
 refine sim_condb rfl (fun h50v => ?_) (fun h51v => ?_)
 refine sim_seq (sim_region ?_)
 refine simL_val (q_asg rfl rfl) rfl rfl rfl (simL_nil (nrm_then (sim_rtn ?_)))
 refine rtn_block ?_
 refine rtn_then ?_
 refine rtn_loop ?_
 refine rtn_block ?_
 refine rtn_cutR ?_
 exact rtn_fn () rfl rfl rfl (.sel 0 rfl (.nil _))
 refine sim_skip ?_
 refine nrm_block (nrm_then (sim_region ?_))
 refine simL_val (q_move rfl rfl) rfl rfl rfl ?_
 refine simL_val (q_add rfl rfl rfl) rfl rfl rfl ?_
 refine simL_val (q_asg rfl rfl) rfl rfl rfl (simL_nil ?_)
 exact nrm_again (s := IntKind.i64.wrap (s5v + 1)) () ⟨rfl, rfl, trivial⟩ (.sel 0 rfl (.nil _))
 refine sim_exi ?_
 refine exi_then ?_
 refine exi_loop ?_
 refine exi_here ?_
 exact nrm_cutR (s := ()) () ⟨rfl, trivial⟩ (.sel 0 rfl (.nil _))
 intro s3v y4v
 refine sim_cutR (S := Unit) (Unit) (fun s y => []) (fun s y => [F]) ?_ ?_
 refine sim_seq (sim_region ?_)
 refine simL_val (q_asg rfl rfl) rfl rfl rfl (simL_nil (nrm_then ?_))
 refine sim_block ?_
 refine sim_loop (S := Int) (Unit) (fun k s => synodref16_Valid.l1 x0 k s) (fun s y => [(0, .slice a0 x0.length c0), (6, .int .i64 s)]) (fun s y => [F]) (fun _ => by rw [synodref16_Valid.l1]) ?_ k 0 () ⟨rfl, rfl, trivial⟩ (.sel 0 rfl (.nil _))
 intro k s60v y61v
 refine sim_eq (by rw [synodref16_Valid.l1]) ?_
 refine sim_seq (sim_seq (sim_region ?_))
 refine simL_val (q_move rfl rfl) rfl rfl rfl ?_
 refine simL_val (q_move rfl rfl) rfl rfl rfl ?_
 refine simL_val (q_len rfl rfl rfl Try.underlying22) rfl rfl rfl ?_
 refine simL_val (q_lss rfl rfl rfl) rfl rfl rfl (simL_nil (nrm_then ?_))
 refine sim_cond rfl (fun h63v => ?_) (fun h64v => ?_)
 refine sim_skip ?_
 refine nrm_then ?_
 refine sim_cutR (S := Unit) (Unit) (fun s y => [(0, .slice a0 x0.length c0), (6, .int .i64 s60v)]) (fun s y => [F]) ?_ ?_
 refine sim_block ?_
 refine sim_seq (sim_region ?_)
 refine simL_val (q_asg rfl rfl) rfl rfl rfl (simL_nil (nrm_then ?_))
 refine sim_cut (S := Int) (Unit) (fun s y => [(0, .slice a0 x0.length c0), (6, .int .i64 s60v), (7, .int .i64 s)]) (fun s y => [F]) ?_ ?_
 refine sim_seq (sim_region ?_)
 refine simL_val (q_asg rfl rfl) rfl rfl rfl (simL_nil (nrm_then ?_))
 refine sim_block ?_
 refine sim_loop (S := Int × Int) (Unit) (fun k s => synodref16_Valid.l2 x0 s60v k s.1 s.2) (fun s y => [(0, .slice a0 x0.length c0), (6, .int .i64 s60v), (7, .int .i64 s.1), (8, .int .i64 s.2)]) (fun s y => [F]) (fun _ => by rw [synodref16_Valid.l2]) ?_ k (0, 0) () ⟨rfl, rfl, rfl, rfl, trivial⟩ (.sel 0 rfl (.nil _))
 intro k s69v y70v
 refine sim_eq (by rw [synodref16_Valid.l2]) ?_
 refine sim_seq (sim_seq (sim_region ?_))
 refine simL_val (q_move rfl rfl) rfl rfl rfl ?_
 refine simL_val (q_move rfl rfl) rfl rfl rfl ?_
 refine simL_val (q_len rfl rfl rfl Try.underlying22) rfl rfl rfl ?_
 refine simL_val (q_lss rfl rfl rfl) rfl rfl rfl (simL_nil (nrm_then ?_))
 refine sim_cond rfl (fun h73v => ?_) (fun h74v => ?_)
 refine sim_skip ?_
 refine nrm_then (sim_seq ?_)
 refine sim_block ?_
 refine sim_seq (sim_region ?_)
 refine simL_val (q_move rfl rfl) rfl rfl rfl ?_
 refine simL_val (q_move rfl rfl) rfl rfl rfl ?_
 refine simL_ask (fun hi75v => ?_)
 obtain ⟨b76v, b76vo, r79v, ha77v, hV80v, hlr81v, hcell82v⟩ := RdV.pos h0 (Up.refl _) rfl (i := s69v.2.toNat) (by omega) dz35
 obtain rfl := hV80v
 refine simL_val (q_idx rfl rfl rfl ha77v Try.underlying22 Try.sizeOf35 hi75v.1 hi75v.2) rfl rfl rfl ?_
 refine simL_val (q_loads rfl rfl Try.isAgg35 Try.sizeOf35 rfl (fun j v hj => hcell82v 0 rfl j v hj)) rfl rfl rfl ?_
 refine simL_bind (fun s83v hs85v => ?_)
 refine simL_eff (re_call (vs := [.agg #[.int .i64 ((x0.getD s69v.2.toNat dz35).1), .int .i64 ((x0.getD s69v.2.toNat dz35).2.1), .int .i64 ((x0.getD s69v.2.toNat dz35).2.2.1), str ((x0.getD s69v.2.toNat dz35).2.2.2.1), str ((x0.getD s69v.2.toNat dz35).2.2.2.2.1), str ((x0.getD s69v.2.toNat dz35).2.2.2.2.2.1), .int .i64 ((x0.getD s69v.2.toNat dz35).2.2.2.2.2.2.1), .int .i64 ((x0.getD s69v.2.toNat dz35).2.2.2.2.2.2.2.1), .int .i64 ((x0.getD s69v.2.toNat dz35).2.2.2.2.2.2.2.2.1), str ((x0.getD s69v.2.toNat dz35).2.2.2.2.2.2.2.2.2)]]) (cap := []) (A := []) (rst := [F]) rfl rfl rfl rfl rfl rfl Try.call19 (.sel 0 rfl (.nil _)) (synodref16_Counts.calls _ _ ((x0.getD s69v.2.toNat dz35).1) ((x0.getD s69v.2.toNat dz35).2.1) ((x0.getD s69v.2.toNat dz35).2.2.1) ((x0.getD s69v.2.toNat dz35).2.2.2.1) ((x0.getD s69v.2.toNat dz35).2.2.2.2.1) ((x0.getD s69v.2.toNat dz35).2.2.2.2.2.1) ((x0.getD s69v.2.toNat dz35).2.2.2.2.2.2.1) ((x0.getD s69v.2.toNat dz35).2.2.2.2.2.2.2.1) ((x0.getD s69v.2.toNat dz35).2.2.2.2.2.2.2.2.1) ((x0.getD s69v.2.toNat dz35).2.2.2.2.2.2.2.2.2) ) hs85v) rfl rfl rfl ?_
 intro y84v
 refine simL_val (q_asg rfl rfl) rfl rfl rfl (simL_nil (nrm_then ?_))
 refine sim_cut (S := Bool) (Unit) (fun s y => [(0, .slice a0 x0.length c0), (6, .int .i64 s60v), (7, .int .i64 s69v.1), (8, .int .i64 s69v.2), (108, .bool s)]) (fun s y => [F]) ?_ ?_
 refine sim_if (fun hk88v => ?_) (fun hk88v => ?_)
 refine sim_ask (fun hi89v => ?_)
 obtain ⟨b90v, b90vo, r93v, ha91v, hV94v, hlr95v, hcell96v⟩ := RdV.pos h0 (Up.refl _) rfl (i := s69v.2.toNat) (by omega) dz35
 obtain rfl := hV94v
 refine sim_ask (fun hi97v => ?_)
 obtain ⟨b98v, b98vo, r101v, ha99v, hV102v, hlr103v, hcell104v⟩ := RdV.pos h0 (Up.refl _) rfl (i := s60v.toNat) (by omega) dz35
 obtain rfl := hV102v
 refine sim_draw (Γ := Unit) () [[], [0], [0, 1], [0, 1], [0, 1, 2, 3], [0, 1, 2, 3, 4], [0, 1, 2, 3, 4, 5], [0, 1], [0, 1], [0, 1, 7, 8], [0, 1, 7, 8, 9], [0, 1, 7, 8, 9, 10], [0, 1, 2, 3, 4, 5, 6, 7, 8, 9, 10, 11], [0, 1, 2, 3, 4, 5, 6, 7, 8, 9, 10, 11, 12]] [] [0, 1, 2, 3, 4, 5, 6, 7, 8, 9, 10, 11, 12, 13] (fun i => [[0], [0], [0], [0], [0], [0], [0], [0], [0], [0], [0], [0], [0], [0]].getD i []) (fun i => [[], [], [], [], [], [], [], [], [], [], [], [], [], []].getD i []) (fun γ i => [.bool s83v, .bool s83v, .slice a0 x0.length c0, .int .i64 s69v.2, .pointer (some ⟨b90v, b90vo + s69v.2.toNat * 10, none⟩), .pointer (some ⟨b90v, b90vo + s69v.2.toNat * 10 + 3, none⟩), str ((x0.getD s69v.2.toNat dz35).2.2.2.1), .slice a0 x0.length c0, .int .i64 s60v, .pointer (some ⟨b98v, b98vo + s60v.toNat * 10, none⟩), .pointer (some ⟨b98v, b98vo + s60v.toNat * 10 + 3, none⟩), str ((x0.getD s60v.toNat dz35).2.2.2.1), .bool (decide (((x0.getD s69v.2.toNat dz35).2.2.2.1) = ((x0.getD s60v.toNat dz35).2.2.2.1))), .bool (decide (((x0.getD s69v.2.toNat dz35).2.2.2.1) = ((x0.getD s60v.toNat dz35).2.2.2.1)))].getD i undef) (fun j γ => [[F]].getD j []) (fun γ => [(0, .slice a0 x0.length c0), (6, .int .i64 s60v), (7, .int .i64 s69v.1), (8, .int .i64 s69v.2), (97, .slice a0 x0.length c0), (98, .int .i64 s69v.2), (99, .pointer (some ⟨b90v, b90vo + s69v.2.toNat * 10, none⟩)), (100, .pointer (some ⟨b90v, b90vo + s69v.2.toNat * 10 + 3, none⟩)), (101, str ((x0.getD s69v.2.toNat dz35).2.2.2.1)), (102, .slice a0 x0.length c0), (103, .int .i64 s60v), (104, .pointer (some ⟨b98v, b98vo + s60v.toNat * 10, none⟩)), (105, .pointer (some ⟨b98v, b98vo + s60v.toNat * 10 + 3, none⟩)), (106, str ((x0.getD s60v.toNat dz35).2.2.2.1)), (107, .bool (decide (((x0.getD s69v.2.toNat dz35).2.2.2.1) = ((x0.getD s60v.toNat dz35).2.2.2.1)))), (108, .bool (decide (((x0.getD s69v.2.toNat dz35).2.2.2.1) = ((x0.getD s60v.toNat dz35).2.2.2.1))))]) mixed (by decide) (by decide) (by decide) (by decide) (by decide) (by decide) (by decide) 113 rfl (by decide) (by decide) (by decide) (Ent.refl _) ?_ ?_ (fun _ => ⟨rfl, rfl, rfl, rfl, rfl, rfl, rfl, rfl, rfl, rfl, rfl, rfl, rfl, rfl, rfl, rfl, trivial⟩) ?_
 exact (All.cons (fun γ => (All.cons (QOb.plain [(9, .bool s83v)] rfl rfl (.o rfl (by decide) .nil) (q_move rfl rfl) rfl) All.nil)) (All.cons (fun γ => (All.cons (QOb.plain [(95, .bool s83v)] rfl rfl (.w 0 rfl rfl rfl .nil) (q_move rfl rfl) rfl) All.nil)) (All.cons (fun γ => (All.cons (QOb.yes (b := s83v) [(0, .slice a0 x0.length c0), (96, .bool s83v)] rfl rfl rfl rfl (beq_yes hk88v) (.o rfl (by decide) (.w 1 rfl rfl rfl .nil)) (q_move rfl rfl) rfl) All.nil)) (All.cons (fun γ => (All.cons (QOb.yes (b := s83v) [(8, .int .i64 s69v.2), (96, .bool s83v)] rfl rfl rfl rfl (beq_yes hk88v) (.o rfl (by decide) (.w 1 rfl rfl rfl .nil)) (q_move rfl rfl) rfl) All.nil)) (All.cons (fun γ => (All.cons (QOb.yes (b := s83v) [(96, .bool s83v), (97, .slice a0 x0.length c0), (98, .int .i64 s69v.2)] rfl rfl rfl rfl (beq_yes hk88v) (.w 1 rfl rfl rfl (.w 2 rfl rfl rfl (.w 3 rfl rfl rfl .nil))) (q_idx rfl rfl rfl ha91v Try.underlying22 Try.sizeOf35 hi89v.1 hi89v.2) rfl) All.nil)) (All.cons (fun γ => (All.cons (QOb.yes (b := s83v) [(96, .bool s83v), (99, .pointer (some ⟨b90v, b90vo + s69v.2.toNat * 10, none⟩))] rfl rfl rfl rfl (beq_yes hk88v) (.w 1 rfl rfl rfl (.w 4 rfl rfl rfl .nil)) (q_fa rfl rfl Try.underlying35 rfl rfl Try.sizeOf9 rfl) rfl) All.nil)) (All.cons (fun γ => (All.cons (QOb.yes (b := s83v) [(96, .bool s83v), (100, .pointer (some ⟨b90v, b90vo + s69v.2.toNat * 10 + 3, none⟩))] rfl rfl rfl rfl (beq_yes hk88v) (.w 1 rfl rfl rfl (.w 5 rfl rfl rfl .nil)) (q_load rfl rfl Try.isAgg9 (hcell96v 0 rfl 3 _ rfl)) rfl) All.nil)) (All.cons (fun γ => (All.cons (QOb.yes (b := s83v) [(0, .slice a0 x0.length c0), (96, .bool s83v)] rfl rfl rfl rfl (beq_yes hk88v) (.o rfl (by decide) (.w 1 rfl rfl rfl .nil)) (q_move rfl rfl) rfl) All.nil)) (All.cons (fun γ => (All.cons (QOb.yes (b := s83v) [(6, .int .i64 s60v), (96, .bool s83v)] rfl rfl rfl rfl (beq_yes hk88v) (.o rfl (by decide) (.w 1 rfl rfl rfl .nil)) (q_move rfl rfl) rfl) All.nil)) (All.cons (fun γ => (All.cons (QOb.yes (b := s83v) [(96, .bool s83v), (102, .slice a0 x0.length c0), (103, .int .i64 s60v)] rfl rfl rfl rfl (beq_yes hk88v) (.w 1 rfl rfl rfl (.w 7 rfl rfl rfl (.w 8 rfl rfl rfl .nil))) (q_idx rfl rfl rfl ha99v Try.underlying22 Try.sizeOf35 hi97v.1 hi97v.2) rfl) All.nil)) (All.cons (fun γ => (All.cons (QOb.yes (b := s83v) [(96, .bool s83v), (104, .pointer (some ⟨b98v, b98vo + s60v.toNat * 10, none⟩))] rfl rfl rfl rfl (beq_yes hk88v) (.w 1 rfl rfl rfl (.w 9 rfl rfl rfl .nil)) (q_fa rfl rfl Try.underlying35 rfl rfl Try.sizeOf9 rfl) rfl) All.nil)) (All.cons (fun γ => (All.cons (QOb.yes (b := s83v) [(96, .bool s83v), (105, .pointer (some ⟨b98v, b98vo + s60v.toNat * 10 + 3, none⟩))] rfl rfl rfl rfl (beq_yes hk88v) (.w 1 rfl rfl rfl (.w 10 rfl rfl rfl .nil)) (q_load rfl rfl Try.isAgg9 (hcell104v 0 rfl 3 _ rfl)) rfl) All.nil)) (All.cons (fun γ => (All.cons (QOb.yes (b := s83v) [(96, .bool s83v), (101, str ((x0.getD s69v.2.toNat dz35).2.2.2.1)), (106, str ((x0.getD s60v.toNat dz35).2.2.2.1))] rfl rfl rfl rfl (beq_yes hk88v) (.w 1 rfl rfl rfl (.w 6 rfl rfl rfl (.w 11 rfl rfl rfl .nil))) (q_eqs rfl rfl rfl) rfl) All.nil)) (All.cons (fun γ => (All.cons (QOb.plain [(96, .bool s83v), (107, .bool (decide (((x0.getD s69v.2.toNat dz35).2.2.2.1) = ((x0.getD s60v.toNat dz35).2.2.2.1))))] rfl rfl (.w 1 rfl rfl rfl (.w 12 rfl rfl rfl .nil)) (q_pick rfl rfl rfl rfl (bif_yes hk88v _ _)) rfl) All.nil)) All.nil))))))))))))))
 exact All.nil
 intro g105v
 exact nrm_cut (s := decide (((x0.getD s69v.2.toNat dz35).2.2.2.1) = ((x0.getD s60v.toNat dz35).2.2.2.1))) () ⟨rfl, rfl, rfl, rfl, rfl, trivial⟩ (.sel 0 rfl (.nil _))
 refine sim_draw (Γ := Unit) () [[], [0], [0, 1], [0, 1], [0, 1, 2, 3], [0, 1, 2, 3, 4], [0, 1, 2, 3, 4, 5], [0, 1], [0, 1], [0, 1, 7, 8], [0, 1, 7, 8, 9], [0, 1, 7, 8, 9, 10], [0, 1, 2, 3, 4, 5, 6, 7, 8, 9, 10, 11], [0, 1, 2, 3, 4, 5, 6, 7, 8, 9, 10, 11, 12]] [] [0, 1, 2, 3, 4, 5, 6, 7, 8, 9, 10, 11, 12, 13] (fun i => [[0], [0], [0], [0], [0], [0], [0], [0], [0], [0], [0], [0], [0], [0]].getD i []) (fun i => [[], [], [], [], [], [], [], [], [], [], [], [], [], []].getD i []) (fun γ i => [.bool s83v, .bool s83v, undef, undef, undef, undef, undef, undef, undef, undef, undef, undef, undef, .bool false].getD i undef) (fun j γ => [[F]].getD j []) (fun γ => [(0, .slice a0 x0.length c0), (6, .int .i64 s60v), (7, .int .i64 s69v.1), (8, .int .i64 s69v.2), (97, undef), (98, undef), (99, undef), (100, undef), (101, undef), (102, undef), (103, undef), (104, undef), (105, undef), (106, undef), (107, undef), (108, .bool false)]) mixed (by decide) (by decide) (by decide) (by decide) (by decide) (by decide) (by decide) 113 rfl (by decide) (by decide) (by decide) (Ent.refl _) ?_ ?_ (fun _ => ⟨rfl, rfl, rfl, rfl, rfl, rfl, rfl, rfl, rfl, rfl, rfl, rfl, rfl, rfl, rfl, rfl, trivial⟩) ?_
 exact (All.cons (fun γ => (All.cons (QOb.plain [(9, .bool s83v)] rfl rfl (.o rfl (by decide) .nil) (q_move rfl rfl) rfl) All.nil)) (All.cons (fun γ => (All.cons (QOb.plain [(95, .bool s83v)] rfl rfl (.w 0 rfl rfl rfl .nil) (q_move rfl rfl) rfl) All.nil)) (All.cons (fun γ => (All.cons (QOb.no (b := s83v) [(0, .slice a0 x0.length c0), (96, .bool s83v)] rfl rfl rfl rfl (beq_no' (eq_false_of_ne_true hk88v)) (.o rfl (by decide) (.w 1 rfl rfl rfl .nil)) rfl) All.nil)) (All.cons (fun γ => (All.cons (QOb.no (b := s83v) [(8, .int .i64 s69v.2), (96, .bool s83v)] rfl rfl rfl rfl (beq_no' (eq_false_of_ne_true hk88v)) (.o rfl (by decide) (.w 1 rfl rfl rfl .nil)) rfl) All.nil)) (All.cons (fun γ => (All.cons (QOb.no (b := s83v) [(96, .bool s83v), (97, undef), (98, undef)] rfl rfl rfl rfl (beq_no' (eq_false_of_ne_true hk88v)) (.w 1 rfl rfl rfl (.w 2 rfl rfl rfl (.w 3 rfl rfl rfl .nil))) rfl) All.nil)) (All.cons (fun γ => (All.cons (QOb.no (b := s83v) [(96, .bool s83v), (99, undef)] rfl rfl rfl rfl (beq_no' (eq_false_of_ne_true hk88v)) (.w 1 rfl rfl rfl (.w 4 rfl rfl rfl .nil)) rfl) All.nil)) (All.cons (fun γ => (All.cons (QOb.no (b := s83v) [(96, .bool s83v), (100, undef)] rfl rfl rfl rfl (beq_no' (eq_false_of_ne_true hk88v)) (.w 1 rfl rfl rfl (.w 5 rfl rfl rfl .nil)) rfl) All.nil)) (All.cons (fun γ => (All.cons (QOb.no (b := s83v) [(0, .slice a0 x0.length c0), (96, .bool s83v)] rfl rfl rfl rfl (beq_no' (eq_false_of_ne_true hk88v)) (.o rfl (by decide) (.w 1 rfl rfl rfl .nil)) rfl) All.nil)) (All.cons (fun γ => (All.cons (QOb.no (b := s83v) [(6, .int .i64 s60v), (96, .bool s83v)] rfl rfl rfl rfl (beq_no' (eq_false_of_ne_true hk88v)) (.o rfl (by decide) (.w 1 rfl rfl rfl .nil)) rfl) All.nil)) (All.cons (fun γ => (All.cons (QOb.no (b := s83v) [(96, .bool s83v), (102, undef), (103, undef)] rfl rfl rfl rfl (beq_no' (eq_false_of_ne_true hk88v)) (.w 1 rfl rfl rfl (.w 7 rfl rfl rfl (.w 8 rfl rfl rfl .nil))) rfl) All.nil)) (All.cons (fun γ => (All.cons (QOb.no (b := s83v) [(96, .bool s83v), (104, undef)] rfl rfl rfl rfl (beq_no' (eq_false_of_ne_true hk88v)) (.w 1 rfl rfl rfl (.w 9 rfl rfl rfl .nil)) rfl) All.nil)) (All.cons (fun γ => (All.cons (QOb.no (b := s83v) [(96, .bool s83v), (105, undef)] rfl rfl rfl rfl (beq_no' (eq_false_of_ne_true hk88v)) (.w 1 rfl rfl rfl (.w 10 rfl rfl rfl .nil)) rfl) All.nil)) (All.cons (fun γ => (All.cons (QOb.no (b := s83v) [(96, .bool s83v), (101, undef), (106, undef)] rfl rfl rfl rfl (beq_no' (eq_false_of_ne_true hk88v)) (.w 1 rfl rfl rfl (.w 6 rfl rfl rfl (.w 11 rfl rfl rfl .nil))) rfl) All.nil)) (All.cons (fun γ => (All.cons (QOb.plain [(96, .bool s83v), (107, undef)] rfl rfl (.w 1 rfl rfl rfl (.w 12 rfl rfl rfl .nil)) (q_pick rfl rfl rfl rfl (bif_no (eq_false_of_ne_true hk88v) _ _)) rfl) All.nil)) All.nil))))))))))))))
 exact All.nil
 intro g106v
 exact nrm_cut (s := false) () ⟨rfl, rfl, rfl, rfl, rfl, trivial⟩ (.sel 0 rfl (.nil _))
 intro s86v y87v
 refine sim_condb rfl (fun h107v => ?_) (fun h108v => ?_)
 refine sim_region ?_
 refine simL_val (q_move rfl rfl) rfl rfl rfl ?_
 refine simL_val (q_add rfl rfl rfl) rfl rfl rfl ?_
 refine simL_val (q_asg rfl rfl) rfl rfl rfl (simL_nil (nrm_block (nrm_then (sim_region ?_))))
 refine simL_val (q_move rfl rfl) rfl rfl rfl ?_
 refine simL_val (q_add rfl rfl rfl) rfl rfl rfl ?_
 refine simL_val (q_asg rfl rfl) rfl rfl rfl (simL_nil ?_)
 exact nrm_again (s := (IntKind.i64.wrap (s69v.1 + 1), IntKind.i64.wrap (s69v.2 + 1))) () ⟨rfl, rfl, rfl, rfl, trivial⟩ (.sel 0 rfl (.nil _))
 refine sim_skip ?_
 refine nrm_block (nrm_then (sim_region ?_))
 refine simL_val (q_move rfl rfl) rfl rfl rfl ?_
 refine simL_val (q_add rfl rfl rfl) rfl rfl rfl ?_
 refine simL_val (q_asg rfl rfl) rfl rfl rfl (simL_nil ?_)
 exact nrm_again (s := (s69v.1, IntKind.i64.wrap (s69v.2 + 1))) () ⟨rfl, rfl, rfl, rfl, trivial⟩ (.sel 0 rfl (.nil _))
 refine sim_exi ?_
 refine exi_then ?_
 refine exi_loop ?_
 refine exi_here ?_
 exact nrm_cut (s := s69v.1) () ⟨rfl, rfl, rfl, trivial⟩ (.sel 0 rfl (.nil _))
 intro s67v y68v
 refine sim_seq (sim_region ?_)
 refine simL_val (q_move rfl rfl) rfl rfl rfl ?_
 refine simL_val (q_gtr rfl rfl rfl) rfl rfl rfl (simL_nil (nrm_then ?_))
 refine sim_cond rfl (fun h109v => ?_) (fun h110v => ?_)
 refine sim_seq (sim_region ?_)
 refine simL_val (q_asg rfl rfl) rfl rfl rfl (simL_nil (nrm_then (sim_rtn ?_)))
 refine rtn_block ?_
 refine rtn_cutR ?_
 refine rtn_loop ?_
 refine rtn_block ?_
 refine rtn_cutR ?_
 exact rtn_fn () rfl rfl rfl (.sel 0 rfl (.nil _))
 refine sim_skip ?_
 refine nrm_block ?_
 exact nrm_cutR (s := ()) () ⟨rfl, rfl, trivial⟩ (.sel 0 rfl (.nil _))
 intro s65v y66v
 refine sim_region ?_
 refine simL_val (q_move rfl rfl) rfl rfl rfl ?_
 refine simL_val (q_add rfl rfl rfl) rfl rfl rfl ?_
 refine simL_val (q_asg rfl rfl) rfl rfl rfl (simL_nil ?_)
 exact nrm_again (s := IntKind.i64.wrap (s60v + 1)) () ⟨rfl, rfl, trivial⟩ (.sel 0 rfl (.nil _))
 refine sim_exi ?_
 refine exi_then ?_
 refine exi_loop ?_
 refine exi_here ?_
 exact nrm_cutR (s := ()) () trivial (.sel 0 rfl (.nil _))
 intro s58v y59v
 refine sim_seq (sim_region ?_)
 refine simL_val (q_asg rfl rfl) rfl rfl rfl (simL_nil (nrm_then (sim_rtn ?_)))
 exact rtn_fn () rfl rfl rfl (.sel 0 rfl (.nil _))

def synodref16_bit.f (x0 : Int) : Option (Int) := if 0 ≤ x0 then (some (IntKind.i64.wrap (1 * 2 ^ (min x0.toNat IntKind.i64.bits)))) else none
theorem synodref16_bit.calls (W : World) (F : HA) (x0 : Int)  :
    Fn Try.prog W 40 [.int .i64 x0] [] F (synodref16_bit.f x0) (fun (r : Int) (y : Unit) => .int .i64 r) (fun r y => []) := by
 unfold synodref16_bit.f
 refine fn_intro 5 Try.func40 rfl Try.ntmps40 rfl ?_
 refine sim_seq (sim_region ?_)
 refine simL_val (q_asg rfl rfl) rfl rfl rfl (simL_nil (nrm_then (sim_seq (sim_region ?_))))
 refine simL_val (q_move rfl rfl) rfl rfl rfl ?_
 refine simL_ask (fun hb1v => ?_)
 refine simL_val (q_shl rfl rfl rfl hb1v) rfl rfl rfl ?_
 refine simL_val (q_asg rfl rfl) rfl rfl rfl (simL_nil (nrm_then (sim_rtn ?_)))
 exact rtn_fn () rfl rfl rfl (.sel 0 rfl (.nil _))

def synodref16_search_may.l0 (x0_0 : List (Ty35)) (x0_1 : List Int) (x1_0 : Int) (x2 : Int) : Nat → Int → Option ((Unit) ⊕ (Bool))
  | 0, _ => none
  | k + 1, z14v => if z14v < (x0_1.length : Int) then (if 0 ≤ z14v ∧ z14v < (x0_1.length : Int) then (if 0 ≤ (x0_1.getD z14v.toNat (0 : Int)) ∧ (x0_1.getD z14v.toNat (0 : Int)) < (x0_0.length : Int) then (((synodref16_bit.f z14v).bind fun s36v => (if s36v ≠ 0 then (if ((decide (Int.tmod (IntKind.i64.wrap (Int.tdiv x1_0 s36v)) 2 = (0 : Int))) && (!decide ((x0_0.getD (x0_1.getD z14v.toNat (0 : Int)).toNat dz35).2.2.2.2.2.2.2.1 = (0 : Int)))) = true then (if 0 ≤ x2 ∧ x2 < (x0_1.length : Int) then (if 0 ≤ (x0_1.getD x2.toNat (0 : Int)) ∧ (x0_1.getD x2.toNat (0 : Int)) < (x0_0.length : Int) then (some (decide ((x0_0.getD (x0_1.getD z14v.toNat (0 : Int)).toNat dz35).2.2.2.2.2.2.2.1 < (x0_0.getD (x0_1.getD x2.toNat (0 : Int)).toNat dz35).2.2.2.2.2.2.1))) else none) else none) else (some false)) else none)).bind fun s34v => (if s34v = true then (some (.inr false)) else (synodref16_search_may.l0 x0_0 x0_1 x1_0 x2 k (IntKind.i64.wrap (z14v + 1))))) else none) else none) else (some (.inl ()))
def synodref16_search_may.f (k : Nat) (x0_0 : List (Ty35)) (x0_1 : List Int) (x0_2 : List ((Int × Bool × List UInt8) × (Int))) (x1_0 : Int) (x1_1 : Bool) (x1_2 : List UInt8) (x2 : Int) : Option (Bool) := (synodref16_bit.f x2).bind fun s2v => (if s2v ≠ 0 then (if Int.tmod (IntKind.i64.wrap (Int.tdiv x1_0 s2v)) 2 = (1 : Int) then (some false) else (orR (synodref16_search_may.l0 x0_0 x0_1 x1_0 x2 k 0) fun s10v => (some true))) else none)
theorem synodref16_search_may.calls (W : World) (F : HA) (k : Nat) (b0 : Nat) (a0_0 : Option Addr) (c0_0 : Nat) (x0_0 : List (Ty35)) (a0_1 : Option Addr) (c0_1 : Nat) (x0_1 : List Int) (m0_2 : Nat) (x0_2 : List ((Int × Bool × List UInt8) × (Int))) (x1_0 : Int) (x1_1 : Bool) (x1_2 : List UInt8) (x2 : Int) (h0_0 : RdV F 10 (V35 tt) a0_0 x0_0) (hc0_0 : x0_0.length ≤ c0_0) (hm0_0 : c0_0 ≤ maxLen) (h0_1 : RdV F 1 (V3 tt) a0_1 x0_1) (hc0_1 : x0_1.length ≤ c0_1) (hm0_1 : c0_1 ≤ maxLen) :
    Fn Try.prog W 41 [.pointer (some ⟨b0, 0, none⟩), .agg #[.int .i64 x1_0, .bool x1_1, str x1_2], .int .i64 x2] [obj b0 61 [.slice a0_0 x0_0.length c0_0, .slice a0_1 x0_1.length c0_1, .map (some m0_2)], mapO m0_2 enc64 enc3 x0_2] F (synodref16_search_may.f k x0_0 x0_1 x0_2 x1_0 x1_1 x1_2 x2) (fun (r : Bool) (y : Unit) => .bool r) (fun r y => [obj b0 61 [.slice a0_0 x0_0.length c0_0, .slice a0_1 x0_1.length c0_1, .map (some m0_2)], mapO m0_2 enc64 enc3 x0_2]) := by
 unfold synodref16_search_may.f
 refine fn_intro 68 Try.func41 rfl Try.ntmps41 rfl ?_
 refine sim_seq (sim_region ?_)
 refine simL_eff (re_box rfl rfl rfl) rfl rfl rfl ?_
 intro b1v
 refine simL_val (q_asg rfl rfl) rfl rfl rfl (simL_nil (nrm_then (sim_seq (sim_seq ?_))))
 refine sim_bind (fun s2v hs4v => ?_)
 refine sim_ask (fun hb5v => ?_)
 refine sim_draw (Γ := Unit) () [[], [0], [], [2], [0, 1, 2, 3], [0, 1, 2, 3, 4], [0, 1, 2, 3, 4, 5]] [3] [0, 1, 2, 4, 5, 6] (fun i => [[0, 1], [0, 1], [0], [], [1], [1], [1]].getD i []) (fun i => [[], [], [], [0, 1, 2], [], [], []].getD i []) (fun γ i => [.pointer (some ⟨b1v, 0, none⟩), .int .i64 x1_0, .int .i64 x2, .int .i64 s2v, .int .i64 (IntKind.i64.wrap (Int.tdiv x1_0 s2v)), .int .i64 (Int.tmod (IntKind.i64.wrap (Int.tdiv x1_0 s2v)) 2), .bool (decide (Int.tmod (IntKind.i64.wrap (Int.tdiv x1_0 s2v)) 2 = (1 : Int)))].getD i undef) (fun j γ => [[obj b1v 64 [.int .i64 x1_0, .bool x1_1, str x1_2], obj b0 61 [.slice a0_0 x0_0.length c0_0, .slice a0_1 x0_1.length c0_1, .map (some m0_2)], mapO m0_2 enc64 enc3 x0_2, F], [obj b1v 64 [.int .i64 x1_0, .bool x1_1, str x1_2], obj b0 61 [.slice a0_0 x0_0.length c0_0, .slice a0_1 x0_1.length c0_1, .map (some m0_2)], mapO m0_2 enc64 enc3 x0_2, F]].getD j []) (fun γ => [(0, .pointer (some ⟨b0, 0, none⟩)), (2, .int .i64 x2), (4, .pointer (some ⟨b1v, 0, none⟩)), (15, .bool (decide (Int.tmod (IntKind.i64.wrap (Int.tdiv x1_0 s2v)) 2 = (1 : Int))))]) mixed (by decide) (by decide) (by decide) (by decide) (by decide) (by decide) (by decide) 68 rfl (by decide) (by decide) (by decide) (Ent.refl _) ?_ ?_ (fun _ => ⟨rfl, rfl, rfl, rfl, trivial⟩) ?_
 exact (All.cons (fun γ => (All.cons (QOb.plain [(4, .pointer (some ⟨b1v, 0, none⟩))] rfl rfl (.o rfl (by decide) .nil) (q_fa rfl rfl Try.underlying64 rfl rfl Try.sizeOf3 rfl) rfl) (All.cons (QOb.plain [(4, .pointer (some ⟨b1v, 0, none⟩))] rfl rfl (.o rfl (by decide) .nil) (q_fa rfl rfl Try.underlying64 rfl rfl Try.sizeOf3 rfl) rfl) All.nil))) (All.cons (fun γ => (All.cons (QOb.plain [(9, .pointer (some ⟨b1v, 0, none⟩))] rfl rfl (.w 0 rfl rfl rfl .nil) (q_load rfl rfl Try.isAgg3 (.obj 0 rfl rfl)) rfl) (All.cons (QOb.plain [(9, .pointer (some ⟨b1v, 0, none⟩))] rfl rfl (.w 0 rfl rfl rfl .nil) (q_load rfl rfl Try.isAgg3 (.obj 0 rfl rfl)) rfl) All.nil))) (All.cons (fun γ => (All.cons (QOb.plain [(2, .int .i64 x2)] rfl rfl (.o rfl (by decide) .nil) (q_move rfl rfl) rfl) All.nil)) (All.cons (fun γ => (All.cons (QOb.plain [(10, .int .i64 x1_0), (12, .int .i64 s2v)] rfl rfl (.w 1 rfl rfl rfl (.w 3 rfl rfl rfl .nil)) (q_quo rfl rfl rfl hb5v) rfl) All.nil)) (All.cons (fun γ => (All.cons (QOb.plain [(13, .int .i64 (IntKind.i64.wrap (Int.tdiv x1_0 s2v)))] rfl rfl (.w 4 rfl rfl rfl .nil) (q_rem rfl rfl rfl (by decide)) rfl) All.nil)) (All.cons (fun γ => (All.cons (QOb.plain [(14, .int .i64 (Int.tmod (IntKind.i64.wrap (Int.tdiv x1_0 s2v)) 2))] rfl rfl (.w 5 rfl rfl rfl .nil) (q_eql rfl rfl rfl) rfl) All.nil)) All.nil))))))
 exact (All.cons (fun γ => EOb.mk (Z := Unit) [(11, .int .i64 x2)] (fun z => ()) rfl rfl (.w 2 rfl rfl rfl .nil) (re_call (vs := [.int .i64 x2]) (cap := []) (A := []) (rst := [obj b1v 64 [.int .i64 x1_0, .bool x1_1, str x1_2], obj b0 61 [.slice a0_0 x0_0.length c0_0, .slice a0_1 x0_1.length c0_1, .map (some m0_2)], mapO m0_2 enc64 enc3 x0_2, F]) rfl rfl rfl rfl rfl rfl Try.call40 (.sel 0 rfl (.sel 0 rfl (.sel 0 rfl (.sel 0 rfl (.nil _))))) (synodref16_bit.calls _ _ x2 ) hs4v) (fun _ => ⟨rfl, rfl, rfl, trivial⟩) (fun _ => .inr rfl) (fun z => Ent.refl _)) All.nil)
 intro g7v
 refine nrm_then ?_
 refine sim_cond rfl (fun h8v => ?_) (fun h9v => ?_)
 refine sim_seq (sim_region ?_)
 refine simL_val (q_asg rfl rfl) rfl rfl rfl (simL_nil (nrm_then (sim_rtn ?_)))
 refine rtn_then ?_
 exact rtn_fn () rfl rfl rfl (.sel 1 rfl (.sel 1 rfl (.sel 1 rfl (.nil _))))
 refine sim_skip ?_
 refine nrm_then ?_
 refine sim_cutR (S := Unit) (Unit) (fun s y => []) (fun s y => [obj b0 61 [.slice a0_0 x0_0.length c0_0, .slice a0_1 x0_1.length c0_1, .map (some m0_2)], mapO m0_2 enc64 enc3 x0_2, F]) ?_ ?_
 refine sim_seq (sim_region ?_)
 refine simL_val (q_asg rfl rfl) rfl rfl rfl (simL_nil (nrm_then ?_))
 refine sim_block ?_
 refine sim_loop (S := Int) (Unit) (fun k s => synodref16_search_may.l0 x0_0 x0_1 x1_0 x2 k s) (fun s y => [(0, .pointer (some ⟨b0, 0, none⟩)), (2, .int .i64 x2), (4, .pointer (some ⟨b1v, 0, none⟩)), (7, .int .i64 s)]) (fun s y => [obj b1v 64 [.int .i64 x1_0, .bool x1_1, str x1_2], obj b0 61 [.slice a0_0 x0_0.length c0_0, .slice a0_1 x0_1.length c0_1, .map (some m0_2)], mapO m0_2 enc64 enc3 x0_2, F]) (fun _ => by rw [synodref16_search_may.l0]) ?_ k 0 () ⟨rfl, rfl, rfl, rfl, trivial⟩ (.sel 0 rfl (.sel 0 rfl (.sel 0 rfl (.sel 0 rfl (.nil _)))))
 intro k s12v y13v
 refine sim_eq (by rw [synodref16_search_may.l0]) ?_
 refine sim_seq (sim_seq (sim_region ?_))
 refine simL_val (q_move rfl rfl) rfl rfl rfl ?_
 refine simL_val (q_move rfl rfl) rfl rfl rfl ?_
 refine simL_val (q_nil rfl rfl) rfl rfl rfl ?_
 refine simL_val (q_fa rfl rfl Try.underlying61 rfl rfl Try.sizeOf39 rfl) rfl rfl rfl ?_
 refine simL_val (q_load rfl rfl Try.isAgg39 (.obj 1 rfl rfl)) rfl rfl rfl ?_
 refine simL_val (q_len rfl rfl rfl Try.underlying39) rfl rfl rfl ?_
 refine simL_val (q_lss rfl rfl rfl) rfl rfl rfl (simL_nil (nrm_then ?_))
 refine sim_cond rfl (fun h15v => ?_) (fun h16v => ?_)
 refine sim_skip ?_
 refine nrm_then (sim_seq ?_)
 refine sim_block ?_
 refine sim_seq ?_
 refine sim_ask (fun hi17v => ?_)
 obtain ⟨b18v, b18vo, r21v, ha19v, hV22v, hlr23v, hcell24v⟩ := RdV.pos h0_1 (Up.refl _) rfl (i := s12v.toNat) (by omega) (0 : Int)
 obtain rfl := hV22v
 refine sim_ask (fun hi25v => ?_)
 obtain ⟨b26v, b26vo, r29v, ha27v, hV30v, hlr31v, hcell32v⟩ := RdV.pos h0_0 (Up.refl _) rfl (i := (x0_1.getD s12v.toNat (0 : Int)).toNat) (by omega) dz35
 obtain rfl := hV30v
 refine sim_draw (Γ := Unit) () [[], [0], [0, 1], [0, 1, 2], [], [4], [4, 5], [4, 5, 6], [], [4, 5, 6, 7, 8], [4, 5, 6, 7, 8, 9], [0, 1, 2, 3, 4, 5, 6, 7, 8, 9, 10], [0, 1, 2, 3, 4, 5, 6, 7, 8, 9, 10, 11], [0, 1, 2, 3, 4, 5, 6, 7, 8, 9, 10, 11, 12], [0, 1, 2, 3, 4, 5, 6, 7, 8, 9, 10, 11, 12, 13]] [] [0, 1, 2, 3, 4, 5, 6, 7, 8, 9, 10, 11, 12, 13, 14] (fun i => [[0], [0], [0], [0], [0], [0], [0], [0], [0], [0], [0], [0], [0], [0], [0]].getD i []) (fun i => [[], [], [], [], [], [], [], [], [], [], [], [], [], [], []].getD i []) (fun γ i => [.pointer (some ⟨b0, 0, none⟩), .pointer (some ⟨b0, 0, none⟩), .pointer (some ⟨b0, 0, none⟩), .slice a0_0 x0_0.length c0_0, .pointer (some ⟨b0, 0, none⟩), .pointer (some ⟨b0, 0, none⟩), .pointer (some ⟨b0, 1, none⟩), .slice a0_1 x0_1.length c0_1, .int .i64 s12v, .pointer (some ⟨b18v, b18vo + s12v.toNat * 1, none⟩), .int .i64 (x0_1.getD s12v.toNat (0 : Int)), .pointer (some ⟨b26v, b26vo + (x0_1.getD s12v.toNat (0 : Int)).toNat * 10, none⟩), .pointer (some ⟨b26v, b26vo + (x0_1.getD s12v.toNat (0 : Int)).toNat * 10 + 7, none⟩), .int .i64 ((x0_0.getD (x0_1.getD s12v.toNat (0 : Int)).toNat dz35).2.2.2.2.2.2.2.1), .int .i64 ((x0_0.getD (x0_1.getD s12v.toNat (0 : Int)).toNat dz35).2.2.2.2.2.2.2.1)].getD i undef) (fun j γ => [[obj b1v 64 [.int .i64 x1_0, .bool x1_1, str x1_2], obj b0 61 [.slice a0_0 x0_0.length c0_0, .slice a0_1 x0_1.length c0_1, .map (some m0_2)], mapO m0_2 enc64 enc3 x0_2, F]].getD j []) (fun γ => [(0, .pointer (some ⟨b0, 0, none⟩)), (2, .int .i64 x2), (4, .pointer (some ⟨b1v, 0, none⟩)), (7, .int .i64 s12v), (8, .int .i64 ((x0_0.getD (x0_1.getD s12v.toNat (0 : Int)).toNat dz35).2.2.2.2.2.2.2.1))]) mixed (by decide) (by decide) (by decide) (by decide) (by decide) (by decide) (by decide) 68 rfl (by decide) (by decide) (by decide) (Ent.refl _) ?_ ?_ (fun _ => ⟨rfl, rfl, rfl, rfl, rfl, trivial⟩) ?_
 exact (All.cons (fun γ => (All.cons (QOb.plain [(0, .pointer (some ⟨b0, 0, none⟩))] rfl rfl (.o rfl (by decide) .nil) (q_move rfl rfl) rfl) All.nil)) (All.cons (fun γ => (All.cons (QOb.plain [(25, .pointer (some ⟨b0, 0, none⟩))] rfl rfl (.w 0 rfl rfl rfl .nil) (q_nil rfl rfl) rfl) All.nil)) (All.cons (fun γ => (All.cons (QOb.plain [(26, .pointer (some ⟨b0, 0, none⟩))] rfl rfl (.w 1 rfl rfl rfl .nil) (q_fa rfl rfl Try.underlying61 rfl rfl Try.sizeOf22 rfl) rfl) All.nil)) (All.cons (fun γ => (All.cons (QOb.plain [(27, .pointer (some ⟨b0, 0, none⟩))] rfl rfl (.w 2 rfl rfl rfl .nil) (q_load rfl rfl Try.isAgg22 (.obj 1 rfl rfl)) rfl) All.nil)) (All.cons (fun γ => (All.cons (QOb.plain [(0, .pointer (some ⟨b0, 0, none⟩))] rfl rfl (.o rfl (by decide) .nil) (q_move rfl rfl) rfl) All.nil)) (All.cons (fun γ => (All.cons (QOb.plain [(29, .pointer (some ⟨b0, 0, none⟩))] rfl rfl (.w 4 rfl rfl rfl .nil) (q_nil rfl rfl) rfl) All.nil)) (All.cons (fun γ => (All.cons (QOb.plain [(30, .pointer (some ⟨b0, 0, none⟩))] rfl rfl (.w 5 rfl rfl rfl .nil) (q_fa rfl rfl Try.underlying61 rfl rfl Try.sizeOf39 rfl) rfl) All.nil)) (All.cons (fun γ => (All.cons (QOb.plain [(31, .pointer (some ⟨b0, 1, none⟩))] rfl rfl (.w 6 rfl rfl rfl .nil) (q_load rfl rfl Try.isAgg39 (.obj 1 rfl rfl)) rfl) All.nil)) (All.cons (fun γ => (All.cons (QOb.plain [(7, .int .i64 s12v)] rfl rfl (.o rfl (by decide) .nil) (q_move rfl rfl) rfl) All.nil)) (All.cons (fun γ => (All.cons (QOb.plain [(32, .slice a0_1 x0_1.length c0_1), (33, .int .i64 s12v)] rfl rfl (.w 7 rfl rfl rfl (.w 8 rfl rfl rfl .nil)) (q_idx rfl rfl rfl ha19v Try.underlying39 Try.sizeOf3 hi17v.1 hi17v.2) rfl) All.nil)) (All.cons (fun γ => (All.cons (QOb.plain [(34, .pointer (some ⟨b18v, b18vo + s12v.toNat * 1, none⟩))] rfl rfl (.w 9 rfl rfl rfl .nil) (q_load rfl rfl Try.isAgg3 (hcell24v 3 rfl 0 _ rfl)) rfl) All.nil)) (All.cons (fun γ => (All.cons (QOb.plain [(28, .slice a0_0 x0_0.length c0_0), (35, .int .i64 (x0_1.getD s12v.toNat (0 : Int)))] rfl rfl (.w 3 rfl rfl rfl (.w 10 rfl rfl rfl .nil)) (q_idx rfl rfl rfl ha27v Try.underlying22 Try.sizeOf35 hi25v.1 hi25v.2) rfl) All.nil)) (All.cons (fun γ => (All.cons (QOb.plain [(36, .pointer (some ⟨b26v, b26vo + (x0_1.getD s12v.toNat (0 : Int)).toNat * 10, none⟩))] rfl rfl (.w 11 rfl rfl rfl .nil) (q_fa rfl rfl Try.underlying35 rfl rfl Try.sizeOf3 rfl) rfl) All.nil)) (All.cons (fun γ => (All.cons (QOb.plain [(37, .pointer (some ⟨b26v, b26vo + (x0_1.getD s12v.toNat (0 : Int)).toNat * 10 + 7, none⟩))] rfl rfl (.w 12 rfl rfl rfl .nil) (q_load rfl rfl Try.isAgg3 (hcell32v 3 rfl 7 _ rfl)) rfl) All.nil)) (All.cons (fun γ => (All.cons (QOb.plain [(38, .int .i64 ((x0_0.getD (x0_1.getD s12v.toNat (0 : Int)).toNat dz35).2.2.2.2.2.2.2.1))] rfl rfl (.w 13 rfl rfl rfl .nil) (q_asg rfl rfl) rfl) All.nil)) All.nil)))))))))))))))
 exact All.nil
 intro g33v
 refine nrm_then ?_
 refine sim_cut (S := Bool) (Unit) (fun s y => [(0, .pointer (some ⟨b0, 0, none⟩)), (2, .int .i64 x2), (4, .pointer (some ⟨b1v, 0, none⟩)), (7, .int .i64 s12v), (67, .bool s)]) (fun s y => [obj b1v 64 [.int .i64 x1_0, .bool x1_1, str x1_2], obj b0 61 [.slice a0_0 x0_0.length c0_0, .slice a0_1 x0_1.length c0_1, .map (some m0_2)], mapO m0_2 enc64 enc3 x0_2, F]) ?_ ?_
 refine sim_bind (fun s36v hs38v => ?_)
 refine sim_ask (fun hb39v => ?_)
 refine sim_if (fun hk41v => ?_) (fun hk41v => ?_)
 refine sim_ask (fun hi42v => ?_)
 obtain ⟨b43v, b43vo, r46v, ha44v, hV47v, hlr48v, hcell49v⟩ := RdV.pos h0_1 (Up.refl _) rfl (i := x2.toNat) (by omega) (0 : Int)
 obtain rfl := hV47v
 refine sim_ask (fun hi50v => ?_)
 obtain ⟨b51v, b51vo, r54v, ha52v, hV55v, hlr56v, hcell57v⟩ := RdV.pos h0_0 (Up.refl _) rfl (i := (x0_1.getD x2.toNat (0 : Int)).toNat) (by omega) dz35
 obtain rfl := hV55v
 refine sim_draw (Γ := Unit) () [[], [0], [], [2], [0, 1, 2, 3], [0, 1, 2, 3, 4], [0, 1, 2, 3, 4, 5], [0, 1, 2, 3, 4, 5, 6], [0, 1, 2, 3, 4, 5, 6, 7], [0, 1, 2, 3, 4, 5, 6, 7, 8], [0, 1, 2, 3, 4, 5, 6, 7, 8, 9], [0, 1, 2, 3, 4, 5, 6, 7, 8, 9, 10], [0, 1, 2, 3, 4, 5, 6, 7, 8, 9, 10, 11], [0, 1, 2, 3, 4, 5, 6, 7, 8, 9, 10, 11], [0, 1, 2, 3, 4, 5, 6, 7, 8, 9, 10, 11, 13], [0, 1, 2, 3, 4, 5, 6, 7, 8, 9, 10, 11, 13, 14], [0, 1, 2, 3, 4, 5, 6, 7, 8, 9, 10, 11, 13, 14, 15], [0, 1, 2, 3, 4, 5, 6, 7, 8, 9, 10, 11], [0, 1, 2, 3, 4, 5, 6, 7, 8, 9, 10, 11, 17], [0, 1, 2, 3, 4, 5, 6, 7, 8, 9, 10, 11, 17, 18], [0, 1, 2, 3, 4, 5, 6, 7, 8, 9, 10, 11, 17, 18, 19], [0, 1, 2, 3, 4, 5, 6, 7, 8, 9, 10, 11], [0, 1, 2, 3, 4, 5, 6, 7, 8, 9, 10, 11, 17, 18, 19, 20, 21], [0, 1, 2, 3, 4, 5, 6, 7, 8, 9, 10, 11, 17, 18, 19, 20, 21, 22], [0, 1, 2, 3, 4, 5, 6, 7, 8, 9, 10, 11, 13, 14, 15, 16, 17, 18, 19, 20, 21, 22, 23], [0, 1, 2, 3, 4, 5, 6, 7, 8, 9, 10, 11, 13, 14, 15, 16, 17, 18, 19, 20, 21, 22, 23, 24], [0, 1, 2, 3, 4, 5, 6, 7, 8, 9, 10, 11, 13, 14, 15, 16, 17, 18, 19, 20, 21, 22, 23, 24, 25], [0, 1, 2, 3, 4, 5, 6, 7, 8, 9, 10, 11, 12, 13, 14, 15, 16, 17, 18, 19, 20, 21, 22, 23, 24, 25, 26], [0, 1, 2, 3, 4, 5, 6, 7, 8, 9, 10, 11, 12, 13, 14, 15, 16, 17, 18, 19, 20, 21, 22, 23, 24, 25, 26, 27]] [3] [0, 1, 2, 4, 5, 6, 7, 8, 9, 10, 11, 12, 13, 14, 15, 16, 17, 18, 19, 20, 21, 22, 23, 24, 25, 26, 27, 28] (fun i => [[0, 1], [0, 1], [0], [], [1], [1], [1], [1], [1], [1], [1], [1], [1], [1], [1], [1], [1], [1], [1], [1], [1], [1], [1], [1], [1], [1], [1], [1], [1]].getD i []) (fun i => [[], [], [], [0, 1, 2], [], [], [], [], [], [], [], [], [], [], [], [], [], [], [], [], [], [], [], [], [], [], [], [], []].getD i []) (fun γ i => [.pointer (some ⟨b1v, 0, none⟩), .int .i64 x1_0, .int .i64 s12v, .int .i64 s36v, .int .i64 (IntKind.i64.wrap (Int.tdiv x1_0 s36v)), .int .i64 (Int.tmod (IntKind.i64.wrap (Int.tdiv x1_0 s36v)) 2), .bool (decide (Int.tmod (IntKind.i64.wrap (Int.tdiv x1_0 s36v)) 2 = (0 : Int))), .bool (decide (Int.tmod (IntKind.i64.wrap (Int.tdiv x1_0 s36v)) 2 = (0 : Int))), cv ((decide (Int.tmod (IntKind.i64.wrap (Int.tdiv x1_0 s36v)) 2 = (0 : Int))) == true) (.int .i64 ((x0_0.getD (x0_1.getD s12v.toNat (0 : Int)).toNat dz35).2.2.2.2.2.2.2.1)), cv ((decide (Int.tmod (IntKind.i64.wrap (Int.tdiv x1_0 s36v)) 2 = (0 : Int))) == true) (.bool (!decide ((x0_0.getD (x0_1.getD s12v.toNat (0 : Int)).toNat dz35).2.2.2.2.2.2.2.1 = (0 : Int)))), .bool ((decide (Int.tmod (IntKind.i64.wrap (Int.tdiv x1_0 s36v)) 2 = (0 : Int))) && (!decide ((x0_0.getD (x0_1.getD s12v.toNat (0 : Int)).toNat dz35).2.2.2.2.2.2.2.1 = (0 : Int)))), .bool ((decide (Int.tmod (IntKind.i64.wrap (Int.tdiv x1_0 s36v)) 2 = (0 : Int))) && (!decide ((x0_0.getD (x0_1.getD s12v.toNat (0 : Int)).toNat dz35).2.2.2.2.2.2.2.1 = (0 : Int)))), .int .i64 ((x0_0.getD (x0_1.getD s12v.toNat (0 : Int)).toNat dz35).2.2.2.2.2.2.2.1), .pointer (some ⟨b0, 0, none⟩), .pointer (some ⟨b0, 0, none⟩), .pointer (some ⟨b0, 0, none⟩), .slice a0_0 x0_0.length c0_0, .pointer (some ⟨b0, 0, none⟩), .pointer (some ⟨b0, 0, none⟩), .pointer (some ⟨b0, 1, none⟩), .slice a0_1 x0_1.length c0_1, .int .i64 x2, .pointer (some ⟨b43v, b43vo + x2.toNat * 1, none⟩), .int .i64 (x0_1.getD x2.toNat (0 : Int)), .pointer (some ⟨b51v, b51vo + (x0_1.getD x2.toNat (0 : Int)).toNat * 10, none⟩), .pointer (some ⟨b51v, b51vo + (x0_1.getD x2.toNat (0 : Int)).toNat * 10 + 6, none⟩), .int .i64 ((x0_0.getD (x0_1.getD x2.toNat (0 : Int)).toNat dz35).2.2.2.2.2.2.1), .bool (decide ((x0_0.getD (x0_1.getD s12v.toNat (0 : Int)).toNat dz35).2.2.2.2.2.2.2.1 < (x0_0.getD (x0_1.getD x2.toNat (0 : Int)).toNat dz35).2.2.2.2.2.2.1)), .bool (decide ((x0_0.getD (x0_1.getD s12v.toNat (0 : Int)).toNat dz35).2.2.2.2.2.2.2.1 < (x0_0.getD (x0_1.getD x2.toNat (0 : Int)).toNat dz35).2.2.2.2.2.2.1))].getD i undef) (fun j γ => [[obj b1v 64 [.int .i64 x1_0, .bool x1_1, str x1_2], obj b0 61 [.slice a0_0 x0_0.length c0_0, .slice a0_1 x0_1.length c0_1, .map (some m0_2)], mapO m0_2 enc64 enc3 x0_2, F], [obj b1v 64 [.int .i64 x1_0, .bool x1_1, str x1_2], obj b0 61 [.slice a0_0 x0_0.length c0_0, .slice a0_1 x0_1.length c0_1, .map (some m0_2)], mapO m0_2 enc64 enc3 x0_2, F]].getD j []) (fun γ => [(0, .pointer (some ⟨b0, 0, none⟩)), (2, .int .i64 x2), (4, .pointer (some ⟨b1v, 0, none⟩)), (7, .int .i64 s12v), (47, cv ((decide (Int.tmod (IntKind.i64.wrap (Int.tdiv x1_0 s36v)) 2 = (0 : Int))) == true) (.int .i64 ((x0_0.getD (x0_1.getD s12v.toNat (0 : Int)).toNat dz35).2.2.2.2.2.2.2.1))), (48, cv ((decide (Int.tmod (IntKind.i64.wrap (Int.tdiv x1_0 s36v)) 2 = (0 : Int))) == true) (.bool (!decide ((x0_0.getD (x0_1.getD s12v.toNat (0 : Int)).toNat dz35).2.2.2.2.2.2.2.1 = (0 : Int))))), (51, .int .i64 ((x0_0.getD (x0_1.getD s12v.toNat (0 : Int)).toNat dz35).2.2.2.2.2.2.2.1)), (52, .pointer (some ⟨b0, 0, none⟩)), (53, .pointer (some ⟨b0, 0, none⟩)), (54, .pointer (some ⟨b0, 0, none⟩)), (55, .slice a0_0 x0_0.length c0_0), (56, .pointer (some ⟨b0, 0, none⟩)), (57, .pointer (some ⟨b0, 0, none⟩)), (58, .pointer (some ⟨b0, 1, none⟩)), (59, .slice a0_1 x0_1.length c0_1), (60, .int .i64 x2), (61, .pointer (some ⟨b43v, b43vo + x2.toNat * 1, none⟩)), (62, .int .i64 (x0_1.getD x2.toNat (0 : Int))), (63, .pointer (some ⟨b51v, b51vo + (x0_1.getD x2.toNat (0 : Int)).toNat * 10, none⟩)), (64, .pointer (some ⟨b51v, b51vo + (x0_1.getD x2.toNat (0 : Int)).toNat * 10 + 6, none⟩)), (65, .int .i64 ((x0_0.getD (x0_1.getD x2.toNat (0 : Int)).toNat dz35).2.2.2.2.2.2.1)), (66, .bool (decide ((x0_0.getD (x0_1.getD s12v.toNat (0 : Int)).toNat dz35).2.2.2.2.2.2.2.1 < (x0_0.getD (x0_1.getD x2.toNat (0 : Int)).toNat dz35).2.2.2.2.2.2.1))), (67, .bool (decide ((x0_0.getD (x0_1.getD s12v.toNat (0 : Int)).toNat dz35).2.2.2.2.2.2.2.1 < (x0_0.getD (x0_1.getD x2.toNat (0 : Int)).toNat dz35).2.2.2.2.2.2.1)))]) mixed (by decide) (by decide) (by decide) (by decide) (by decide) (by decide) (by decide) 68 rfl (by decide) (by decide) (by decide) (Ent.refl _) ?_ ?_ (fun _ => ⟨rfl, rfl, rfl, rfl, rfl, rfl, rfl, rfl, rfl, rfl, rfl, rfl, rfl, rfl, rfl, rfl, rfl, rfl, rfl, rfl, rfl, rfl, rfl, trivial⟩) ?_
 exact (All.cons (fun γ => (All.cons (QOb.plain [(4, .pointer (some ⟨b1v, 0, none⟩))] rfl rfl (.o rfl (by decide) .nil) (q_fa rfl rfl Try.underlying64 rfl rfl Try.sizeOf3 rfl) rfl) (All.cons (QOb.plain [(4, .pointer (some ⟨b1v, 0, none⟩))] rfl rfl (.o rfl (by decide) .nil) (q_fa rfl rfl Try.underlying64 rfl rfl Try.sizeOf3 rfl) rfl) All.nil))) (All.cons (fun γ => (All.cons (QOb.plain [(39, .pointer (some ⟨b1v, 0, none⟩))] rfl rfl (.w 0 rfl rfl rfl .nil) (q_load rfl rfl Try.isAgg3 (.obj 0 rfl rfl)) rfl) (All.cons (QOb.plain [(39, .pointer (some ⟨b1v, 0, none⟩))] rfl rfl (.w 0 rfl rfl rfl .nil) (q_load rfl rfl Try.isAgg3 (.obj 0 rfl rfl)) rfl) All.nil))) (All.cons (fun γ => (All.cons (QOb.plain [(7, .int .i64 s12v)] rfl rfl (.o rfl (by decide) .nil) (q_move rfl rfl) rfl) All.nil)) (All.cons (fun γ => (All.cons (QOb.plain [(40, .int .i64 x1_0), (42, .int .i64 s36v)] rfl rfl (.w 1 rfl rfl rfl (.w 3 rfl rfl rfl .nil)) (q_quo rfl rfl rfl hb39v) rfl) All.nil)) (All.cons (fun γ => (All.cons (QOb.plain [(43, .int .i64 (IntKind.i64.wrap (Int.tdiv x1_0 s36v)))] rfl rfl (.w 4 rfl rfl rfl .nil) (q_rem rfl rfl rfl (by decide)) rfl) All.nil)) (All.cons (fun γ => (All.cons (QOb.plain [(44, .int .i64 (Int.tmod (IntKind.i64.wrap (Int.tdiv x1_0 s36v)) 2))] rfl rfl (.w 5 rfl rfl rfl .nil) (q_eql rfl rfl rfl) rfl) All.nil)) (All.cons (fun γ => (All.cons (QOb.plain [(45, .bool (decide (Int.tmod (IntKind.i64.wrap (Int.tdiv x1_0 s36v)) 2 = (0 : Int))))] rfl rfl (.w 6 rfl rfl rfl .nil) (q_move rfl rfl) rfl) All.nil)) (All.cons (fun γ => (All.cons (QOb.grd (b := decide (Int.tmod (IntKind.i64.wrap (Int.tdiv x1_0 s36v)) 2 = (0 : Int))) [(8, .int .i64 ((x0_0.getD (x0_1.getD s12v.toNat (0 : Int)).toNat dz35).2.2.2.2.2.2.2.1)), (46, .bool (decide (Int.tmod (IntKind.i64.wrap (Int.tdiv x1_0 s36v)) 2 = (0 : Int))))] rfl rfl rfl rfl (.o rfl (by decide) (.w 7 rfl rfl rfl .nil)) (fun hb58v => RQ.sub (E' := [(8, .int .i64 ((x0_0.getD (x0_1.getD s12v.toNat (0 : Int)).toNat dz35).2.2.2.2.2.2.2.1))]) ⟨rfl, trivial⟩ (q_move rfl rfl)) rfl) All.nil)) (All.cons (fun γ => (All.cons (QOb.grd (b := decide (Int.tmod (IntKind.i64.wrap (Int.tdiv x1_0 s36v)) 2 = (0 : Int))) [(46, .bool (decide (Int.tmod (IntKind.i64.wrap (Int.tdiv x1_0 s36v)) 2 = (0 : Int)))), (47, cv ((decide (Int.tmod (IntKind.i64.wrap (Int.tdiv x1_0 s36v)) 2 = (0 : Int))) == true) (.int .i64 ((x0_0.getD (x0_1.getD s12v.toNat (0 : Int)).toNat dz35).2.2.2.2.2.2.2.1)))] rfl rfl rfl rfl (.w 7 rfl rfl rfl (.w 8 rfl rfl rfl .nil)) (fun hb59v => RQ.sub (E' := [(47, .int .i64 ((x0_0.getD (x0_1.getD s12v.toNat (0 : Int)).toNat dz35).2.2.2.2.2.2.2.1))]) ⟨lk_cv rfl hb59v, trivial⟩ (q_neq rfl rfl rfl)) rfl) All.nil)) (All.cons (fun γ => (All.cons (QOb.plain [(46, .bool (decide (Int.tmod (IntKind.i64.wrap (Int.tdiv x1_0 s36v)) 2 = (0 : Int)))), (48, cv ((decide (Int.tmod (IntKind.i64.wrap (Int.tdiv x1_0 s36v)) 2 = (0 : Int))) == true) (.bool (!decide ((x0_0.getD (x0_1.getD s12v.toNat (0 : Int)).toNat dz35).2.2.2.2.2.2.2.1 = (0 : Int)))))] rfl rfl (.w 7 rfl rfl rfl (.w 9 rfl rfl rfl .nil)) (q_and rfl rfl rfl) rfl) All.nil)) (All.cons (fun γ => (All.cons (QOb.plain [(49, .bool ((decide (Int.tmod (IntKind.i64.wrap (Int.tdiv x1_0 s36v)) 2 = (0 : Int))) && (!decide ((x0_0.getD (x0_1.getD s12v.toNat (0 : Int)).toNat dz35).2.2.2.2.2.2.2.1 = (0 : Int)))))] rfl rfl (.w 10 rfl rfl rfl .nil) (q_move rfl rfl) rfl) All.nil)) (All.cons (fun γ => (All.cons (QOb.yes (b := (decide (Int.tmod (IntKind.i64.wrap (Int.tdiv x1_0 s36v)) 2 = (0 : Int))) && (!decide ((x0_0.getD (x0_1.getD s12v.toNat (0 : Int)).toNat dz35).2.2.2.2.2.2.2.1 = (0 : Int)))) [(8, .int .i64 ((x0_0.getD (x0_1.getD s12v.toNat (0 : Int)).toNat dz35).2.2.2.2.2.2.2.1)), (50, .bool ((decide (Int.tmod (IntKind.i64.wrap (Int.tdiv x1_0 s36v)) 2 = (0 : Int))) && (!decide ((x0_0.getD (x0_1.getD s12v.toNat (0 : Int)).toNat dz35).2.2.2.2.2.2.2.1 = (0 : Int)))))] rfl rfl rfl rfl (beq_yes hk41v) (.o rfl (by decide) (.w 11 rfl rfl rfl .nil)) (q_move rfl rfl) rfl) All.nil)) (All.cons (fun γ => (All.cons (QOb.yes (b := (decide (Int.tmod (IntKind.i64.wrap (Int.tdiv x1_0 s36v)) 2 = (0 : Int))) && (!decide ((x0_0.getD (x0_1.getD s12v.toNat (0 : Int)).toNat dz35).2.2.2.2.2.2.2.1 = (0 : Int)))) [(0, .pointer (some ⟨b0, 0, none⟩)), (50, .bool ((decide (Int.tmod (IntKind.i64.wrap (Int.tdiv x1_0 s36v)) 2 = (0 : Int))) && (!decide ((x0_0.getD (x0_1.getD s12v.toNat (0 : Int)).toNat dz35).2.2.2.2.2.2.2.1 = (0 : Int)))))] rfl rfl rfl rfl (beq_yes hk41v) (.o rfl (by decide) (.w 11 rfl rfl rfl .nil)) (q_move rfl rfl) rfl) All.nil)) (All.cons (fun γ => (All.cons (QOb.yes (b := (decide (Int.tmod (IntKind.i64.wrap (Int.tdiv x1_0 s36v)) 2 = (0 : Int))) && (!decide ((x0_0.getD (x0_1.getD s12v.toNat (0 : Int)).toNat dz35).2.2.2.2.2.2.2.1 = (0 : Int)))) [(50, .bool ((decide (Int.tmod (IntKind.i64.wrap (Int.tdiv x1_0 s36v)) 2 = (0 : Int))) && (!decide ((x0_0.getD (x0_1.getD s12v.toNat (0 : Int)).toNat dz35).2.2.2.2.2.2.2.1 = (0 : Int))))), (52, .pointer (some ⟨b0, 0, none⟩))] rfl rfl rfl rfl (beq_yes hk41v) (.w 11 rfl rfl rfl (.w 13 rfl rfl rfl .nil)) (q_nil rfl rfl) rfl) All.nil)) (All.cons (fun γ => (All.cons (QOb.yes (b := (decide (Int.tmod (IntKind.i64.wrap (Int.tdiv x1_0 s36v)) 2 = (0 : Int))) && (!decide ((x0_0.getD (x0_1.getD s12v.toNat (0 : Int)).toNat dz35).2.2.2.2.2.2.2.1 = (0 : Int)))) [(50, .bool ((decide (Int.tmod (IntKind.i64.wrap (Int.tdiv x1_0 s36v)) 2 = (0 : Int))) && (!decide ((x0_0.getD (x0_1.getD s12v.toNat (0 : Int)).toNat dz35).2.2.2.2.2.2.2.1 = (0 : Int))))), (53, .pointer (some ⟨b0, 0, none⟩))] rfl rfl rfl rfl (beq_yes hk41v) (.w 11 rfl rfl rfl (.w 14 rfl rfl rfl .nil)) (q_fa rfl rfl Try.underlying61 rfl rfl Try.sizeOf22 rfl) rfl) All.nil)) (All.cons (fun γ => (All.cons (QOb.yes (b := (decide (Int.tmod (IntKind.i64.wrap (Int.tdiv x1_0 s36v)) 2 = (0 : Int))) && (!decide ((x0_0.getD (x0_1.getD s12v.toNat (0 : Int)).toNat dz35).2.2.2.2.2.2.2.1 = (0 : Int)))) [(50, .bool ((decide (Int.tmod (IntKind.i64.wrap (Int.tdiv x1_0 s36v)) 2 = (0 : Int))) && (!decide ((x0_0.getD (x0_1.getD s12v.toNat (0 : Int)).toNat dz35).2.2.2.2.2.2.2.1 = (0 : Int))))), (54, .pointer (some ⟨b0, 0, none⟩))] rfl rfl rfl rfl (beq_yes hk41v) (.w 11 rfl rfl rfl (.w 15 rfl rfl rfl .nil)) (q_load rfl rfl Try.isAgg22 (.obj 1 rfl rfl)) rfl) All.nil)) (All.cons (fun γ => (All.cons (QOb.yes (b := (decide (Int.tmod (IntKind.i64.wrap (Int.tdiv x1_0 s36v)) 2 = (0 : Int))) && (!decide ((x0_0.getD (x0_1.getD s12v.toNat (0 : Int)).toNat dz35).2.2.2.2.2.2.2.1 = (0 : Int)))) [(0, .pointer (some ⟨b0, 0, none⟩)), (50, .bool ((decide (Int.tmod (IntKind.i64.wrap (Int.tdiv x1_0 s36v)) 2 = (0 : Int))) && (!decide ((x0_0.getD (x0_1.getD s12v.toNat (0 : Int)).toNat dz35).2.2.2.2.2.2.2.1 = (0 : Int)))))] rfl rfl rfl rfl (beq_yes hk41v) (.o rfl (by decide) (.w 11 rfl rfl rfl .nil)) (q_move rfl rfl) rfl) All.nil)) (All.cons (fun γ => (All.cons (QOb.yes (b := (decide (Int.tmod (IntKind.i64.wrap (Int.tdiv x1_0 s36v)) 2 = (0 : Int))) && (!decide ((x0_0.getD (x0_1.getD s12v.toNat (0 : Int)).toNat dz35).2.2.2.2.2.2.2.1 = (0 : Int)))) [(50, .bool ((decide (Int.tmod (IntKind.i64.wrap (Int.tdiv x1_0 s36v)) 2 = (0 : Int))) && (!decide ((x0_0.getD (x0_1.getD s12v.toNat (0 : Int)).toNat dz35).2.2.2.2.2.2.2.1 = (0 : Int))))), (56, .pointer (some ⟨b0, 0, none⟩))] rfl rfl rfl rfl (beq_yes hk41v) (.w 11 rfl rfl rfl (.w 17 rfl rfl rfl .nil)) (q_nil rfl rfl) rfl) All.nil)) (All.cons (fun γ => (All.cons (QOb.yes (b := (decide (Int.tmod (IntKind.i64.wrap (Int.tdiv x1_0 s36v)) 2 = (0 : Int))) && (!decide ((x0_0.getD (x0_1.getD s12v.toNat (0 : Int)).toNat dz35).2.2.2.2.2.2.2.1 = (0 : Int)))) [(50, .bool ((decide (Int.tmod (IntKind.i64.wrap (Int.tdiv x1_0 s36v)) 2 = (0 : Int))) && (!decide ((x0_0.getD (x0_1.getD s12v.toNat (0 : Int)).toNat dz35).2.2.2.2.2.2.2.1 = (0 : Int))))), (57, .pointer (some ⟨b0, 0, none⟩))] rfl rfl rfl rfl (beq_yes hk41v) (.w 11 rfl rfl rfl (.w 18 rfl rfl rfl .nil)) (q_fa rfl rfl Try.underlying61 rfl rfl Try.sizeOf39 rfl) rfl) All.nil)) (All.cons (fun γ => (All.cons (QOb.yes (b := (decide (Int.tmod (IntKind.i64.wrap (Int.tdiv x1_0 s36v)) 2 = (0 : Int))) && (!decide ((x0_0.getD (x0_1.getD s12v.toNat (0 : Int)).toNat dz35).2.2.2.2.2.2.2.1 = (0 : Int)))) [(50, .bool ((decide (Int.tmod (IntKind.i64.wrap (Int.tdiv x1_0 s36v)) 2 = (0 : Int))) && (!decide ((x0_0.getD (x0_1.getD s12v.toNat (0 : Int)).toNat dz35).2.2.2.2.2.2.2.1 = (0 : Int))))), (58, .pointer (some ⟨b0, 1, none⟩))] rfl rfl rfl rfl (beq_yes hk41v) (.w 11 rfl rfl rfl (.w 19 rfl rfl rfl .nil)) (q_load rfl rfl Try.isAgg39 (.obj 1 rfl rfl)) rfl) All.nil)) (All.cons (fun γ => (All.cons (QOb.yes (b := (decide (Int.tmod (IntKind.i64.wrap (Int.tdiv x1_0 s36v)) 2 = (0 : Int))) && (!decide ((x0_0.getD (x0_1.getD s12v.toNat (0 : Int)).toNat dz35).2.2.2.2.2.2.2.1 = (0 : Int)))) [(2, .int .i64 x2), (50, .bool ((decide (Int.tmod (IntKind.i64.wrap (Int.tdiv x1_0 s36v)) 2 = (0 : Int))) && (!decide ((x0_0.getD (x0_1.getD s12v.toNat (0 : Int)).toNat dz35).2.2.2.2.2.2.2.1 = (0 : Int)))))] rfl rfl rfl rfl (beq_yes hk41v) (.o rfl (by decide) (.w 11 rfl rfl rfl .nil)) (q_move rfl rfl) rfl) All.nil)) (All.cons (fun γ => (All.cons (QOb.yes (b := (decide (Int.tmod (IntKind.i64.wrap (Int.tdiv x1_0 s36v)) 2 = (0 : Int))) && (!decide ((x0_0.getD (x0_1.getD s12v.toNat (0 : Int)).toNat dz35).2.2.2.2.2.2.2.1 = (0 : Int)))) [(50, .bool ((decide (Int.tmod (IntKind.i64.wrap (Int.tdiv x1_0 s36v)) 2 = (0 : Int))) && (!decide ((x0_0.getD (x0_1.getD s12v.toNat (0 : Int)).toNat dz35).2.2.2.2.2.2.2.1 = (0 : Int))))), (59, .slice a0_1 x0_1.length c0_1), (60, .int .i64 x2)] rfl rfl rfl rfl (beq_yes hk41v) (.w 11 rfl rfl rfl (.w 20 rfl rfl rfl (.w 21 rfl rfl rfl .nil))) (q_idx rfl rfl rfl ha44v Try.underlying39 Try.sizeOf3 hi42v.1 hi42v.2) rfl) All.nil)) (All.cons (fun γ => (All.cons (QOb.yes (b := (decide (Int.tmod (IntKind.i64.wrap (Int.tdiv x1_0 s36v)) 2 = (0 : Int))) && (!decide ((x0_0.getD (x0_1.getD s12v.toNat (0 : Int)).toNat dz35).2.2.2.2.2.2.2.1 = (0 : Int)))) [(50, .bool ((decide (Int.tmod (IntKind.i64.wrap (Int.tdiv x1_0 s36v)) 2 = (0 : Int))) && (!decide ((x0_0.getD (x0_1.getD s12v.toNat (0 : Int)).toNat dz35).2.2.2.2.2.2.2.1 = (0 : Int))))), (61, .pointer (some ⟨b43v, b43vo + x2.toNat * 1, none⟩))] rfl rfl rfl rfl (beq_yes hk41v) (.w 11 rfl rfl rfl (.w 22 rfl rfl rfl .nil)) (q_load rfl rfl Try.isAgg3 (hcell49v 3 rfl 0 _ rfl)) rfl) All.nil)) (All.cons (fun γ => (All.cons (QOb.yes (b := (decide (Int.tmod (IntKind.i64.wrap (Int.tdiv x1_0 s36v)) 2 = (0 : Int))) && (!decide ((x0_0.getD (x0_1.getD s12v.toNat (0 : Int)).toNat dz35).2.2.2.2.2.2.2.1 = (0 : Int)))) [(50, .bool ((decide (Int.tmod (IntKind.i64.wrap (Int.tdiv x1_0 s36v)) 2 = (0 : Int))) && (!decide ((x0_0.getD (x0_1.getD s12v.toNat (0 : Int)).toNat dz35).2.2.2.2.2.2.2.1 = (0 : Int))))), (55, .slice a0_0 x0_0.length c0_0), (62, .int .i64 (x0_1.getD x2.toNat (0 : Int)))] rfl rfl rfl rfl (beq_yes hk41v) (.w 11 rfl rfl rfl (.w 16 rfl rfl rfl (.w 23 rfl rfl rfl .nil))) (q_idx rfl rfl rfl ha52v Try.underlying22 Try.sizeOf35 hi50v.1 hi50v.2) rfl) All.nil)) (All.cons (fun γ => (All.cons (QOb.yes (b := (decide (Int.tmod (IntKind.i64.wrap (Int.tdiv x1_0 s36v)) 2 = (0 : Int))) && (!decide ((x0_0.getD (x0_1.getD s12v.toNat (0 : Int)).toNat dz35).2.2.2.2.2.2.2.1 = (0 : Int)))) [(50, .bool ((decide (Int.tmod (IntKind.i64.wrap (Int.tdiv x1_0 s36v)) 2 = (0 : Int))) && (!decide ((x0_0.getD (x0_1.getD s12v.toNat (0 : Int)).toNat dz35).2.2.2.2.2.2.2.1 = (0 : Int))))), (63, .pointer (some ⟨b51v, b51vo + (x0_1.getD x2.toNat (0 : Int)).toNat * 10, none⟩))] rfl rfl rfl rfl (beq_yes hk41v) (.w 11 rfl rfl rfl (.w 24 rfl rfl rfl .nil)) (q_fa rfl rfl Try.underlying35 rfl rfl Try.sizeOf3 rfl) rfl) All.nil)) (All.cons (fun γ => (All.cons (QOb.yes (b := (decide (Int.tmod (IntKind.i64.wrap (Int.tdiv x1_0 s36v)) 2 = (0 : Int))) && (!decide ((x0_0.getD (x0_1.getD s12v.toNat (0 : Int)).toNat dz35).2.2.2.2.2.2.2.1 = (0 : Int)))) [(50, .bool ((decide (Int.tmod (IntKind.i64.wrap (Int.tdiv x1_0 s36v)) 2 = (0 : Int))) && (!decide ((x0_0.getD (x0_1.getD s12v.toNat (0 : Int)).toNat dz35).2.2.2.2.2.2.2.1 = (0 : Int))))), (64, .pointer (some ⟨b51v, b51vo + (x0_1.getD x2.toNat (0 : Int)).toNat * 10 + 6, none⟩))] rfl rfl rfl rfl (beq_yes hk41v) (.w 11 rfl rfl rfl (.w 25 rfl rfl rfl .nil)) (q_load rfl rfl Try.isAgg3 (hcell57v 3 rfl 6 _ rfl)) rfl) All.nil)) (All.cons (fun γ => (All.cons (QOb.yes (b := (decide (Int.tmod (IntKind.i64.wrap (Int.tdiv x1_0 s36v)) 2 = (0 : Int))) && (!decide ((x0_0.getD (x0_1.getD s12v.toNat (0 : Int)).toNat dz35).2.2.2.2.2.2.2.1 = (0 : Int)))) [(50, .bool ((decide (Int.tmod (IntKind.i64.wrap (Int.tdiv x1_0 s36v)) 2 = (0 : Int))) && (!decide ((x0_0.getD (x0_1.getD s12v.toNat (0 : Int)).toNat dz35).2.2.2.2.2.2.2.1 = (0 : Int))))), (51, .int .i64 ((x0_0.getD (x0_1.getD s12v.toNat (0 : Int)).toNat dz35).2.2.2.2.2.2.2.1)), (65, .int .i64 ((x0_0.getD (x0_1.getD x2.toNat (0 : Int)).toNat dz35).2.2.2.2.2.2.1))] rfl rfl rfl rfl (beq_yes hk41v) (.w 11 rfl rfl rfl (.w 12 rfl rfl rfl (.w 26 rfl rfl rfl .nil))) (q_lss rfl rfl rfl) rfl) All.nil)) (All.cons (fun γ => (All.cons (QOb.plain [(50, .bool ((decide (Int.tmod (IntKind.i64.wrap (Int.tdiv x1_0 s36v)) 2 = (0 : Int))) && (!decide ((x0_0.getD (x0_1.getD s12v.toNat (0 : Int)).toNat dz35).2.2.2.2.2.2.2.1 = (0 : Int))))), (66, .bool (decide ((x0_0.getD (x0_1.getD s12v.toNat (0 : Int)).toNat dz35).2.2.2.2.2.2.2.1 < (x0_0.getD (x0_1.getD x2.toNat (0 : Int)).toNat dz35).2.2.2.2.2.2.1)))] rfl rfl (.w 11 rfl rfl rfl (.w 27 rfl rfl rfl .nil)) (q_pick rfl rfl rfl rfl (bif_yes hk41v _ _)) rfl) All.nil)) All.nil))))))))))))))))))))))))))))
 exact (All.cons (fun γ => EOb.mk (Z := Unit) [(41, .int .i64 s12v)] (fun z => ()) rfl rfl (.w 2 rfl rfl rfl .nil) (re_call (vs := [.int .i64 s12v]) (cap := []) (A := []) (rst := [obj b1v 64 [.int .i64 x1_0, .bool x1_1, str x1_2], obj b0 61 [.slice a0_0 x0_0.length c0_0, .slice a0_1 x0_1.length c0_1, .map (some m0_2)], mapO m0_2 enc64 enc3 x0_2, F]) rfl rfl rfl rfl rfl rfl Try.call40 (.sel 0 rfl (.sel 0 rfl (.sel 0 rfl (.sel 0 rfl (.nil _))))) (synodref16_bit.calls _ _ s12v ) hs38v) (fun _ => ⟨rfl, rfl, rfl, trivial⟩) (fun _ => .inr rfl) (fun z => Ent.refl _)) All.nil)
 intro g60v
 exact nrm_cut (s := decide ((x0_0.getD (x0_1.getD s12v.toNat (0 : Int)).toNat dz35).2.2.2.2.2.2.2.1 < (x0_0.getD (x0_1.getD x2.toNat (0 : Int)).toNat dz35).2.2.2.2.2.2.1)) () ⟨rfl, rfl, rfl, rfl, rfl, trivial⟩ (.sel 0 rfl (.sel 0 rfl (.sel 0 rfl (.sel 0 rfl (.nil _)))))
 refine sim_draw (Γ := Unit) () [[], [0], [], [2], [0, 1, 2, 3], [0, 1, 2, 3, 4], [0, 1, 2, 3, 4, 5], [0, 1, 2, 3, 4, 5, 6], [0, 1, 2, 3, 4, 5, 6, 7], [0, 1, 2, 3, 4, 5, 6, 7, 8], [0, 1, 2, 3, 4, 5, 6, 7, 8, 9], [0, 1, 2, 3, 4, 5, 6, 7, 8, 9, 10], [0, 1, 2, 3, 4, 5, 6, 7, 8, 9, 10, 11], [0, 1, 2, 3, 4, 5, 6, 7, 8, 9, 10, 11], [0, 1, 2, 3, 4, 5, 6, 7, 8, 9, 10, 11, 13], [0, 1, 2, 3, 4, 5, 6, 7, 8, 9, 10, 11, 13, 14], [0, 1, 2, 3, 4, 5, 6, 7, 8, 9, 10, 11, 13, 14, 15], [0, 1, 2, 3, 4, 5, 6, 7, 8, 9, 10, 11], [0, 1, 2, 3, 4, 5, 6, 7, 8, 9, 10, 11, 17], [0, 1, 2, 3, 4, 5, 6, 7, 8, 9, 10, 11, 17, 18], [0, 1, 2, 3, 4, 5, 6, 7, 8, 9, 10, 11, 17, 18, 19], [0, 1, 2, 3, 4, 5, 6, 7, 8, 9, 10, 11], [0, 1, 2, 3, 4, 5, 6, 7, 8, 9, 10, 11, 17, 18, 19, 20, 21], [0, 1, 2, 3, 4, 5, 6, 7, 8, 9, 10, 11, 17, 18, 19, 20, 21, 22], [0, 1, 2, 3, 4, 5, 6, 7, 8, 9, 10, 11, 13, 14, 15, 16, 17, 18, 19, 20, 21, 22, 23], [0, 1, 2, 3, 4, 5, 6, 7, 8, 9, 10, 11, 13, 14, 15, 16, 17, 18, 19, 20, 21, 22, 23, 24], [0, 1, 2, 3, 4, 5, 6, 7, 8, 9, 10, 11, 13, 14, 15, 16, 17, 18, 19, 20, 21, 22, 23, 24, 25], [0, 1, 2, 3, 4, 5, 6, 7, 8, 9, 10, 11, 12, 13, 14, 15, 16, 17, 18, 19, 20, 21, 22, 23, 24, 25, 26], [0, 1, 2, 3, 4, 5, 6, 7, 8, 9, 10, 11, 12, 13, 14, 15, 16, 17, 18, 19, 20, 21, 22, 23, 24, 25, 26, 27]] [3] [0, 1, 2, 4, 5, 6, 7, 8, 9, 10, 11, 12, 13, 14, 15, 16, 17, 18, 19, 20, 21, 22, 23, 24, 25, 26, 27, 28] (fun i => [[0, 1], [0, 1], [0], [], [1], [1], [1], [1], [1], [1], [1], [1], [1], [1], [1], [1], [1], [1], [1], [1], [1], [1], [1], [1], [1], [1], [1], [1], [1]].getD i []) (fun i => [[], [], [], [0, 1, 2], [], [], [], [], [], [], [], [], [], [], [], [], [], [], [], [], [], [], [], [], [], [], [], [], []].getD i []) (fun γ i => [.pointer (some ⟨b1v, 0, none⟩), .int .i64 x1_0, .int .i64 s12v, .int .i64 s36v, .int .i64 (IntKind.i64.wrap (Int.tdiv x1_0 s36v)), .int .i64 (Int.tmod (IntKind.i64.wrap (Int.tdiv x1_0 s36v)) 2), .bool (decide (Int.tmod (IntKind.i64.wrap (Int.tdiv x1_0 s36v)) 2 = (0 : Int))), .bool (decide (Int.tmod (IntKind.i64.wrap (Int.tdiv x1_0 s36v)) 2 = (0 : Int))), cv ((decide (Int.tmod (IntKind.i64.wrap (Int.tdiv x1_0 s36v)) 2 = (0 : Int))) == true) (.int .i64 ((x0_0.getD (x0_1.getD s12v.toNat (0 : Int)).toNat dz35).2.2.2.2.2.2.2.1)), cv ((decide (Int.tmod (IntKind.i64.wrap (Int.tdiv x1_0 s36v)) 2 = (0 : Int))) == true) (.bool (!decide ((x0_0.getD (x0_1.getD s12v.toNat (0 : Int)).toNat dz35).2.2.2.2.2.2.2.1 = (0 : Int)))), .bool ((decide (Int.tmod (IntKind.i64.wrap (Int.tdiv x1_0 s36v)) 2 = (0 : Int))) && (!decide ((x0_0.getD (x0_1.getD s12v.toNat (0 : Int)).toNat dz35).2.2.2.2.2.2.2.1 = (0 : Int)))), .bool ((decide (Int.tmod (IntKind.i64.wrap (Int.tdiv x1_0 s36v)) 2 = (0 : Int))) && (!decide ((x0_0.getD (x0_1.getD s12v.toNat (0 : Int)).toNat dz35).2.2.2.2.2.2.2.1 = (0 : Int)))), undef, undef, undef, undef, undef, undef, undef, undef, undef, undef, undef, undef, undef, undef, undef, undef, .bool false].getD i undef) (fun j γ => [[obj b1v 64 [.int .i64 x1_0, .bool x1_1, str x1_2], obj b0 61 [.slice a0_0 x0_0.length c0_0, .slice a0_1 x0_1.length c0_1, .map (some m0_2)], mapO m0_2 enc64 enc3 x0_2, F], [obj b1v 64 [.int .i64 x1_0, .bool x1_1, str x1_2], obj b0 61 [.slice a0_0 x0_0.length c0_0, .slice a0_1 x0_1.length c0_1, .map (some m0_2)], mapO m0_2 enc64 enc3 x0_2, F]].getD j []) (fun γ => [(0, .pointer (some ⟨b0, 0, none⟩)), (2, .int .i64 x2), (4, .pointer (some ⟨b1v, 0, none⟩)), (7, .int .i64 s12v), (47, cv ((decide (Int.tmod (IntKind.i64.wrap (Int.tdiv x1_0 s36v)) 2 = (0 : Int))) == true) (.int .i64 ((x0_0.getD (x0_1.getD s12v.toNat (0 : Int)).toNat dz35).2.2.2.2.2.2.2.1))), (48, cv ((decide (Int.tmod (IntKind.i64.wrap (Int.tdiv x1_0 s36v)) 2 = (0 : Int))) == true) (.bool (!decide ((x0_0.getD (x0_1.getD s12v.toNat (0 : Int)).toNat dz35).2.2.2.2.2.2.2.1 = (0 : Int))))), (51, undef), (52, undef), (53, undef), (54, undef), (55, undef), (56, undef), (57, undef), (58, undef), (59, undef), (60, undef), (61, undef), (62, undef), (63, undef), (64, undef), (65, undef), (66, undef), (67, .bool false)]) mixed (by decide) (by decide) (by decide) (by decide) (by decide) (by decide) (by decide) 68 rfl (by decide) (by decide) (by decide) (Ent.refl _) ?_ ?_ (fun _ => ⟨rfl, rfl, rfl, rfl, rfl, rfl, rfl, rfl, rfl, rfl, rfl, rfl, rfl, rfl, rfl, rfl, rfl, rfl, rfl, rfl, rfl, rfl, rfl, trivial⟩) ?_
 exact (All.cons (fun γ => (All.cons (QOb.plain [(4, .pointer (some ⟨b1v, 0, none⟩))] rfl rfl (.o rfl (by decide) .nil) (q_fa rfl rfl Try.underlying64 rfl rfl Try.sizeOf3 rfl) rfl) (All.cons (QOb.plain [(4, .pointer (some ⟨b1v, 0, none⟩))] rfl rfl (.o rfl (by decide) .nil) (q_fa rfl rfl Try.underlying64 rfl rfl Try.sizeOf3 rfl) rfl) All.nil))) (All.cons (fun γ => (All.cons (QOb.plain [(39, .pointer (some ⟨b1v, 0, none⟩))] rfl rfl (.w 0 rfl rfl rfl .nil) (q_load rfl rfl Try.isAgg3 (.obj 0 rfl rfl)) rfl) (All.cons (QOb.plain [(39, .pointer (some ⟨b1v, 0, none⟩))] rfl rfl (.w 0 rfl rfl rfl .nil) (q_load rfl rfl Try.isAgg3 (.obj 0 rfl rfl)) rfl) All.nil))) (All.cons (fun γ => (All.cons (QOb.plain [(7, .int .i64 s12v)] rfl rfl (.o rfl (by decide) .nil) (q_move rfl rfl) rfl) All.nil)) (All.cons (fun γ => (All.cons (QOb.plain [(40, .int .i64 x1_0), (42, .int .i64 s36v)] rfl rfl (.w 1 rfl rfl rfl (.w 3 rfl rfl rfl .nil)) (q_quo rfl rfl rfl hb39v) rfl) All.nil)) (All.cons (fun γ => (All.cons (QOb.plain [(43, .int .i64 (IntKind.i64.wrap (Int.tdiv x1_0 s36v)))] rfl rfl (.w 4 rfl rfl rfl .nil) (q_rem rfl rfl rfl (by decide)) rfl) All.nil)) (All.cons (fun γ => (All.cons (QOb.plain [(44, .int .i64 (Int.tmod (IntKind.i64.wrap (Int.tdiv x1_0 s36v)) 2))] rfl rfl (.w 5 rfl rfl rfl .nil) (q_eql rfl rfl rfl) rfl) All.nil)) (All.cons (fun γ => (All.cons (QOb.plain [(45, .bool (decide (Int.tmod (IntKind.i64.wrap (Int.tdiv x1_0 s36v)) 2 = (0 : Int))))] rfl rfl (.w 6 rfl rfl rfl .nil) (q_move rfl rfl) rfl) All.nil)) (All.cons (fun γ => (All.cons (QOb.grd (b := decide (Int.tmod (IntKind.i64.wrap (Int.tdiv x1_0 s36v)) 2 = (0 : Int))) [(8, .int .i64 ((x0_0.getD (x0_1.getD s12v.toNat (0 : Int)).toNat dz35).2.2.2.2.2.2.2.1)), (46, .bool (decide (Int.tmod (IntKind.i64.wrap (Int.tdiv x1_0 s36v)) 2 = (0 : Int))))] rfl rfl rfl rfl (.o rfl (by decide) (.w 7 rfl rfl rfl .nil)) (fun hb61v => RQ.sub (E' := [(8, .int .i64 ((x0_0.getD (x0_1.getD s12v.toNat (0 : Int)).toNat dz35).2.2.2.2.2.2.2.1))]) ⟨rfl, trivial⟩ (q_move rfl rfl)) rfl) All.nil)) (All.cons (fun γ => (All.cons (QOb.grd (b := decide (Int.tmod (IntKind.i64.wrap (Int.tdiv x1_0 s36v)) 2 = (0 : Int))) [(46, .bool (decide (Int.tmod (IntKind.i64.wrap (Int.tdiv x1_0 s36v)) 2 = (0 : Int)))), (47, cv ((decide (Int.tmod (IntKind.i64.wrap (Int.tdiv x1_0 s36v)) 2 = (0 : Int))) == true) (.int .i64 ((x0_0.getD (x0_1.getD s12v.toNat (0 : Int)).toNat dz35).2.2.2.2.2.2.2.1)))] rfl rfl rfl rfl (.w 7 rfl rfl rfl (.w 8 rfl rfl rfl .nil)) (fun hb62v => RQ.sub (E' := [(47, .int .i64 ((x0_0.getD (x0_1.getD s12v.toNat (0 : Int)).toNat dz35).2.2.2.2.2.2.2.1))]) ⟨lk_cv rfl hb62v, trivial⟩ (q_neq rfl rfl rfl)) rfl) All.nil)) (All.cons (fun γ => (All.cons (QOb.plain [(46, .bool (decide (Int.tmod (IntKind.i64.wrap (Int.tdiv x1_0 s36v)) 2 = (0 : Int)))), (48, cv ((decide (Int.tmod (IntKind.i64.wrap (Int.tdiv x1_0 s36v)) 2 = (0 : Int))) == true) (.bool (!decide ((x0_0.getD (x0_1.getD s12v.toNat (0 : Int)).toNat dz35).2.2.2.2.2.2.2.1 = (0 : Int)))))] rfl rfl (.w 7 rfl rfl rfl (.w 9 rfl rfl rfl .nil)) (q_and rfl rfl rfl) rfl) All.nil)) (All.cons (fun γ => (All.cons (QOb.plain [(49, .bool ((decide (Int.tmod (IntKind.i64.wrap (Int.tdiv x1_0 s36v)) 2 = (0 : Int))) && (!decide ((x0_0.getD (x0_1.getD s12v.toNat (0 : Int)).toNat dz35).2.2.2.2.2.2.2.1 = (0 : Int)))))] rfl rfl (.w 10 rfl rfl rfl .nil) (q_move rfl rfl) rfl) All.nil)) (All.cons (fun γ => (All.cons (QOb.no (b := (decide (Int.tmod (IntKind.i64.wrap (Int.tdiv x1_0 s36v)) 2 = (0 : Int))) && (!decide ((x0_0.getD (x0_1.getD s12v.toNat (0 : Int)).toNat dz35).2.2.2.2.2.2.2.1 = (0 : Int)))) [(8, .int .i64 ((x0_0.getD (x0_1.getD s12v.toNat (0 : Int)).toNat dz35).2.2.2.2.2.2.2.1)), (50, .bool ((decide (Int.tmod (IntKind.i64.wrap (Int.tdiv x1_0 s36v)) 2 = (0 : Int))) && (!decide ((x0_0.getD (x0_1.getD s12v.toNat (0 : Int)).toNat dz35).2.2.2.2.2.2.2.1 = (0 : Int)))))] rfl rfl rfl rfl (beq_no' (eq_false_of_ne_true hk41v)) (.o rfl (by decide) (.w 11 rfl rfl rfl .nil)) rfl) All.nil)) (All.cons (fun γ => (All.cons (QOb.no (b := (decide (Int.tmod (IntKind.i64.wrap (Int.tdiv x1_0 s36v)) 2 = (0 : Int))) && (!decide ((x0_0.getD (x0_1.getD s12v.toNat (0 : Int)).toNat dz35).2.2.2.2.2.2.2.1 = (0 : Int)))) [(0, .pointer (some ⟨b0, 0, none⟩)), (50, .bool ((decide (Int.tmod (IntKind.i64.wrap (Int.tdiv x1_0 s36v)) 2 = (0 : Int))) && (!decide ((x0_0.getD (x0_1.getD s12v.toNat (0 : Int)).toNat dz35).2.2.2.2.2.2.2.1 = (0 : Int)))))] rfl rfl rfl rfl (beq_no' (eq_false_of_ne_true hk41v)) (.o rfl (by decide) (.w 11 rfl rfl rfl .nil)) rfl) All.nil)) (All.cons (fun γ => (All.cons (QOb.no (b := (decide (Int.tmod (IntKind.i64.wrap (Int.tdiv x1_0 s36v)) 2 = (0 : Int))) && (!decide ((x0_0.getD (x0_1.getD s12v.toNat (0 : Int)).toNat dz35).2.2.2.2.2.2.2.1 = (0 : Int)))) [(50, .bool ((decide (Int.tmod (IntKind.i64.wrap (Int.tdiv x1_0 s36v)) 2 = (0 : Int))) && (!decide ((x0_0.getD (x0_1.getD s12v.toNat (0 : Int)).toNat dz35).2.2.2.2.2.2.2.1 = (0 : Int))))), (52, undef)] rfl rfl rfl rfl (beq_no' (eq_false_of_ne_true hk41v)) (.w 11 rfl rfl rfl (.w 13 rfl rfl rfl .nil)) rfl) All.nil)) (All.cons (fun γ => (All.cons (QOb.no (b := (decide (Int.tmod (IntKind.i64.wrap (Int.tdiv x1_0 s36v)) 2 = (0 : Int))) && (!decide ((x0_0.getD (x0_1.getD s12v.toNat (0 : Int)).toNat dz35).2.2.2.2.2.2.2.1 = (0 : Int)))) [(50, .bool ((decide (Int.tmod (IntKind.i64.wrap (Int.tdiv x1_0 s36v)) 2 = (0 : Int))) && (!decide ((x0_0.getD (x0_1.getD s12v.toNat (0 : Int)).toNat dz35).2.2.2.2.2.2.2.1 = (0 : Int))))), (53, undef)] rfl rfl rfl rfl (beq_no' (eq_false_of_ne_true hk41v)) (.w 11 rfl rfl rfl (.w 14 rfl rfl rfl .nil)) rfl) All.nil)) (All.cons (fun γ => (All.cons (QOb.no (b := (decide (Int.tmod (IntKind.i64.wrap (Int.tdiv x1_0 s36v)) 2 = (0 : Int))) && (!decide ((x0_0.getD (x0_1.getD s12v.toNat (0 : Int)).toNat dz35).2.2.2.2.2.2.2.1 = (0 : Int)))) [(50, .bool ((decide (Int.tmod (IntKind.i64.wrap (Int.tdiv x1_0 s36v)) 2 = (0 : Int))) && (!decide ((x0_0.getD (x0_1.getD s12v.toNat (0 : Int)).toNat dz35).2.2.2.2.2.2.2.1 = (0 : Int))))), (54, undef)] rfl rfl rfl rfl (beq_no' (eq_false_of_ne_true hk41v)) (.w 11 rfl rfl rfl (.w 15 rfl rfl rfl .nil)) rfl) All.nil)) (All.cons (fun γ => (All.cons (QOb.no (b := (decide (Int.tmod (IntKind.i64.wrap (Int.tdiv x1_0 s36v)) 2 = (0 : Int))) && (!decide ((x0_0.getD (x0_1.getD s12v.toNat (0 : Int)).toNat dz35).2.2.2.2.2.2.2.1 = (0 : Int)))) [(0, .pointer (some ⟨b0, 0, none⟩)), (50, .bool ((decide (Int.tmod (IntKind.i64.wrap (Int.tdiv x1_0 s36v)) 2 = (0 : Int))) && (!decide ((x0_0.getD (x0_1.getD s12v.toNat (0 : Int)).toNat dz35).2.2.2.2.2.2.2.1 = (0 : Int)))))] rfl rfl rfl rfl (beq_no' (eq_false_of_ne_true hk41v)) (.o rfl (by decide) (.w 11 rfl rfl rfl .nil)) rfl) All.nil)) (All.cons (fun γ => (All.cons (QOb.no (b := (decide (Int.tmod (IntKind.i64.wrap (Int.tdiv x1_0 s36v)) 2 = (0 : Int))) && (!decide ((x0_0.getD (x0_1.getD s12v.toNat (0 : Int)).toNat dz35).2.2.2.2.2.2.2.1 = (0 : Int)))) [(50, .bool ((decide (Int.tmod (IntKind.i64.wrap (Int.tdiv x1_0 s36v)) 2 = (0 : Int))) && (!decide ((x0_0.getD (x0_1.getD s12v.toNat (0 : Int)).toNat dz35).2.2.2.2.2.2.2.1 = (0 : Int))))), (56, undef)] rfl rfl rfl rfl (beq_no' (eq_false_of_ne_true hk41v)) (.w 11 rfl rfl rfl (.w 17 rfl rfl rfl .nil)) rfl) All.nil)) (All.cons (fun γ => (All.cons (QOb.no (b := (decide (Int.tmod (IntKind.i64.wrap (Int.tdiv x1_0 s36v)) 2 = (0 : Int))) && (!decide ((x0_0.getD (x0_1.getD s12v.toNat (0 : Int)).toNat dz35).2.2.2.2.2.2.2.1 = (0 : Int)))) [(50, .bool ((decide (Int.tmod (IntKind.i64.wrap (Int.tdiv x1_0 s36v)) 2 = (0 : Int))) && (!decide ((x0_0.getD (x0_1.getD s12v.toNat (0 : Int)).toNat dz35).2.2.2.2.2.2.2.1 = (0 : Int))))), (57, undef)] rfl rfl rfl rfl (beq_no' (eq_false_of_ne_true hk41v)) (.w 11 rfl rfl rfl (.w 18 rfl rfl rfl .nil)) rfl) All.nil)) (All.cons (fun γ => (All.cons (QOb.no (b := (decide (Int.tmod (IntKind.i64.wrap (Int.tdiv x1_0 s36v)) 2 = (0 : Int))) && (!decide ((x0_0.getD (x0_1.getD s12v.toNat (0 : Int)).toNat dz35).2.2.2.2.2.2.2.1 = (0 : Int)))) [(50, .bool ((decide (Int.tmod (IntKind.i64.wrap (Int.tdiv x1_0 s36v)) 2 = (0 : Int))) && (!decide ((x0_0.getD (x0_1.getD s12v.toNat (0 : Int)).toNat dz35).2.2.2.2.2.2.2.1 = (0 : Int))))), (58, undef)] rfl rfl rfl rfl (beq_no' (eq_false_of_ne_true hk41v)) (.w 11 rfl rfl rfl (.w 19 rfl rfl rfl .nil)) rfl) All.nil)) (All.cons (fun γ => (All.cons (QOb.no (b := (decide (Int.tmod (IntKind.i64.wrap (Int.tdiv x1_0 s36v)) 2 = (0 : Int))) && (!decide ((x0_0.getD (x0_1.getD s12v.toNat (0 : Int)).toNat dz35).2.2.2.2.2.2.2.1 = (0 : Int)))) [(2, .int .i64 x2), (50, .bool ((decide (Int.tmod (IntKind.i64.wrap (Int.tdiv x1_0 s36v)) 2 = (0 : Int))) && (!decide ((x0_0.getD (x0_1.getD s12v.toNat (0 : Int)).toNat dz35).2.2.2.2.2.2.2.1 = (0 : Int)))))] rfl rfl rfl rfl (beq_no' (eq_false_of_ne_true hk41v)) (.o rfl (by decide) (.w 11 rfl rfl rfl .nil)) rfl) All.nil)) (All.cons (fun γ => (All.cons (QOb.no (b := (decide (Int.tmod (IntKind.i64.wrap (Int.tdiv x1_0 s36v)) 2 = (0 : Int))) && (!decide ((x0_0.getD (x0_1.getD s12v.toNat (0 : Int)).toNat dz35).2.2.2.2.2.2.2.1 = (0 : Int)))) [(50, .bool ((decide (Int.tmod (IntKind.i64.wrap (Int.tdiv x1_0 s36v)) 2 = (0 : Int))) && (!decide ((x0_0.getD (x0_1.getD s12v.toNat (0 : Int)).toNat dz35).2.2.2.2.2.2.2.1 = (0 : Int))))), (59, undef), (60, undef)] rfl rfl rfl rfl (beq_no' (eq_false_of_ne_true hk41v)) (.w 11 rfl rfl rfl (.w 20 rfl rfl rfl (.w 21 rfl rfl rfl .nil))) rfl) All.nil)) (All.cons (fun γ => (All.cons (QOb.no (b := (decide (Int.tmod (IntKind.i64.wrap (Int.tdiv x1_0 s36v)) 2 = (0 : Int))) && (!decide ((x0_0.getD (x0_1.getD s12v.toNat (0 : Int)).toNat dz35).2.2.2.2.2.2.2.1 = (0 : Int)))) [(50, .bool ((decide (Int.tmod (IntKind.i64.wrap (Int.tdiv x1_0 s36v)) 2 = (0 : Int))) && (!decide ((x0_0.getD (x0_1.getD s12v.toNat (0 : Int)).toNat dz35).2.2.2.2.2.2.2.1 = (0 : Int))))), (61, undef)] rfl rfl rfl rfl (beq_no' (eq_false_of_ne_true hk41v)) (.w 11 rfl rfl rfl (.w 22 rfl rfl rfl .nil)) rfl) All.nil)) (All.cons (fun γ => (All.cons (QOb.no (b := (decide (Int.tmod (IntKind.i64.wrap (Int.tdiv x1_0 s36v)) 2 = (0 : Int))) && (!decide ((x0_0.getD (x0_1.getD s12v.toNat (0 : Int)).toNat dz35).2.2.2.2.2.2.2.1 = (0 : Int)))) [(50, .bool ((decide (Int.tmod (IntKind.i64.wrap (Int.tdiv x1_0 s36v)) 2 = (0 : Int))) && (!decide ((x0_0.getD (x0_1.getD s12v.toNat (0 : Int)).toNat dz35).2.2.2.2.2.2.2.1 = (0 : Int))))), (55, undef), (62, undef)] rfl rfl rfl rfl (beq_no' (eq_false_of_ne_true hk41v)) (.w 11 rfl rfl rfl (.w 16 rfl rfl rfl (.w 23 rfl rfl rfl .nil))) rfl) All.nil)) (All.cons (fun γ => (All.cons (QOb.no (b := (decide (Int.tmod (IntKind.i64.wrap (Int.tdiv x1_0 s36v)) 2 = (0 : Int))) && (!decide ((x0_0.getD (x0_1.getD s12v.toNat (0 : Int)).toNat dz35).2.2.2.2.2.2.2.1 = (0 : Int)))) [(50, .bool ((decide (Int.tmod (IntKind.i64.wrap (Int.tdiv x1_0 s36v)) 2 = (0 : Int))) && (!decide ((x0_0.getD (x0_1.getD s12v.toNat (0 : Int)).toNat dz35).2.2.2.2.2.2.2.1 = (0 : Int))))), (63, undef)] rfl rfl rfl rfl (beq_no' (eq_false_of_ne_true hk41v)) (.w 11 rfl rfl rfl (.w 24 rfl rfl rfl .nil)) rfl) All.nil)) (All.cons (fun γ => (All.cons (QOb.no (b := (decide (Int.tmod (IntKind.i64.wrap (Int.tdiv x1_0 s36v)) 2 = (0 : Int))) && (!decide ((x0_0.getD (x0_1.getD s12v.toNat (0 : Int)).toNat dz35).2.2.2.2.2.2.2.1 = (0 : Int)))) [(50, .bool ((decide (Int.tmod (IntKind.i64.wrap (Int.tdiv x1_0 s36v)) 2 = (0 : Int))) && (!decide ((x0_0.getD (x0_1.getD s12v.toNat (0 : Int)).toNat dz35).2.2.2.2.2.2.2.1 = (0 : Int))))), (64, undef)] rfl rfl rfl rfl (beq_no' (eq_false_of_ne_true hk41v)) (.w 11 rfl rfl rfl (.w 25 rfl rfl rfl .nil)) rfl) All.nil)) (All.cons (fun γ => (All.cons (QOb.no (b := (decide (Int.tmod (IntKind.i64.wrap (Int.tdiv x1_0 s36v)) 2 = (0 : Int))) && (!decide ((x0_0.getD (x0_1.getD s12v.toNat (0 : Int)).toNat dz35).2.2.2.2.2.2.2.1 = (0 : Int)))) [(50, .bool ((decide (Int.tmod (IntKind.i64.wrap (Int.tdiv x1_0 s36v)) 2 = (0 : Int))) && (!decide ((x0_0.getD (x0_1.getD s12v.toNat (0 : Int)).toNat dz35).2.2.2.2.2.2.2.1 = (0 : Int))))), (51, undef), (65, undef)] rfl rfl rfl rfl (beq_no' (eq_false_of_ne_true hk41v)) (.w 11 rfl rfl rfl (.w 12 rfl rfl rfl (.w 26 rfl rfl rfl .nil))) rfl) All.nil)) (All.cons (fun γ => (All.cons (QOb.plain [(50, .bool ((decide (Int.tmod (IntKind.i64.wrap (Int.tdiv x1_0 s36v)) 2 = (0 : Int))) && (!decide ((x0_0.getD (x0_1.getD s12v.toNat (0 : Int)).toNat dz35).2.2.2.2.2.2.2.1 = (0 : Int))))), (66, undef)] rfl rfl (.w 11 rfl rfl rfl (.w 27 rfl rfl rfl .nil)) (q_pick rfl rfl rfl rfl (bif_no (eq_false_of_ne_true hk41v) _ _)) rfl) All.nil)) All.nil))))))))))))))))))))))))))))
 exact (All.cons (fun γ => EOb.mk (Z := Unit) [(41, .int .i64 s12v)] (fun z => ()) rfl rfl (.w 2 rfl rfl rfl .nil) (re_call (vs := [.int .i64 s12v]) (cap := []) (A := []) (rst := [obj b1v 64 [.int .i64 x1_0, .bool x1_1, str x1_2], obj b0 61 [.slice a0_0 x0_0.length c0_0, .slice a0_1 x0_1.length c0_1, .map (some m0_2)], mapO m0_2 enc64 enc3 x0_2, F]) rfl rfl rfl rfl rfl rfl Try.call40 (.sel 0 rfl (.sel 0 rfl (.sel 0 rfl (.sel 0 rfl (.nil _))))) (synodref16_bit.calls _ _ s12v ) hs38v) (fun _ => ⟨rfl, rfl, rfl, trivial⟩) (fun _ => .inr rfl) (fun z => Ent.refl _)) All.nil)
 intro g63v
 exact nrm_cut (s := false) () ⟨rfl, rfl, rfl, rfl, rfl, trivial⟩ (.sel 0 rfl (.sel 0 rfl (.sel 0 rfl (.sel 0 rfl (.nil _)))))
 intro s34v y35v
 refine sim_condb rfl (fun h64v => ?_) (fun h65v => ?_)
 refine sim_seq (sim_region ?_)
 refine simL_val (q_asg rfl rfl) rfl rfl rfl (simL_nil (nrm_then (sim_rtn ?_)))
 refine rtn_block ?_
 refine rtn_then ?_
 refine rtn_loop ?_
 refine rtn_block ?_
 refine rtn_cutR ?_
 exact rtn_fn () rfl rfl rfl (.sel 1 rfl (.sel 1 rfl (.sel 1 rfl (.nil _))))
 refine sim_skip ?_
 refine nrm_block (nrm_then (sim_region ?_))
 refine simL_val (q_move rfl rfl) rfl rfl rfl ?_
 refine simL_val (q_add rfl rfl rfl) rfl rfl rfl ?_
 refine simL_val (q_asg rfl rfl) rfl rfl rfl (simL_nil ?_)
 exact nrm_again (s := IntKind.i64.wrap (s12v + 1)) () ⟨rfl, rfl, rfl, rfl, trivial⟩ (.sel 0 rfl (.sel 0 rfl (.sel 0 rfl (.sel 0 rfl (.nil _)))))
 refine sim_exi ?_
 refine exi_then ?_
 refine exi_loop ?_
 refine exi_here ?_
 exact nrm_cutR (s := ()) () trivial (.sel 1 rfl (.sel 1 rfl (.sel 1 rfl (.nil _))))
 intro s10v y11v
 refine sim_seq (sim_region ?_)
 refine simL_val (q_asg rfl rfl) rfl rfl rfl (simL_nil (nrm_then (sim_rtn ?_)))
 exact rtn_fn () rfl rfl rfl (.sel 0 rfl (.sel 0 rfl (.sel 0 rfl (.nil _))))

def synodref16_Step.f (x0 : Bool) (x1 : List UInt8) (x2_0 : Int) (x2_1 : Int) (x2_2 : Int) (x2_3 : List UInt8) (x2_4 : List UInt8) (x2_5 : List UInt8) (x2_6 : Int) (x2_7 : Int) (x2_8 : Int) (x2_9 : List UInt8) : Option (Bool × List UInt8 × Int × List UInt8) := (if (!x0) = true then (some ([] : List UInt8)) else (some x1)).bind fun s3v => (if x2_2 = (1 : Int) then (if x0 = true then (some (x0, s3v, 1, s3v)) else (some (x0, s3v, 2, ([] : List UInt8)))) else (if x2_2 = (2 : Int) then (some (true, x2_4, 1, ([] : List UInt8))) else (if x2_2 = (3 : Int) then (if x0 = true then (some (false, ([] : List UInt8), 1, ([] : List UInt8))) else (some (false, ([] : List UInt8), 2, ([] : List UInt8)))) else (if x2_2 = (4 : Int) then (if (!x0) = true then (some (false, ([] : List UInt8), 2, ([] : List UInt8))) else (if s3v = x2_5 then (some (true, x2_4, 1, ([] : List UInt8))) else (some (true, s3v, 3, s3v)))) else (some (x0, s3v, 0, ([] : List UInt8)))))))
theorem synodref16_Step.calls (W : World) (F : HA) (x0 : Bool) (x1 : List UInt8) (x2_0 : Int) (x2_1 : Int) (x2_2 : Int) (x2_3 : List UInt8) (x2_4 : List UInt8) (x2_5 : List UInt8) (x2_6 : Int) (x2_7 : Int) (x2_8 : Int) (x2_9 : List UInt8)  :
    Fn Try.prog W 27 [.bool x0, str x1, .agg #[.int .i64 x2_0, .int .i64 x2_1, .int .i64 x2_2, str x2_3, str x2_4, str x2_5, .int .i64 x2_6, .int .i64 x2_7, .int .i64 x2_8, str x2_9]] [] F (synodref16_Step.f x0 x1 x2_0 x2_1 x2_2 x2_3 x2_4 x2_5 x2_6 x2_7 x2_8 x2_9) (fun (r : Bool × List UInt8 × Int × List UInt8) (y : Unit) => .tuple #[.bool r.1, str r.2.1, .agg #[.int .i64 r.2.2.1, str r.2.2.2]]) (fun r y => []) := by
 unfold synodref16_Step.f
 refine fn_intro 51 Try.func27 rfl Try.ntmps27 rfl ?_
 refine sim_seq (sim_region ?_)
 refine simL_eff (re_box rfl rfl rfl) rfl rfl rfl ?_
 intro b1v
 refine simL_val (q_asg rfl rfl) rfl rfl rfl ?_
 refine simL_val (q_asg rfl rfl) rfl rfl rfl ?_
 refine simL_eff (re_alloc rfl Try.zeroValue33 rfl) rfl rfl rfl ?_
 intro b2v
 refine simL_nil (nrm_then ?_)
 refine sim_cut (S := List UInt8) (Unit) (fun s y => [(0, .bool x0), (1, str s), (5, .pointer (some ⟨b1v, 0, none⟩)), (8, .pointer (some ⟨b2v, 0, none⟩))]) (fun s y => [obj b2v 33 [.int .i64 0, str ([] : List UInt8)], obj b1v 35 [.int .i64 x2_0, .int .i64 x2_1, .int .i64 x2_2, str x2_3, str x2_4, str x2_5, .int .i64 x2_6, .int .i64 x2_7, .int .i64 x2_8, str x2_9], F]) ?_ ?_
 refine sim_seq (sim_region ?_)
 refine simL_val (q_move rfl rfl) rfl rfl rfl ?_
 refine simL_val (q_not rfl rfl) rfl rfl rfl (simL_nil (nrm_then ?_))
 refine sim_condb rfl (fun h5v => ?_) (fun h6v => ?_)
 refine sim_region ?_
 refine simL_val (q_asg rfl rfl) rfl rfl rfl (simL_nil ?_)
 exact nrm_cut (s := ([] : List UInt8)) () ⟨rfl, rfl, rfl, rfl, trivial⟩ (.sel 0 rfl (.sel 0 rfl (.sel 0 rfl (.nil _))))
 refine sim_skip ?_
 exact nrm_cut (s := x1) () ⟨rfl, rfl, rfl, rfl, trivial⟩ (.sel 0 rfl (.sel 0 rfl (.sel 0 rfl (.nil _))))
 intro s3v y4v
 refine sim_seq (sim_seq (sim_region ?_))
 refine simL_val (q_fa rfl rfl Try.underlying35 rfl rfl Try.sizeOf3 rfl) rfl rfl rfl ?_
 refine simL_val (q_load rfl rfl Try.isAgg3 (.obj 1 rfl rfl)) rfl rfl rfl (simL_nil (nrm_then ?_))
 refine sim_block ?_
 refine sim_seq (sim_region ?_)
 refine simL_val (q_eql rfl rfl rfl) rfl rfl rfl ?_
 refine simL_val (q_asg rfl rfl) rfl rfl rfl (simL_nil (nrm_then ?_))
 refine sim_cond rfl (fun h7v => ?_) (fun h8v => ?_)
 refine sim_seq (sim_seq (sim_region ?_))
 refine simL_val (q_move rfl rfl) rfl rfl rfl (simL_nil (nrm_then ?_))
 refine sim_condb rfl (fun h9v => ?_) (fun h10v => ?_)
 refine sim_seq (sim_region ?_)
 refine simL_val (q_move rfl rfl) rfl rfl rfl ?_
 refine simL_val (q_move rfl rfl) rfl rfl rfl ?_
 refine simL_val (q_move rfl rfl) rfl rfl rfl ?_
 refine simL_val (q_build (v := .agg #[.int .i64 1, str s3v]) rfl rfl (fun _ => by kernel_rfl)) rfl rfl rfl ?_
 refine simL_val (q_asg rfl rfl) rfl rfl rfl ?_
 refine simL_val (q_asg rfl rfl) rfl rfl rfl ?_
 refine simL_do (re_store 0 rfl rfl rfl Try.sizeOf33 rfl rfl (one_of (by rfl)) rfl rfl) rfl rfl ?_
 intro _
 refine simL_nil (nrm_then (sim_rtn ?_))
 refine rtn_then ?_
 refine rtn_block ?_
 refine rtn_then ?_
 exact rtn_fnC (vs := [.bool x0, str s3v, .agg #[.int .i64 1, str s3v]]) () rfl ⟨rfl, rfl, ⟨b2v, rfl, load_agg 0 Try.isAgg33 Try.sizeOf33 rfl rfl⟩, trivial⟩ rfl (.sel 2 rfl (.nil _))
 refine sim_skip ?_
 refine nrm_then (sim_seq (sim_region ?_))
 refine simL_val (q_move rfl rfl) rfl rfl rfl ?_
 refine simL_val (q_move rfl rfl) rfl rfl rfl ?_
 refine simL_val (q_build (v := .agg #[.int .i64 2, str ([] : List UInt8)]) rfl rfl (fun _ => by kernel_rfl)) rfl rfl rfl ?_
 refine simL_val (q_asg rfl rfl) rfl rfl rfl ?_
 refine simL_val (q_asg rfl rfl) rfl rfl rfl ?_
 refine simL_do (re_store 0 rfl rfl rfl Try.sizeOf33 rfl rfl (one_of (by rfl)) rfl rfl) rfl rfl ?_
 intro _
 refine simL_nil (nrm_then (sim_rtn ?_))
 refine rtn_block ?_
 refine rtn_then ?_
 exact rtn_fnC (vs := [.bool x0, str s3v, .agg #[.int .i64 2, str ([] : List UInt8)]]) () rfl ⟨rfl, rfl, ⟨b2v, rfl, load_agg 0 Try.isAgg33 Try.sizeOf33 rfl rfl⟩, trivial⟩ rfl (.sel 2 rfl (.nil _))
 refine sim_seq (sim_region ?_)
 refine simL_val (q_eql rfl rfl rfl) rfl rfl rfl ?_
 refine simL_val (q_asg rfl rfl) rfl rfl rfl (simL_nil (nrm_then ?_))
 refine sim_cond rfl (fun h11v => ?_) (fun h12v => ?_)
 refine sim_seq ?_
 refine sim_draw (Γ := Unit) () [[], [0], [], [], [0, 1, 3], [0, 1, 2, 3, 4]] [5] [0, 1, 2, 3, 4] (fun i => [[0], [0], [0], [0], [0], []].getD i []) (fun i => [[], [], [], [], [], [0, 1, 2, 3, 4]].getD i []) (fun γ i => [.pointer (some ⟨b1v, 4, none⟩), str x2_4, .agg #[.int .i64 1, str ([] : List UInt8)], .bool true, str x2_4, undef].getD i undef) (fun j γ => [[obj b2v 33 [.int .i64 0, str ([] : List UInt8)], obj b1v 35 [.int .i64 x2_0, .int .i64 x2_1, .int .i64 x2_2, str x2_3, str x2_4, str x2_5, .int .i64 x2_6, .int .i64 x2_7, .int .i64 x2_8, str x2_9], F], [obj b2v 33 [.int .i64 1, str ([] : List UInt8)], obj b1v 35 [.int .i64 x2_0, .int .i64 x2_1, .int .i64 x2_2, str x2_3, str x2_4, str x2_5, .int .i64 x2_6, .int .i64 x2_7, .int .i64 x2_8, str x2_9], F]].getD j []) (fun γ => [(6, .bool true), (7, str x2_4), (8, .pointer (some ⟨b2v, 0, none⟩))]) mixed (by decide) (by decide) (by decide) (by decide) (by decide) (by decide) (by decide) 51 rfl (by decide) (by decide) (by decide) (Ent.refl _) ?_ ?_ (fun _ => ⟨rfl, rfl, rfl, trivial⟩) ?_
 exact (All.cons (fun γ => (All.cons (QOb.plain [(5, .pointer (some ⟨b1v, 0, none⟩))] rfl rfl (.o rfl (by decide) .nil) (q_fa rfl rfl Try.underlying35 rfl rfl Try.sizeOf9 rfl) rfl) All.nil)) (All.cons (fun γ => (All.cons (QOb.plain [(25, .pointer (some ⟨b1v, 4, none⟩))] rfl rfl (.w 0 rfl rfl rfl .nil) (q_load rfl rfl Try.isAgg9 (.obj 1 rfl rfl)) rfl) All.nil)) (All.cons (fun γ => (All.cons (QOb.plain [] rfl rfl .nil (q_build (v := .agg #[.int .i64 1, str ([] : List UInt8)]) rfl rfl (fun _ => by kernel_rfl)) rfl) All.nil)) (All.cons (fun γ => (All.cons (QOb.plain [] rfl rfl .nil (q_asg rfl rfl) rfl) All.nil)) (All.cons (fun γ => (All.cons (QOb.plain [(26, str x2_4)] rfl rfl (.w 1 rfl rfl rfl .nil) (q_asg rfl rfl) rfl) All.nil)) All.nil)))))
 exact (All.cons (fun γ => EOb.mk (Z := Unit) [(8, .pointer (some ⟨b2v, 0, none⟩)), (27, .agg #[.int .i64 1, str ([] : List UInt8)])] (fun z => ()) rfl rfl (.o rfl (by decide) (.w 2 rfl rfl rfl .nil)) (re_store 0 rfl rfl rfl Try.sizeOf33 rfl rfl (one_of (by rfl)) rfl rfl) (fun _ => ⟨rfl, rfl, rfl, rfl, rfl, trivial⟩) (fun _ => .inl rfl) (fun z => Ent.refl _)) All.nil)
 intro g13v
 refine nrm_then (sim_rtn ?_)
 refine rtn_block ?_
 refine rtn_then ?_
 exact rtn_fnC (vs := [.bool true, str x2_4, .agg #[.int .i64 1, str ([] : List UInt8)]]) () rfl ⟨rfl, rfl, ⟨b2v, rfl, load_agg 0 Try.isAgg33 Try.sizeOf33 rfl rfl⟩, trivial⟩ rfl (.sel 2 rfl (.nil _))
 refine sim_seq (sim_region ?_)
 refine simL_val (q_eql rfl rfl rfl) rfl rfl rfl ?_
 refine simL_val (q_asg rfl rfl) rfl rfl rfl (simL_nil (nrm_then ?_))
 refine sim_cond rfl (fun h14v => ?_) (fun h15v => ?_)
 refine sim_seq (sim_seq (sim_region ?_))
 refine simL_val (q_move rfl rfl) rfl rfl rfl (simL_nil (nrm_then ?_))
 refine sim_condb rfl (fun h16v => ?_) (fun h17v => ?_)
 refine sim_seq (sim_region ?_)
 refine simL_val (q_build (v := .agg #[.int .i64 1, str ([] : List UInt8)]) rfl rfl (fun _ => by kernel_rfl)) rfl rfl rfl ?_
 refine simL_val (q_asg rfl rfl) rfl rfl rfl ?_
 refine simL_val (q_asg rfl rfl) rfl rfl rfl ?_
 refine simL_do (re_store 0 rfl rfl rfl Try.sizeOf33 rfl rfl (one_of (by rfl)) rfl rfl) rfl rfl ?_
 intro _
 refine simL_nil (nrm_then (sim_rtn ?_))
 refine rtn_then ?_
 refine rtn_block ?_
 refine rtn_then ?_
 exact rtn_fnC (vs := [.bool false, str ([] : List UInt8), .agg #[.int .i64 1, str ([] : List UInt8)]]) () rfl ⟨rfl, rfl, ⟨b2v, rfl, load_agg 0 Try.isAgg33 Try.sizeOf33 rfl rfl⟩, trivial⟩ rfl (.sel 2 rfl (.nil _))
 refine sim_skip ?_
 refine nrm_then (sim_seq (sim_region ?_))
 refine simL_val (q_build (v := .agg #[.int .i64 2, str ([] : List UInt8)]) rfl rfl (fun _ => by kernel_rfl)) rfl rfl rfl ?_
 refine simL_val (q_asg rfl rfl) rfl rfl rfl ?_
 refine simL_val (q_asg rfl rfl) rfl rfl rfl ?_
 refine simL_do (re_store 0 rfl rfl rfl Try.sizeOf33 rfl rfl (one_of (by rfl)) rfl rfl) rfl rfl ?_
 intro _
 refine simL_nil (nrm_then (sim_rtn ?_))
 refine rtn_block ?_
 refine rtn_then ?_
 exact rtn_fnC (vs := [.bool false, str ([] : List UInt8), .agg #[.int .i64 2, str ([] : List UInt8)]]) () rfl ⟨rfl, rfl, ⟨b2v, rfl, load_agg 0 Try.isAgg33 Try.sizeOf33 rfl rfl⟩, trivial⟩ rfl (.sel 2 rfl (.nil _))
 refine sim_seq (sim_region ?_)
 refine simL_val (q_eql rfl rfl rfl) rfl rfl rfl ?_
 refine simL_val (q_asg rfl rfl) rfl rfl rfl (simL_nil (nrm_then ?_))
 refine sim_cond rfl (fun h18v => ?_) (fun h19v => ?_)
 refine sim_seq (sim_seq (sim_region ?_))
 refine simL_val (q_move rfl rfl) rfl rfl rfl ?_
 refine simL_val (q_not rfl rfl) rfl rfl rfl (simL_nil (nrm_then ?_))
 refine sim_condb rfl (fun h20v => ?_) (fun h21v => ?_)
 refine sim_seq (sim_region ?_)
 refine simL_val (q_build (v := .agg #[.int .i64 2, str ([] : List UInt8)]) rfl rfl (fun _ => by kernel_rfl)) rfl rfl rfl ?_
 refine simL_val (q_asg rfl rfl) rfl rfl rfl ?_
 refine simL_val (q_asg rfl rfl) rfl rfl rfl ?_
 refine simL_do (re_store 0 rfl rfl rfl Try.sizeOf33 rfl rfl (one_of (by rfl)) rfl rfl) rfl rfl ?_
 intro _
 refine simL_nil (nrm_then (sim_rtn ?_))
 refine rtn_then ?_
 refine rtn_block ?_
 refine rtn_then ?_
 exact rtn_fnC (vs := [.bool false, str ([] : List UInt8), .agg #[.int .i64 2, str ([] : List UInt8)]]) () rfl ⟨rfl, rfl, ⟨b2v, rfl, load_agg 0 Try.isAgg33 Try.sizeOf33 rfl rfl⟩, trivial⟩ rfl (.sel 2 rfl (.nil _))
 refine sim_skip ?_
 refine nrm_then (sim_seq (sim_seq (sim_region ?_)))
 refine simL_val (q_move rfl rfl) rfl rfl rfl ?_
 refine simL_val (q_fa rfl rfl Try.underlying35 rfl rfl Try.sizeOf9 rfl) rfl rfl rfl ?_
 refine simL_val (q_load rfl rfl Try.isAgg9 (.obj 1 rfl rfl)) rfl rfl rfl ?_
 refine simL_val (q_nes rfl rfl rfl) rfl rfl rfl (simL_nil (nrm_then ?_))
 refine sim_condn rfl (fun h22v => ?_) (fun h23v => ?_)
 refine sim_skip ?_
 refine nrm_then (sim_seq ?_)
 refine sim_draw (Γ := Unit) () [[], [0], [], [], [0, 1, 3], [0, 1, 2, 3, 4]] [5] [0, 1, 2, 3, 4] (fun i => [[0], [0], [0], [0], [0], []].getD i []) (fun i => [[], [], [], [], [], [0, 1, 2, 3, 4]].getD i []) (fun γ i => [.pointer (some ⟨b1v, 4, none⟩), str x2_4, .agg #[.int .i64 1, str ([] : List UInt8)], .bool true, str x2_4, undef].getD i undef) (fun j γ => [[obj b2v 33 [.int .i64 0, str ([] : List UInt8)], obj b1v 35 [.int .i64 x2_0, .int .i64 x2_1, .int .i64 x2_2, str x2_3, str x2_4, str x2_5, .int .i64 x2_6, .int .i64 x2_7, .int .i64 x2_8, str x2_9], F], [obj b2v 33 [.int .i64 1, str ([] : List UInt8)], obj b1v 35 [.int .i64 x2_0, .int .i64 x2_1, .int .i64 x2_2, str x2_3, str x2_4, str x2_5, .int .i64 x2_6, .int .i64 x2_7, .int .i64 x2_8, str x2_9], F]].getD j []) (fun γ => [(6, .bool true), (7, str x2_4), (8, .pointer (some ⟨b2v, 0, none⟩))]) mixed (by decide) (by decide) (by decide) (by decide) (by decide) (by decide) (by decide) 51 rfl (by decide) (by decide) (by decide) (Ent.refl _) ?_ ?_ (fun _ => ⟨rfl, rfl, rfl, trivial⟩) ?_
 exact (All.cons (fun γ => (All.cons (QOb.plain [(5, .pointer (some ⟨b1v, 0, none⟩))] rfl rfl (.o rfl (by decide) .nil) (q_fa rfl rfl Try.underlying35 rfl rfl Try.sizeOf9 rfl) rfl) All.nil)) (All.cons (fun γ => (All.cons (QOb.plain [(45, .pointer (some ⟨b1v, 4, none⟩))] rfl rfl (.w 0 rfl rfl rfl .nil) (q_load rfl rfl Try.isAgg9 (.obj 1 rfl rfl)) rfl) All.nil)) (All.cons (fun γ => (All.cons (QOb.plain [] rfl rfl .nil (q_build (v := .agg #[.int .i64 1, str ([] : List UInt8)]) rfl rfl (fun _ => by kernel_rfl)) rfl) All.nil)) (All.cons (fun γ => (All.cons (QOb.plain [] rfl rfl .nil (q_asg rfl rfl) rfl) All.nil)) (All.cons (fun γ => (All.cons (QOb.plain [(46, str x2_4)] rfl rfl (.w 1 rfl rfl rfl .nil) (q_asg rfl rfl) rfl) All.nil)) All.nil)))))
 exact (All.cons (fun γ => EOb.mk (Z := Unit) [(8, .pointer (some ⟨b2v, 0, none⟩)), (47, .agg #[.int .i64 1, str ([] : List UInt8)])] (fun z => ()) rfl rfl (.o rfl (by decide) (.w 2 rfl rfl rfl .nil)) (re_store 0 rfl rfl rfl Try.sizeOf33 rfl rfl (one_of (by rfl)) rfl rfl) (fun _ => ⟨rfl, rfl, rfl, rfl, rfl, trivial⟩) (fun _ => .inl rfl) (fun z => Ent.refl _)) All.nil)
 intro g24v
 refine nrm_then (sim_rtn ?_)
 refine rtn_block ?_
 refine rtn_then ?_
 exact rtn_fnC (vs := [.bool true, str x2_4, .agg #[.int .i64 1, str ([] : List UInt8)]]) () rfl ⟨rfl, rfl, ⟨b2v, rfl, load_agg 0 Try.isAgg33 Try.sizeOf33 rfl rfl⟩, trivial⟩ rfl (.sel 2 rfl (.nil _))
 refine sim_seq (sim_region ?_)
 refine simL_val (q_move rfl rfl) rfl rfl rfl ?_
 refine simL_val (q_move rfl rfl) rfl rfl rfl ?_
 refine simL_val (q_build (v := .agg #[.int .i64 3, str s3v]) rfl rfl (fun _ => by kernel_rfl)) rfl rfl rfl ?_
 refine simL_val (q_asg rfl rfl) rfl rfl rfl ?_
 refine simL_val (q_asg rfl rfl) rfl rfl rfl ?_
 refine simL_do (re_store 0 rfl rfl rfl Try.sizeOf33 rfl rfl (one_of (by rfl)) rfl rfl) rfl rfl ?_
 intro _
 refine simL_nil (nrm_then (sim_rtn ?_))
 refine rtn_then ?_
 refine rtn_block ?_
 refine rtn_then ?_
 exact rtn_fnC (vs := [.bool true, str s3v, .agg #[.int .i64 3, str s3v]]) () rfl ⟨rfl, rfl, ⟨b2v, rfl, load_agg 0 Try.isAgg33 Try.sizeOf33 rfl rfl⟩, trivial⟩ rfl (.sel 2 rfl (.nil _))
 refine sim_skip ?_
 refine nrm_block (nrm_then (sim_seq (sim_region ?_)))
 refine simL_val (q_move rfl rfl) rfl rfl rfl ?_
 refine simL_val (q_move rfl rfl) rfl rfl rfl ?_
 refine simL_val (q_build (v := .agg #[.int .i64 0, str ([] : List UInt8)]) rfl rfl (fun _ => by kernel_rfl)) rfl rfl rfl ?_
 refine simL_val (q_asg rfl rfl) rfl rfl rfl ?_
 refine simL_val (q_asg rfl rfl) rfl rfl rfl ?_
 refine simL_do (re_store 0 rfl rfl rfl Try.sizeOf33 rfl rfl (one_of (by rfl)) rfl rfl) rfl rfl ?_
 intro _
 refine simL_nil (nrm_then (sim_rtn ?_))
 exact rtn_fnC (vs := [.bool x0, str s3v, .agg #[.int .i64 0, str ([] : List UInt8)]]) () rfl ⟨rfl, rfl, ⟨b2v, rfl, load_agg 0 Try.isAgg33 Try.sizeOf33 rfl rfl⟩, trivial⟩ rfl (.sel 2 rfl (.nil _))
def synodref16_Step.v (x0 : Bool) (x1 : List UInt8) (x2_0 : Int) (x2_1 : Int) (x2_2 : Int) (x2_3 : List UInt8) (x2_4 : List UInt8) (x2_5 : List UInt8) (x2_6 : Int) (x2_7 : Int) (x2_8 : Int) (x2_9 : List UInt8) : Bool × List UInt8 × Int × List UInt8 := (synodref16_Step.f x0 x1 x2_0 x2_1 x2_2 x2_3 x2_4 x2_5 x2_6 x2_7 x2_8 x2_9).getD (false, [], 0, [])
theorem synodref16_Step.tot (x0 : Bool) (x1 : List UInt8) (x2_0 : Int) (x2_1 : Int) (x2_2 : Int) (x2_3 : List UInt8) (x2_4 : List UInt8) (x2_5 : List UInt8) (x2_6 : Int) (x2_7 : Int) (x2_8 : Int) (x2_9 : List UInt8) : synodref16_Step.f x0 x1 x2_0 x2_1 x2_2 x2_3 x2_4 x2_5 x2_6 x2_7 x2_8 x2_9 = some (synodref16_Step.v x0 x1 x2_0 x2_1 x2_2 x2_3 x2_4 x2_5 x2_6 x2_7 x2_8 x2_9) := by
  have h : ∃ r, synodref16_Step.f x0 x1 x2_0 x2_1 x2_2 x2_3 x2_4 x2_5 x2_6 x2_7 x2_8 x2_9 = some r := by
    unfold synodref16_Step.f
    repeat' (first | exact ⟨_, rfl⟩ | split | simp only [Option.bind_some])
  obtain ⟨r, h⟩ := h
  unfold synodref16_Step.v
  rw [h]; rfl
end Go.Proofs.Ytlblpegbgbgliaa

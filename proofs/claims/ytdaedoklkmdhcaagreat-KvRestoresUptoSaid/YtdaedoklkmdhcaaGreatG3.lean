/- Printed by gen.py: pure functions and the proofs that the Go functions simulate them. Conditions: as each theorem says. -/
import Derived.Test.YtdaedoklkmdhcaaGreatG2
namespace Go.Proofs.YtdaedoklkmdhcaaGreat
open Go.RowKit
set_option linter.unusedVariables false
set_option linter.unusedSimpArgs false
set_option maxRecDepth 20000
set_option maxHeartbeats 20000000
def kv_Restore.f (k : Nat) (x0 : List UInt8) : Option (Bool × (List ((List UInt8) × (List UInt8))) × (List ((Int) × (Ty91))) × Int) := (wire_NewReader.f x0).bind fun s1v => ((kv_New.f).bind fun s5v => ((kv_reader_pairs_s.f k s1v.1 s1v.2.1 s1v.2.2 (0 : Int) s5v.1 s5v.2).bind fun s12v => ((if (!s12v.1) = true then (some (true, s12v.2.1, s12v.2.2.1, s12v.2.2.2.1, s12v.2.2.2.2.1, s12v.2.2.2.2.2)) else ((kv_reader_clients_s.f k s1v.1 s12v.2.1 s12v.2.2.1 s12v.2.2.2.1 s12v.2.2.2.2.1 s12v.2.2.2.2.2).bind fun s21v => (some (!s21v.1, s21v.2.1, s21v.2.2.1, s21v.2.2.2.1, s21v.2.2.2.2.1, s21v.2.2.2.2.2)))).bind fun s15v => (if s15v.1 = true then (some (false, ([] : List ((List UInt8) × (List UInt8))), ([] : List ((Int) × (Ty91))), s15v.2.2.2.1)) else ((wire_Reader_Done.f s1v.1 s15v.2.1 s15v.2.2.1).bind fun s33v => (if s33v = (0 : Int) then (some (true, s15v.2.2.2.2.1, s15v.2.2.2.2.2, 0)) else (some (false, ([] : List ((List UInt8) × (List UInt8))), ([] : List ((Int) × (Ty91))), s33v))))))))
theorem kv_Restore.calls (W : World) (F : HA) (k : Nat) (a0 : Option Addr) (c0 : Nat) (x0 : List UInt8) (h0 : Rd F a0 (encB x0)) (hc0 : x0.length ≤ c0) (hm0 : c0 ≤ maxLen) :
    Fn Tryz.prog W 10 [.slice a0 x0.length c0] [] F (kv_Restore.f k x0) (fun (r : Bool × (List ((List UInt8) × (List UInt8))) × (List ((Int) × (Ty91))) × Int) (y : Nat × Nat × Nat) => .tuple #[.pointer (optA r.1 y.1), .int .i64 r.2.2.2]) (fun r y => [whenA r.1 [obj y.1 58 [.map (some y.2.1), .map (some y.2.2)], mapO y.2.1 enc9 enc9 r.2.1, mapO y.2.2 enc3 enc69 r.2.2.1]]) := by
 unfold kv_Restore.f
 refine fn_intro 35 Tryz.func10 rfl Tryz.ntmps10 rfl ?_
 refine sr ?_
 refine va rfl rfl ?_
 refine va rfl rfl (nx ?_)
 refine vm rfl rfl ?_
 refine simL_bind (fun s1v hs2v => ?_)
 refine simL_eff (re_call (vs := [.slice a0 x0.length c0]) (cap := []) (A := []) (rst := [F]) rfl rfl rfl rfl rfl rfl Tryz.call30 (.sel 0 rfl (.nil _)) (wire_NewReader.calls _ _ a0 c0 x0 (h0.lend 0 rfl) hc0 hm0) hs2v) rfl rfl rfl ?_
 intro y3v
 refine vq (q_build (v := .agg #[.pointer (some ⟨y3v.1, 0, none⟩), .int .i64 0]) rfl rfl (fun _ => by kernel_rfl)) rfl ?_
 refine simL_eff (re_box rfl rfl rfl) rfl rfl rfl ?_
 intro b4v
 refine va rfl rfl (nx ?_)
 refine simL_bind (fun s5v hs6v => ?_)
 refine simL_eff (re_call (vs := []) (cap := []) (A := []) (rst := [obj b4v 76 [.pointer (some ⟨y3v.1, 0, none⟩), .int .i64 0], obj y3v.1 125 [.slice y3v.2.1 s1v.1.length y3v.2.2, .int .i64 s1v.2.1, .int .i64 s1v.2.2], Row 5 1 y3v.2.1 s1v.1.length y3v.2.2 (encB s1v.1), F]) rfl rfl rfl rfl rfl rfl Tryz.call7 (.sel 0 rfl (.sel 0 rfl (.sel 0 rfl (.sel 0 rfl (.nil _))))) (kv_New.calls _ _  ) hs6v) rfl rfl rfl ?_
 intro y7v
 refine va rfl rfl (simL_nil (nrm_then (sim_seq (sr ?_))))
 refine vm rfl rfl ?_
 refine vm rfl rfl ?_
 refine simL_bind (fun s12v hs13v => ?_)
 refine simL_lend 5 rfl (fun hq8v hq9v hq10v hq11v => ?_)
 refine simL_eff (re_call (vs := [.pointer (some ⟨b4v, 0, none⟩), .pointer (some ⟨y7v.1, 0, none⟩)]) (cap := []) (A := [obj y3v.1 125 [.slice y3v.2.1 s1v.1.length y3v.2.2, .int .i64 s1v.2.1, .int .i64 s1v.2.2], obj b4v 76 [.pointer (some ⟨y3v.1, 0, none⟩), .int .i64 0], obj y7v.1 58 [.map (some y7v.2.1), .map (some y7v.2.2)], mapO y7v.2.1 enc9 enc9 s5v.1, mapO y7v.2.2 enc3 enc69 s5v.2]) (rst := [Row 5 1 y3v.2.1 s1v.1.length y3v.2.2 (encB s1v.1), F]) rfl rfl rfl rfl rfl rfl Tryz.call31 (.sel 4 rfl (.sel 3 rfl (.sel 0 rfl (.sel 0 rfl (.sel 0 rfl (.sel 0 rfl (.sel 0 rfl (.nil _)))))))) (kv_reader_pairs_s.calls _ _ k b4v y3v.1 y3v.2.1 y3v.2.2 s1v.1 s1v.2.1 s1v.2.2 (0 : Int) y7v.1 y7v.2.1 s5v.1 y7v.2.2 s5v.2 (hq8v.lend 0 rfl) hq9v hq10v) hs13v) rfl rfl rfl ?_
 intro y14v
 refine vq (q_not rfl rfl) rfl ?_
 refine vm rfl rfl ?_
 refine simL_cut' 5 (S := Bool × Int × Int × Int × (List ((List UInt8) × (List UInt8))) × (List ((Int) × (Ty91)))) (Nat × Nat) (fun s y => [(4, .pointer (some ⟨b4v, 0, none⟩)), (5, .pointer (some ⟨y7v.1, 0, none⟩)), (21, .bool s.1)]) (fun s y => [obj y3v.1 125 [.slice y3v.2.1 s1v.1.length y3v.2.2, .int .i64 s.2.1, .int .i64 s.2.2.1], obj b4v 76 [.pointer (some ⟨y3v.1, 0, none⟩), .int .i64 s.2.2.2.1], obj y7v.1 58 [.map (some y.1), .map (some y.2)], Row 5 1 y3v.2.1 s1v.1.length y3v.2.2 (encB s1v.1), mapO y.1 enc9 enc9 s.2.2.2.2.1, mapO y.2 enc3 enc69 s.2.2.2.2.2, F]) ?_ ?_
 refine simL_caseb (fun hb24v => ?_) (fun hb25v => ?_)
 rw [hb24v]
 refine simL_skipd rfl rfl rfl rfl rfl rfl ?_
 refine simL_skipd rfl rfl rfl rfl rfl rfl ?_
 refine simL_skipd rfl rfl rfl rfl rfl rfl ?_
 refine simL_skipd rfl rfl rfl rfl rfl rfl ?_
 refine vq (q_pick rfl rfl rfl rfl rfl) rfl (simL_nil ?_)
 exact nrm_cut (s := (true, s12v.2.1, s12v.2.2.1, s12v.2.2.2.1, s12v.2.2.2.2.1, s12v.2.2.2.2.2)) (y14v.1, y14v.2) ⟨rfl, rfl, rfl, trivial⟩ (.sel 0 rfl (.sel 0 rfl (.sel 0 rfl (.sel 2 rfl (.sel 0 rfl (.sel 0 rfl (.sel 0 rfl (.nil _))))))))
 rw [hb25v]
 refine simL_valg (q_move rfl rfl) rfl rfl rfl rfl rfl rfl ?_
 refine simL_valg (q_move rfl rfl) rfl rfl rfl rfl rfl rfl ?_
 refine simL_bind (fun s21v hs22v => ?_)
 refine simL_lend 5 rfl (fun hq17v hq18v hq19v hq20v => ?_)
 refine simL_effg (re_call (vs := [.pointer (some ⟨b4v, 0, none⟩), .pointer (some ⟨y7v.1, 0, none⟩)]) (cap := []) (A := [obj y3v.1 125 [.slice y3v.2.1 s1v.1.length y3v.2.2, .int .i64 s12v.2.1, .int .i64 s12v.2.2.1], obj b4v 76 [.pointer (some ⟨y3v.1, 0, none⟩), .int .i64 s12v.2.2.2.1], obj y7v.1 58 [.map (some y14v.1), .map (some y14v.2)], mapO y14v.1 enc9 enc9 s12v.2.2.2.2.1, mapO y14v.2 enc3 enc69 s12v.2.2.2.2.2]) (rst := [Row 5 1 y3v.2.1 s1v.1.length y3v.2.2 (encB s1v.1), F]) rfl rfl rfl rfl rfl rfl Tryz.call32 (.sel 0 rfl (.sel 0 rfl (.sel 0 rfl (.sel 0 rfl (.sel 0 rfl (.sel 0 rfl (.sel 0 rfl (.nil _)))))))) (kv_reader_clients_s.calls _ _ k b4v y3v.1 y3v.2.1 y3v.2.2 s1v.1 s12v.2.1 s12v.2.2.1 s12v.2.2.2.1 y7v.1 y14v.1 s12v.2.2.2.2.1 y14v.2 s12v.2.2.2.2.2 (hq17v.lend 0 rfl) hq18v hq19v) hs22v) rfl rfl rfl rfl rfl rfl ?_
 intro y23v
 refine simL_valg (q_not rfl rfl) rfl rfl rfl rfl rfl rfl ?_
 refine vq (q_pick rfl rfl rfl rfl rfl) rfl (simL_nil ?_)
 exact nrm_cut (s := (!s21v.1, s21v.2.1, s21v.2.2.1, s21v.2.2.2.1, s21v.2.2.2.2.1, s21v.2.2.2.2.2)) (y23v.1, y23v.2) ⟨rfl, rfl, rfl, trivial⟩ (.sel 0 rfl (.sel 0 rfl (.sel 0 rfl (.sel 2 rfl (.sel 0 rfl (.sel 0 rfl (.sel 0 rfl (.nil _))))))))
 intro s15v y16v
 refine simL_nil (nrm_then ?_)
 refine sim_condb rfl (fun h26v => ?_) (fun h27v => ?_)
 refine sim_seq ?_
 refine sim_draw (Γ := Unit) () [[], [0], [0, 1], [0, 1, 2], [], rL 5] [] [0, 1, 2, 3, 4, 5] (fun i => [[0], [0], [0], [0], [0], [0]].getD i []) (fun i => [[], [], [], [], [], []].getD i []) (fun γ i => [.pointer (some ⟨b4v, 0, none⟩), .pointer (some ⟨b4v, 0, none⟩), .pointer (some ⟨b4v, 1, none⟩), .int .i64 s15v.2.2.2.1, .pointer none, .int .i64 s15v.2.2.2.1].getD i undef) (fun j γ => [[obj y3v.1 125 [.slice y3v.2.1 s1v.1.length y3v.2.2, .int .i64 s15v.2.1, .int .i64 s15v.2.2.1], obj b4v 76 [.pointer (some ⟨y3v.1, 0, none⟩), .int .i64 s15v.2.2.2.1], obj y7v.1 58 [.map (some y16v.1), .map (some y16v.2)], Row 5 1 y3v.2.1 s1v.1.length y3v.2.2 (encB s1v.1), mapO y16v.1 enc9 enc9 s15v.2.2.2.2.1, mapO y16v.2 enc3 enc69 s15v.2.2.2.2.2, F]].getD j []) (fun γ => [(2, .pointer none), (3, .int .i64 s15v.2.2.2.1)]) mixed (by decide) (by decide) (by decide) (by decide) (by decide) (by decide) (by decide) 35 rfl (by decide) (by decide) (by decide) (Ent.refl _) ?_ ?_ (fun _ => ⟨rfl, rfl, trivial⟩) ?_
 exact (aq rfl (fun γ => qm rfl (.o (s := 4) rfl (by decide) .nil) rfl) (aq rfl (fun γ => qp rfl rfl (.v 0 rfl rfl .nil) (q_nil rfl rfl) rfl) (aq rfl (fun γ => qp rfl rfl (.v 1 rfl rfl .nil) (q_fa rfl rfl Tryz.underlying76 rfl rfl Tryz.sizeOf31 rfl) rfl) (aq rfl (fun γ => qp rfl rfl (.v 2 rfl rfl .nil) (q_load rfl rfl Tryz.isAgg31 (.obj 1 rfl rfl)) rfl) (aq rfl (fun γ => qp rfl rfl .nil (q_asg rfl rfl) rfl) (aq rfl (fun γ => qp rfl rfl (.v 3 rfl rfl .nil) (q_asg rfl rfl) rfl) zA))))))
 exact zA
 intro g28v
 refine nrm_then (sim_rtn ?_)
 refine rtn_then ?_
 exact rtn_fn (0, 0, 0) rfl rfl rfl (.when_no rfl (.sel 6 rfl (.nil _)))
 refine sim_skip ?_
 refine nrm_then (sim_seq (sr ?_))
 refine vm rfl rfl ?_
 refine vn rfl rfl ?_
 refine vq (q_fa rfl rfl Tryz.underlying76 rfl rfl Tryz.sizeOf73 rfl) rfl ?_
 refine vq (q_load rfl rfl Tryz.isAgg73 (.obj 1 rfl rfl)) rfl ?_
 refine simL_bind (fun s33v hs34v => ?_)
 refine simL_lend 3 rfl (fun hq29v hq30v hq31v hq32v => ?_)
 refine simL_eff (re_call (vs := [.pointer (some ⟨y3v.1, 0, none⟩)]) (cap := []) (A := [obj y3v.1 125 [.slice y3v.2.1 s1v.1.length y3v.2.2, .int .i64 s15v.2.1, .int .i64 s15v.2.2.1]]) (rst := [obj b4v 76 [.pointer (some ⟨y3v.1, 0, none⟩), .int .i64 s15v.2.2.2.1], obj y7v.1 58 [.map (some y16v.1), .map (some y16v.2)], Row 5 1 y3v.2.1 s1v.1.length y3v.2.2 (encB s1v.1), mapO y16v.1 enc9 enc9 s15v.2.2.2.2.1, mapO y16v.2 enc3 enc69 s15v.2.2.2.2.2, F]) rfl rfl rfl rfl rfl rfl Tryz.call33 (.sel 0 rfl (.sel 0 rfl (.sel 0 rfl (.sel 0 rfl (.sel 0 rfl (.sel 0 rfl (.sel 0 rfl (.nil _)))))))) (wire_Reader_Done.calls _ _ y3v.1 y3v.2.1 y3v.2.2 s1v.1 s15v.2.1 s15v.2.2.1 (hq29v.lend 2 rfl) hq30v hq31v) hs34v) rfl rfl rfl ?_
 intro y35v
 refine va rfl rfl (nx ?_)
 refine vm rfl rfl ?_
 refine vq (q_neq rfl rfl rfl) rfl (simL_nil (nrm_then ?_))
 refine sim_condn rfl (fun h36v => ?_) (fun h37v => ?_)
 refine sim_skip ?_
 refine nrm_then (sr ?_)
 refine vm rfl rfl ?_
 refine va rfl rfl ?_
 refine va rfl rfl (simL_nil (nrm_then (sim_rtn ?_)))
 exact rtn_fn (y7v.1, y16v.1, y16v.2) rfl rfl rfl (.when_yes rfl (.sel 2 rfl (.sel 3 rfl (.sel 3 rfl (.sel 3 rfl (.nil _))))))
 refine sr ?_
 refine vm rfl rfl ?_
 refine va rfl rfl ?_
 refine va rfl rfl (simL_nil (nrm_then (sim_rtn ?_)))
 refine rtn_then ?_
 exact rtn_fn (0, 0, 0) rfl rfl rfl (.when_no rfl (.sel 6 rfl (.nil _)))
theorem kv_Restore.callsT (W : World) (F : HA) (k : Nat) (a0 : Option Addr) (c0 : Nat) (x0 : List UInt8) (h0 : Rd F a0 (encB x0)) (hc0 : x0.length ≤ c0) (hm0 : c0 ≤ maxLen) :
    Fn Tryz.prog W 10 [.slice a0 x0.length c0] [] F ((kv_Restore.f k x0).filter fun (r : Bool × (List ((List UInt8) × (List UInt8))) × (List ((Int) × (Ty91))) × Int) => r.1 == true) (fun (r : Bool × (List ((List UInt8) × (List UInt8))) × (List ((Int) × (Ty91))) × Int) (y : Nat × Nat × Nat) => .tuple #[.pointer (some ⟨y.1, 0, none⟩), .int .i64 r.2.2.2]) (fun r y => [obj y.1 58 [.map (some y.2.1), .map (some y.2.2)], mapO y.2.1 enc9 enc9 r.2.1, mapO y.2.2 enc3 enc69 r.2.2.1]) :=
  Fn.when (kv_Restore.calls W F k a0 c0 x0 h0 hc0 hm0) _ true (fun r y h => by simp only [h]; rfl) (fun r y h => (Ent.when_yo h _))
theorem kv_Restore.callsN (W : World) (F : HA) (k : Nat) (a0 : Option Addr) (c0 : Nat) (x0 : List UInt8) (h0 : Rd F a0 (encB x0)) (hc0 : x0.length ≤ c0) (hm0 : c0 ≤ maxLen) :
    Fn Tryz.prog W 10 [.slice a0 x0.length c0] [] F ((kv_Restore.f k x0).filter fun (r : Bool × (List ((List UInt8) × (List UInt8))) × (List ((Int) × (Ty91))) × Int) => r.1 == false) (fun (r : Bool × (List ((List UInt8) × (List UInt8))) × (List ((Int) × (Ty91))) × Int) (y : Nat × Nat × Nat) => .tuple #[.pointer none, .int .i64 r.2.2.2]) (fun r y => []) :=
  Fn.when (kv_Restore.calls W F k a0 c0 x0 h0 hc0 hm0) _ false (fun r y h => by simp only [h]; rfl) (fun r y h => (Ent.when_no_ h _))

def synodref1_Int.l1 (x0 : List UInt8) (x1 : Int) : Nat → Int → Int → Option (Int)
  | 0, _, _ => none
  | k + 1, z42v, z43v => if (0 : Int) ≤ z43v then (if 0 ≤ IntKind.i64.wrap (x1 + z43v) ∧ IntKind.i64.wrap (x1 + z43v) < (x0.length : Int) then (synodref1_Int.l1 x0 x1 k (IntKind.i64.wrap ((IntKind.i64.wrap (z42v * 128)) + (Int.tmod (IntKind.i64.wrap ((x0.getD (IntKind.i64.wrap (x1 + z43v)).toNat 0).toNat : Int)) 128))) (IntKind.i64.wrap (z43v - 1))) else none) else (some z42v)
def synodref1_Int.l0 (x0 : List UInt8) (x1 : Int) : Nat → Int → Option (Int)
  | 0, _ => none
  | k + 1, z7v => (if ((decide (z7v < (9 : Int))) && (decide (IntKind.i64.wrap (x1 + z7v) < (x0.length : Int)))) = true then (if 0 ≤ IntKind.i64.wrap (x1 + z7v) ∧ IntKind.i64.wrap (x1 + z7v) < (x0.length : Int) then (some (decide ((128 : Int) ≤ ((x0.getD (IntKind.i64.wrap (x1 + z7v)).toNat 0).toNat : Int)))) else none) else (some false)).bind fun s8v => (if s8v = true then (synodref1_Int.l0 x0 x1 k (IntKind.i64.wrap (z7v + 1))) else (some z7v))
def synodref1_Int.f (k : Nat) (x0 : List UInt8) (x1 : Int) : Option (Int × Int × Int) := if ((decide (x1 < (0 : Int))) || (decide ((x0.length : Int) ≤ x1))) = true then (some (0, 0, 2)) else ((synodref1_Int.l0 x0 x1 k 0).bind fun s3v => (if s3v = (9 : Int) then (some (0, 0, 4)) else (if (x0.length : Int) ≤ IntKind.i64.wrap (x1 + s3v) then (some (0, 0, 2)) else ((if (0 : Int) < s3v then (if 0 ≤ IntKind.i64.wrap (x1 + s3v) ∧ IntKind.i64.wrap (x1 + s3v) < (x0.length : Int) then (some (decide (((x0.getD (IntKind.i64.wrap (x1 + s3v)).toNat 0).toNat : Int) = (0 : Int)))) else none) else (some false)).bind fun s28v => (if s28v = true then (some (0, 0, 4)) else ((synodref1_Int.l1 x0 x1 k 0 s3v).bind fun s38v => (if (4611686018427387904 : Int) < s38v then (some (0, 0, 1)) else (some (s38v, IntKind.i64.wrap (s3v + 1), 0)))))))))
theorem synodref1_Int.calls (W : World) (F : HA) (k : Nat) (a0 : Option Addr) (c0 : Nat) (x0 : List UInt8) (x1 : Int) (h0 : Rd F a0 (encB x0)) (hc0 : x0.length ≤ c0) (hm0 : c0 ≤ maxLen) :
    Fn Tryz.prog W 75 [.slice a0 x0.length c0, .int .i64 x1] [] F (synodref1_Int.f k x0 x1) (fun (r : Int × Int × Int) (y : Unit) => .tuple #[.int .i64 r.1, .int .i64 r.2.1, .int .i64 r.2.2]) (fun r y => []) := by
 unfold synodref1_Int.f
 refine fn_intro 79 Tryz.func75 rfl Tryz.ntmps75 rfl ?_
 refine sr ?_
 refine va rfl rfl ?_
 refine va rfl rfl ?_
 refine va rfl rfl (simL_nil (nrm_then (sim_seq (sr ?_))))
 refine vm rfl rfl ?_
 refine vq (q_lss rfl rfl rfl) rfl ?_
 refine vm rfl rfl ?_
 refine simL_valc (b := decide (x1 < (0 : Int))) (fun hb56v => RQ.sub (E' := [(1, .int .i64 x1)]) ⟨rfl, trivial⟩ (q_move rfl rfl)) rfl rfl rfl rfl rfl ?_
 refine simL_valc (b := decide (x1 < (0 : Int))) (fun hb55v => RQ.sub (E' := [(0, .slice a0 x0.length c0)]) ⟨rfl, trivial⟩ (q_move rfl rfl)) rfl rfl rfl rfl rfl ?_
 refine simL_valc (b := decide (x1 < (0 : Int))) (fun hb54v => RQ.sub (E' := [(14, .slice a0 x0.length c0)]) ⟨lk_cv rfl hb54v, trivial⟩ (q_len rfl rfl rfl Tryz.underlying23)) rfl rfl rfl rfl rfl ?_
 refine simL_valc (b := decide (x1 < (0 : Int))) (fun hb53v => RQ.sub (E' := [(13, .int .i64 x1), (15, .int .i64 (x0.length : Int))]) ⟨lk_cv rfl hb53v, lk_cv rfl hb53v, trivial⟩ (q_geq rfl rfl rfl)) rfl rfl rfl rfl rfl ?_
 refine vq (q_or rfl rfl rfl) rfl (simL_nil (nrm_then ?_))
 refine sim_condb rfl (fun h1v => ?_) (fun h2v => ?_)
 refine sr ?_
 refine va rfl rfl ?_
 refine va rfl rfl ?_
 refine va rfl rfl (simL_nil (nrm_then (sim_rtn ?_)))
 refine rtn_then ?_
 exact rtn_fn () rfl rfl rfl (.sel 0 rfl (.nil _))
 refine sim_skip ?_
 refine nrm_then (sr ?_)
 refine va rfl rfl (simL_nil (nrm_then ?_))
 refine sim_cut (S := Int) (Unit) (fun s y => [(0, .slice a0 x0.length c0), (1, .int .i64 x1), (7, .int .i64 s)]) (fun s y => [F]) ?_ ?_
 refine sim_block ?_
 refine sim_loop (S := Int) (Unit) (fun k s => synodref1_Int.l0 x0 x1 k s) (fun s y => [(0, .slice a0 x0.length c0), (1, .int .i64 x1), (7, .int .i64 s)]) (fun s y => [F]) (fun _ => by rw [synodref1_Int.l0]) ?_ k 0 () ⟨rfl, rfl, rfl, trivial⟩ (.sel 0 rfl (.nil _))
 intro k s5v y6v
 refine sim_eq (by rw [synodref1_Int.l0]) ?_
 refine sim_seq (sr ?_)
 refine vm rfl rfl ?_
 refine vq (q_lss rfl rfl rfl) rfl ?_
 refine vm rfl rfl ?_
 refine simL_valc (b := decide (s5v < (9 : Int))) (fun hb23v => RQ.sub (E' := [(1, .int .i64 x1)]) ⟨rfl, trivial⟩ (q_move rfl rfl)) rfl rfl rfl rfl rfl ?_
 refine simL_valc (b := decide (s5v < (9 : Int))) (fun hb22v => RQ.sub (E' := [(7, .int .i64 s5v)]) ⟨rfl, trivial⟩ (q_move rfl rfl)) rfl rfl rfl rfl rfl ?_
 refine simL_valc (b := decide (s5v < (9 : Int))) (fun hb21v => RQ.sub (E' := [(21, .int .i64 x1), (22, .int .i64 s5v)]) ⟨lk_cv rfl hb21v, lk_cv rfl hb21v, trivial⟩ (q_add rfl rfl rfl)) rfl rfl rfl rfl rfl ?_
 refine simL_valc (b := decide (s5v < (9 : Int))) (fun hb20v => RQ.sub (E' := [(0, .slice a0 x0.length c0)]) ⟨rfl, trivial⟩ (q_move rfl rfl)) rfl rfl rfl rfl rfl ?_
 refine simL_valc (b := decide (s5v < (9 : Int))) (fun hb19v => RQ.sub (E' := [(24, .slice a0 x0.length c0)]) ⟨lk_cv rfl hb19v, trivial⟩ (q_len rfl rfl rfl Tryz.underlying23)) rfl rfl rfl rfl rfl ?_
 refine simL_valc (b := decide (s5v < (9 : Int))) (fun hb18v => RQ.sub (E' := [(23, .int .i64 (IntKind.i64.wrap (x1 + s5v))), (25, .int .i64 (x0.length : Int))]) ⟨lk_cv rfl hb18v, lk_cv rfl hb18v, trivial⟩ (q_lss rfl rfl rfl)) rfl rfl rfl rfl rfl ?_
 refine vq (q_and rfl rfl rfl) rfl ?_
 refine vm rfl rfl ?_
 refine simL_cut' 8 (S := Bool) (Unit) (fun s y => [(0, .slice a0 x0.length c0), (1, .int .i64 x1), (7, .int .i64 s5v), (36, .bool s)]) (fun s y => [F]) ?_ ?_
 refine simL_caseb (fun hb14v => ?_) (fun hb15v => ?_)
 rw [hb14v]
 refine simL_valg (q_move rfl rfl) rfl rfl rfl rfl rfl rfl ?_
 refine simL_valg (q_move rfl rfl) rfl rfl rfl rfl rfl rfl ?_
 refine simL_valg (q_move rfl rfl) rfl rfl rfl rfl rfl rfl ?_
 refine simL_valg (q_add rfl rfl rfl) rfl rfl rfl rfl rfl rfl ?_
 refine simL_ask (fun hi10v => ?_)
 obtain ⟨b11v, b11vo, ha12v⟩ := h0.pos (encB_ne (j := (IntKind.i64.wrap (x1 + s5v)).toNat) (by omega))
 refine simL_valg (q_idx1 rfl rfl rfl ha12v Tryz.underlying23 Tryz.sizeOf5 hi10v.1 hi10v.2) rfl rfl rfl rfl rfl rfl ?_
 refine simL_valg (q_load rfl rfl Tryz.isAgg5 (h0.cell 0 rfl ha12v (encB_get (by omega)))) rfl rfl rfl rfl rfl rfl ?_
 refine simL_valg (q_geq rfl rfl rfl) rfl rfl rfl rfl rfl rfl ?_
 refine vq (q_pick rfl rfl rfl rfl rfl) rfl (simL_nil ?_)
 exact nrm_cut (s := decide ((128 : Int) ≤ ((x0.getD (IntKind.i64.wrap (x1 + s5v)).toNat 0).toNat : Int))) () ⟨rfl, rfl, rfl, rfl, trivial⟩ (.sel 0 rfl (.nil _))
 rw [hb15v]
 refine simL_skipd rfl rfl rfl rfl rfl rfl ?_
 refine simL_skipd rfl rfl rfl rfl rfl rfl ?_
 refine simL_skipd rfl rfl rfl rfl rfl rfl ?_
 refine simL_skipd rfl rfl rfl rfl rfl rfl ?_
 refine simL_skipd rfl rfl rfl rfl rfl rfl ?_
 refine simL_skipd rfl rfl rfl rfl rfl rfl ?_
 refine simL_skipd rfl rfl rfl rfl rfl rfl ?_
 refine vq (q_pick rfl rfl rfl rfl rfl) rfl (simL_nil ?_)
 exact nrm_cut (s := false) () ⟨rfl, rfl, rfl, rfl, trivial⟩ (.sel 0 rfl (.nil _))
 intro s8v y9v
 refine simL_nil (nrm_then ?_)
 refine sim_condb rfl (fun h16v => ?_) (fun h17v => ?_)
 refine sim_skip ?_
 refine nrm_then ?_
 refine sim_block ?_
 refine sim_region ?_
 refine vm rfl rfl ?_
 refine vq (q_add rfl rfl rfl) rfl ?_
 refine va rfl rfl (simL_nil (nrm_block ?_))
 exact nrm_again (s := IntKind.i64.wrap (s5v + 1)) () ⟨rfl, rfl, rfl, trivial⟩ (.sel 0 rfl (.nil _))
 refine sim_exi ?_
 refine exi_then ?_
 refine exi_loop ?_
 refine exi_here ?_
 exact nrm_cut (s := s5v) () ⟨rfl, rfl, rfl, trivial⟩ (.sel 0 rfl (.nil _))
 intro s3v y4v
 refine sim_seq (sr ?_)
 refine vm rfl rfl ?_
 refine vq (q_eql rfl rfl rfl) rfl (simL_nil (nrm_then ?_))
 refine sim_cond rfl (fun h24v => ?_) (fun h25v => ?_)
 refine sr ?_
 refine va rfl rfl ?_
 refine va rfl rfl ?_
 refine va rfl rfl (simL_nil (nrm_then (sim_rtn ?_)))
 refine rtn_then ?_
 exact rtn_fn () rfl rfl rfl (.sel 0 rfl (.nil _))
 refine sim_skip ?_
 refine nrm_then (sim_seq (sr ?_))
 refine vm rfl rfl ?_
 refine vm rfl rfl ?_
 refine vq (q_add rfl rfl rfl) rfl ?_
 refine vm rfl rfl ?_
 refine vq (q_len rfl rfl rfl Tryz.underlying23) rfl ?_
 refine vq (q_geq rfl rfl rfl) rfl (simL_nil (nrm_then ?_))
 refine sim_cond rfl (fun h26v => ?_) (fun h27v => ?_)
 refine sr ?_
 refine va rfl rfl ?_
 refine va rfl rfl ?_
 refine va rfl rfl (simL_nil (nrm_then (sim_rtn ?_)))
 refine rtn_then ?_
 exact rtn_fn () rfl rfl rfl (.sel 0 rfl (.nil _))
 refine sim_skip ?_
 refine nrm_then (sim_seq (sr ?_))
 refine vm rfl rfl ?_
 refine vq (q_gtr rfl rfl rfl) rfl ?_
 refine vm rfl rfl ?_
 refine simL_cut' 8 (S := Bool) (Unit) (fun s y => [(0, .slice a0 x0.length c0), (1, .int .i64 x1), (7, .int .i64 s3v), (57, .bool s)]) (fun s y => [F]) ?_ ?_
 refine simL_casep (fun hb34v => ?_) (fun hb35v => ?_)
 rw [hb34v]
 refine simL_valg (q_move rfl rfl) rfl rfl rfl rfl rfl rfl ?_
 refine simL_valg (q_move rfl rfl) rfl rfl rfl rfl rfl rfl ?_
 refine simL_valg (q_move rfl rfl) rfl rfl rfl rfl rfl rfl ?_
 refine simL_valg (q_add rfl rfl rfl) rfl rfl rfl rfl rfl rfl ?_
 refine simL_ask (fun hi30v => ?_)
 obtain ⟨b31v, b31vo, ha32v⟩ := h0.pos (encB_ne (j := (IntKind.i64.wrap (x1 + s3v)).toNat) (by omega))
 refine simL_valg (q_idx1 rfl rfl rfl ha32v Tryz.underlying23 Tryz.sizeOf5 hi30v.1 hi30v.2) rfl rfl rfl rfl rfl rfl ?_
 refine simL_valg (q_load rfl rfl Tryz.isAgg5 (h0.cell 0 rfl ha32v (encB_get (by omega)))) rfl rfl rfl rfl rfl rfl ?_
 refine simL_valg (q_eql rfl rfl rfl) rfl rfl rfl rfl rfl rfl ?_
 refine vq (q_pick rfl rfl rfl rfl rfl) rfl (simL_nil ?_)
 exact nrm_cut (s := decide (((x0.getD (IntKind.i64.wrap (x1 + s3v)).toNat 0).toNat : Int) = (0 : Int))) () ⟨rfl, rfl, rfl, rfl, trivial⟩ (.sel 0 rfl (.nil _))
 rw [hb35v]
 refine simL_skipd rfl rfl rfl rfl rfl rfl ?_
 refine simL_skipd rfl rfl rfl rfl rfl rfl ?_
 refine simL_skipd rfl rfl rfl rfl rfl rfl ?_
 refine simL_skipd rfl rfl rfl rfl rfl rfl ?_
 refine simL_skipd rfl rfl rfl rfl rfl rfl ?_
 refine simL_skipd rfl rfl rfl rfl rfl rfl ?_
 refine simL_skipd rfl rfl rfl rfl rfl rfl ?_
 refine vq (q_pick rfl rfl rfl rfl rfl) rfl (simL_nil ?_)
 exact nrm_cut (s := false) () ⟨rfl, rfl, rfl, rfl, trivial⟩ (.sel 0 rfl (.nil _))
 intro s28v y29v
 refine simL_nil (nrm_then ?_)
 refine sim_condb rfl (fun h36v => ?_) (fun h37v => ?_)
 refine sr ?_
 refine va rfl rfl ?_
 refine va rfl rfl ?_
 refine va rfl rfl (simL_nil (nrm_then (sim_rtn ?_)))
 refine rtn_then ?_
 exact rtn_fn () rfl rfl rfl (.sel 0 rfl (.nil _))
 refine sim_skip ?_
 refine nrm_then (sr ?_)
 refine va rfl rfl (simL_nil (nrm_then ?_))
 refine sim_cut (S := Int) (Unit) (fun s y => [(7, .int .i64 s3v), (8, .int .i64 s)]) (fun s y => [F]) ?_ ?_
 refine sr ?_
 refine vm rfl rfl ?_
 refine va rfl rfl (simL_nil (nrm_then ?_))
 refine sim_block ?_
 refine sim_loop (S := Int × Int) (Unit) (fun k s => synodref1_Int.l1 x0 x1 k s.1 s.2) (fun s y => [(0, .slice a0 x0.length c0), (1, .int .i64 x1), (7, .int .i64 s3v), (8, .int .i64 s.1), (9, .int .i64 s.2)]) (fun s y => [F]) (fun _ => by rw [synodref1_Int.l1]) ?_ k (0, s3v) () ⟨rfl, rfl, rfl, rfl, rfl, trivial⟩ (.sel 0 rfl (.nil _))
 intro k s40v y41v
 refine sim_eq (by rw [synodref1_Int.l1]) ?_
 refine sim_seq (sr ?_)
 refine vm rfl rfl ?_
 refine vq (q_geq rfl rfl rfl) rfl (simL_nil (nrm_then ?_))
 refine sim_cond rfl (fun h44v => ?_) (fun h45v => ?_)
 refine sim_skip ?_
 refine nrm_then (sim_seq ?_)
 refine sim_block ?_
 refine sim_region ?_
 refine vm rfl rfl ?_
 refine vq (q_mul rfl rfl rfl) rfl ?_
 refine vm rfl rfl ?_
 refine vm rfl rfl ?_
 refine vm rfl rfl ?_
 refine vq (q_add rfl rfl rfl) rfl ?_
 refine simL_ask (fun hi46v => ?_)
 obtain ⟨b47v, b47vo, ha48v⟩ := h0.pos (encB_ne (j := (IntKind.i64.wrap (x1 + s40v.2)).toNat) (by omega))
 refine vq (q_idx1 rfl rfl rfl ha48v Tryz.underlying23 Tryz.sizeOf5 hi46v.1 hi46v.2) rfl ?_
 refine vq (q_load rfl rfl Tryz.isAgg5 (h0.cell 0 rfl ha48v (encB_get (by omega)))) rfl ?_
 refine vq (q_conv rfl rfl Tryz.underlying5 Tryz.underlying3) rfl ?_
 refine vq (q_rem rfl rfl rfl (by decide)) rfl ?_
 refine vq (q_add rfl rfl rfl) rfl ?_
 refine va rfl rfl (simL_nil (nrm_block (nrm_then (sim_region ?_))))
 refine vm rfl rfl ?_
 refine vq (q_sub rfl rfl rfl) rfl ?_
 refine va rfl rfl (simL_nil ?_)
 exact nrm_again (s := (IntKind.i64.wrap ((IntKind.i64.wrap (s40v.1 * 128)) + (Int.tmod (IntKind.i64.wrap ((x0.getD (IntKind.i64.wrap (x1 + s40v.2)).toNat 0).toNat : Int)) 128)), IntKind.i64.wrap (s40v.2 - 1))) () ⟨rfl, rfl, rfl, rfl, rfl, trivial⟩ (.sel 0 rfl (.nil _))
 refine sim_exi ?_
 refine exi_then ?_
 refine exi_loop ?_
 refine exi_here ?_
 exact nrm_cut (s := s40v.1) () ⟨rfl, rfl, trivial⟩ (.sel 0 rfl (.nil _))
 intro s38v y39v
 refine sim_seq (sr ?_)
 refine vm rfl rfl ?_
 refine vq (q_gtr rfl rfl rfl) rfl (simL_nil (nrm_then ?_))
 refine sim_cond rfl (fun h51v => ?_) (fun h52v => ?_)
 refine sr ?_
 refine va rfl rfl ?_
 refine va rfl rfl ?_
 refine va rfl rfl (simL_nil (nrm_then (sim_rtn ?_)))
 refine rtn_then ?_
 exact rtn_fn () rfl rfl rfl (.sel 0 rfl (.nil _))
 refine sim_skip ?_
 refine nrm_then (sr ?_)
 refine vm rfl rfl ?_
 refine vm rfl rfl ?_
 refine vq (q_add rfl rfl rfl) rfl ?_
 refine va rfl rfl ?_
 refine va rfl rfl ?_
 refine va rfl rfl (simL_nil (nrm_then (sim_rtn ?_)))
 exact rtn_fn () rfl rfl rfl (.sel 0 rfl (.nil _))

def synodref1_Reader_Int.f (k : Nat) (x0_0 : List UInt8) (x0_1 : Int) (x0_2 : Int) : Option (Int × Int × Int) := if x0_2 = (0 : Int) then ((synodref1_Int.f k x0_0 x0_1).bind fun s3v => (some (s3v.1, IntKind.i64.wrap (x0_1 + s3v.2.1), s3v.2.2))) else (some (0, x0_1, x0_2))
theorem synodref1_Reader_Int.calls (W : World) (F : HA) (k : Nat) (b0 : Nat) (a0_0 : Option Addr) (c0_0 : Nat) (x0_0 : List UInt8) (x0_1 : Int) (x0_2 : Int) (h0_0 : Rd F a0_0 (encB x0_0)) (hc0_0 : x0_0.length ≤ c0_0) (hm0_0 : c0_0 ≤ maxLen) :
    Fn Tryz.prog W 38 [.pointer (some ⟨b0, 0, none⟩)] [obj b0 81 [.slice a0_0 x0_0.length c0_0, .int .i64 x0_1, .int .i64 x0_2]] F (synodref1_Reader_Int.f k x0_0 x0_1 x0_2) (fun (r : Int × Int × Int) (y : Unit) => .int .i64 r.1) (fun r y => [obj b0 81 [.slice a0_0 x0_0.length c0_0, .int .i64 r.2.1, .int .i64 r.2.2]]) := by
 unfold synodref1_Reader_Int.f
 refine fn_intro 38 Tryz.func38 rfl Tryz.ntmps38 rfl ?_
 refine sr ?_
 refine va rfl rfl (simL_nil (nrm_then (sim_seq (sr ?_))))
 refine vm rfl rfl ?_
 refine vn rfl rfl ?_
 refine vq (q_fa rfl rfl Tryz.underlying81 rfl rfl Tryz.sizeOf3 rfl) rfl ?_
 refine vq (q_load rfl rfl Tryz.isAgg3 (.obj 0 rfl rfl)) rfl ?_
 refine vq (q_neq rfl rfl rfl) rfl (simL_nil (nrm_then ?_))
 refine sim_condn rfl (fun h1v => ?_) (fun h2v => ?_)
 refine sim_skip ?_
 refine nrm_then (sim_seq ?_)
 refine sim_bind (fun s3v hs4v => ?_)
 refine sim_draw (Γ := Unit) () [[], [0], [0, 1], [0, 1, 2], [], [4], [4, 5], [4, 5, 6], rL 8, rL 9, rL 10, rL 10, rL 10, rL 11, [0, 1, 2, 3, 4, 5, 6, 7, 8, 9, 10, 11, 13], rL 15] [8] [0, 1, 2, 3, 4, 5, 6, 7, 9, 10, 11, 12, 13, 14, 15] (fun i => [[0], [0], [0], [0], [0], [0], [0], [0], [], [1], [1], [1], [1], [1], [1], [1]].getD i []) (fun i => [[], [], [], [], [], [], [], [], rL 8, [], [], [], [], [], [], []].getD i []) (fun γ i => [.pointer (some ⟨b0, 0, none⟩), .pointer (some ⟨b0, 0, none⟩), .pointer (some ⟨b0, 0, none⟩), .slice a0_0 x0_0.length c0_0, .pointer (some ⟨b0, 0, none⟩), .pointer (some ⟨b0, 0, none⟩), .pointer (some ⟨b0, 1, none⟩), .int .i64 x0_1, .tuple #[.int .i64 s3v.1, .int .i64 s3v.2.1, .int .i64 s3v.2.2], .tuple #[.int .i64 s3v.1, .int .i64 s3v.2.1, .int .i64 s3v.2.2], .int .i64 s3v.1, .int .i64 s3v.2.1, .int .i64 s3v.2.2, .int .i64 s3v.1, .int .i64 s3v.2.1, .int .i64 s3v.2.2].getD i undef) (fun j γ => [[obj b0 81 [.slice a0_0 x0_0.length c0_0, .int .i64 x0_1, .int .i64 x0_2], F], [obj b0 81 [.slice a0_0 x0_0.length c0_0, .int .i64 x0_1, .int .i64 x0_2], F]].getD j []) (fun γ => [(0, .pointer (some ⟨b0, 0, none⟩)), (3, .int .i64 s3v.1), (4, .int .i64 s3v.2.1), (5, .int .i64 s3v.2.2)]) mixed (by decide) (by decide) (by decide) (by decide) (by decide) (by decide) (by decide) 38 rfl (by decide) (by decide) (by decide) (Ent.refl _) ?_ ?_ (fun _ => ⟨rfl, rfl, rfl, rfl, trivial⟩) ?_
 exact (aq rfl (fun γ => qm rfl (.o (s := 0) rfl (by decide) .nil) rfl) (aq rfl (fun γ => qp rfl rfl (.v 0 rfl rfl .nil) (q_nil rfl rfl) rfl) (aq rfl (fun γ => qp rfl rfl (.v 1 rfl rfl .nil) (q_fa rfl rfl Tryz.underlying81 rfl rfl Tryz.sizeOf23 rfl) rfl) (aq rfl (fun γ => qp rfl rfl (.v 2 rfl rfl .nil) (q_load rfl rfl Tryz.isAgg23 (.obj 0 rfl rfl)) rfl) (aq rfl (fun γ => qm rfl (.o (s := 0) rfl (by decide) .nil) rfl) (aq rfl (fun γ => qp rfl rfl (.v 4 rfl rfl .nil) (q_nil rfl rfl) rfl) (aq rfl (fun γ => qp rfl rfl (.v 5 rfl rfl .nil) (q_fa rfl rfl Tryz.underlying81 rfl rfl Tryz.sizeOf3 rfl) rfl) (aq rfl (fun γ => qp rfl rfl (.v 6 rfl rfl .nil) (q_load rfl rfl Tryz.isAgg3 (.obj 0 rfl rfl)) rfl) (aq rfl (fun γ => qm rfl (.v 8 rfl rfl .nil) rfl) (aq rfl (fun γ => qp rfl rfl (.v 9 rfl rfl .nil) (q_ext rfl rfl rfl) rfl) (aq rfl (fun γ => qp rfl rfl (.v 9 rfl rfl .nil) (q_ext rfl rfl rfl) rfl) (aq rfl (fun γ => qp rfl rfl (.v 9 rfl rfl .nil) (q_ext rfl rfl rfl) rfl) (aq rfl (fun γ => qp rfl rfl (.v 10 rfl rfl .nil) (q_asg rfl rfl) rfl) (aq rfl (fun γ => qp rfl rfl (.v 11 rfl rfl .nil) (q_asg rfl rfl) rfl) (aq rfl (fun γ => qp rfl rfl (.v 12 rfl rfl .nil) (q_asg rfl rfl) rfl) zA)))))))))))))))
 exact (ac (fun γ => eo (Z := Unit) (fun z => ()) rfl rfl (.v 3 rfl rfl (.v 7 rfl rfl .nil)) (re_call (vs := [.slice a0_0 x0_0.length c0_0, .int .i64 x0_1]) (cap := []) (A := []) (rst := [obj b0 81 [.slice a0_0 x0_0.length c0_0, .int .i64 x0_1, .int .i64 x0_2], F]) rfl rfl rfl rfl rfl rfl Tryz.call75 (.sel 0 rfl (.sel 0 rfl (.nil _))) (synodref1_Int.calls _ _ k a0_0 c0_0 x0_0 x0_1 (h0_0.lend 1 rfl) hc0_0 hm0_0) hs4v) (fun _ => ⟨rfl, rfl, rfl, rfl, rfl, rfl, rfl, rfl, trivial⟩) (fun _ => .inr rfl) (fun z => Ent.refl _)) zA)
 intro g6v
 refine nrm_then (sr ?_)
 refine vm rfl rfl ?_
 refine vm rfl rfl ?_
 refine vn rfl rfl ?_
 refine vq (q_fa rfl rfl Tryz.underlying81 rfl rfl Tryz.sizeOf3 rfl) rfl ?_
 refine simL_do (re_store 0 rfl rfl rfl Tryz.sizeOf3 rfl rfl (one_of (by rfl)) rfl rfl) rfl rfl ?_
 intro _
 refine nx ?_
 refine vm rfl rfl ?_
 refine vm rfl rfl ?_
 refine vn rfl rfl ?_
 refine vq (q_fa rfl rfl Tryz.underlying81 rfl rfl Tryz.sizeOf3 rfl) rfl ?_
 refine vq (q_load rfl rfl Tryz.isAgg3 (.obj 0 rfl rfl)) rfl ?_
 refine vm rfl rfl ?_
 refine vq (q_add rfl rfl rfl) rfl ?_
 refine vn rfl rfl ?_
 refine vq (q_fa rfl rfl Tryz.underlying81 rfl rfl Tryz.sizeOf3 rfl) rfl ?_
 refine simL_do (re_store 0 rfl rfl rfl Tryz.sizeOf3 rfl rfl (one_of (by rfl)) rfl rfl) rfl rfl ?_
 intro _
 refine nx ?_
 refine vm rfl rfl ?_
 refine va rfl rfl (simL_nil (nrm_then (sim_rtn ?_)))
 exact rtn_fn () rfl rfl rfl (.sel 0 rfl (.sel 0 rfl (.nil _)))
 refine sr ?_
 refine va rfl rfl (simL_nil (nrm_then (sim_rtn ?_)))
 refine rtn_then ?_
 exact rtn_fn () rfl rfl rfl (.sel 0 rfl (.sel 0 rfl (.nil _)))

def synodref11_count.f (k : Nat) (x0_0 : List UInt8) (x0_1 : Int) (x0_2 : Int) (x1 : Int) : Option (Int × Int × Int) := (synodref1_Reader_Int.f k x0_0 x0_1 x0_2).bind fun s1v => ((if ((decide (s1v.2.2 = (0 : Int))) && (decide (x1 < s1v.1))) = true then (some 23) else (some s1v.2.2)).bind fun s4v => (some (s1v.1, s1v.2.1, s4v)))
theorem synodref11_count.calls (W : World) (F : HA) (k : Nat) (b0 : Nat) (a0_0 : Option Addr) (c0_0 : Nat) (x0_0 : List UInt8) (x0_1 : Int) (x0_2 : Int) (x1 : Int) (h0_0 : Rd F a0_0 (encB x0_0)) (hc0_0 : x0_0.length ≤ c0_0) (hm0_0 : c0_0 ≤ maxLen) :
    Fn Tryz.prog W 35 [.pointer (some ⟨b0, 0, none⟩), .int .i64 x1] [obj b0 81 [.slice a0_0 x0_0.length c0_0, .int .i64 x0_1, .int .i64 x0_2]] F (synodref11_count.f k x0_0 x0_1 x0_2 x1) (fun (r : Int × Int × Int) (y : Unit) => .int .i64 r.1) (fun r y => [obj b0 81 [.slice a0_0 x0_0.length c0_0, .int .i64 r.2.1, .int .i64 r.2.2]]) := by
 unfold synodref11_count.f
 refine fn_intro 22 Tryz.func35 rfl Tryz.ntmps35 rfl ?_
 refine sr ?_
 refine va rfl rfl (nx ?_)
 refine vm rfl rfl ?_
 refine simL_bind (fun s1v hs2v => ?_)
 refine simL_eff (re_call (vs := [.pointer (some ⟨b0, 0, none⟩)]) (cap := []) (A := [obj b0 81 [.slice a0_0 x0_0.length c0_0, .int .i64 x0_1, .int .i64 x0_2]]) (rst := [F]) rfl rfl rfl rfl rfl rfl Tryz.call38 (.sel 0 rfl (.sel 0 rfl (.nil _))) (synodref1_Reader_Int.calls _ _ k b0 a0_0 c0_0 x0_0 x0_1 x0_2 (h0_0.lend 0 rfl) hc0_0 hm0_0) hs2v) rfl rfl rfl ?_
 intro y3v
 refine va rfl rfl (simL_nil (nrm_then ?_))
 refine sim_cut (S := Int) (Unit) (fun s y => [(5, .int .i64 s1v.1)]) (fun s y => [obj b0 81 [.slice a0_0 x0_0.length c0_0, .int .i64 s1v.2.1, .int .i64 s], F]) ?_ ?_
 refine sr ?_
 refine vm rfl rfl ?_
 refine vn rfl rfl ?_
 refine vq (q_fa rfl rfl Tryz.underlying81 rfl rfl Tryz.sizeOf3 rfl) rfl ?_
 refine vq (q_load rfl rfl Tryz.isAgg3 (.obj 0 rfl rfl)) rfl ?_
 refine vq (q_eql rfl rfl rfl) rfl ?_
 refine vm rfl rfl ?_
 refine simL_valc (b := decide (s1v.2.2 = (0 : Int))) (fun hb10v => RQ.sub (E' := [(5, .int .i64 s1v.1)]) ⟨rfl, trivial⟩ (q_move rfl rfl)) rfl rfl rfl rfl rfl ?_
 refine simL_valc (b := decide (s1v.2.2 = (0 : Int))) (fun hb9v => RQ.sub (E' := [(1, .int .i64 x1)]) ⟨rfl, trivial⟩ (q_move rfl rfl)) rfl rfl rfl rfl rfl ?_
 refine simL_valc (b := decide (s1v.2.2 = (0 : Int))) (fun hb8v => RQ.sub (E' := [(14, .int .i64 s1v.1), (15, .int .i64 x1)]) ⟨lk_cv rfl hb8v, lk_cv rfl hb8v, trivial⟩ (q_gtr rfl rfl rfl)) rfl rfl rfl rfl rfl ?_
 refine vq (q_and rfl rfl rfl) rfl (simL_nil (nrm_then ?_))
 refine sim_condb rfl (fun h6v => ?_) (fun h7v => ?_)
 refine sim_region ?_
 refine vm rfl rfl ?_
 refine vn rfl rfl ?_
 refine vq (q_fa rfl rfl Tryz.underlying81 rfl rfl Tryz.sizeOf3 rfl) rfl ?_
 refine simL_do (re_store 0 rfl rfl rfl Tryz.sizeOf3 rfl rfl (one_of (by rfl)) rfl rfl) rfl rfl ?_
 intro _
 refine simL_nil ?_
 exact nrm_cut (s := 23) () ⟨rfl, trivial⟩ (.sel 0 rfl (.sel 0 rfl (.nil _)))
 refine sim_skip ?_
 exact nrm_cut (s := s1v.2.2) () ⟨rfl, trivial⟩ (.sel 0 rfl (.sel 0 rfl (.nil _)))
 intro s4v y5v
 refine sr ?_
 refine vm rfl rfl ?_
 refine va rfl rfl (simL_nil (nrm_then (sim_rtn ?_)))
 exact rtn_fn () rfl rfl rfl (.sel 0 rfl (.sel 0 rfl (.nil _)))

def synodref1_Reader_Bytes.f (k : Nat) (x0_0 : List UInt8) (x0_1 : Int) (x0_2 : Int) (x1 : Int) : Option (List UInt8 × Int × Int) := (synodref1_Reader_Int.f k x0_0 x0_1 x0_2).bind fun s1v => (if s1v.2.2 = (0 : Int) then ((if max x1 (0 : Int) < s1v.1 then (some 3) else (if IntKind.i64.wrap ((x0_0.length : Int) - s1v.2.1) < s1v.1 then (some 2) else (some s1v.2.2))).bind fun s6v => (if s6v = (0 : Int) then (if 0 ≤ IntKind.i64.wrap ((IntKind.i64.wrap (s1v.2.1 + s1v.1)) - s1v.1) ∧ IntKind.i64.wrap ((IntKind.i64.wrap (s1v.2.1 + s1v.1)) - s1v.1) ≤ IntKind.i64.wrap (s1v.2.1 + s1v.1) ∧ IntKind.i64.wrap (s1v.2.1 + s1v.1) ≤ (x0_0.length : Int) then ((synodref_Bytes.f (cut x0_0 (IntKind.i64.wrap ((IntKind.i64.wrap (s1v.2.1 + s1v.1)) - s1v.1)) (IntKind.i64.wrap (s1v.2.1 + s1v.1)))).bind fun s22v => (some (s22v, IntKind.i64.wrap (s1v.2.1 + s1v.1), s6v))) else none) else (some (([] : List UInt8), x0_1, s6v)))) else (some (([] : List UInt8), s1v.2.1, s1v.2.2)))
theorem synodref1_Reader_Bytes.calls (W : World) (F : HA) (k : Nat) (b0 : Nat) (a0_0 : Option Addr) (c0_0 : Nat) (x0_0 : List UInt8) (x0_1 : Int) (x0_2 : Int) (x1 : Int) (h0_0 : Rd F a0_0 (encB x0_0)) (hc0_0 : x0_0.length ≤ c0_0) (hm0_0 : c0_0 ≤ maxLen) :
    Fn Tryz.prog W 74 [.pointer (some ⟨b0, 0, none⟩), .int .i64 x1] [obj b0 81 [.slice a0_0 x0_0.length c0_0, .int .i64 x0_1, .int .i64 x0_2]] F (synodref1_Reader_Bytes.f k x0_0 x0_1 x0_2 x1) (fun (r : List UInt8 × Int × Int) (y : Option Addr × Nat) => .slice y.1 r.1.length y.2) (fun r y => [Row 5 1 y.1 r.1.length y.2 (encB r.1), obj b0 81 [.slice a0_0 x0_0.length c0_0, .int .i64 r.2.1, .int .i64 r.2.2]]) := by
 unfold synodref1_Reader_Bytes.f
 refine fn_intro 74 Tryz.func74 rfl Tryz.ntmps74 rfl ?_
 refine sr ?_
 refine va rfl rfl (nx ?_)
 refine vm rfl rfl ?_
 refine vn rfl rfl ?_
 refine vq (q_fa rfl rfl Tryz.underlying81 rfl rfl Tryz.sizeOf3 rfl) rfl ?_
 refine vq (q_load rfl rfl Tryz.isAgg3 (.obj 0 rfl rfl)) rfl ?_
 refine va rfl rfl (nx ?_)
 refine vm rfl rfl ?_
 refine simL_bind (fun s1v hs2v => ?_)
 refine simL_eff (re_call (vs := [.pointer (some ⟨b0, 0, none⟩)]) (cap := []) (A := [obj b0 81 [.slice a0_0 x0_0.length c0_0, .int .i64 x0_1, .int .i64 x0_2]]) (rst := [F]) rfl rfl rfl rfl rfl rfl Tryz.call38 (.sel 0 rfl (.sel 0 rfl (.nil _))) (synodref1_Reader_Int.calls _ _ k b0 a0_0 c0_0 x0_0 x0_1 x0_2 (h0_0.lend 0 rfl) hc0_0 hm0_0) hs2v) rfl rfl rfl ?_
 intro y3v
 refine va rfl rfl (simL_nil (nrm_then (sim_seq (sr ?_))))
 refine vm rfl rfl ?_
 refine vn rfl rfl ?_
 refine vq (q_fa rfl rfl Tryz.underlying81 rfl rfl Tryz.sizeOf3 rfl) rfl ?_
 refine vq (q_load rfl rfl Tryz.isAgg3 (.obj 0 rfl rfl)) rfl ?_
 refine vq (q_neq rfl rfl rfl) rfl (simL_nil (nrm_then ?_))
 refine sim_condn rfl (fun h4v => ?_) (fun h5v => ?_)
 refine sim_skip ?_
 refine nrm_then ?_
 refine sim_cut (S := Int) (Unit) (fun s y => [(0, .pointer (some ⟨b0, 0, none⟩)), (5, .int .i64 x0_1), (6, .int .i64 s1v.1)]) (fun s y => [obj b0 81 [.slice a0_0 x0_0.length c0_0, .int .i64 s1v.2.1, .int .i64 s], F]) ?_ ?_
 refine sr ?_
 refine vm rfl rfl ?_
 refine vm rfl rfl ?_
 refine vq (q_max rfl rfl rfl) rfl ?_
 refine vq (q_gtr rfl rfl rfl) rfl (simL_nil (nrm_then ?_))
 refine sim_cond rfl (fun h8v => ?_) (fun h9v => ?_)
 refine sim_region ?_
 refine vm rfl rfl ?_
 refine vn rfl rfl ?_
 refine vq (q_fa rfl rfl Tryz.underlying81 rfl rfl Tryz.sizeOf3 rfl) rfl ?_
 refine simL_do (re_store 0 rfl rfl rfl Tryz.sizeOf3 rfl rfl (one_of (by rfl)) rfl rfl) rfl rfl ?_
 intro _
 refine simL_nil ?_
 exact nrm_cut (s := 3) () ⟨rfl, rfl, rfl, trivial⟩ (.sel 0 rfl (.sel 0 rfl (.nil _)))
 refine sim_seq ?_
 refine sim_draw (Γ := Unit) () [[], [], [1], [1, 2], [1, 2, 3], [1, 2, 3, 4], [], [6], [6, 7], [6, 7, 8], [1, 2, 3, 4, 5, 6, 7, 8, 9], rL 11] [] [0, 1, 2, 3, 4, 5, 6, 7, 8, 9, 10, 11] (fun i => [[0], [0], [0], [0], [0], [0], [0], [0], [0], [0], [0], [0]].getD i []) (fun i => [[], [], [], [], [], [], [], [], [], [], [], []].getD i []) (fun γ i => [.int .i64 s1v.1, .pointer (some ⟨b0, 0, none⟩), .pointer (some ⟨b0, 0, none⟩), .pointer (some ⟨b0, 0, none⟩), .slice a0_0 x0_0.length c0_0, .int .i64 (x0_0.length : Int), .pointer (some ⟨b0, 0, none⟩), .pointer (some ⟨b0, 0, none⟩), .pointer (some ⟨b0, 1, none⟩), .int .i64 s1v.2.1, .int .i64 (IntKind.i64.wrap ((x0_0.length : Int) - s1v.2.1)), .bool (decide (IntKind.i64.wrap ((x0_0.length : Int) - s1v.2.1) < s1v.1))].getD i undef) (fun j γ => [[obj b0 81 [.slice a0_0 x0_0.length c0_0, .int .i64 s1v.2.1, .int .i64 s1v.2.2], F]].getD j []) (fun γ => [(0, .pointer (some ⟨b0, 0, none⟩)), (5, .int .i64 x0_1), (6, .int .i64 s1v.1), (36, .bool (decide (IntKind.i64.wrap ((x0_0.length : Int) - s1v.2.1) < s1v.1)))]) mixed (by decide) (by decide) (by decide) (by decide) (by decide) (by decide) (by decide) 74 rfl (by decide) (by decide) (by decide) (Ent.refl _) ?_ ?_ (fun _ => ⟨rfl, rfl, rfl, rfl, trivial⟩) ?_
 exact (aq rfl (fun γ => qm rfl (.o (s := 6) rfl (by decide) .nil) rfl) (aq rfl (fun γ => qm rfl (.o (s := 0) rfl (by decide) .nil) rfl) (aq rfl (fun γ => qp rfl rfl (.v 1 rfl rfl .nil) (q_nil rfl rfl) rfl) (aq rfl (fun γ => qp rfl rfl (.v 2 rfl rfl .nil) (q_fa rfl rfl Tryz.underlying81 rfl rfl Tryz.sizeOf23 rfl) rfl) (aq rfl (fun γ => qp rfl rfl (.v 3 rfl rfl .nil) (q_load rfl rfl Tryz.isAgg23 (.obj 0 rfl rfl)) rfl) (aq rfl (fun γ => qp rfl rfl (.v 4 rfl rfl .nil) (q_len rfl rfl rfl Tryz.underlying23) rfl) (aq rfl (fun γ => qm rfl (.o (s := 0) rfl (by decide) .nil) rfl) (aq rfl (fun γ => qp rfl rfl (.v 6 rfl rfl .nil) (q_nil rfl rfl) rfl) (aq rfl (fun γ => qp rfl rfl (.v 7 rfl rfl .nil) (q_fa rfl rfl Tryz.underlying81 rfl rfl Tryz.sizeOf3 rfl) rfl) (aq rfl (fun γ => qp rfl rfl (.v 8 rfl rfl .nil) (q_load rfl rfl Tryz.isAgg3 (.obj 0 rfl rfl)) rfl) (aq rfl (fun γ => qp rfl rfl (.v 5 rfl rfl (.v 9 rfl rfl .nil)) (q_sub rfl rfl rfl) rfl) (aq rfl (fun γ => qp rfl rfl (.v 0 rfl rfl (.v 10 rfl rfl .nil)) (q_gtr rfl rfl rfl) rfl) zA))))))))))))
 exact zA
 intro g10v
 refine nrm_then ?_
 refine sim_cond rfl (fun h11v => ?_) (fun h12v => ?_)
 refine sim_region ?_
 refine vm rfl rfl ?_
 refine vn rfl rfl ?_
 refine vq (q_fa rfl rfl Tryz.underlying81 rfl rfl Tryz.sizeOf3 rfl) rfl ?_
 refine simL_do (re_store 0 rfl rfl rfl Tryz.sizeOf3 rfl rfl (one_of (by rfl)) rfl rfl) rfl rfl ?_
 intro _
 refine simL_nil ?_
 exact nrm_cut (s := 2) () ⟨rfl, rfl, rfl, trivial⟩ (.sel 0 rfl (.sel 0 rfl (.nil _)))
 refine sim_skip ?_
 exact nrm_cut (s := s1v.2.2) () ⟨rfl, rfl, rfl, trivial⟩ (.sel 0 rfl (.sel 0 rfl (.nil _)))
 intro s6v y7v
 refine sim_seq (sr ?_)
 refine vm rfl rfl ?_
 refine vn rfl rfl ?_
 refine vq (q_fa rfl rfl Tryz.underlying81 rfl rfl Tryz.sizeOf3 rfl) rfl ?_
 refine vq (q_load rfl rfl Tryz.isAgg3 (.obj 0 rfl rfl)) rfl ?_
 refine vq (q_neq rfl rfl rfl) rfl (simL_nil (nrm_then ?_))
 refine sim_condn rfl (fun h13v => ?_) (fun h14v => ?_)
 refine sim_skip ?_
 refine nrm_then (sr ?_)
 refine vm rfl rfl ?_
 refine vm rfl rfl ?_
 refine vn rfl rfl ?_
 refine vq (q_fa rfl rfl Tryz.underlying81 rfl rfl Tryz.sizeOf3 rfl) rfl ?_
 refine vq (q_load rfl rfl Tryz.isAgg3 (.obj 0 rfl rfl)) rfl ?_
 refine vm rfl rfl ?_
 refine vq (q_add rfl rfl rfl) rfl ?_
 refine vn rfl rfl ?_
 refine vq (q_fa rfl rfl Tryz.underlying81 rfl rfl Tryz.sizeOf3 rfl) rfl ?_
 refine simL_do (re_store 0 rfl rfl rfl Tryz.sizeOf3 rfl rfl (one_of (by rfl)) rfl rfl) rfl rfl ?_
 intro _
 refine simL_nil (nrm_then (sim_seq ?_))
 refine sim_ask (fun hb15v => ?_)
 obtain ⟨a16v, c17v, hS18v, hr19v, hc20v, hm21v⟩ := slice_pre (lo := IntKind.i64.wrap ((IntKind.i64.wrap (s1v.2.1 + s1v.1)) - s1v.1)) (hi := IntKind.i64.wrap (s1v.2.1 + s1v.1)) h0_0 hc0_0 hb15v
 refine sim_bind (fun s22v hs23v => ?_)
 refine sim_draw (Γ := (Option Addr × Nat)) (none, 0) [[], [0], [0, 1], [0, 1, 2], [], [4], [4, 5], [4, 5, 6], [], [4, 5, 6, 7, 8], [], [10], [10, 11], [10, 11, 12], rL 14, rL 15, rL 16] [15] [0, 1, 2, 3, 4, 5, 6, 7, 8, 9, 10, 11, 12, 13, 14, 16] (fun i => [[0], [0], [0], [0], [0], [0], [0], [0], [0], [0], [0], [0], [0], [0], [0], [], [1]].getD i []) (fun i => [[], [], [], [], [], [], [], [], [], [], [], [], [], [], [], rL 15, []].getD i []) (fun γ i => [.pointer (some ⟨b0, 0, none⟩), .pointer (some ⟨b0, 0, none⟩), .pointer (some ⟨b0, 0, none⟩), .slice a0_0 x0_0.length c0_0, .pointer (some ⟨b0, 0, none⟩), .pointer (some ⟨b0, 0, none⟩), .pointer (some ⟨b0, 1, none⟩), .int .i64 (IntKind.i64.wrap (s1v.2.1 + s1v.1)), .int .i64 s1v.1, .int .i64 (IntKind.i64.wrap ((IntKind.i64.wrap (s1v.2.1 + s1v.1)) - s1v.1)), .pointer (some ⟨b0, 0, none⟩), .pointer (some ⟨b0, 0, none⟩), .pointer (some ⟨b0, 1, none⟩), .int .i64 (IntKind.i64.wrap (s1v.2.1 + s1v.1)), .slice a16v ((cut x0_0 (IntKind.i64.wrap ((IntKind.i64.wrap (s1v.2.1 + s1v.1)) - s1v.1)) (IntKind.i64.wrap (s1v.2.1 + s1v.1))).length) c17v, .slice γ.1 s22v.length γ.2, .slice γ.1 s22v.length γ.2].getD i undef) (fun j γ => [[obj b0 81 [.slice a0_0 x0_0.length c0_0, .int .i64 (IntKind.i64.wrap (s1v.2.1 + s1v.1)), .int .i64 s6v], F], [Row 5 1 γ.1 s22v.length γ.2 (encB s22v), obj b0 81 [.slice a0_0 x0_0.length c0_0, .int .i64 (IntKind.i64.wrap (s1v.2.1 + s1v.1)), .int .i64 s6v], F]].getD j []) (fun γ => [(4, .slice γ.1 s22v.length γ.2)]) mixed (by decide) (by decide) (by decide) (by decide) (by decide) (by decide) (by decide) 74 rfl (by decide) (by decide) (by decide) (Ent.refl _) ?_ ?_ (fun _ => ⟨rfl, trivial⟩) ?_
 exact (aq rfl (fun γ => qm rfl (.o (s := 0) rfl (by decide) .nil) rfl) (aq rfl (fun γ => qp rfl rfl (.v 0 rfl rfl .nil) (q_nil rfl rfl) rfl) (aq rfl (fun γ => qp rfl rfl (.v 1 rfl rfl .nil) (q_fa rfl rfl Tryz.underlying81 rfl rfl Tryz.sizeOf23 rfl) rfl) (aq rfl (fun γ => qp rfl rfl (.v 2 rfl rfl .nil) (q_load rfl rfl Tryz.isAgg23 (.obj 0 rfl rfl)) rfl) (aq rfl (fun γ => qm rfl (.o (s := 0) rfl (by decide) .nil) rfl) (aq rfl (fun γ => qp rfl rfl (.v 4 rfl rfl .nil) (q_nil rfl rfl) rfl) (aq rfl (fun γ => qp rfl rfl (.v 5 rfl rfl .nil) (q_fa rfl rfl Tryz.underlying81 rfl rfl Tryz.sizeOf3 rfl) rfl) (aq rfl (fun γ => qp rfl rfl (.v 6 rfl rfl .nil) (q_load rfl rfl Tryz.isAgg3 (.obj 0 rfl rfl)) rfl) (aq rfl (fun γ => qm rfl (.o (s := 6) rfl (by decide) .nil) rfl) (aq rfl (fun γ => qp rfl rfl (.v 7 rfl rfl (.v 8 rfl rfl .nil)) (q_sub rfl rfl rfl) rfl) (aq rfl (fun γ => qm rfl (.o (s := 0) rfl (by decide) .nil) rfl) (aq rfl (fun γ => qp rfl rfl (.v 10 rfl rfl .nil) (q_nil rfl rfl) rfl) (aq rfl (fun γ => qp rfl rfl (.v 11 rfl rfl .nil) (q_fa rfl rfl Tryz.underlying81 rfl rfl Tryz.sizeOf3 rfl) rfl) (aq rfl (fun γ => qp rfl rfl (.v 12 rfl rfl .nil) (q_load rfl rfl Tryz.isAgg3 (.obj 0 rfl rfl)) rfl) (aq rfl (fun γ => qp rfl rfl (.v 3 rfl rfl (.v 9 rfl rfl (.v 13 rfl rfl .nil))) (q_sub_ro (l := x0_0) (lo' := IntKind.i64.wrap ((IntKind.i64.wrap (s1v.2.1 + s1v.1)) - s1v.1)) (hi' := IntKind.i64.wrap (s1v.2.1 + s1v.1)) rfl rfl rfl rfl Tryz.underlying23 Tryz.sizeOf5 (.inr ⟨_, rfl⟩) (.inr ⟨_, rfl⟩) hb15v hc0_0 hS18v) rfl) (aq rfl (fun γ => qp rfl rfl (.v 15 rfl rfl .nil) (q_asg rfl rfl) rfl) zA))))))))))))))))
 exact (ac (fun γ => eo (Z := Option Addr × Nat) (fun z => z) rfl rfl (.v 14 rfl rfl .nil) (re_call (vs := [.slice a16v ((cut x0_0 (IntKind.i64.wrap ((IntKind.i64.wrap (s1v.2.1 + s1v.1)) - s1v.1)) (IntKind.i64.wrap (s1v.2.1 + s1v.1))).length) c17v]) (cap := []) (A := []) (rst := [obj b0 81 [.slice a0_0 x0_0.length c0_0, .int .i64 (IntKind.i64.wrap (s1v.2.1 + s1v.1)), .int .i64 s6v], F]) rfl rfl rfl rfl rfl rfl Tryz.call34 (.sel 0 rfl (.sel 0 rfl (.nil _))) (synodref_Bytes.calls _ _ a16v c17v (cut x0_0 (IntKind.i64.wrap ((IntKind.i64.wrap (s1v.2.1 + s1v.1)) - s1v.1)) (IntKind.i64.wrap (s1v.2.1 + s1v.1))) (hr19v.lend 1 rfl) hc20v (Nat.le_trans hm21v hm0_0)) hs23v) (fun _ => ⟨rfl, rfl, rfl, rfl, rfl, rfl, rfl, rfl, rfl, rfl, rfl, rfl, rfl, rfl, rfl, trivial⟩) (fun _ => .inr rfl) (fun z => Ent.refl _)) zA)
 intro g25v
 refine nrm_then (sim_rtn ?_)
 exact rtn_fn (g25v.1, g25v.2) rfl rfl rfl (.sel 0 rfl (.sel 0 rfl (.sel 0 rfl (.nil _))))
 refine sr ?_
 refine vm rfl rfl ?_
 refine vm rfl rfl ?_
 refine vn rfl rfl ?_
 refine vq (q_fa rfl rfl Tryz.underlying81 rfl rfl Tryz.sizeOf3 rfl) rfl ?_
 refine simL_do (re_store 0 rfl rfl rfl Tryz.sizeOf3 rfl rfl (one_of (by rfl)) rfl rfl) rfl rfl ?_
 intro _
 refine nx ?_
 refine va rfl rfl (simL_nil (nrm_then (sim_rtn ?_)))
 refine rtn_then ?_
 exact rtn_fn (none, 0) rfl rfl rfl (.row_nil (.sel 0 rfl (.sel 0 rfl (.nil _))))
 refine sr ?_
 refine va rfl rfl (simL_nil (nrm_then (sim_rtn ?_)))
 refine rtn_then ?_
 exact rtn_fn (none, 0) rfl rfl rfl (.row_nil (.sel 0 rfl (.sel 0 rfl (.nil _))))

def synodref1_Reader_Text.f (k : Nat) (x0_0 : List UInt8) (x0_1 : Int) (x0_2 : Int) (x1 : Int) : Option (List UInt8 × Int × Int) := (synodref1_Reader_Bytes.f k x0_0 x0_1 x0_2 x1).bind fun s1v => (some (s1v.1, s1v.2.1, s1v.2.2))
theorem synodref1_Reader_Text.calls (W : World) (F : HA) (k : Nat) (b0 : Nat) (a0_0 : Option Addr) (c0_0 : Nat) (x0_0 : List UInt8) (x0_1 : Int) (x0_2 : Int) (x1 : Int) (h0_0 : Rd F a0_0 (encB x0_0)) (hc0_0 : x0_0.length ≤ c0_0) (hm0_0 : c0_0 ≤ maxLen) :
    Fn Tryz.prog W 36 [.pointer (some ⟨b0, 0, none⟩), .int .i64 x1] [obj b0 81 [.slice a0_0 x0_0.length c0_0, .int .i64 x0_1, .int .i64 x0_2]] F (synodref1_Reader_Text.f k x0_0 x0_1 x0_2 x1) (fun (r : List UInt8 × Int × Int) (y : Unit) => str r.1) (fun r y => [obj b0 81 [.slice a0_0 x0_0.length c0_0, .int .i64 r.2.1, .int .i64 r.2.2]]) := by
 unfold synodref1_Reader_Text.f
 refine fn_intro 9 Tryz.func36 rfl Tryz.ntmps36 rfl ?_
 refine sr ?_
 refine va rfl rfl (nx ?_)
 refine vm rfl rfl ?_
 refine vm rfl rfl ?_
 refine simL_bind (fun s1v hs2v => ?_)
 refine simL_eff (re_call (vs := [.pointer (some ⟨b0, 0, none⟩), .int .i64 x1]) (cap := []) (A := [obj b0 81 [.slice a0_0 x0_0.length c0_0, .int .i64 x0_1, .int .i64 x0_2]]) (rst := [F]) rfl rfl rfl rfl rfl rfl Tryz.call74 (.sel 0 rfl (.sel 0 rfl (.nil _))) (synodref1_Reader_Bytes.calls _ _ k b0 a0_0 c0_0 x0_0 x0_1 x0_2 x1 (h0_0.lend 0 rfl) hc0_0 hm0_0) hs2v) rfl rfl rfl ?_
 intro y3v
 refine vq (q_tostr rfl rfl Tryz.underlying23 Tryz.underlying5 Tryz.underlying9 (Rds.row 0 rfl) rfl) rfl ?_
 refine va rfl rfl (simL_nil (nrm_then (sim_rtn ?_)))
 exact rtn_fn () rfl rfl rfl (.sel 1 rfl (.sel 1 rfl (.nil _)))

def synodref11_form.f (x0_0 : List UInt8) (x0_1 : Int) (x0_2 : Int) (x1 : Bool) : Option (Int × Int) := if ((decide (x0_2 = (0 : Int))) && (!x1)) = true then (some (x0_1, 4)) else (some (x0_1, x0_2))
theorem synodref11_form.calls (W : World) (F : HA) (b0 : Nat) (a0_0 : Option Addr) (c0_0 : Nat) (x0_0 : List UInt8) (x0_1 : Int) (x0_2 : Int) (x1 : Bool) (h0_0 : Rd F a0_0 (encB x0_0)) (hc0_0 : x0_0.length ≤ c0_0) (hm0_0 : c0_0 ≤ maxLen) :
    Fn Tryz.prog W 37 [.pointer (some ⟨b0, 0, none⟩), .bool x1] [obj b0 81 [.slice a0_0 x0_0.length c0_0, .int .i64 x0_1, .int .i64 x0_2]] F (synodref11_form.f x0_0 x0_1 x0_2 x1) (fun (r : Int × Int) (y : Unit) => .tuple #[]) (fun r y => [obj b0 81 [.slice a0_0 x0_0.length c0_0, .int .i64 r.1, .int .i64 r.2]]) := by
 unfold synodref11_form.f
 refine fn_intro 16 Tryz.func37 rfl Tryz.ntmps37 rfl ?_
 refine sr ?_
 refine vm rfl rfl ?_
 refine vn rfl rfl ?_
 refine vq (q_fa rfl rfl Tryz.underlying81 rfl rfl Tryz.sizeOf3 rfl) rfl ?_
 refine vq (q_load rfl rfl Tryz.isAgg3 (.obj 0 rfl rfl)) rfl ?_
 refine vq (q_eql rfl rfl rfl) rfl ?_
 refine vm rfl rfl ?_
 refine simL_valc (b := decide (x0_2 = (0 : Int))) (fun hb4v => RQ.sub (E' := [(1, .bool x1)]) ⟨rfl, trivial⟩ (q_move rfl rfl)) rfl rfl rfl rfl rfl ?_
 refine simL_valc (b := decide (x0_2 = (0 : Int))) (fun hb3v => RQ.sub (E' := [(10, .bool x1)]) ⟨lk_cv rfl hb3v, trivial⟩ (q_not rfl rfl)) rfl rfl rfl rfl rfl ?_
 refine vq (q_and rfl rfl rfl) rfl (simL_nil (nrm_then ?_))
 refine sim_condb rfl (fun h1v => ?_) (fun h2v => ?_)
 refine sim_region ?_
 refine vm rfl rfl ?_
 refine vn rfl rfl ?_
 refine vq (q_fa rfl rfl Tryz.underlying81 rfl rfl Tryz.sizeOf3 rfl) rfl ?_
 refine simL_do (re_store 0 rfl rfl rfl Tryz.sizeOf3 rfl rfl (one_of (by rfl)) rfl rfl) rfl rfl ?_
 intro _
 refine simL_nil ?_
 exact nrm_fn () rfl rfl rfl (.sel 0 rfl (.sel 0 rfl (.nil _)))
 refine sim_skip ?_
 exact nrm_fn () rfl rfl rfl (.sel 0 rfl (.sel 0 rfl (.nil _)))

def synodref1_Reader_Left.f (x0_0 : List UInt8) (x0_1 : Int) (x0_2 : Int) : Option (Int) := some (IntKind.i64.wrap ((x0_0.length : Int) - x0_1))
theorem synodref1_Reader_Left.calls (W : World) (F : HA) (b0 : Nat) (a0_0 : Option Addr) (c0_0 : Nat) (x0_0 : List UInt8) (x0_1 : Int) (x0_2 : Int) (h0_0 : Rd F a0_0 (encB x0_0)) (hc0_0 : x0_0.length ≤ c0_0) (hm0_0 : c0_0 ≤ maxLen) :
    Fn Tryz.prog W 76 [.pointer (some ⟨b0, 0, none⟩)] [obj b0 81 [.slice a0_0 x0_0.length c0_0, .int .i64 x0_1, .int .i64 x0_2]] F (synodref1_Reader_Left.f x0_0 x0_1 x0_2) (fun (r : Int) (y : Unit) => .int .i64 r) (fun r y => [obj b0 81 [.slice a0_0 x0_0.length c0_0, .int .i64 x0_1, .int .i64 x0_2]]) := by
 unfold synodref1_Reader_Left.f
 refine fn_intro 13 Tryz.func76 rfl Tryz.ntmps76 rfl ?_
 refine sr ?_
 refine va rfl rfl (simL_nil (nrm_then (sim_seq ?_)))
 refine sim_draw (Γ := Unit) () [[], [0], [0, 1], [0, 1, 2], rL 4, [], [5], [5, 6], [5, 6, 7], rL 9, rL 10] [] [0, 1, 2, 3, 4, 5, 6, 7, 8, 9, 10] (fun i => [[0], [0], [0], [0], [0], [0], [0], [0], [0], [0], [0]].getD i []) (fun i => [[], [], [], [], [], [], [], [], [], [], []].getD i []) (fun γ i => [.pointer (some ⟨b0, 0, none⟩), .pointer (some ⟨b0, 0, none⟩), .pointer (some ⟨b0, 0, none⟩), .slice a0_0 x0_0.length c0_0, .int .i64 (x0_0.length : Int), .pointer (some ⟨b0, 0, none⟩), .pointer (some ⟨b0, 0, none⟩), .pointer (some ⟨b0, 1, none⟩), .int .i64 x0_1, .int .i64 (IntKind.i64.wrap ((x0_0.length : Int) - x0_1)), .int .i64 (IntKind.i64.wrap ((x0_0.length : Int) - x0_1))].getD i undef) (fun j γ => [[obj b0 81 [.slice a0_0 x0_0.length c0_0, .int .i64 x0_1, .int .i64 x0_2], F]].getD j []) (fun γ => [(2, .int .i64 (IntKind.i64.wrap ((x0_0.length : Int) - x0_1)))]) mixed (by decide) (by decide) (by decide) (by decide) (by decide) (by decide) (by decide) 13 rfl (by decide) (by decide) (by decide) (Ent.refl _) ?_ ?_ (fun _ => ⟨rfl, trivial⟩) ?_
 exact (aq rfl (fun γ => qm rfl (.o (s := 0) rfl (by decide) .nil) rfl) (aq rfl (fun γ => qp rfl rfl (.v 0 rfl rfl .nil) (q_nil rfl rfl) rfl) (aq rfl (fun γ => qp rfl rfl (.v 1 rfl rfl .nil) (q_fa rfl rfl Tryz.underlying81 rfl rfl Tryz.sizeOf23 rfl) rfl) (aq rfl (fun γ => qp rfl rfl (.v 2 rfl rfl .nil) (q_load rfl rfl Tryz.isAgg23 (.obj 0 rfl rfl)) rfl) (aq rfl (fun γ => qp rfl rfl (.v 3 rfl rfl .nil) (q_len rfl rfl rfl Tryz.underlying23) rfl) (aq rfl (fun γ => qm rfl (.o (s := 0) rfl (by decide) .nil) rfl) (aq rfl (fun γ => qp rfl rfl (.v 5 rfl rfl .nil) (q_nil rfl rfl) rfl) (aq rfl (fun γ => qp rfl rfl (.v 6 rfl rfl .nil) (q_fa rfl rfl Tryz.underlying81 rfl rfl Tryz.sizeOf3 rfl) rfl) (aq rfl (fun γ => qp rfl rfl (.v 7 rfl rfl .nil) (q_load rfl rfl Tryz.isAgg3 (.obj 0 rfl rfl)) rfl) (aq rfl (fun γ => qp rfl rfl (.v 4 rfl rfl (.v 8 rfl rfl .nil)) (q_sub rfl rfl rfl) rfl) (aq rfl (fun γ => qp rfl rfl (.v 9 rfl rfl .nil) (q_asg rfl rfl) rfl) zA)))))))))))
 exact zA
 intro g1v
 refine nrm_then (sim_rtn ?_)
 exact rtn_fn () rfl rfl rfl (.sel 0 rfl (.sel 0 rfl (.nil _)))
def synodref1_Reader_Left.v (x0_0 : List UInt8) (x0_1 : Int) (x0_2 : Int) : Int := (synodref1_Reader_Left.f x0_0 x0_1 x0_2).getD 0
theorem synodref1_Reader_Left.tot (x0_0 : List UInt8) (x0_1 : Int) (x0_2 : Int) : synodref1_Reader_Left.f x0_0 x0_1 x0_2 = some (synodref1_Reader_Left.v x0_0 x0_1 x0_2) := by
  have h : ∃ r, synodref1_Reader_Left.f x0_0 x0_1 x0_2 = some r := by
    unfold synodref1_Reader_Left.f
    repeat' (first | exact ⟨_, rfl⟩ | split | simp only [Option.bind_some])
  obtain ⟨r, h⟩ := h
  unfold synodref1_Reader_Left.v
  rw [h]; rfl

def synodref1_Reader_Done.f (x0_0 : List UInt8) (x0_1 : Int) (x0_2 : Int) : Option (Int) := (if x0_2 = (0 : Int) then ((synodref1_Reader_Left.f x0_0 x0_1 x0_2).bind fun s3v => (some (decide ((0 : Int) < s3v)))) else (some false)).bind fun s1v => (if s1v = true then (some 3) else (some x0_2))
theorem synodref1_Reader_Done.calls (W : World) (F : HA) (b0 : Nat) (a0_0 : Option Addr) (c0_0 : Nat) (x0_0 : List UInt8) (x0_1 : Int) (x0_2 : Int) (h0_0 : Rd F a0_0 (encB x0_0)) (hc0_0 : x0_0.length ≤ c0_0) (hm0_0 : c0_0 ≤ maxLen) :
    Fn Tryz.prog W 39 [.pointer (some ⟨b0, 0, none⟩)] [obj b0 81 [.slice a0_0 x0_0.length c0_0, .int .i64 x0_1, .int .i64 x0_2]] F (synodref1_Reader_Done.f x0_0 x0_1 x0_2) (fun (r : Int) (y : Unit) => .int .i64 r) (fun r y => [obj b0 81 [.slice a0_0 x0_0.length c0_0, .int .i64 x0_1, .int .i64 x0_2]]) := by
 unfold synodref1_Reader_Done.f
 refine fn_intro 17 Tryz.func39 rfl Tryz.ntmps39 rfl ?_
 refine sr ?_
 refine va rfl rfl (simL_nil (nrm_then (sim_seq (sr ?_))))
 refine vm rfl rfl ?_
 refine vn rfl rfl ?_
 refine vq (q_fa rfl rfl Tryz.underlying81 rfl rfl Tryz.sizeOf3 rfl) rfl ?_
 refine vq (q_load rfl rfl Tryz.isAgg3 (.obj 0 rfl rfl)) rfl ?_
 refine vq (q_eql rfl rfl rfl) rfl ?_
 refine vm rfl rfl ?_
 refine simL_cut' 4 (S := Bool) (Unit) (fun s y => [(0, .pointer (some ⟨b0, 0, none⟩)), (12, .bool s)]) (fun s y => [obj b0 81 [.slice a0_0 x0_0.length c0_0, .int .i64 x0_1, .int .i64 x0_2], F]) ?_ ?_
 refine simL_casep (fun hb6v => ?_) (fun hb7v => ?_)
 rw [hb6v]
 refine simL_valg (q_move rfl rfl) rfl rfl rfl rfl rfl rfl ?_
 refine simL_bind (fun s3v hs4v => ?_)
 refine simL_effg (re_call (vs := [.pointer (some ⟨b0, 0, none⟩)]) (cap := []) (A := [obj b0 81 [.slice a0_0 x0_0.length c0_0, .int .i64 x0_1, .int .i64 x0_2]]) (rst := [F]) rfl rfl rfl rfl rfl rfl Tryz.call76 (.sel 0 rfl (.sel 0 rfl (.nil _))) (synodref1_Reader_Left.calls _ _ b0 a0_0 c0_0 x0_0 x0_1 x0_2 (h0_0.lend 0 rfl) hc0_0 hm0_0) hs4v) rfl rfl rfl rfl rfl rfl ?_
 intro y5v
 refine simL_valg (q_gtr rfl rfl rfl) rfl rfl rfl rfl rfl rfl ?_
 refine vq (q_pick rfl rfl rfl rfl rfl) rfl (simL_nil ?_)
 exact nrm_cut (s := decide ((0 : Int) < s3v)) () ⟨rfl, rfl, trivial⟩ (.sel 0 rfl (.sel 0 rfl (.nil _)))
 rw [hb7v]
 refine simL_skipd rfl rfl rfl rfl rfl rfl ?_
 refine simL_skipd rfl rfl rfl rfl rfl rfl ?_
 refine simL_skipd rfl rfl rfl rfl rfl rfl ?_
 refine vq (q_pick rfl rfl rfl rfl rfl) rfl (simL_nil ?_)
 exact nrm_cut (s := false) () ⟨rfl, rfl, trivial⟩ (.sel 0 rfl (.sel 0 rfl (.nil _)))
 intro s1v y2v
 refine simL_nil (nrm_then ?_)
 refine sim_condb rfl (fun h8v => ?_) (fun h9v => ?_)
 refine sr ?_
 refine va rfl rfl (simL_nil (nrm_then (sim_rtn ?_)))
 refine rtn_then ?_
 exact rtn_fn () rfl rfl rfl (.sel 0 rfl (.sel 0 rfl (.nil _)))
 refine sim_skip ?_
 refine nrm_then (sr ?_)
 refine vm rfl rfl ?_
 refine vn rfl rfl ?_
 refine vq (q_fa rfl rfl Tryz.underlying81 rfl rfl Tryz.sizeOf3 rfl) rfl ?_
 refine vq (q_load rfl rfl Tryz.isAgg3 (.obj 0 rfl rfl)) rfl ?_
 refine va rfl rfl (simL_nil (nrm_then (sim_rtn ?_)))
 exact rtn_fn () rfl rfl rfl (.sel 0 rfl (.sel 0 rfl (.nil _)))

def synodref11_Restore.l1 (x0 : List UInt8) (s57v : Int × Int × Int) : Nat → Int → Int → Int → List (Ty91) → Option (Int × Int × (List (Ty91)))
  | 0, _, _, _, _ => none
  | k + 1, z64v, z65v, z66v, z67v => if ((decide (z64v < s57v.1)) && (decide (z66v = (0 : Int)))) = true then ((synodref1_Reader_Int.f k x0 z65v z66v).bind fun s70v => ((if (0 : Int) < s70v.1 then (if z64v = (0 : Int) then ((synodref11_form.f x0 s70v.2.1 s70v.2.2 true).bind fun s82v => (some (s82v.1, s82v.2))) else (if 0 ≤ IntKind.i64.wrap (z64v - 1) ∧ IntKind.i64.wrap (z64v - 1) < (z67v.length : Int) then ((synodref11_form.f x0 s70v.2.1 s70v.2.2 (decide ((z67v.getD (IntKind.i64.wrap (z64v - 1)).toNat dz91).1 < s70v.1))).bind fun s94v => (some (s94v.1, s94v.2))) else none)) else ((synodref11_form.f x0 s70v.2.1 s70v.2.2 false).bind fun s98v => (some (s98v.1, s98v.2)))).bind fun s74v => ((synodref1_Reader_Int.f k x0 s74v.1 s74v.2).bind fun s102v => ((synodref11_form.f x0 s102v.2.1 s102v.2.2 (decide ((0 : Int) < s102v.1))).bind fun s105v => ((synodref1_Reader_Int.f k x0 s105v.1 s105v.2).bind fun s108v => ((synodref11_form.f x0 s108v.2.1 s108v.2.2 ((((decide (s108v.1 = (1 : Int))) || (decide (s108v.1 = (2 : Int)))) || (decide (s108v.1 = (3 : Int)))) || (decide (s108v.1 = (5 : Int))))).bind fun s111v => ((synodref1_Reader_Text.f k x0 s111v.1 s111v.2 (1024 : Int)).bind fun s114v => ((synodref11_form.f x0 s114v.2.1 s114v.2.2 ((decide (s114v.1 = ([] : List UInt8))) || (decide (s108v.1 = (3 : Int))))).bind fun s117v => (if (z67v.length + ([(s70v.1, s102v.1, s108v.1, s114v.1)] : List (Ty91)).length) * 40 ≤ 140737488355328 then (synodref11_Restore.l1 x0 s57v k (IntKind.i64.wrap (z64v + 1)) s117v.1 s117v.2 (z67v ++ ([(s70v.1, s102v.1, s108v.1, s114v.1)] : List (Ty91)))) else none))))))))) else (some (z65v, z66v, z67v))
def synodref11_Restore.l0 (x0 : List UInt8) (s3v : Int × Int × Int) : Nat → Int → Int → Int → List (Ty90) → Option (Int × Int × (List (Ty90)))
  | 0, _, _, _, _ => none
  | k + 1, z10v, z11v, z12v, z13v => if ((decide (z10v < s3v.1)) && (decide (z12v = (0 : Int)))) = true then ((synodref1_Reader_Text.f k x0 z11v z12v (64 : Int)).bind fun s16v => ((if s16v.1 = ([] : List UInt8) then (some false) else ((if z10v = (0 : Int) then (some (true, true, true)) else (if 0 ≤ IntKind.i64.wrap (z10v - 1) ∧ IntKind.i64.wrap (z10v - 1) < (z13v.length : Int) then (some (false, false, !(Op.bytesLess s16v.1 ((z13v.getD (IntKind.i64.wrap (z10v - 1)).toNat dz90).1) || decide (s16v.1 = ((z13v.getD (IntKind.i64.wrap (z10v - 1)).toNat dz90).1))))) else none)).bind fun s21v => (some s21v.2.2))).bind fun s19v => ((synodref11_form.f x0 s16v.2.1 s16v.2.2 s19v).bind fun s37v => ((synodref1_Reader_Text.f k x0 s37v.1 s37v.2 (1024 : Int)).bind fun s42v => (if (z13v.length + ([(s16v.1, s42v.1)] : List (Ty90)).length) * 32 ≤ 140737488355328 then (synodref11_Restore.l0 x0 s3v k (IntKind.i64.wrap (z10v + 1)) s42v.2.1 s42v.2.2 (z13v ++ ([(s16v.1, s42v.1)] : List (Ty90)))) else none))))) else (some (z11v, z12v, z13v))
def synodref11_Restore.f (k : Nat) (x0 : List UInt8) : Option (Bool × (List (Ty90)) × (List (Ty91)) × Int) := (synodref11_count.f k x0 (0 : Int) (0 : Int) (128 : Int)).bind fun s3v => ((synodref11_Restore.l0 x0 s3v k 0 s3v.2.1 s3v.2.2 ([] : List (Ty90))).bind fun s6v => ((synodref11_count.f k x0 s6v.1 s6v.2.1 (32 : Int)).bind fun s57v => ((synodref11_Restore.l1 x0 s57v k 0 s57v.2.1 s57v.2.2 ([] : List (Ty91))).bind fun s60v => ((synodref1_Reader_Done.f x0 s60v.1 s60v.2.1).bind fun s144v => (if s144v = (0 : Int) then (some (true, s6v.2.2, s60v.2.2, s144v)) else (some (false, ([] : List (Ty90)), ([] : List (Ty91)), s144v)))))))
theorem synodref11_Restore.calls (W : World) (F : HA) (k : Nat) (a0 : Option Addr) (c0 : Nat) (x0 : List UInt8) (h0 : Rd F a0 (encB x0)) (hc0 : x0.length ≤ c0) (hm0 : c0 ≤ maxLen) :
    Fn Tryz.prog W 15 [.slice a0 x0.length c0] [] F (synodref11_Restore.f k x0) (fun (r : Bool × (List (Ty90)) × (List (Ty91)) × Int) (y : Nat × Option Addr × Nat × Option Addr × Nat) => .tuple #[.pointer (optA r.1 y.1), .int .i64 r.2.2.2]) (fun r y => [whenA r.1 [obj y.1 85 [.slice y.2.1 r.2.1.length y.2.2.1, .slice y.2.2.2.1 r.2.2.1.length y.2.2.2.2], RowV 90 2 (V90 tt) y.2.1 r.2.1 y.2.2.1, RowV 91 4 (V91 tt) y.2.2.2.1 r.2.2.1 y.2.2.2.2]]) := by
 unfold synodref11_Restore.f
 refine fn_intro 171 Tryz.func15 rfl Tryz.ntmps15 rfl ?_
 refine sr ?_
 refine va rfl rfl ?_
 refine va rfl rfl (nx ?_)
 refine vm rfl rfl ?_
 refine vq (q_build (v := .agg #[.slice a0 x0.length c0, .int .i64 0, .int .i64 0]) rfl rfl (fun _ => by kernel_rfl)) rfl ?_
 refine simL_eff (re_box rfl rfl rfl) rfl rfl rfl ?_
 intro b1v
 refine va rfl rfl (nx ?_)
 refine vq (q_build (v := .agg #[.slice none 0 0, .slice none 0 0]) rfl rfl (fun _ => by kernel_rfl)) rfl ?_
 refine simL_eff (re_box rfl rfl rfl) rfl rfl rfl ?_
 intro b2v
 refine va rfl rfl (nx ?_)
 refine vm rfl rfl ?_
 refine simL_bind (fun s3v hs4v => ?_)
 refine simL_eff (re_call (vs := [.pointer (some ⟨b1v, 0, none⟩), .int .i64 128]) (cap := []) (A := [obj b1v 81 [.slice a0 x0.length c0, .int .i64 0, .int .i64 0]]) (rst := [obj b2v 85 [.slice none 0 0, .slice none 0 0], F]) rfl rfl rfl rfl rfl rfl Tryz.call35 (.sel 1 rfl (.sel 0 rfl (.sel 0 rfl (.nil _)))) (synodref11_count.calls _ _ k b1v a0 c0 x0 (0 : Int) (0 : Int) (128 : Int) (h0.lend 1 rfl) hc0 hm0) hs4v) rfl rfl rfl ?_
 intro y5v
 refine va rfl rfl (simL_nil (nrm_then ?_))
 refine sim_cut (S := Int × Int × (List (Ty90))) (Option Addr × Nat) (fun s y => [(4, .pointer (some ⟨b1v, 0, none⟩)), (5, .pointer (some ⟨b2v, 0, none⟩))]) (fun s y => [obj b1v 81 [.slice a0 x0.length c0, .int .i64 s.1, .int .i64 s.2.1], obj b2v 85 [.slice y.1 s.2.2.length y.2, .slice none 0 0], RowV 90 2 (V90 tt) y.1 s.2.2 y.2, F]) ?_ ?_
 refine sr ?_
 refine va rfl rfl (simL_nil (nrm_then ?_))
 refine sim_block ?_
 refine sim_loop (S := Int × Int × Int × (List (Ty90))) (Option Addr × Nat) (fun k s => synodref11_Restore.l0 x0 s3v k s.1 s.2.1 s.2.2.1 s.2.2.2) (fun s y => [(4, .pointer (some ⟨b1v, 0, none⟩)), (5, .pointer (some ⟨b2v, 0, none⟩)), (6, .int .i64 s3v.1), (7, .int .i64 s.1)]) (fun s y => [obj b1v 81 [.slice a0 x0.length c0, .int .i64 s.2.1, .int .i64 s.2.2.1], obj b2v 85 [.slice y.1 s.2.2.2.length y.2, .slice none 0 0], RowV 90 2 (V90 tt) y.1 s.2.2.2 y.2, F]) (fun _ => by rw [synodref11_Restore.l0]) ?_ k (0, s3v.2.1, s3v.2.2, ([] : List (Ty90))) (none, 0) ⟨rfl, rfl, rfl, rfl, trivial⟩ (.sel 0 rfl (.sel 0 rfl (.rowV_nil (.sel 0 rfl (.nil _)))))
 intro k s8v y9v
 refine sim_eq (by rw [synodref11_Restore.l0]) ?_
 refine sim_seq (sr ?_)
 refine vm rfl rfl ?_
 refine vm rfl rfl ?_
 refine vq (q_lss rfl rfl rfl) rfl ?_
 refine vm rfl rfl ?_
 refine simL_valc (b := decide (s8v.1 < s3v.1)) (fun hb56v => RQ.sub (E' := [(4, .pointer (some ⟨b1v, 0, none⟩))]) ⟨rfl, trivial⟩ (q_move rfl rfl)) rfl rfl rfl rfl rfl ?_
 refine simL_valc (b := decide (s8v.1 < s3v.1)) (fun hb55v => RQ.sub (E' := [(25, .pointer (some ⟨b1v, 0, none⟩))]) ⟨lk_cv rfl hb55v, trivial⟩ (q_nil rfl rfl)) rfl rfl rfl rfl rfl ?_
 refine simL_valc (b := decide (s8v.1 < s3v.1)) (fun hb54v => RQ.sub (E' := [(26, .pointer (some ⟨b1v, 0, none⟩))]) ⟨lk_cv rfl hb54v, trivial⟩ (q_fa rfl rfl Tryz.underlying81 rfl rfl Tryz.sizeOf3 rfl)) rfl rfl rfl rfl rfl ?_
 refine simL_valc (b := decide (s8v.1 < s3v.1)) (fun hb53v => RQ.sub (E' := [(27, .pointer (some ⟨b1v, 2, none⟩))]) ⟨lk_cv rfl hb53v, trivial⟩ (q_load rfl rfl Tryz.isAgg3 (.obj 0 rfl rfl))) rfl rfl rfl rfl rfl ?_
 refine simL_valc (b := decide (s8v.1 < s3v.1)) (fun hb52v => RQ.sub (E' := [(28, .int .i64 s8v.2.2.1)]) ⟨lk_cv rfl hb52v, trivial⟩ (q_eql rfl rfl rfl)) rfl rfl rfl rfl rfl ?_
 refine vq (q_and rfl rfl rfl) rfl (simL_nil (nrm_then ?_))
 refine sim_condb rfl (fun h14v => ?_) (fun h15v => ?_)
 refine sim_skip ?_
 refine nrm_then (sim_seq ?_)
 refine sim_block ?_
 refine sr ?_
 refine vm rfl rfl ?_
 refine simL_bind (fun s16v hs17v => ?_)
 refine simL_eff (re_call (vs := [.pointer (some ⟨b1v, 0, none⟩), .int .i64 64]) (cap := []) (A := [obj b1v 81 [.slice a0 x0.length c0, .int .i64 s8v.2.1, .int .i64 s8v.2.2.1]]) (rst := [obj b2v 85 [.slice y9v.1 s8v.2.2.2.length y9v.2, .slice none 0 0], RowV 90 2 (V90 tt) y9v.1 s8v.2.2.2 y9v.2, F]) rfl rfl rfl rfl rfl rfl Tryz.call36 (.sel 0 rfl (.sel 0 rfl (.sel 0 rfl (.sel 0 rfl (.nil _))))) (synodref1_Reader_Text.calls _ _ k b1v a0 c0 x0 s8v.2.1 s8v.2.2.1 (64 : Int) (h0.lend 2 rfl) hc0 hm0) hs17v) rfl rfl rfl ?_
 intro y18v
 refine va rfl rfl (nx ?_)
 refine vm rfl rfl ?_
 refine vm rfl rfl ?_
 refine vq (q_nes rfl rfl rfl) rfl ?_
 refine vm rfl rfl ?_
 refine simL_cut' 16 (S := Bool) (Unit) (fun s y => [(4, .pointer (some ⟨b1v, 0, none⟩)), (5, .pointer (some ⟨b2v, 0, none⟩)), (6, .int .i64 s3v.1), (7, .int .i64 s8v.1), (8, str s16v.1), (35, .pointer (some ⟨b1v, 0, none⟩)), (54, .bool s)]) (fun s y => [obj b1v 81 [.slice a0 x0.length c0, .int .i64 s16v.2.1, .int .i64 s16v.2.2], obj b2v 85 [.slice y9v.1 s8v.2.2.2.length y9v.2, .slice none 0 0], RowV 90 2 (V90 tt) y9v.1 s8v.2.2.2 y9v.2, F]) ?_ ?_
 refine simL_casen (fun hb35v => ?_) (fun hb36v => ?_)
 rw [hb35v]
 refine simL_valg (q_move rfl rfl) rfl rfl rfl rfl rfl rfl ?_
 refine simL_valg (q_eql rfl rfl rfl) rfl rfl rfl rfl rfl rfl ?_
 refine simL_valg (q_move rfl rfl) rfl rfl rfl rfl rfl rfl ?_
 refine simL_cut' 12 (S := Bool × Bool × Bool) (Unit) (fun s y => [(4, .pointer (some ⟨b1v, 0, none⟩)), (5, .pointer (some ⟨b2v, 0, none⟩)), (6, .int .i64 s3v.1), (7, .int .i64 s8v.1), (8, str s16v.1), (35, .pointer (some ⟨b1v, 0, none⟩)), (38, .bool true), (39, .int .i64 s8v.1), (40, .bool s.1), (41, .bool s.2.1), (53, .bool s.2.2)]) (fun s y => [obj b1v 81 [.slice a0 x0.length c0, .int .i64 s16v.2.1, .int .i64 s16v.2.2], obj b2v 85 [.slice y9v.1 s8v.2.2.2.length y9v.2, .slice none 0 0], RowV 90 2 (V90 tt) y9v.1 s8v.2.2.2 y9v.2, F]) ?_ ?_
 refine simL_casep (fun hb33v => ?_) (fun hb34v => ?_)
 rw [hb33v]
 refine simL_skipd rfl rfl rfl rfl rfl rfl ?_
 refine simL_skipd rfl rfl rfl rfl rfl rfl ?_
 refine simL_skipd rfl rfl rfl rfl rfl rfl ?_
 refine simL_skipd rfl rfl rfl rfl rfl rfl ?_
 refine simL_skipd rfl rfl rfl rfl rfl rfl ?_
 refine simL_skipd rfl rfl rfl rfl rfl rfl ?_
 refine simL_skipd rfl rfl rfl rfl rfl rfl ?_
 refine simL_skipd rfl rfl rfl rfl rfl rfl ?_
 refine simL_skipd rfl rfl rfl rfl rfl rfl ?_
 refine simL_skipd rfl rfl rfl rfl rfl rfl ?_
 refine simL_skipd rfl rfl rfl rfl rfl rfl ?_
 refine simL_valg (q_pick rfl rfl rfl rfl rfl) rfl rfl rfl rfl rfl rfl ?_
 refine simL_nil ?_
 exact nrm_cut (s := (true, true, true)) () ⟨rfl, rfl, rfl, rfl, rfl, rfl, rfl, rfl, rfl, rfl, rfl, trivial⟩ (.sel 0 rfl (.sel 0 rfl (.sel 0 rfl (.sel 0 rfl (.nil _)))))
 rw [hb34v]
 refine simL_valg (q_move rfl rfl) rfl rfl rfl rfl rfl rfl ?_
 refine simL_valg (q_move rfl rfl) rfl rfl rfl rfl rfl rfl ?_
 refine simL_valg (q_nil rfl rfl) rfl rfl rfl rfl rfl rfl ?_
 refine simL_valg (q_fa rfl rfl Tryz.underlying85 rfl rfl Tryz.sizeOf82 rfl) rfl rfl rfl rfl rfl rfl ?_
 refine simL_valg (q_load rfl rfl Tryz.isAgg82 (.obj 1 rfl rfl)) rfl rfl rfl rfl rfl rfl ?_
 refine simL_valg (q_move rfl rfl) rfl rfl rfl rfl rfl rfl ?_
 refine simL_valg (q_sub rfl rfl rfl) rfl rfl rfl rfl rfl rfl ?_
 refine simL_openV 2 rfl (fun rs31v hl32v => ?_)
 refine simL_ask (fun hi23v => ?_)
 refine simL_posV 2 rfl hl32v rfl (i := (IntKind.i64.wrap (s8v.1 - 1)).toNat) (by omega) dz90 (fun b24v b24vo r27v ha25v hV28v hlr29v hcell30v => ?_)
 obtain rfl := hV28v
 refine simL_valg (q_idx rfl rfl rfl ha25v Tryz.underlying82 Tryz.sizeOf90 hi23v.1 hi23v.2) rfl rfl rfl rfl rfl rfl ?_
 refine simL_valg (q_fa rfl rfl Tryz.underlying90 rfl rfl Tryz.sizeOf9 rfl) rfl rfl rfl rfl rfl rfl ?_
 refine simL_valg (q_load rfl rfl Tryz.isAgg9 (hcell30v 2 rfl 0 _ rfl)) rfl rfl rfl rfl rfl rfl ?_
 refine simL_valg (q_gts rfl rfl rfl) rfl rfl rfl rfl rfl rfl ?_
 refine simL_valg (q_pick rfl rfl rfl rfl rfl) rfl rfl rfl rfl rfl rfl ?_
 refine simL_nil ?_
 exact nrm_cut (s := (false, false, !(Op.bytesLess s16v.1 ((s8v.2.2.2.getD (IntKind.i64.wrap (s8v.1 - 1)).toNat dz90).1) || decide (s16v.1 = ((s8v.2.2.2.getD (IntKind.i64.wrap (s8v.1 - 1)).toNat dz90).1))))) () ⟨rfl, rfl, rfl, rfl, rfl, rfl, rfl, rfl, rfl, rfl, rfl, trivial⟩ (.sel 0 rfl (.sel 0 rfl (.sel' 0 rfl (RowV.mk hl32v) (.sel 0 rfl (.nil _)))))
 intro s21v y22v
 refine vq (q_pick rfl rfl rfl rfl rfl) rfl (simL_nil ?_)
 exact nrm_cut (s := s21v.2.2) () ⟨rfl, rfl, rfl, rfl, rfl, rfl, rfl, trivial⟩ (.sel 0 rfl (.sel 0 rfl (.sel 0 rfl (.sel 0 rfl (.nil _)))))
 rw [hb36v]
 refine simL_skipd rfl rfl rfl rfl rfl rfl ?_
 refine simL_skipd rfl rfl rfl rfl rfl rfl ?_
 refine simL_skipd rfl rfl rfl rfl rfl rfl ?_
 refine simL_skipu rfl rfl rfl rfl rfl ?_
 refine simL_skipu rfl rfl rfl rfl rfl ?_
 refine simL_skipu rfl rfl rfl rfl rfl ?_
 refine simL_skipu rfl rfl rfl rfl rfl ?_
 refine simL_skipu rfl rfl rfl rfl rfl ?_
 refine simL_skipu rfl rfl rfl rfl rfl ?_
 refine simL_skipu rfl rfl rfl rfl rfl ?_
 refine simL_skipu rfl rfl rfl rfl rfl ?_
 refine simL_skipu rfl rfl rfl rfl rfl ?_
 refine simL_skipu rfl rfl rfl rfl rfl ?_
 refine simL_skipu rfl rfl rfl rfl rfl ?_
 refine simL_skipd rfl rfl rfl rfl rfl rfl ?_
 refine vq (q_pick rfl rfl rfl rfl rfl) rfl (simL_nil ?_)
 exact nrm_cut (s := false) () ⟨rfl, rfl, rfl, rfl, rfl, rfl, rfl, trivial⟩ (.sel 0 rfl (.sel 0 rfl (.sel 0 rfl (.sel 0 rfl (.nil _)))))
 intro s19v y20v
 refine simL_bind (fun s37v hs38v => ?_)
 refine simL_eff (re_call (vs := [.pointer (some ⟨b1v, 0, none⟩), .bool s19v]) (cap := []) (A := [obj b1v 81 [.slice a0 x0.length c0, .int .i64 s16v.2.1, .int .i64 s16v.2.2]]) (rst := [obj b2v 85 [.slice y9v.1 s8v.2.2.2.length y9v.2, .slice none 0 0], RowV 90 2 (V90 tt) y9v.1 s8v.2.2.2 y9v.2, F]) rfl rfl rfl rfl rfl rfl Tryz.call37 (.sel 0 rfl (.sel 0 rfl (.sel 0 rfl (.sel 0 rfl (.nil _))))) (synodref11_form.calls _ _ b1v a0 c0 x0 s16v.2.1 s16v.2.2 s19v (h0.lend 2 rfl) hc0 hm0) hs38v) rfl rfl rfl ?_
 intro y39v
 refine simL_nil (nrm_then ?_)
 refine sim_openV 2 rfl (fun rs40v hl41v => ?_)
 refine sim_bind (fun s42v hs43v => ?_)
 have hlb46v : ListV 2 (V90 tt) ([(s16v.1, s42v.1)] : List (Ty90)) [[str s16v.1, str s42v.1]] := ⟨⟨rfl, one_of (by rfl), rfl⟩, trivial⟩
 refine sim_ask (fun hb50v => ?_)
 refine sim_draw (Γ := Nat × (Option Addr × Nat)) (0, (none, 0)) [[], [], [1], [1, 2], [1, 2, 3], [], [], [6], [5, 6, 7], [5, 6, 7, 8], [1, 2, 3, 4, 5, 6, 7, 8, 9], rL 11, rL 12, rL 13] [7, 9, 10, 13] [0, 1, 2, 3, 4, 5, 6, 8, 11, 12] (fun i => [[0, 1, 2, 3], [0, 1, 2], [0, 1, 2], [0, 1, 2], [0, 1, 2], [0, 1], [0], [], [1], [], [], [3], [3], []].getD i []) (fun i => [[], [], [], [], [], [], [], rL 7, [], rL 9, rL 10, [], [], rL 13].getD i []) (fun γ i => [.pointer (some ⟨b2v, 0, none⟩), .pointer (some ⟨b2v, 0, none⟩), .pointer (some ⟨b2v, 0, none⟩), .pointer (some ⟨b2v, 0, none⟩), .slice y9v.1 s8v.2.2.2.length y9v.2, str s16v.1, .pointer (some ⟨b1v, 0, none⟩), str s42v.1, .agg #[str s16v.1, str s42v.1], .slice (some ⟨γ.1, 0, none⟩) (([(s16v.1, s42v.1)] : List (Ty90)).length) 1, .slice γ.2.1 ((s8v.2.2.2 ++ ([(s16v.1, s42v.1)] : List (Ty90))).length) γ.2.2, .pointer (some ⟨b2v, 0, none⟩), .pointer (some ⟨b2v, 0, none⟩), undef].getD i undef) (fun j γ => [[obj b1v 81 [.slice a0 x0.length c0, .int .i64 s37v.1, .int .i64 s37v.2], obj b2v 85 [.slice y9v.1 s8v.2.2.2.length y9v.2, .slice none 0 0], Row 90 2 y9v.1 s8v.2.2.2.length y9v.2 rs40v.flatten, F], [obj b1v 81 [.slice a0 x0.length c0, .int .i64 s42v.2.1, .int .i64 s42v.2.2], obj b2v 85 [.slice y9v.1 s8v.2.2.2.length y9v.2, .slice none 0 0], Row 90 2 y9v.1 s8v.2.2.2.length y9v.2 rs40v.flatten, F], [Row 90 2 (some ⟨γ.1, 0, none⟩) ([(s16v.1, s42v.1)] : List (Ty90)).length 1 [[str s16v.1, str s42v.1]].flatten, obj b1v 81 [.slice a0 x0.length c0, .int .i64 s42v.2.1, .int .i64 s42v.2.2], obj b2v 85 [.slice y9v.1 s8v.2.2.2.length y9v.2, .slice none 0 0], Row 90 2 y9v.1 s8v.2.2.2.length y9v.2 rs40v.flatten, F], [Row 90 2 (some ⟨γ.1, 0, none⟩) ([(s16v.1, s42v.1)] : List (Ty90)).length 1 [[str s16v.1, str s42v.1]].flatten, obj b1v 81 [.slice a0 x0.length c0, .int .i64 s42v.2.1, .int .i64 s42v.2.2], obj b2v 85 [.slice y9v.1 s8v.2.2.2.length y9v.2, .slice none 0 0], RowV 90 2 (V90 tt) γ.2.1 (s8v.2.2.2 ++ ([(s16v.1, s42v.1)] : List (Ty90))) γ.2.2, F], [Row 90 2 (some ⟨γ.1, 0, none⟩) ([(s16v.1, s42v.1)] : List (Ty90)).length 1 [[str s16v.1, str s42v.1]].flatten, obj b1v 81 [.slice a0 x0.length c0, .int .i64 s42v.2.1, .int .i64 s42v.2.2], obj b2v 85 [.slice γ.2.1 ((s8v.2.2.2 ++ ([(s16v.1, s42v.1)] : List (Ty90))).length) γ.2.2, .slice none 0 0], RowV 90 2 (V90 tt) γ.2.1 (s8v.2.2.2 ++ ([(s16v.1, s42v.1)] : List (Ty90))) γ.2.2, F]].getD j []) (fun γ => [(4, .pointer (some ⟨b1v, 0, none⟩)), (5, .pointer (some ⟨b2v, 0, none⟩)), (6, .int .i64 s3v.1), (7, .int .i64 s8v.1)]) mixed (by decide) (by decide) (by decide) (by decide) (by decide) (by decide) (by decide) 171 rfl (by decide) (by decide) (by decide) (Ent.refl _) ?_ ?_ (fun _ => ⟨rfl, rfl, rfl, rfl, trivial⟩) ?_
 exact (ac (fun γ => (ac (qm rfl (.o (s := 5) rfl (by decide) .nil) rfl) (ac (qm rfl (.o (s := 5) rfl (by decide) .nil) rfl) (ac (qm rfl (.o (s := 5) rfl (by decide) .nil) rfl) (ac (qm rfl (.o (s := 5) rfl (by decide) .nil) rfl) zA))))) (ac (fun γ => (ac (qm rfl (.o (s := 5) rfl (by decide) .nil) rfl) (ac (qm rfl (.o (s := 5) rfl (by decide) .nil) rfl) (ac (qm rfl (.o (s := 5) rfl (by decide) .nil) rfl) zA)))) (ac (fun γ => (ac (qp rfl rfl (.v 1 rfl rfl .nil) (q_nil rfl rfl) rfl) (ac (qp rfl rfl (.v 1 rfl rfl .nil) (q_nil rfl rfl) rfl) (ac (qp rfl rfl (.v 1 rfl rfl .nil) (q_nil rfl rfl) rfl) zA)))) (ac (fun γ => (ac (qp rfl rfl (.v 2 rfl rfl .nil) (q_fa rfl rfl Tryz.underlying85 rfl rfl Tryz.sizeOf82 rfl) rfl) (ac (qp rfl rfl (.v 2 rfl rfl .nil) (q_fa rfl rfl Tryz.underlying85 rfl rfl Tryz.sizeOf82 rfl) rfl) (ac (qp rfl rfl (.v 2 rfl rfl .nil) (q_fa rfl rfl Tryz.underlying85 rfl rfl Tryz.sizeOf82 rfl) rfl) zA)))) (ac (fun γ => (ac (qp rfl rfl (.v 3 rfl rfl .nil) (q_load rfl rfl Tryz.isAgg82 (.obj 1 rfl rfl)) rfl) (ac (qp rfl rfl (.v 3 rfl rfl .nil) (q_load rfl rfl Tryz.isAgg82 (.obj 1 rfl rfl)) rfl) (ac (qp rfl rfl (.v 3 rfl rfl .nil) (q_load rfl rfl Tryz.isAgg82 (.obj 2 rfl rfl)) rfl) zA)))) (ac (fun γ => (ac (qm rfl (.o (s := 8) rfl (by decide) .nil) rfl) (ac (qm rfl (.o (s := 8) rfl (by decide) .nil) rfl) zA))) (aq rfl (fun γ => qm rfl (.o (s := 4) rfl (by decide) .nil) rfl) (aq rfl (fun γ => qp rfl rfl (.v 5 rfl rfl (.v 7 rfl rfl .nil)) (q_build (v := .agg #[str s16v.1, str s42v.1]) rfl rfl (fun _ => by kernel_rfl)) rfl) (aq rfl (fun γ => qp rfl rfl (.v 0 rfl rfl .nil) (q_nil rfl rfl) rfl) (aq rfl (fun γ => qp rfl rfl (.v 11 rfl rfl .nil) (q_fa rfl rfl Tryz.underlying85 rfl rfl Tryz.sizeOf82 rfl) rfl) zA))))))))))
 exact (ac (fun γ => eo (Z := Unit) (fun z => (γ.1, γ.2)) rfl rfl (.v 6 rfl rfl .nil) (re_call (vs := [.pointer (some ⟨b1v, 0, none⟩), .int .i64 1024]) (cap := []) (A := [obj b1v 81 [.slice a0 x0.length c0, .int .i64 s37v.1, .int .i64 s37v.2]]) (rst := [obj b2v 85 [.slice y9v.1 s8v.2.2.2.length y9v.2, .slice none 0 0], Row 90 2 y9v.1 s8v.2.2.2.length y9v.2 rs40v.flatten, F]) rfl rfl rfl rfl rfl rfl Tryz.call36 (.sel 0 rfl (.sel 0 rfl (.sel 0 rfl (.sel 0 rfl (.nil _))))) (synodref1_Reader_Text.calls _ _ k b1v a0 c0 x0 s37v.1 s37v.2 (1024 : Int) (h0.lend 2 rfl) hc0 hm0) hs43v) (fun _ => ⟨rfl, rfl, rfl, rfl, rfl, rfl, rfl, trivial⟩) (fun _ => .inr rfl) (fun z => Ent.refl _)) (ac (fun γ => eo (Z := Nat) (fun z => (z, γ.2)) rfl rfl (.v 8 rfl rfl .nil) (re_litV (V := (V90 tt)) (xs := ([(s16v.1, s42v.1)] : List (Ty90))) [[str s16v.1, str s42v.1]] rfl rfl Tryz.underlying82 elt90 rfl (by kernel_rfl) rfl hlb46v rfl rfl) (fun _ => ⟨rfl, rfl, rfl, rfl, rfl, rfl, rfl, rfl, rfl, trivial⟩) (fun _ => .inr rfl) (fun z => Ent.refl _)) (ac (fun γ => eo (Z := Option Addr × Nat) (fun z => (γ.1, z)) rfl rfl (.v 4 rfl rfl (.v 9 rfl rfl .nil)) (re_appendV 3 rfl rfl rfl Tryz.underlying82 elt90 rfl hl41v (RdsV.row hlb46v 0 rfl) hb50v) (fun _ => ⟨rfl, rfl, rfl, rfl, rfl, rfl, rfl, rfl, rfl, rfl, trivial⟩) (fun _ => .inr rfl) (fun z => Ent.refl _)) (ac (fun γ => eo (Z := Unit) (fun z => (γ.1, γ.2)) rfl rfl (.v 10 rfl rfl (.v 12 rfl rfl .nil)) (re_store 2 rfl rfl rfl Tryz.sizeOf82 rfl rfl (one_of (by rfl)) rfl rfl) (fun _ => ⟨rfl, rfl, rfl, rfl, rfl, rfl, rfl, rfl, rfl, rfl, rfl, rfl, rfl, trivial⟩) (fun _ => .inl rfl) (fun z => Ent.refl _)) zA))))
 intro g51v
 refine nrm_block (nrm_then (sim_region ?_))
 refine vm rfl rfl ?_
 refine vq (q_add rfl rfl rfl) rfl ?_
 refine va rfl rfl (simL_nil ?_)
 exact nrm_again (s := (IntKind.i64.wrap (s8v.1 + 1), s42v.2.1, s42v.2.2, s8v.2.2.2 ++ ([(s16v.1, s42v.1)] : List (Ty90)))) (g51v.2.1, g51v.2.2) ⟨rfl, rfl, rfl, rfl, trivial⟩ (.sel 1 rfl (.sel 1 rfl (.sel 1 rfl (.sel 1 rfl (.nil _)))))
 refine sim_exi ?_
 refine exi_then ?_
 refine exi_loop ?_
 refine exi_here ?_
 exact nrm_cut (s := (s8v.2.1, s8v.2.2.1, s8v.2.2.2)) (y9v.1, y9v.2) ⟨rfl, rfl, trivial⟩ (.sel 0 rfl (.sel 0 rfl (.sel 0 rfl (.sel 0 rfl (.nil _)))))
 intro s6v y7v
 refine sr ?_
 refine vm rfl rfl ?_
 refine simL_bind (fun s57v hs58v => ?_)
 refine simL_eff (re_call (vs := [.pointer (some ⟨b1v, 0, none⟩), .int .i64 32]) (cap := []) (A := [obj b1v 81 [.slice a0 x0.length c0, .int .i64 s6v.1, .int .i64 s6v.2.1]]) (rst := [obj b2v 85 [.slice y7v.1 s6v.2.2.length y7v.2, .slice none 0 0], RowV 90 2 (V90 tt) y7v.1 s6v.2.2 y7v.2, F]) rfl rfl rfl rfl rfl rfl Tryz.call35 (.sel 0 rfl (.sel 0 rfl (.sel 0 rfl (.sel 0 rfl (.nil _))))) (synodref11_count.calls _ _ k b1v a0 c0 x0 s6v.1 s6v.2.1 (32 : Int) (h0.lend 2 rfl) hc0 hm0) hs58v) rfl rfl rfl ?_
 intro y59v
 refine va rfl rfl (simL_nil (nrm_then ?_))
 refine sim_cut (S := Int × Int × (List (Ty91))) (Option Addr × Nat) (fun s y => [(4, .pointer (some ⟨b1v, 0, none⟩)), (5, .pointer (some ⟨b2v, 0, none⟩))]) (fun s y => [obj b1v 81 [.slice a0 x0.length c0, .int .i64 s.1, .int .i64 s.2.1], obj b2v 85 [.slice y7v.1 s6v.2.2.length y7v.2, .slice y.1 s.2.2.length y.2], RowV 90 2 (V90 tt) y7v.1 s6v.2.2 y7v.2, RowV 91 4 (V91 tt) y.1 s.2.2 y.2, F]) ?_ ?_
 refine sr ?_
 refine va rfl rfl (simL_nil (nrm_then ?_))
 refine sim_block ?_
 refine sim_loop (S := Int × Int × Int × (List (Ty91))) (Option Addr × Nat) (fun k s => synodref11_Restore.l1 x0 s57v k s.1 s.2.1 s.2.2.1 s.2.2.2) (fun s y => [(4, .pointer (some ⟨b1v, 0, none⟩)), (5, .pointer (some ⟨b2v, 0, none⟩)), (9, .int .i64 s57v.1), (10, .int .i64 s.1)]) (fun s y => [obj b1v 81 [.slice a0 x0.length c0, .int .i64 s.2.1, .int .i64 s.2.2.1], obj b2v 85 [.slice y7v.1 s6v.2.2.length y7v.2, .slice y.1 s.2.2.2.length y.2], RowV 90 2 (V90 tt) y7v.1 s6v.2.2 y7v.2, RowV 91 4 (V91 tt) y.1 s.2.2.2 y.2, F]) (fun _ => by rw [synodref11_Restore.l1]) ?_ k (0, s57v.2.1, s57v.2.2, ([] : List (Ty91))) (none, 0) ⟨rfl, rfl, rfl, rfl, trivial⟩ (.sel 0 rfl (.sel 0 rfl (.sel 0 rfl (.rowV_nil (.sel 0 rfl (.nil _))))))
 intro k s62v y63v
 refine sim_eq (by rw [synodref11_Restore.l1]) ?_
 refine sim_seq (sr ?_)
 refine vm rfl rfl ?_
 refine vm rfl rfl ?_
 refine vq (q_lss rfl rfl rfl) rfl ?_
 refine vm rfl rfl ?_
 refine simL_valc (b := decide (s62v.1 < s57v.1)) (fun hb143v => RQ.sub (E' := [(4, .pointer (some ⟨b1v, 0, none⟩))]) ⟨rfl, trivial⟩ (q_move rfl rfl)) rfl rfl rfl rfl rfl ?_
 refine simL_valc (b := decide (s62v.1 < s57v.1)) (fun hb142v => RQ.sub (E' := [(75, .pointer (some ⟨b1v, 0, none⟩))]) ⟨lk_cv rfl hb142v, trivial⟩ (q_nil rfl rfl)) rfl rfl rfl rfl rfl ?_
 refine simL_valc (b := decide (s62v.1 < s57v.1)) (fun hb141v => RQ.sub (E' := [(76, .pointer (some ⟨b1v, 0, none⟩))]) ⟨lk_cv rfl hb141v, trivial⟩ (q_fa rfl rfl Tryz.underlying81 rfl rfl Tryz.sizeOf3 rfl)) rfl rfl rfl rfl rfl ?_
 refine simL_valc (b := decide (s62v.1 < s57v.1)) (fun hb140v => RQ.sub (E' := [(77, .pointer (some ⟨b1v, 2, none⟩))]) ⟨lk_cv rfl hb140v, trivial⟩ (q_load rfl rfl Tryz.isAgg3 (.obj 0 rfl rfl))) rfl rfl rfl rfl rfl ?_
 refine simL_valc (b := decide (s62v.1 < s57v.1)) (fun hb139v => RQ.sub (E' := [(78, .int .i64 s62v.2.2.1)]) ⟨lk_cv rfl hb139v, trivial⟩ (q_eql rfl rfl rfl)) rfl rfl rfl rfl rfl ?_
 refine vq (q_and rfl rfl rfl) rfl (simL_nil (nrm_then ?_))
 refine sim_condb rfl (fun h68v => ?_) (fun h69v => ?_)
 refine sim_skip ?_
 refine nrm_then (sim_seq ?_)
 refine sim_block ?_
 refine sr ?_
 refine vm rfl rfl ?_
 refine simL_bind (fun s70v hs71v => ?_)
 refine simL_eff (re_call (vs := [.pointer (some ⟨b1v, 0, none⟩)]) (cap := []) (A := [obj b1v 81 [.slice a0 x0.length c0, .int .i64 s62v.2.1, .int .i64 s62v.2.2.1]]) (rst := [obj b2v 85 [.slice y7v.1 s6v.2.2.length y7v.2, .slice y63v.1 s62v.2.2.2.length y63v.2], RowV 90 2 (V90 tt) y7v.1 s6v.2.2 y7v.2, RowV 91 4 (V91 tt) y63v.1 s62v.2.2.2 y63v.2, F]) rfl rfl rfl rfl rfl rfl Tryz.call38 (.sel 0 rfl (.sel 0 rfl (.sel 0 rfl (.sel 0 rfl (.sel 0 rfl (.nil _)))))) (synodref1_Reader_Int.calls _ _ k b1v a0 c0 x0 s62v.2.1 s62v.2.2.1 (h0.lend 3 rfl) hc0 hm0) hs71v) rfl rfl rfl ?_
 intro y72v
 refine vq (q_build (v := .agg #[.int .i64 s70v.1, .int .i64 0, .int .i64 0, str ([] : List UInt8)]) rfl rfl (fun _ => by kernel_rfl)) rfl ?_
 refine simL_eff (re_alloc rfl Tryz.zeroValue91 rfl) rfl rfl rfl ?_
 intro b73v
 refine simL_do (re_store 0 rfl rfl rfl Tryz.sizeOf91 rfl rfl (one_of (by rfl)) rfl rfl) rfl rfl ?_
 intro _
 refine simL_nil (nrm_then ?_)
 refine sim_cut (S := Int × Int) (Unit) (fun s y => [(4, .pointer (some ⟨b1v, 0, none⟩)), (5, .pointer (some ⟨b2v, 0, none⟩)), (9, .int .i64 s57v.1), (10, .int .i64 s62v.1), (11, .pointer (some ⟨b73v, 0, none⟩))]) (fun s y => [obj b1v 81 [.slice a0 x0.length c0, .int .i64 s.1, .int .i64 s.2], obj b73v 91 [.int .i64 s70v.1, .int .i64 0, .int .i64 0, str ([] : List UInt8)], obj b2v 85 [.slice y7v.1 s6v.2.2.length y7v.2, .slice y63v.1 s62v.2.2.2.length y63v.2], RowV 90 2 (V90 tt) y7v.1 s6v.2.2 y7v.2, RowV 91 4 (V91 tt) y63v.1 s62v.2.2.2 y63v.2, F]) ?_ ?_
 refine sim_openV 3 rfl (fun rs76v hl77v => ?_)
 refine sim_openV 4 rfl (fun rs78v hl79v => ?_)
 refine sim_if (fun hk80v => ?_) (fun hk80v => ?_)
 refine sim_if (fun hk81v => ?_) (fun hk81v => ?_)
 refine sim_bind (fun s82v hs83v => ?_)
 refine sim_draw (Γ := Unit) () [[], [], [1], [1, 2], [1, 2, 3], [1, 2, 3, 4], [1, 2, 3, 4, 5], [1, 2, 3, 4, 5, 6], [1, 2, 3, 4, 5, 6, 7], [1, 2, 3, 4, 5, 6, 7, 8], [1, 2, 3, 4, 5, 6, 7], [1, 2, 3, 4, 5, 6, 7, 10], [1, 2, 3, 4, 5, 6, 7, 10, 11], [1, 2, 3, 4, 5, 6, 7, 10, 11, 12], [1, 2, 3, 4, 5, 6, 7], [1, 2, 3, 4, 5, 6, 7, 14], [1, 2, 3, 4, 5, 6, 7, 10, 11, 12, 13, 14, 15], [1, 2, 3, 4, 5, 6, 7, 10, 11, 12, 13, 14, 15, 16], [1, 2, 3, 4, 5, 6, 7, 10, 11, 12, 13, 14, 15, 16, 17], [1, 2, 3, 4, 5, 6, 7, 8, 9, 10, 11, 12, 13, 14, 15, 16, 17, 18], [1, 2, 3, 4, 5, 6, 7, 8, 9, 10, 11, 12, 13, 14, 15, 16, 17, 18, 19], [1, 2, 3, 4, 5, 6, 7, 8, 9, 10, 11, 12, 13, 14, 15, 16, 17, 18, 19, 20], rL 22] [22] [0, 1, 2, 3, 4, 5, 6, 7, 8, 9, 10, 11, 12, 13, 14, 15, 16, 17, 18, 19, 20, 21] (fun i => [[0], [0], [0], [0], [0], [0], [0], [0], [0], [0], [0], [0], [0], [0], [0], [0], [0], [0], [0], [0], [0], [0], []].getD i []) (fun i => [[], [], [], [], [], [], [], [], [], [], [], [], [], [], [], [], [], [], [], [], [], [], rL 22].getD i []) (fun γ i => [.pointer (some ⟨b1v, 0, none⟩), .pointer (some ⟨b73v, 0, none⟩), .int .i64 s70v.1, .bool (decide ((0 : Int) < s70v.1)), .bool (decide ((0 : Int) < s70v.1)), .int .i64 s62v.1, .bool (decide (s62v.1 = (0 : Int))), .bool (decide (s62v.1 = (0 : Int))), undef, undef, undef, undef, undef, undef, undef, undef, undef, undef, undef, undef, .bool true, .bool true, .tuple #[]].getD i undef) (fun j γ => [[obj b73v 91 [.int .i64 s70v.1, .int .i64 0, .int .i64 0, str ([] : List UInt8)], obj b1v 81 [.slice a0 x0.length c0, .int .i64 s70v.2.1, .int .i64 s70v.2.2], obj b2v 85 [.slice y7v.1 s6v.2.2.length y7v.2, .slice y63v.1 s62v.2.2.2.length y63v.2], Row 90 2 y7v.1 s6v.2.2.length y7v.2 rs76v.flatten, Row 91 4 y63v.1 s62v.2.2.2.length y63v.2 rs78v.flatten, F], [obj b1v 81 [.slice a0 x0.length c0, .int .i64 s82v.1, .int .i64 s82v.2], obj b73v 91 [.int .i64 s70v.1, .int .i64 0, .int .i64 0, str ([] : List UInt8)], obj b2v 85 [.slice y7v.1 s6v.2.2.length y7v.2, .slice y63v.1 s62v.2.2.2.length y63v.2], Row 90 2 y7v.1 s6v.2.2.length y7v.2 rs76v.flatten, Row 91 4 y63v.1 s62v.2.2.2.length y63v.2 rs78v.flatten, F]].getD j []) (fun γ => [(4, .pointer (some ⟨b1v, 0, none⟩)), (5, .pointer (some ⟨b2v, 0, none⟩)), (9, .int .i64 s57v.1), (10, .int .i64 s62v.1), (11, .pointer (some ⟨b73v, 0, none⟩)), (75, cv ((decide (s62v.1 < s57v.1)) == true) (.pointer (some ⟨b1v, 0, none⟩))), (76, cv ((decide (s62v.1 < s57v.1)) == true) (.pointer (some ⟨b1v, 0, none⟩))), (77, cv ((decide (s62v.1 < s57v.1)) == true) (.pointer (some ⟨b1v, 2, none⟩))), (78, cv ((decide (s62v.1 < s57v.1)) == true) (.int .i64 s62v.2.2.1)), (79, cv ((decide (s62v.1 < s57v.1)) == true) (.bool (decide (s62v.2.2.1 = (0 : Int))))), (91, .int .i64 s62v.1), (92, .bool (decide (s62v.1 = (0 : Int)))), (93, .bool (decide (s62v.1 = (0 : Int)))), (94, undef), (95, undef), (96, undef), (97, undef), (98, undef), (99, undef), (100, undef), (101, undef), (102, undef), (103, undef), (104, undef), (105, undef), (106, .bool true)]) mixed (by decide) (by decide) (by decide) (by decide) (by decide) (by decide) (by decide) 171 rfl (by decide) (by decide) (by decide) (Ent.refl _) ?_ ?_ (fun _ => ⟨rfl, rfl, rfl, rfl, rfl, rfl, rfl, rfl, rfl, rfl, rfl, rfl, rfl, rfl, rfl, rfl, rfl, rfl, rfl, rfl, rfl, rfl, rfl, rfl, rfl, rfl, trivial⟩) ?_
 exact (aq rfl (fun γ => qm rfl (.o (s := 4) rfl (by decide) .nil) rfl) (aq rfl (fun γ => qp rfl rfl (.o (s := 11) rfl (by decide) .nil) (q_fa rfl rfl Tryz.underlying91 rfl rfl Tryz.sizeOf3 rfl) rfl) (aq rfl (fun γ => qp rfl rfl (.v 1 rfl rfl .nil) (q_load rfl rfl Tryz.isAgg3 (.obj 0 rfl rfl)) rfl) (aq rfl (fun γ => qp rfl rfl (.v 2 rfl rfl .nil) (q_gtr rfl rfl rfl) rfl) (aq rfl (fun γ => qm rfl (.v 3 rfl rfl .nil) rfl) (aq rfl (fun γ => qy rfl rfl (.o (s := 10) rfl (by decide) (.v 4 rfl rfl .nil)) rfl rfl (beq_yes (decide_eq_true hk80v)) (q_move rfl rfl) rfl) (aq rfl (fun γ => qy rfl rfl (.v 4 rfl rfl (.v 5 rfl rfl .nil)) rfl rfl (beq_yes (decide_eq_true hk80v)) (q_eql rfl rfl rfl) rfl) (aq rfl (fun γ => qy rfl rfl (.v 4 rfl rfl (.v 6 rfl rfl .nil)) rfl rfl (beq_yes (decide_eq_true hk80v)) (q_move rfl rfl) rfl) (aq rfl (fun γ => qn rfl rfl (.o (s := 11) rfl (by decide) (.v 7 rfl rfl .nil)) rfl rfl (beq_yes' (decide_eq_true hk81v)) rfl) (aq rfl (fun γ => qn rfl rfl (.v 7 rfl rfl (.v 8 rfl rfl .nil)) rfl rfl (beq_yes' (decide_eq_true hk81v)) rfl) (aq rfl (fun γ => qn rfl rfl (.o (s := 5) rfl (by decide) (.v 7 rfl rfl .nil)) rfl rfl (beq_yes' (decide_eq_true hk81v)) rfl) (aq rfl (fun γ => qn rfl rfl (.v 7 rfl rfl (.v 10 rfl rfl .nil)) rfl rfl (beq_yes' (decide_eq_true hk81v)) rfl) (aq rfl (fun γ => qn rfl rfl (.v 7 rfl rfl (.v 11 rfl rfl .nil)) rfl rfl (beq_yes' (decide_eq_true hk81v)) rfl) (aq rfl (fun γ => qn rfl rfl (.v 7 rfl rfl (.v 12 rfl rfl .nil)) rfl rfl (beq_yes' (decide_eq_true hk81v)) rfl) (aq rfl (fun γ => qn rfl rfl (.o (s := 10) rfl (by decide) (.v 7 rfl rfl .nil)) rfl rfl (beq_yes' (decide_eq_true hk81v)) rfl) (aq rfl (fun γ => qn rfl rfl (.v 7 rfl rfl (.v 14 rfl rfl .nil)) rfl rfl (beq_yes' (decide_eq_true hk81v)) rfl) (aq rfl (fun γ => qn rfl rfl (.v 7 rfl rfl (.v 13 rfl rfl (.v 15 rfl rfl .nil))) rfl rfl (beq_yes' (decide_eq_true hk81v)) rfl) (aq rfl (fun γ => qn rfl rfl (.v 7 rfl rfl (.v 16 rfl rfl .nil)) rfl rfl (beq_yes' (decide_eq_true hk81v)) rfl) (aq rfl (fun γ => qn rfl rfl (.v 7 rfl rfl (.v 17 rfl rfl .nil)) rfl rfl (beq_yes' (decide_eq_true hk81v)) rfl) (aq rfl (fun γ => qn rfl rfl (.v 7 rfl rfl (.v 9 rfl rfl (.v 18 rfl rfl .nil))) rfl rfl (beq_yes' (decide_eq_true hk81v)) rfl) (aq rfl (fun γ => qy rfl rfl (.v 4 rfl rfl (.v 7 rfl rfl (.v 19 rfl rfl .nil))) rfl rfl (beq_yes (decide_eq_true hk80v)) (q_pick rfl rfl rfl rfl (bif_yes (decide_eq_true hk81v) _ _)) rfl) (aq rfl (fun γ => qp rfl rfl (.v 4 rfl rfl (.v 20 rfl rfl .nil)) (q_pick rfl rfl rfl rfl (bif_yes (decide_eq_true hk80v) _ _)) rfl) zA))))))))))))))))))))))
 exact (ac (fun γ => eo (Z := Unit) (fun z => ()) rfl rfl (.v 0 rfl rfl (.v 21 rfl rfl .nil)) (re_call (vs := [.pointer (some ⟨b1v, 0, none⟩), .bool true]) (cap := []) (A := [obj b1v 81 [.slice a0 x0.length c0, .int .i64 s70v.2.1, .int .i64 s70v.2.2]]) (rst := [obj b73v 91 [.int .i64 s70v.1, .int .i64 0, .int .i64 0, str ([] : List UInt8)], obj b2v 85 [.slice y7v.1 s6v.2.2.length y7v.2, .slice y63v.1 s62v.2.2.2.length y63v.2], Row 90 2 y7v.1 s6v.2.2.length y7v.2 rs76v.flatten, Row 91 4 y63v.1 s62v.2.2.2.length y63v.2 rs78v.flatten, F]) rfl rfl rfl rfl rfl rfl Tryz.call37 (.sel 1 rfl (.sel 0 rfl (.sel 0 rfl (.sel 0 rfl (.sel 0 rfl (.sel 0 rfl (.nil _))))))) (synodref11_form.calls _ _ b1v a0 c0 x0 s70v.2.1 s70v.2.2 true (h0.lend 4 rfl) hc0 hm0) hs83v) (fun _ => ⟨rfl, rfl, rfl, rfl, rfl, rfl, rfl, rfl, rfl, rfl, rfl, rfl, rfl, rfl, rfl, rfl, rfl, rfl, rfl, rfl, rfl, rfl, trivial⟩) (fun _ => .inr rfl) (fun z => Ent.refl _)) zA)
 intro g85v
 exact nrm_cut (s := (s82v.1, s82v.2)) () ⟨rfl, rfl, rfl, rfl, rfl, trivial⟩ (.sel 0 rfl (.sel 0 rfl (.sel 0 rfl (.sel' 0 rfl (RowV.mk hl77v) (.sel' 0 rfl (RowV.mk hl79v) (.sel 0 rfl (.nil _)))))))
 refine sim_ask (fun hi86v => ?_)
 refine sim_posV 4 rfl hl79v rfl (i := (IntKind.i64.wrap (s62v.1 - 1)).toNat) (by omega) dz91 (fun b87v b87vo r90v ha88v hV91v hlr92v hcell93v => ?_)
 obtain rfl := hV91v
 refine sim_bind (fun s94v hs95v => ?_)
 refine sim_draw (Γ := Unit) () [[], [], [1], [1, 2], [1, 2, 3], [1, 2, 3, 4], [1, 2, 3, 4, 5], [1, 2, 3, 4, 5, 6], [1, 2, 3, 4, 5, 6, 7], [1, 2, 3, 4, 5, 6, 7, 8], [1, 2, 3, 4, 5, 6, 7], [1, 2, 3, 4, 5, 6, 7, 10], [1, 2, 3, 4, 5, 6, 7, 10, 11], [1, 2, 3, 4, 5, 6, 7, 10, 11, 12], [1, 2, 3, 4, 5, 6, 7], [1, 2, 3, 4, 5, 6, 7, 14], [1, 2, 3, 4, 5, 6, 7, 10, 11, 12, 13, 14, 15], [1, 2, 3, 4, 5, 6, 7, 10, 11, 12, 13, 14, 15, 16], [1, 2, 3, 4, 5, 6, 7, 10, 11, 12, 13, 14, 15, 16, 17], [1, 2, 3, 4, 5, 6, 7, 8, 9, 10, 11, 12, 13, 14, 15, 16, 17, 18], [1, 2, 3, 4, 5, 6, 7, 8, 9, 10, 11, 12, 13, 14, 15, 16, 17, 18, 19], [1, 2, 3, 4, 5, 6, 7, 8, 9, 10, 11, 12, 13, 14, 15, 16, 17, 18, 19, 20], rL 22] [22] [0, 1, 2, 3, 4, 5, 6, 7, 8, 9, 10, 11, 12, 13, 14, 15, 16, 17, 18, 19, 20, 21] (fun i => [[0], [0], [0], [0], [0], [0], [0], [0], [0], [0], [0], [0], [0], [0], [0], [0], [0], [0], [0], [0], [0], [0], []].getD i []) (fun i => [[], [], [], [], [], [], [], [], [], [], [], [], [], [], [], [], [], [], [], [], [], [], rL 22].getD i []) (fun γ i => [.pointer (some ⟨b1v, 0, none⟩), .pointer (some ⟨b73v, 0, none⟩), .int .i64 s70v.1, .bool (decide ((0 : Int) < s70v.1)), .bool (decide ((0 : Int) < s70v.1)), .int .i64 s62v.1, .bool (decide (s62v.1 = (0 : Int))), .bool (decide (s62v.1 = (0 : Int))), .pointer (some ⟨b73v, 0, none⟩), .int .i64 s70v.1, .pointer (some ⟨b2v, 0, none⟩), .pointer (some ⟨b2v, 0, none⟩), .pointer (some ⟨b2v, 1, none⟩), .slice y63v.1 s62v.2.2.2.length y63v.2, .int .i64 s62v.1, .int .i64 (IntKind.i64.wrap (s62v.1 - 1)), .pointer (some ⟨b87v, b87vo + (IntKind.i64.wrap (s62v.1 - 1)).toNat * 4, none⟩), .pointer (some ⟨b87v, b87vo + (IntKind.i64.wrap (s62v.1 - 1)).toNat * 4 + 0, none⟩), .int .i64 ((s62v.2.2.2.getD (IntKind.i64.wrap (s62v.1 - 1)).toNat dz91).1), .bool (decide ((s62v.2.2.2.getD (IntKind.i64.wrap (s62v.1 - 1)).toNat dz91).1 < s70v.1)), .bool (decide ((s62v.2.2.2.getD (IntKind.i64.wrap (s62v.1 - 1)).toNat dz91).1 < s70v.1)), .bool (decide ((s62v.2.2.2.getD (IntKind.i64.wrap (s62v.1 - 1)).toNat dz91).1 < s70v.1)), .tuple #[]].getD i undef) (fun j γ => [[obj b73v 91 [.int .i64 s70v.1, .int .i64 0, .int .i64 0, str ([] : List UInt8)], obj b1v 81 [.slice a0 x0.length c0, .int .i64 s70v.2.1, .int .i64 s70v.2.2], obj b2v 85 [.slice y7v.1 s6v.2.2.length y7v.2, .slice y63v.1 s62v.2.2.2.length y63v.2], Row 90 2 y7v.1 s6v.2.2.length y7v.2 rs76v.flatten, Row 91 4 y63v.1 s62v.2.2.2.length y63v.2 rs78v.flatten, F], [obj b1v 81 [.slice a0 x0.length c0, .int .i64 s94v.1, .int .i64 s94v.2], obj b73v 91 [.int .i64 s70v.1, .int .i64 0, .int .i64 0, str ([] : List UInt8)], obj b2v 85 [.slice y7v.1 s6v.2.2.length y7v.2, .slice y63v.1 s62v.2.2.2.length y63v.2], Row 90 2 y7v.1 s6v.2.2.length y7v.2 rs76v.flatten, Row 91 4 y63v.1 s62v.2.2.2.length y63v.2 rs78v.flatten, F]].getD j []) (fun γ => [(4, .pointer (some ⟨b1v, 0, none⟩)), (5, .pointer (some ⟨b2v, 0, none⟩)), (9, .int .i64 s57v.1), (10, .int .i64 s62v.1), (11, .pointer (some ⟨b73v, 0, none⟩)), (75, cv ((decide (s62v.1 < s57v.1)) == true) (.pointer (some ⟨b1v, 0, none⟩))), (76, cv ((decide (s62v.1 < s57v.1)) == true) (.pointer (some ⟨b1v, 0, none⟩))), (77, cv ((decide (s62v.1 < s57v.1)) == true) (.pointer (some ⟨b1v, 2, none⟩))), (78, cv ((decide (s62v.1 < s57v.1)) == true) (.int .i64 s62v.2.2.1)), (79, cv ((decide (s62v.1 < s57v.1)) == true) (.bool (decide (s62v.2.2.1 = (0 : Int))))), (91, .int .i64 s62v.1), (92, .bool (decide (s62v.1 = (0 : Int)))), (93, .bool (decide (s62v.1 = (0 : Int)))), (94, .pointer (some ⟨b73v, 0, none⟩)), (95, .int .i64 s70v.1), (96, .pointer (some ⟨b2v, 0, none⟩)), (97, .pointer (some ⟨b2v, 0, none⟩)), (98, .pointer (some ⟨b2v, 1, none⟩)), (99, .slice y63v.1 s62v.2.2.2.length y63v.2), (100, .int .i64 s62v.1), (101, .int .i64 (IntKind.i64.wrap (s62v.1 - 1))), (102, .pointer (some ⟨b87v, b87vo + (IntKind.i64.wrap (s62v.1 - 1)).toNat * 4, none⟩)), (103, .pointer (some ⟨b87v, b87vo + (IntKind.i64.wrap (s62v.1 - 1)).toNat * 4 + 0, none⟩)), (104, .int .i64 ((s62v.2.2.2.getD (IntKind.i64.wrap (s62v.1 - 1)).toNat dz91).1)), (105, .bool (decide ((s62v.2.2.2.getD (IntKind.i64.wrap (s62v.1 - 1)).toNat dz91).1 < s70v.1))), (106, .bool (decide ((s62v.2.2.2.getD (IntKind.i64.wrap (s62v.1 - 1)).toNat dz91).1 < s70v.1)))]) mixed (by decide) (by decide) (by decide) (by decide) (by decide) (by decide) (by decide) 171 rfl (by decide) (by decide) (by decide) (Ent.refl _) ?_ ?_ (fun _ => ⟨rfl, rfl, rfl, rfl, rfl, rfl, rfl, rfl, rfl, rfl, rfl, rfl, rfl, rfl, rfl, rfl, rfl, rfl, rfl, rfl, rfl, rfl, rfl, rfl, rfl, rfl, trivial⟩) ?_
 exact (aq rfl (fun γ => qm rfl (.o (s := 4) rfl (by decide) .nil) rfl) (aq rfl (fun γ => qp rfl rfl (.o (s := 11) rfl (by decide) .nil) (q_fa rfl rfl Tryz.underlying91 rfl rfl Tryz.sizeOf3 rfl) rfl) (aq rfl (fun γ => qp rfl rfl (.v 1 rfl rfl .nil) (q_load rfl rfl Tryz.isAgg3 (.obj 0 rfl rfl)) rfl) (aq rfl (fun γ => qp rfl rfl (.v 2 rfl rfl .nil) (q_gtr rfl rfl rfl) rfl) (aq rfl (fun γ => qm rfl (.v 3 rfl rfl .nil) rfl) (aq rfl (fun γ => qy rfl rfl (.o (s := 10) rfl (by decide) (.v 4 rfl rfl .nil)) rfl rfl (beq_yes (decide_eq_true hk80v)) (q_move rfl rfl) rfl) (aq rfl (fun γ => qy rfl rfl (.v 4 rfl rfl (.v 5 rfl rfl .nil)) rfl rfl (beq_yes (decide_eq_true hk80v)) (q_eql rfl rfl rfl) rfl) (aq rfl (fun γ => qy rfl rfl (.v 4 rfl rfl (.v 6 rfl rfl .nil)) rfl rfl (beq_yes (decide_eq_true hk80v)) (q_move rfl rfl) rfl) (aq rfl (fun γ => qy rfl rfl (.o (s := 11) rfl (by decide) (.v 7 rfl rfl .nil)) rfl rfl (beq_no (decide_eq_false hk81v)) (q_fa rfl rfl Tryz.underlying91 rfl rfl Tryz.sizeOf3 rfl) rfl) (aq rfl (fun γ => qy rfl rfl (.v 7 rfl rfl (.v 8 rfl rfl .nil)) rfl rfl (beq_no (decide_eq_false hk81v)) (q_load rfl rfl Tryz.isAgg3 (.obj 0 rfl rfl)) rfl) (aq rfl (fun γ => qy rfl rfl (.o (s := 5) rfl (by decide) (.v 7 rfl rfl .nil)) rfl rfl (beq_no (decide_eq_false hk81v)) (q_move rfl rfl) rfl) (aq rfl (fun γ => qy rfl rfl (.v 7 rfl rfl (.v 10 rfl rfl .nil)) rfl rfl (beq_no (decide_eq_false hk81v)) (q_nil rfl rfl) rfl) (aq rfl (fun γ => qy rfl rfl (.v 7 rfl rfl (.v 11 rfl rfl .nil)) rfl rfl (beq_no (decide_eq_false hk81v)) (q_fa rfl rfl Tryz.underlying85 rfl rfl Tryz.sizeOf83 rfl) rfl) (aq rfl (fun γ => qy rfl rfl (.v 7 rfl rfl (.v 12 rfl rfl .nil)) rfl rfl (beq_no (decide_eq_false hk81v)) (q_load rfl rfl Tryz.isAgg83 (.obj 2 rfl rfl)) rfl) (aq rfl (fun γ => qy rfl rfl (.o (s := 10) rfl (by decide) (.v 7 rfl rfl .nil)) rfl rfl (beq_no (decide_eq_false hk81v)) (q_move rfl rfl) rfl) (aq rfl (fun γ => qy rfl rfl (.v 7 rfl rfl (.v 14 rfl rfl .nil)) rfl rfl (beq_no (decide_eq_false hk81v)) (q_sub rfl rfl rfl) rfl) (aq rfl (fun γ => qy rfl rfl (.v 7 rfl rfl (.v 13 rfl rfl (.v 15 rfl rfl .nil))) rfl rfl (beq_no (decide_eq_false hk81v)) (q_idx rfl rfl rfl ha88v Tryz.underlying83 Tryz.sizeOf91 hi86v.1 hi86v.2) rfl) (aq rfl (fun γ => qy rfl rfl (.v 7 rfl rfl (.v 16 rfl rfl .nil)) rfl rfl (beq_no (decide_eq_false hk81v)) (q_fa rfl rfl Tryz.underlying91 rfl rfl Tryz.sizeOf3 rfl) rfl) (aq rfl (fun γ => qy rfl rfl (.v 7 rfl rfl (.v 17 rfl rfl .nil)) rfl rfl (beq_no (decide_eq_false hk81v)) (q_load rfl rfl Tryz.isAgg3 (hcell93v 4 rfl 0 _ rfl)) rfl) (aq rfl (fun γ => qy rfl rfl (.v 7 rfl rfl (.v 9 rfl rfl (.v 18 rfl rfl .nil))) rfl rfl (beq_no (decide_eq_false hk81v)) (q_gtr rfl rfl rfl) rfl) (aq rfl (fun γ => qy rfl rfl (.v 4 rfl rfl (.v 7 rfl rfl (.v 19 rfl rfl .nil))) rfl rfl (beq_yes (decide_eq_true hk80v)) (q_pick rfl rfl rfl rfl (bif_no (decide_eq_false hk81v) _ _)) rfl) (aq rfl (fun γ => qp rfl rfl (.v 4 rfl rfl (.v 20 rfl rfl .nil)) (q_pick rfl rfl rfl rfl (bif_yes (decide_eq_true hk80v) _ _)) rfl) zA))))))))))))))))))))))
 exact (ac (fun γ => eo (Z := Unit) (fun z => ()) rfl rfl (.v 0 rfl rfl (.v 21 rfl rfl .nil)) (re_call (vs := [.pointer (some ⟨b1v, 0, none⟩), .bool (decide ((s62v.2.2.2.getD (IntKind.i64.wrap (s62v.1 - 1)).toNat dz91).1 < s70v.1))]) (cap := []) (A := [obj b1v 81 [.slice a0 x0.length c0, .int .i64 s70v.2.1, .int .i64 s70v.2.2]]) (rst := [obj b73v 91 [.int .i64 s70v.1, .int .i64 0, .int .i64 0, str ([] : List UInt8)], obj b2v 85 [.slice y7v.1 s6v.2.2.length y7v.2, .slice y63v.1 s62v.2.2.2.length y63v.2], Row 90 2 y7v.1 s6v.2.2.length y7v.2 rs76v.flatten, Row 91 4 y63v.1 s62v.2.2.2.length y63v.2 rs78v.flatten, F]) rfl rfl rfl rfl rfl rfl Tryz.call37 (.sel 1 rfl (.sel 0 rfl (.sel 0 rfl (.sel 0 rfl (.sel 0 rfl (.sel 0 rfl (.nil _))))))) (synodref11_form.calls _ _ b1v a0 c0 x0 s70v.2.1 s70v.2.2 (decide ((s62v.2.2.2.getD (IntKind.i64.wrap (s62v.1 - 1)).toNat dz91).1 < s70v.1)) (h0.lend 4 rfl) hc0 hm0) hs95v) (fun _ => ⟨rfl, rfl, rfl, rfl, rfl, rfl, rfl, rfl, rfl, rfl, rfl, rfl, rfl, rfl, rfl, rfl, rfl, rfl, rfl, rfl, rfl, rfl, trivial⟩) (fun _ => .inr rfl) (fun z => Ent.refl _)) zA)
 intro g97v
 exact nrm_cut (s := (s94v.1, s94v.2)) () ⟨rfl, rfl, rfl, rfl, rfl, trivial⟩ (.sel 0 rfl (.sel 0 rfl (.sel 0 rfl (.sel' 0 rfl (RowV.mk hl77v) (.sel' 0 rfl (RowV.mk hl79v) (.sel 0 rfl (.nil _)))))))
 refine sim_bind (fun s98v hs99v => ?_)
 refine sim_draw (Γ := Unit) () [[], [], [1], [1, 2], [1, 2, 3], [1, 2, 3, 4], [1, 2, 3, 4, 5], [1, 2, 3, 4, 5, 6], [1, 2, 3, 4, 5, 6, 7], [1, 2, 3, 4, 5, 6, 7, 8], [1, 2, 3, 4, 5, 6, 7], [1, 2, 3, 4, 5, 6, 7, 10], [1, 2, 3, 4, 5, 6, 7, 10, 11], [1, 2, 3, 4, 5, 6, 7, 10, 11, 12], [1, 2, 3, 4, 5, 6, 7], [1, 2, 3, 4, 5, 6, 7, 14], [1, 2, 3, 4, 5, 6, 7, 10, 11, 12, 13, 14, 15], [1, 2, 3, 4, 5, 6, 7, 10, 11, 12, 13, 14, 15, 16], [1, 2, 3, 4, 5, 6, 7, 10, 11, 12, 13, 14, 15, 16, 17], [1, 2, 3, 4, 5, 6, 7, 8, 9, 10, 11, 12, 13, 14, 15, 16, 17, 18], [1, 2, 3, 4, 5, 6, 7, 8, 9, 10, 11, 12, 13, 14, 15, 16, 17, 18, 19], [1, 2, 3, 4, 5, 6, 7, 8, 9, 10, 11, 12, 13, 14, 15, 16, 17, 18, 19, 20], rL 22] [22] [0, 1, 2, 3, 4, 5, 6, 7, 8, 9, 10, 11, 12, 13, 14, 15, 16, 17, 18, 19, 20, 21] (fun i => [[0], [0], [0], [0], [0], [0], [0], [0], [0], [0], [0], [0], [0], [0], [0], [0], [0], [0], [0], [0], [0], [0], []].getD i []) (fun i => [[], [], [], [], [], [], [], [], [], [], [], [], [], [], [], [], [], [], [], [], [], [], rL 22].getD i []) (fun γ i => [.pointer (some ⟨b1v, 0, none⟩), .pointer (some ⟨b73v, 0, none⟩), .int .i64 s70v.1, .bool (decide ((0 : Int) < s70v.1)), .bool (decide ((0 : Int) < s70v.1)), undef, undef, undef, undef, undef, undef, undef, undef, undef, undef, undef, undef, undef, undef, undef, undef, .bool false, .tuple #[]].getD i undef) (fun j γ => [[obj b73v 91 [.int .i64 s70v.1, .int .i64 0, .int .i64 0, str ([] : List UInt8)], obj b1v 81 [.slice a0 x0.length c0, .int .i64 s70v.2.1, .int .i64 s70v.2.2], obj b2v 85 [.slice y7v.1 s6v.2.2.length y7v.2, .slice y63v.1 s62v.2.2.2.length y63v.2], Row 90 2 y7v.1 s6v.2.2.length y7v.2 rs76v.flatten, Row 91 4 y63v.1 s62v.2.2.2.length y63v.2 rs78v.flatten, F], [obj b1v 81 [.slice a0 x0.length c0, .int .i64 s98v.1, .int .i64 s98v.2], obj b73v 91 [.int .i64 s70v.1, .int .i64 0, .int .i64 0, str ([] : List UInt8)], obj b2v 85 [.slice y7v.1 s6v.2.2.length y7v.2, .slice y63v.1 s62v.2.2.2.length y63v.2], Row 90 2 y7v.1 s6v.2.2.length y7v.2 rs76v.flatten, Row 91 4 y63v.1 s62v.2.2.2.length y63v.2 rs78v.flatten, F]].getD j []) (fun γ => [(4, .pointer (some ⟨b1v, 0, none⟩)), (5, .pointer (some ⟨b2v, 0, none⟩)), (9, .int .i64 s57v.1), (10, .int .i64 s62v.1), (11, .pointer (some ⟨b73v, 0, none⟩)), (75, cv ((decide (s62v.1 < s57v.1)) == true) (.pointer (some ⟨b1v, 0, none⟩))), (76, cv ((decide (s62v.1 < s57v.1)) == true) (.pointer (some ⟨b1v, 0, none⟩))), (77, cv ((decide (s62v.1 < s57v.1)) == true) (.pointer (some ⟨b1v, 2, none⟩))), (78, cv ((decide (s62v.1 < s57v.1)) == true) (.int .i64 s62v.2.2.1)), (79, cv ((decide (s62v.1 < s57v.1)) == true) (.bool (decide (s62v.2.2.1 = (0 : Int))))), (91, undef), (92, undef), (93, undef), (94, undef), (95, undef), (96, undef), (97, undef), (98, undef), (99, undef), (100, undef), (101, undef), (102, undef), (103, undef), (104, undef), (105, undef), (106, undef)]) mixed (by decide) (by decide) (by decide) (by decide) (by decide) (by decide) (by decide) 171 rfl (by decide) (by decide) (by decide) (Ent.refl _) ?_ ?_ (fun _ => ⟨rfl, rfl, rfl, rfl, rfl, rfl, rfl, rfl, rfl, rfl, rfl, rfl, rfl, rfl, rfl, rfl, rfl, rfl, rfl, rfl, rfl, rfl, rfl, rfl, rfl, rfl, trivial⟩) ?_
 exact (aq rfl (fun γ => qm rfl (.o (s := 4) rfl (by decide) .nil) rfl) (aq rfl (fun γ => qp rfl rfl (.o (s := 11) rfl (by decide) .nil) (q_fa rfl rfl Tryz.underlying91 rfl rfl Tryz.sizeOf3 rfl) rfl) (aq rfl (fun γ => qp rfl rfl (.v 1 rfl rfl .nil) (q_load rfl rfl Tryz.isAgg3 (.obj 0 rfl rfl)) rfl) (aq rfl (fun γ => qp rfl rfl (.v 2 rfl rfl .nil) (q_gtr rfl rfl rfl) rfl) (aq rfl (fun γ => qm rfl (.v 3 rfl rfl .nil) rfl) (aq rfl (fun γ => qn rfl rfl (.o (s := 10) rfl (by decide) (.v 4 rfl rfl .nil)) rfl rfl (beq_no' (decide_eq_false hk80v)) rfl) (aq rfl (fun γ => qn rfl rfl (.v 4 rfl rfl (.v 5 rfl rfl .nil)) rfl rfl (beq_no' (decide_eq_false hk80v)) rfl) (aq rfl (fun γ => qn rfl rfl (.v 4 rfl rfl (.v 6 rfl rfl .nil)) rfl rfl (beq_no' (decide_eq_false hk80v)) rfl) (aq rfl (fun γ => qu rfl rfl (.o (s := 11) rfl (by decide) (.v 7 rfl rfl .nil)) rfl rfl rfl) (aq rfl (fun γ => qu rfl rfl (.v 7 rfl rfl (.v 8 rfl rfl .nil)) rfl rfl rfl) (aq rfl (fun γ => qu rfl rfl (.o (s := 5) rfl (by decide) (.v 7 rfl rfl .nil)) rfl rfl rfl) (aq rfl (fun γ => qu rfl rfl (.v 7 rfl rfl (.v 10 rfl rfl .nil)) rfl rfl rfl) (aq rfl (fun γ => qu rfl rfl (.v 7 rfl rfl (.v 11 rfl rfl .nil)) rfl rfl rfl) (aq rfl (fun γ => qu rfl rfl (.v 7 rfl rfl (.v 12 rfl rfl .nil)) rfl rfl rfl) (aq rfl (fun γ => qu rfl rfl (.o (s := 10) rfl (by decide) (.v 7 rfl rfl .nil)) rfl rfl rfl) (aq rfl (fun γ => qu rfl rfl (.v 7 rfl rfl (.v 14 rfl rfl .nil)) rfl rfl rfl) (aq rfl (fun γ => qu rfl rfl (.v 7 rfl rfl (.v 13 rfl rfl (.v 15 rfl rfl .nil))) rfl rfl rfl) (aq rfl (fun γ => qu rfl rfl (.v 7 rfl rfl (.v 16 rfl rfl .nil)) rfl rfl rfl) (aq rfl (fun γ => qu rfl rfl (.v 7 rfl rfl (.v 17 rfl rfl .nil)) rfl rfl rfl) (aq rfl (fun γ => qu rfl rfl (.v 7 rfl rfl (.v 9 rfl rfl (.v 18 rfl rfl .nil))) rfl rfl rfl) (aq rfl (fun γ => qn rfl rfl (.v 4 rfl rfl (.v 7 rfl rfl (.v 19 rfl rfl .nil))) rfl rfl (beq_no' (decide_eq_false hk80v)) rfl) (aq rfl (fun γ => qp rfl rfl (.v 4 rfl rfl (.v 20 rfl rfl .nil)) (q_pick rfl rfl rfl rfl (bif_no (decide_eq_false hk80v) _ _)) rfl) zA))))))))))))))))))))))
 exact (ac (fun γ => eo (Z := Unit) (fun z => ()) rfl rfl (.v 0 rfl rfl (.v 21 rfl rfl .nil)) (re_call (vs := [.pointer (some ⟨b1v, 0, none⟩), .bool false]) (cap := []) (A := [obj b1v 81 [.slice a0 x0.length c0, .int .i64 s70v.2.1, .int .i64 s70v.2.2]]) (rst := [obj b73v 91 [.int .i64 s70v.1, .int .i64 0, .int .i64 0, str ([] : List UInt8)], obj b2v 85 [.slice y7v.1 s6v.2.2.length y7v.2, .slice y63v.1 s62v.2.2.2.length y63v.2], Row 90 2 y7v.1 s6v.2.2.length y7v.2 rs76v.flatten, Row 91 4 y63v.1 s62v.2.2.2.length y63v.2 rs78v.flatten, F]) rfl rfl rfl rfl rfl rfl Tryz.call37 (.sel 1 rfl (.sel 0 rfl (.sel 0 rfl (.sel 0 rfl (.sel 0 rfl (.sel 0 rfl (.nil _))))))) (synodref11_form.calls _ _ b1v a0 c0 x0 s70v.2.1 s70v.2.2 false (h0.lend 4 rfl) hc0 hm0) hs99v) (fun _ => ⟨rfl, rfl, rfl, rfl, rfl, rfl, rfl, rfl, rfl, rfl, rfl, rfl, rfl, rfl, rfl, rfl, rfl, rfl, rfl, rfl, rfl, rfl, trivial⟩) (fun _ => .inr rfl) (fun z => Ent.refl _)) zA)
 intro g101v
 exact nrm_cut (s := (s98v.1, s98v.2)) () ⟨rfl, rfl, rfl, rfl, rfl, trivial⟩ (.sel 0 rfl (.sel 0 rfl (.sel 0 rfl (.sel' 0 rfl (RowV.mk hl77v) (.sel' 0 rfl (RowV.mk hl79v) (.sel 0 rfl (.nil _)))))))
 intro s74v y75v
 refine sr ?_
 refine vm rfl rfl ?_
 refine simL_bind (fun s102v hs103v => ?_)
 refine simL_eff (re_call (vs := [.pointer (some ⟨b1v, 0, none⟩)]) (cap := []) (A := [obj b1v 81 [.slice a0 x0.length c0, .int .i64 s74v.1, .int .i64 s74v.2]]) (rst := [obj b73v 91 [.int .i64 s70v.1, .int .i64 0, .int .i64 0, str ([] : List UInt8)], obj b2v 85 [.slice y7v.1 s6v.2.2.length y7v.2, .slice y63v.1 s62v.2.2.2.length y63v.2], RowV 90 2 (V90 tt) y7v.1 s6v.2.2 y7v.2, RowV 91 4 (V91 tt) y63v.1 s62v.2.2.2 y63v.2, F]) rfl rfl rfl rfl rfl rfl Tryz.call38 (.sel 0 rfl (.sel 0 rfl (.sel 0 rfl (.sel 0 rfl (.sel 0 rfl (.sel 0 rfl (.nil _))))))) (synodref1_Reader_Int.calls _ _ k b1v a0 c0 x0 s74v.1 s74v.2 (h0.lend 4 rfl) hc0 hm0) hs103v) rfl rfl rfl ?_
 intro y104v
 refine vq (q_fa rfl rfl Tryz.underlying91 rfl rfl Tryz.sizeOf3 rfl) rfl ?_
 refine simL_do (re_store 1 rfl rfl rfl Tryz.sizeOf3 rfl rfl (one_of (by rfl)) rfl rfl) rfl rfl ?_
 intro _
 refine nx ?_
 refine vm rfl rfl ?_
 refine vq (q_fa rfl rfl Tryz.underlying91 rfl rfl Tryz.sizeOf3 rfl) rfl ?_
 refine vq (q_load rfl rfl Tryz.isAgg3 (.obj 1 rfl rfl)) rfl ?_
 refine vq (q_gtr rfl rfl rfl) rfl ?_
 refine simL_bind (fun s105v hs106v => ?_)
 refine simL_eff (re_call (vs := [.pointer (some ⟨b1v, 0, none⟩), .bool (decide ((0 : Int) < s102v.1))]) (cap := []) (A := [obj b1v 81 [.slice a0 x0.length c0, .int .i64 s102v.2.1, .int .i64 s102v.2.2]]) (rst := [obj b73v 91 [.int .i64 s70v.1, .int .i64 s102v.1, .int .i64 0, str ([] : List UInt8)], obj b2v 85 [.slice y7v.1 s6v.2.2.length y7v.2, .slice y63v.1 s62v.2.2.2.length y63v.2], RowV 90 2 (V90 tt) y7v.1 s6v.2.2 y7v.2, RowV 91 4 (V91 tt) y63v.1 s62v.2.2.2 y63v.2, F]) rfl rfl rfl rfl rfl rfl Tryz.call37 (.sel 0 rfl (.sel 0 rfl (.sel 0 rfl (.sel 0 rfl (.sel 0 rfl (.sel 0 rfl (.nil _))))))) (synodref11_form.calls _ _ b1v a0 c0 x0 s102v.2.1 s102v.2.2 (decide ((0 : Int) < s102v.1)) (h0.lend 4 rfl) hc0 hm0) hs106v) rfl rfl rfl ?_
 intro y107v
 refine nx ?_
 refine vm rfl rfl ?_
 refine simL_bind (fun s108v hs109v => ?_)
 refine simL_eff (re_call (vs := [.pointer (some ⟨b1v, 0, none⟩)]) (cap := []) (A := [obj b1v 81 [.slice a0 x0.length c0, .int .i64 s105v.1, .int .i64 s105v.2]]) (rst := [obj b73v 91 [.int .i64 s70v.1, .int .i64 s102v.1, .int .i64 0, str ([] : List UInt8)], obj b2v 85 [.slice y7v.1 s6v.2.2.length y7v.2, .slice y63v.1 s62v.2.2.2.length y63v.2], RowV 90 2 (V90 tt) y7v.1 s6v.2.2 y7v.2, RowV 91 4 (V91 tt) y63v.1 s62v.2.2.2 y63v.2, F]) rfl rfl rfl rfl rfl rfl Tryz.call38 (.sel 0 rfl (.sel 0 rfl (.sel 0 rfl (.sel 0 rfl (.sel 0 rfl (.sel 0 rfl (.nil _))))))) (synodref1_Reader_Int.calls _ _ k b1v a0 c0 x0 s105v.1 s105v.2 (h0.lend 4 rfl) hc0 hm0) hs109v) rfl rfl rfl ?_
 intro y110v
 refine vq (q_fa rfl rfl Tryz.underlying91 rfl rfl Tryz.sizeOf45 rfl) rfl ?_
 refine vq (q_fa rfl rfl Tryz.underlying45 rfl rfl Tryz.sizeOf3 rfl) rfl ?_
 refine simL_do (re_store 1 rfl rfl rfl Tryz.sizeOf3 rfl rfl (one_of (by rfl)) rfl rfl) rfl rfl ?_
 intro _
 refine nx ?_
 refine vq (q_fa rfl rfl Tryz.underlying91 rfl rfl Tryz.sizeOf45 rfl) rfl ?_
 refine vq (q_fa rfl rfl Tryz.underlying45 rfl rfl Tryz.sizeOf3 rfl) rfl ?_
 refine vq (q_load rfl rfl Tryz.isAgg3 (.obj 1 rfl rfl)) rfl ?_
 refine va rfl rfl (nx ?_)
 refine vm rfl rfl ?_
 refine vm rfl rfl ?_
 refine vq (q_eql rfl rfl rfl) rfl ?_
 refine vm rfl rfl ?_
 refine simL_valc (b := decide (s108v.1 = (1 : Int))) (fun hb138v => RQ.sub (E' := [(12, .int .i64 s108v.1)]) ⟨rfl, trivial⟩ (q_move rfl rfl)) rfl rfl rfl rfl rfl ?_
 refine simL_valc (b := decide (s108v.1 = (1 : Int))) (fun hb137v => RQ.sub (E' := [(128, .int .i64 s108v.1)]) ⟨lk_cv rfl hb137v, trivial⟩ (q_eql rfl rfl rfl)) rfl rfl rfl rfl rfl ?_
 refine vq (q_or rfl rfl rfl) rfl ?_
 refine vm rfl rfl ?_
 refine simL_valc (b := (decide (s108v.1 = (1 : Int))) || (decide (s108v.1 = (2 : Int)))) (fun hb136v => RQ.sub (E' := [(12, .int .i64 s108v.1)]) ⟨rfl, trivial⟩ (q_move rfl rfl)) rfl rfl rfl rfl rfl ?_
 refine simL_valc (b := (decide (s108v.1 = (1 : Int))) || (decide (s108v.1 = (2 : Int)))) (fun hb135v => RQ.sub (E' := [(132, .int .i64 s108v.1)]) ⟨lk_cv rfl hb135v, trivial⟩ (q_eql rfl rfl rfl)) rfl rfl rfl rfl rfl ?_
 refine vq (q_or rfl rfl rfl) rfl ?_
 refine vm rfl rfl ?_
 refine simL_valc (b := ((decide (s108v.1 = (1 : Int))) || (decide (s108v.1 = (2 : Int)))) || (decide (s108v.1 = (3 : Int)))) (fun hb134v => RQ.sub (E' := [(12, .int .i64 s108v.1)]) ⟨rfl, trivial⟩ (q_move rfl rfl)) rfl rfl rfl rfl rfl ?_
 refine simL_valc (b := ((decide (s108v.1 = (1 : Int))) || (decide (s108v.1 = (2 : Int)))) || (decide (s108v.1 = (3 : Int)))) (fun hb133v => RQ.sub (E' := [(136, .int .i64 s108v.1)]) ⟨lk_cv rfl hb133v, trivial⟩ (q_eql rfl rfl rfl)) rfl rfl rfl rfl rfl ?_
 refine vq (q_or rfl rfl rfl) rfl ?_
 refine simL_bind (fun s111v hs112v => ?_)
 refine simL_eff (re_call (vs := [.pointer (some ⟨b1v, 0, none⟩), .bool ((((decide (s108v.1 = (1 : Int))) || (decide (s108v.1 = (2 : Int)))) || (decide (s108v.1 = (3 : Int)))) || (decide (s108v.1 = (5 : Int))))]) (cap := []) (A := [obj b1v 81 [.slice a0 x0.length c0, .int .i64 s108v.2.1, .int .i64 s108v.2.2]]) (rst := [obj b73v 91 [.int .i64 s70v.1, .int .i64 s102v.1, .int .i64 s108v.1, str ([] : List UInt8)], obj b2v 85 [.slice y7v.1 s6v.2.2.length y7v.2, .slice y63v.1 s62v.2.2.2.length y63v.2], RowV 90 2 (V90 tt) y7v.1 s6v.2.2 y7v.2, RowV 91 4 (V91 tt) y63v.1 s62v.2.2.2 y63v.2, F]) rfl rfl rfl rfl rfl rfl Tryz.call37 (.sel 0 rfl (.sel 0 rfl (.sel 0 rfl (.sel 0 rfl (.sel 0 rfl (.sel 0 rfl (.nil _))))))) (synodref11_form.calls _ _ b1v a0 c0 x0 s108v.2.1 s108v.2.2 ((((decide (s108v.1 = (1 : Int))) || (decide (s108v.1 = (2 : Int)))) || (decide (s108v.1 = (3 : Int)))) || (decide (s108v.1 = (5 : Int)))) (h0.lend 4 rfl) hc0 hm0) hs112v) rfl rfl rfl ?_
 intro y113v
 refine nx ?_
 refine vm rfl rfl ?_
 refine simL_bind (fun s114v hs115v => ?_)
 refine simL_eff (re_call (vs := [.pointer (some ⟨b1v, 0, none⟩), .int .i64 1024]) (cap := []) (A := [obj b1v 81 [.slice a0 x0.length c0, .int .i64 s111v.1, .int .i64 s111v.2]]) (rst := [obj b73v 91 [.int .i64 s70v.1, .int .i64 s102v.1, .int .i64 s108v.1, str ([] : List UInt8)], obj b2v 85 [.slice y7v.1 s6v.2.2.length y7v.2, .slice y63v.1 s62v.2.2.2.length y63v.2], RowV 90 2 (V90 tt) y7v.1 s6v.2.2 y7v.2, RowV 91 4 (V91 tt) y63v.1 s62v.2.2.2 y63v.2, F]) rfl rfl rfl rfl rfl rfl Tryz.call36 (.sel 0 rfl (.sel 0 rfl (.sel 0 rfl (.sel 0 rfl (.sel 0 rfl (.sel 0 rfl (.nil _))))))) (synodref1_Reader_Text.calls _ _ k b1v a0 c0 x0 s111v.1 s111v.2 (1024 : Int) (h0.lend 4 rfl) hc0 hm0) hs115v) rfl rfl rfl ?_
 intro y116v
 refine vq (q_fa rfl rfl Tryz.underlying91 rfl rfl Tryz.sizeOf45 rfl) rfl ?_
 refine vq (q_fa rfl rfl Tryz.underlying45 rfl rfl Tryz.sizeOf9 rfl) rfl ?_
 refine simL_do (re_store 1 rfl rfl rfl Tryz.sizeOf9 rfl rfl (one_of (by rfl)) rfl rfl) rfl rfl ?_
 intro _
 refine nx ?_
 refine vm rfl rfl ?_
 refine vq (q_fa rfl rfl Tryz.underlying91 rfl rfl Tryz.sizeOf45 rfl) rfl ?_
 refine vq (q_fa rfl rfl Tryz.underlying45 rfl rfl Tryz.sizeOf9 rfl) rfl ?_
 refine vq (q_load rfl rfl Tryz.isAgg9 (.obj 1 rfl rfl)) rfl ?_
 refine vq (q_eqs rfl rfl rfl) rfl ?_
 refine vm rfl rfl ?_
 refine simL_valc (b := decide (s114v.1 = ([] : List UInt8))) (fun hb132v => RQ.sub (E' := [(12, .int .i64 s108v.1)]) ⟨rfl, trivial⟩ (q_move rfl rfl)) rfl rfl rfl rfl rfl ?_
 refine simL_valc (b := decide (s114v.1 = ([] : List UInt8))) (fun hb131v => RQ.sub (E' := [(150, .int .i64 s108v.1)]) ⟨lk_cv rfl hb131v, trivial⟩ (q_eql rfl rfl rfl)) rfl rfl rfl rfl rfl ?_
 refine vq (q_or rfl rfl rfl) rfl ?_
 refine simL_bind (fun s117v hs118v => ?_)
 refine simL_eff (re_call (vs := [.pointer (some ⟨b1v, 0, none⟩), .bool ((decide (s114v.1 = ([] : List UInt8))) || (decide (s108v.1 = (3 : Int))))]) (cap := []) (A := [obj b1v 81 [.slice a0 x0.length c0, .int .i64 s114v.2.1, .int .i64 s114v.2.2]]) (rst := [obj b73v 91 [.int .i64 s70v.1, .int .i64 s102v.1, .int .i64 s108v.1, str s114v.1], obj b2v 85 [.slice y7v.1 s6v.2.2.length y7v.2, .slice y63v.1 s62v.2.2.2.length y63v.2], RowV 90 2 (V90 tt) y7v.1 s6v.2.2 y7v.2, RowV 91 4 (V91 tt) y63v.1 s62v.2.2.2 y63v.2, F]) rfl rfl rfl rfl rfl rfl Tryz.call37 (.sel 0 rfl (.sel 0 rfl (.sel 0 rfl (.sel 0 rfl (.sel 0 rfl (.sel 0 rfl (.nil _))))))) (synodref11_form.calls _ _ b1v a0 c0 x0 s114v.2.1 s114v.2.2 ((decide (s114v.1 = ([] : List UInt8))) || (decide (s108v.1 = (3 : Int)))) (h0.lend 4 rfl) hc0 hm0) hs118v) rfl rfl rfl ?_
 intro y119v
 refine simL_nil (nrm_then ?_)
 refine sim_openV 3 rfl (fun rs120v hl121v => ?_)
 refine sim_openV 4 rfl (fun rs122v hl123v => ?_)
 have hlb125v : ListV 4 (V91 tt) ([(s70v.1, s102v.1, s108v.1, s114v.1)] : List (Ty91)) [[.int .i64 s70v.1, .int .i64 s102v.1, .int .i64 s108v.1, str s114v.1]] := ⟨⟨rfl, one_of (by rfl), rfl⟩, trivial⟩
 refine sim_ask (fun hb129v => ?_)
 refine sim_draw (Γ := Nat × (Option Addr × Nat)) (0, (none, 0)) [[], [], [1], [1, 2], [1, 2, 3], [], [5], [1, 2, 3, 4, 5, 6], rL 8, rL 9, rL 10] [6, 7, 10] [0, 1, 2, 3, 4, 5, 8, 9] (fun i => [[0, 1, 2], [0, 1], [0, 1], [0, 1], [0, 1], [0], [], [], [2], [2], []].getD i []) (fun i => [[], [], [], [], [], [], rL 6, rL 7, [], [], rL 10].getD i []) (fun γ i => [.pointer (some ⟨b2v, 0, none⟩), .pointer (some ⟨b2v, 0, none⟩), .pointer (some ⟨b2v, 0, none⟩), .pointer (some ⟨b2v, 1, none⟩), .slice y63v.1 s62v.2.2.2.length y63v.2, .agg #[.int .i64 s70v.1, .int .i64 s102v.1, .int .i64 s108v.1, str s114v.1], .slice (some ⟨γ.1, 0, none⟩) (([(s70v.1, s102v.1, s108v.1, s114v.1)] : List (Ty91)).length) 1, .slice γ.2.1 ((s62v.2.2.2 ++ ([(s70v.1, s102v.1, s108v.1, s114v.1)] : List (Ty91))).length) γ.2.2, .pointer (some ⟨b2v, 0, none⟩), .pointer (some ⟨b2v, 1, none⟩), undef].getD i undef) (fun j γ => [[obj b1v 81 [.slice a0 x0.length c0, .int .i64 s117v.1, .int .i64 s117v.2], obj b73v 91 [.int .i64 s70v.1, .int .i64 s102v.1, .int .i64 s108v.1, str s114v.1], obj b2v 85 [.slice y7v.1 s6v.2.2.length y7v.2, .slice y63v.1 s62v.2.2.2.length y63v.2], Row 90 2 y7v.1 s6v.2.2.length y7v.2 rs120v.flatten, Row 91 4 y63v.1 s62v.2.2.2.length y63v.2 rs122v.flatten, F], [Row 91 4 (some ⟨γ.1, 0, none⟩) ([(s70v.1, s102v.1, s108v.1, s114v.1)] : List (Ty91)).length 1 [[.int .i64 s70v.1, .int .i64 s102v.1, .int .i64 s108v.1, str s114v.1]].flatten, obj b1v 81 [.slice a0 x0.length c0, .int .i64 s117v.1, .int .i64 s117v.2], obj b73v 91 [.int .i64 s70v.1, .int .i64 s102v.1, .int .i64 s108v.1, str s114v.1], obj b2v 85 [.slice y7v.1 s6v.2.2.length y7v.2, .slice y63v.1 s62v.2.2.2.length y63v.2], Row 90 2 y7v.1 s6v.2.2.length y7v.2 rs120v.flatten, Row 91 4 y63v.1 s62v.2.2.2.length y63v.2 rs122v.flatten, F], [Row 91 4 (some ⟨γ.1, 0, none⟩) ([(s70v.1, s102v.1, s108v.1, s114v.1)] : List (Ty91)).length 1 [[.int .i64 s70v.1, .int .i64 s102v.1, .int .i64 s108v.1, str s114v.1]].flatten, obj b1v 81 [.slice a0 x0.length c0, .int .i64 s117v.1, .int .i64 s117v.2], obj b73v 91 [.int .i64 s70v.1, .int .i64 s102v.1, .int .i64 s108v.1, str s114v.1], obj b2v 85 [.slice y7v.1 s6v.2.2.length y7v.2, .slice y63v.1 s62v.2.2.2.length y63v.2], Row 90 2 y7v.1 s6v.2.2.length y7v.2 rs120v.flatten, RowV 91 4 (V91 tt) γ.2.1 (s62v.2.2.2 ++ ([(s70v.1, s102v.1, s108v.1, s114v.1)] : List (Ty91))) γ.2.2, F], [Row 91 4 (some ⟨γ.1, 0, none⟩) ([(s70v.1, s102v.1, s108v.1, s114v.1)] : List (Ty91)).length 1 [[.int .i64 s70v.1, .int .i64 s102v.1, .int .i64 s108v.1, str s114v.1]].flatten, obj b1v 81 [.slice a0 x0.length c0, .int .i64 s117v.1, .int .i64 s117v.2], obj b73v 91 [.int .i64 s70v.1, .int .i64 s102v.1, .int .i64 s108v.1, str s114v.1], obj b2v 85 [.slice y7v.1 s6v.2.2.length y7v.2, .slice γ.2.1 ((s62v.2.2.2 ++ ([(s70v.1, s102v.1, s108v.1, s114v.1)] : List (Ty91))).length) γ.2.2], Row 90 2 y7v.1 s6v.2.2.length y7v.2 rs120v.flatten, RowV 91 4 (V91 tt) γ.2.1 (s62v.2.2.2 ++ ([(s70v.1, s102v.1, s108v.1, s114v.1)] : List (Ty91))) γ.2.2, F]].getD j []) (fun γ => [(4, .pointer (some ⟨b1v, 0, none⟩)), (5, .pointer (some ⟨b2v, 0, none⟩)), (9, .int .i64 s57v.1), (10, .int .i64 s62v.1), (128, cv ((decide (s108v.1 = (1 : Int))) == false) (.int .i64 s108v.1)), (129, cv ((decide (s108v.1 = (1 : Int))) == false) (.bool (decide (s108v.1 = (2 : Int))))), (132, cv (((decide (s108v.1 = (1 : Int))) || (decide (s108v.1 = (2 : Int)))) == false) (.int .i64 s108v.1)), (133, cv (((decide (s108v.1 = (1 : Int))) || (decide (s108v.1 = (2 : Int)))) == false) (.bool (decide (s108v.1 = (3 : Int))))), (136, cv ((((decide (s108v.1 = (1 : Int))) || (decide (s108v.1 = (2 : Int)))) || (decide (s108v.1 = (3 : Int)))) == false) (.int .i64 s108v.1)), (137, cv ((((decide (s108v.1 = (1 : Int))) || (decide (s108v.1 = (2 : Int)))) || (decide (s108v.1 = (3 : Int)))) == false) (.bool (decide (s108v.1 = (5 : Int))))), (150, cv ((decide (s114v.1 = ([] : List UInt8))) == false) (.int .i64 s108v.1)), (151, cv ((decide (s114v.1 = ([] : List UInt8))) == false) (.bool (decide (s108v.1 = (3 : Int)))))]) mixed (by decide) (by decide) (by decide) (by decide) (by decide) (by decide) (by decide) 171 rfl (by decide) (by decide) (by decide) (Ent.refl _) ?_ ?_ (fun _ => ⟨rfl, rfl, rfl, rfl, rfl, rfl, rfl, rfl, rfl, rfl, rfl, rfl, trivial⟩) ?_
 exact (ac (fun γ => (ac (qm rfl (.o (s := 5) rfl (by decide) .nil) rfl) (ac (qm rfl (.o (s := 5) rfl (by decide) .nil) rfl) (ac (qm rfl (.o (s := 5) rfl (by decide) .nil) rfl) zA)))) (ac (fun γ => (ac (qm rfl (.o (s := 5) rfl (by decide) .nil) rfl) (ac (qm rfl (.o (s := 5) rfl (by decide) .nil) rfl) zA))) (ac (fun γ => (ac (qp rfl rfl (.v 1 rfl rfl .nil) (q_nil rfl rfl) rfl) (ac (qp rfl rfl (.v 1 rfl rfl .nil) (q_nil rfl rfl) rfl) zA))) (ac (fun γ => (ac (qp rfl rfl (.v 2 rfl rfl .nil) (q_fa rfl rfl Tryz.underlying85 rfl rfl Tryz.sizeOf83 rfl) rfl) (ac (qp rfl rfl (.v 2 rfl rfl .nil) (q_fa rfl rfl Tryz.underlying85 rfl rfl Tryz.sizeOf83 rfl) rfl) zA))) (ac (fun γ => (ac (qp rfl rfl (.v 3 rfl rfl .nil) (q_load rfl rfl Tryz.isAgg83 (.obj 2 rfl rfl)) rfl) (ac (qp rfl rfl (.v 3 rfl rfl .nil) (q_load rfl rfl Tryz.isAgg83 (.obj 3 rfl rfl)) rfl) zA))) (aq rfl (fun γ => qp rfl rfl (.o (s := 11) rfl (by decide) .nil) (q_loado 1 rfl rfl Tryz.isAgg91 Tryz.sizeOf91 rfl rfl) rfl) (aq rfl (fun γ => qp rfl rfl (.v 0 rfl rfl .nil) (q_nil rfl rfl) rfl) (aq rfl (fun γ => qp rfl rfl (.v 8 rfl rfl .nil) (q_fa rfl rfl Tryz.underlying85 rfl rfl Tryz.sizeOf83 rfl) rfl) zA))))))))
 exact (ac (fun γ => eo (Z := Nat) (fun z => (z, γ.2)) rfl rfl (.v 5 rfl rfl .nil) (re_litV (V := (V91 tt)) (xs := ([(s70v.1, s102v.1, s108v.1, s114v.1)] : List (Ty91))) [[.int .i64 s70v.1, .int .i64 s102v.1, .int .i64 s108v.1, str s114v.1]] rfl rfl Tryz.underlying83 elt91 rfl (by kernel_rfl) rfl hlb125v rfl rfl) (fun _ => ⟨rfl, rfl, rfl, rfl, rfl, rfl, trivial⟩) (fun _ => .inr rfl) (fun z => Ent.refl _)) (ac (fun γ => eo (Z := Option Addr × Nat) (fun z => (γ.1, z)) rfl rfl (.v 4 rfl rfl (.v 6 rfl rfl .nil)) (re_appendV 5 rfl rfl rfl Tryz.underlying83 elt91 rfl hl123v (RdsV.row hlb125v 0 rfl) hb129v) (fun _ => ⟨rfl, rfl, rfl, rfl, rfl, rfl, rfl, trivial⟩) (fun _ => .inr rfl) (fun z => Ent.refl _)) (ac (fun γ => eo (Z := Unit) (fun z => (γ.1, γ.2)) rfl rfl (.v 7 rfl rfl (.v 9 rfl rfl .nil)) (re_store 3 rfl rfl rfl Tryz.sizeOf83 rfl rfl (one_of (by rfl)) rfl rfl) (fun _ => ⟨rfl, rfl, rfl, rfl, rfl, rfl, rfl, rfl, rfl, rfl, trivial⟩) (fun _ => .inl rfl) (fun z => Ent.refl _)) zA)))
 intro g130v
 refine nrm_block (nrm_then (sim_region ?_))
 refine vm rfl rfl ?_
 refine vq (q_add rfl rfl rfl) rfl ?_
 refine va rfl rfl (simL_nil ?_)
 exact nrm_again (s := (IntKind.i64.wrap (s62v.1 + 1), s117v.1, s117v.2, s62v.2.2.2 ++ ([(s70v.1, s102v.1, s108v.1, s114v.1)] : List (Ty91)))) (g130v.2.1, g130v.2.2) ⟨rfl, rfl, rfl, rfl, trivial⟩ (.sel 1 rfl (.sel 2 rfl (.sel' 2 rfl (RowV.mk hl121v) (.sel 2 rfl (.sel 2 rfl (.nil _))))))
 refine sim_exi ?_
 refine exi_then ?_
 refine exi_loop ?_
 refine exi_here ?_
 exact nrm_cut (s := (s62v.2.1, s62v.2.2.1, s62v.2.2.2)) (y63v.1, y63v.2) ⟨rfl, rfl, trivial⟩ (.sel 0 rfl (.sel 0 rfl (.sel 0 rfl (.sel 0 rfl (.sel 0 rfl (.nil _))))))
 intro s60v y61v
 refine sr ?_
 refine vm rfl rfl ?_
 refine simL_bind (fun s144v hs145v => ?_)
 refine simL_eff (re_call (vs := [.pointer (some ⟨b1v, 0, none⟩)]) (cap := []) (A := [obj b1v 81 [.slice a0 x0.length c0, .int .i64 s60v.1, .int .i64 s60v.2.1]]) (rst := [obj b2v 85 [.slice y7v.1 s6v.2.2.length y7v.2, .slice y61v.1 s60v.2.2.length y61v.2], RowV 90 2 (V90 tt) y7v.1 s6v.2.2 y7v.2, RowV 91 4 (V91 tt) y61v.1 s60v.2.2 y61v.2, F]) rfl rfl rfl rfl rfl rfl Tryz.call39 (.sel 0 rfl (.sel 0 rfl (.sel 0 rfl (.sel 0 rfl (.sel 0 rfl (.nil _)))))) (synodref1_Reader_Done.calls _ _ b1v a0 c0 x0 s60v.1 s60v.2.1 (h0.lend 3 rfl) hc0 hm0) hs145v) rfl rfl rfl ?_
 intro y146v
 refine va rfl rfl (simL_nil (nrm_then (sim_seq (sr ?_))))
 refine vm rfl rfl ?_
 refine vq (q_neq rfl rfl rfl) rfl (simL_nil (nrm_then ?_))
 refine sim_condn rfl (fun h147v => ?_) (fun h148v => ?_)
 refine sim_skip ?_
 refine nrm_then (sr ?_)
 refine vm rfl rfl ?_
 refine vm rfl rfl ?_
 refine va rfl rfl ?_
 refine va rfl rfl (simL_nil (nrm_then (sim_rtn ?_)))
 exact rtn_fn (b2v, y7v.1, y7v.2, y61v.1, y61v.2) rfl rfl rfl (.when_yes rfl (.sel 1 rfl (.sel 1 rfl (.sel 1 rfl (.sel 1 rfl (.nil _))))))
 refine sr ?_
 refine vm rfl rfl ?_
 refine va rfl rfl ?_
 refine va rfl rfl (simL_nil (nrm_then (sim_rtn ?_)))
 refine rtn_then ?_
 exact rtn_fn (0, none, 0, none, 0) rfl rfl rfl (.when_no rfl (.sel 4 rfl (.nil _)))
theorem synodref11_Restore.callsT (W : World) (F : HA) (k : Nat) (a0 : Option Addr) (c0 : Nat) (x0 : List UInt8) (h0 : Rd F a0 (encB x0)) (hc0 : x0.length ≤ c0) (hm0 : c0 ≤ maxLen) :
    Fn Tryz.prog W 15 [.slice a0 x0.length c0] [] F ((synodref11_Restore.f k x0).filter fun (r : Bool × (List (Ty90)) × (List (Ty91)) × Int) => r.1 == true) (fun (r : Bool × (List (Ty90)) × (List (Ty91)) × Int) (y : Nat × Option Addr × Nat × Option Addr × Nat) => .tuple #[.pointer (some ⟨y.1, 0, none⟩), .int .i64 r.2.2.2]) (fun r y => [obj y.1 85 [.slice y.2.1 r.2.1.length y.2.2.1, .slice y.2.2.2.1 r.2.2.1.length y.2.2.2.2], RowV 90 2 (V90 tt) y.2.1 r.2.1 y.2.2.1, RowV 91 4 (V91 tt) y.2.2.2.1 r.2.2.1 y.2.2.2.2]) :=
  Fn.when (synodref11_Restore.calls W F k a0 c0 x0 h0 hc0 hm0) _ true (fun r y h => by simp only [h]; rfl) (fun r y h => (Ent.when_yo h _))
theorem synodref11_Restore.callsN (W : World) (F : HA) (k : Nat) (a0 : Option Addr) (c0 : Nat) (x0 : List UInt8) (h0 : Rd F a0 (encB x0)) (hc0 : x0.length ≤ c0) (hm0 : c0 ≤ maxLen) :
    Fn Tryz.prog W 15 [.slice a0 x0.length c0] [] F ((synodref11_Restore.f k x0).filter fun (r : Bool × (List (Ty90)) × (List (Ty91)) × Int) => r.1 == false) (fun (r : Bool × (List (Ty90)) × (List (Ty91)) × Int) (y : Nat × Option Addr × Nat × Option Addr × Nat) => .tuple #[.pointer none, .int .i64 r.2.2.2]) (fun r y => []) :=
  Fn.when (synodref11_Restore.calls W F k a0 c0 x0 h0 hc0 hm0) _ false (fun r y h => by simp only [h]; rfl) (fun r y h => (Ent.when_no_ h _))

def synodref_SameBytes.l0 (x0 : List UInt8) (x1 : List UInt8) : Nat → Int → Option ((Unit) ⊕ (Bool))
  | 0, _ => none
  | k + 1, z7v => if z7v < (x0.length : Int) then (if 0 ≤ z7v ∧ z7v < (x0.length : Int) then (if 0 ≤ z7v ∧ z7v < (x1.length : Int) then (if ((x0.getD z7v.toNat 0).toNat : Int) = ((x1.getD z7v.toNat 0).toNat : Int) then (synodref_SameBytes.l0 x0 x1 k (IntKind.i64.wrap (z7v + 1))) else (some (.inr false))) else none) else none) else (some (.inl ()))
def synodref_SameBytes.f (k : Nat) (x0 : List UInt8) (x1 : List UInt8) : Option (Bool) := if (x0.length : Int) = (x1.length : Int) then (orR (synodref_SameBytes.l0 x0 x1 k 0) fun s3v => (some true)) else (some false)
theorem synodref_SameBytes.calls (W : World) (F : HA) (k : Nat) (a0 : Option Addr) (c0 : Nat) (x0 : List UInt8) (a1 : Option Addr) (c1 : Nat) (x1 : List UInt8) (h0 : Rd F a0 (encB x0)) (hc0 : x0.length ≤ c0) (hm0 : c0 ≤ maxLen) (h1 : Rd F a1 (encB x1)) (hc1 : x1.length ≤ c1) (hm1 : c1 ≤ maxLen) :
    Fn Tryz.prog W 12 [.slice a0 x0.length c0, .slice a1 x1.length c1] [] F (synodref_SameBytes.f k x0 x1) (fun (r : Bool) (y : Unit) => .bool r) (fun r y => []) := by
 unfold synodref_SameBytes.f
 refine fn_intro 26 Tryz.func12 rfl Tryz.ntmps12 rfl ?_
 refine sr ?_
 refine va rfl rfl (simL_nil (nrm_then (sim_seq (sr ?_))))
 refine vm rfl rfl ?_
 refine vq (q_len rfl rfl rfl Tryz.underlying23) rfl ?_
 refine vm rfl rfl ?_
 refine vq (q_len rfl rfl rfl Tryz.underlying23) rfl ?_
 refine vq (q_neq rfl rfl rfl) rfl (simL_nil (nrm_then ?_))
 refine sim_condn rfl (fun h1v => ?_) (fun h2v => ?_)
 refine sim_skip ?_
 refine nrm_then ?_
 refine sim_cutR (S := Unit) (Unit) (fun s y => []) (fun s y => [F]) ?_ ?_
 refine sr ?_
 refine va rfl rfl (simL_nil (nrm_then ?_))
 refine sim_block ?_
 refine sim_loop (S := Int) (Unit) (fun k s => synodref_SameBytes.l0 x0 x1 k s) (fun s y => [(0, .slice a0 x0.length c0), (1, .slice a1 x1.length c1), (5, .int .i64 s)]) (fun s y => [F]) (fun _ => by rw [synodref_SameBytes.l0]) ?_ k 0 () ⟨rfl, rfl, rfl, trivial⟩ (.sel 0 rfl (.nil _))
 intro k s5v y6v
 refine sim_eq (by rw [synodref_SameBytes.l0]) ?_
 refine sim_seq (sr ?_)
 refine vm rfl rfl ?_
 refine vm rfl rfl ?_
 refine vq (q_len rfl rfl rfl Tryz.underlying23) rfl ?_
 refine vq (q_lss rfl rfl rfl) rfl (simL_nil (nrm_then ?_))
 refine sim_cond rfl (fun h8v => ?_) (fun h9v => ?_)
 refine sim_skip ?_
 refine nrm_then (sim_seq ?_)
 refine sim_block ?_
 refine sim_seq ?_
 refine sim_ask (fun hi10v => ?_)
 obtain ⟨b11v, b11vo, ha12v⟩ := h0.pos (encB_ne (j := s5v.toNat) (by omega))
 refine sim_ask (fun hi14v => ?_)
 obtain ⟨b15v, b15vo, ha16v⟩ := h1.pos (encB_ne (j := s5v.toNat) (by omega))
 refine sim_draw (Γ := Unit) () [[], [], [0, 1], [0, 1, 2], [], [], [4, 5], [4, 5, 6], rL 8] [] [0, 1, 2, 3, 4, 5, 6, 7, 8] (fun i => [[0], [0], [0], [0], [0], [0], [0], [0], [0]].getD i []) (fun i => [[], [], [], [], [], [], [], [], []].getD i []) (fun γ i => [.slice a0 x0.length c0, .int .i64 s5v, .pointer (some ⟨b11v, b11vo + s5v.toNat, none⟩), .int .u8 ((x0.getD s5v.toNat 0).toNat : Int), .slice a1 x1.length c1, .int .i64 s5v, .pointer (some ⟨b15v, b15vo + s5v.toNat, none⟩), .int .u8 ((x1.getD s5v.toNat 0).toNat : Int), .bool (!decide (((x0.getD s5v.toNat 0).toNat : Int) = ((x1.getD s5v.toNat 0).toNat : Int)))].getD i undef) (fun j γ => [[F]].getD j []) (fun γ => [(0, .slice a0 x0.length c0), (1, .slice a1 x1.length c1), (5, .int .i64 s5v), (25, .bool (!decide (((x0.getD s5v.toNat 0).toNat : Int) = ((x1.getD s5v.toNat 0).toNat : Int))))]) mixed (by decide) (by decide) (by decide) (by decide) (by decide) (by decide) (by decide) 26 rfl (by decide) (by decide) (by decide) (Ent.refl _) ?_ ?_ (fun _ => ⟨rfl, rfl, rfl, rfl, trivial⟩) ?_
 exact (aq rfl (fun γ => qm rfl (.o (s := 0) rfl (by decide) .nil) rfl) (aq rfl (fun γ => qm rfl (.o (s := 5) rfl (by decide) .nil) rfl) (aq rfl (fun γ => qp rfl rfl (.v 0 rfl rfl (.v 1 rfl rfl .nil)) (q_idx1 rfl rfl rfl ha12v Tryz.underlying23 Tryz.sizeOf5 hi10v.1 hi10v.2) rfl) (aq rfl (fun γ => qp rfl rfl (.v 2 rfl rfl .nil) (q_load rfl rfl Tryz.isAgg5 (h0.cell 0 rfl ha12v (encB_get (by omega)))) rfl) (aq rfl (fun γ => qm rfl (.o (s := 1) rfl (by decide) .nil) rfl) (aq rfl (fun γ => qm rfl (.o (s := 5) rfl (by decide) .nil) rfl) (aq rfl (fun γ => qp rfl rfl (.v 4 rfl rfl (.v 5 rfl rfl .nil)) (q_idx1 rfl rfl rfl ha16v Tryz.underlying23 Tryz.sizeOf5 hi14v.1 hi14v.2) rfl) (aq rfl (fun γ => qp rfl rfl (.v 6 rfl rfl .nil) (q_load rfl rfl Tryz.isAgg5 (h1.cell 0 rfl ha16v (encB_get (by omega)))) rfl) (aq rfl (fun γ => qp rfl rfl (.v 3 rfl rfl (.v 7 rfl rfl .nil)) (q_neq rfl rfl rfl) rfl) zA)))))))))
 exact zA
 intro g18v
 refine nrm_then ?_
 refine sim_condn rfl (fun h19v => ?_) (fun h20v => ?_)
 refine sim_skip ?_
 refine nrm_block (nrm_then (sim_region ?_))
 refine vm rfl rfl ?_
 refine vq (q_add rfl rfl rfl) rfl ?_
 refine va rfl rfl (simL_nil ?_)
 exact nrm_again (s := IntKind.i64.wrap (s5v + 1)) () ⟨rfl, rfl, rfl, trivial⟩ (.sel 0 rfl (.nil _))
 refine sr ?_
 refine va rfl rfl (simL_nil (nrm_then (sim_rtn ?_)))
 refine rtn_block ?_
 refine rtn_then ?_
 refine rtn_loop ?_
 refine rtn_block ?_
 refine rtn_cutR ?_
 exact rtn_fn () rfl rfl rfl (.sel 0 rfl (.nil _))
 refine sim_exi ?_
 refine exi_then ?_
 refine exi_loop ?_
 refine exi_here ?_
 exact nrm_cutR (s := ()) () trivial (.sel 0 rfl (.nil _))
 intro s3v y4v
 refine sr ?_
 refine va rfl rfl (simL_nil (nrm_then (sim_rtn ?_)))
 exact rtn_fn () rfl rfl rfl (.sel 0 rfl (.nil _))
 refine sr ?_
 refine va rfl rfl (simL_nil (nrm_then (sim_rtn ?_)))
 refine rtn_then ?_
 exact rtn_fn () rfl rfl rfl (.sel 0 rfl (.nil _))

def synodref_Kept.f (k : Nat) (x0 : List UInt8) (z0 : List UInt8) (x1 : List UInt8) : Option (Bool) := (synodref_SameBytes.f k x0 x1).bind fun s1v => ((if (s1v && (decide ((x0.length : Int) = (x1.length : Int)))) = true then (if 0 ≤ (0 : Int) ∧ (0 : Int) ≤ IntKind.i64.wrap ((x1.length : Int) + 1) ∧ IntKind.i64.wrap ((x1.length : Int) + 1) ≤ ((x0 ++ z0).length : Int) then (if 0 ≤ (x1.length : Int) ∧ (x1.length : Int) < ((cut (x0 ++ z0) (0 : Int) (IntKind.i64.wrap ((x1.length : Int) + 1))).length : Int) then (some (decide ((((cut (x0 ++ z0) (0 : Int) (IntKind.i64.wrap ((x1.length : Int) + 1))).getD (x1.length : Int).toNat 0).toNat : Int) = (201 : Int)))) else none) else none) else (some false)).bind fun s4v => (some s4v))
theorem synodref_Kept.calls (W : World) (F : HA) (k : Nat) (a0 : Option Addr) (c0 : Nat) (x0 z0 : List UInt8) (a1 : Option Addr) (c1 : Nat) (x1 : List UInt8) (h0 : Rd F a0 (encB (x0 ++ z0))) (hc0 : (x0 ++ z0).length ≤ c0) (hm0 : c0 ≤ maxLen) (h1 : Rd F a1 (encB x1)) (hc1 : x1.length ≤ c1) (hm1 : c1 ≤ maxLen) :
    Fn Tryz.prog W 16 [.slice a0 x0.length c0, .slice a1 x1.length c1] [] F (synodref_Kept.f k x0 z0 x1) (fun (r : Bool) (y : Unit) => .bool r) (fun r y => []) := by
 unfold synodref_Kept.f
 refine fn_intro 29 Tryz.func16 rfl Tryz.ntmps16 rfl ?_
 refine sr ?_
 refine va rfl rfl (nx ?_)
 refine vm rfl rfl ?_
 refine vm rfl rfl ?_
 refine simL_bind (fun s1v hs2v => ?_)
 refine simL_eff (re_call (vs := [.slice a0 x0.length c0, .slice a1 x1.length c1]) (cap := []) (A := []) (rst := [F]) rfl rfl rfl rfl rfl rfl Tryz.call12 (.sel 0 rfl (.nil _)) (synodref_SameBytes.calls _ _ k a0 c0 x0 a1 c1 x1 ((rd_front h0).lend 0 rfl) (front_len hc0) hm0 (h1.lend 0 rfl) hc1 hm1) hs2v) rfl rfl rfl ?_
 intro y3v
 refine va rfl rfl (nx ?_)
 refine vm rfl rfl ?_
 refine vm rfl rfl ?_
 refine simL_valc (b := s1v) (fun hb23v => RQ.sub (E' := [(0, .slice a0 x0.length c0)]) ⟨rfl, trivial⟩ (q_move rfl rfl)) rfl rfl rfl rfl rfl ?_
 refine simL_valc (b := s1v) (fun hb22v => RQ.sub (E' := [(11, .slice a0 x0.length c0)]) ⟨lk_cv rfl hb22v, trivial⟩ (q_len rfl rfl rfl Tryz.underlying23)) rfl rfl rfl rfl rfl ?_
 refine simL_valc (b := s1v) (fun hb21v => RQ.sub (E' := [(1, .slice a1 x1.length c1)]) ⟨rfl, trivial⟩ (q_move rfl rfl)) rfl rfl rfl rfl rfl ?_
 refine simL_valc (b := s1v) (fun hb20v => RQ.sub (E' := [(13, .slice a1 x1.length c1)]) ⟨lk_cv rfl hb20v, trivial⟩ (q_len rfl rfl rfl Tryz.underlying23)) rfl rfl rfl rfl rfl ?_
 refine simL_valc (b := s1v) (fun hb19v => RQ.sub (E' := [(12, .int .i64 (x0.length : Int)), (14, .int .i64 (x1.length : Int))]) ⟨lk_cv rfl hb19v, lk_cv rfl hb19v, trivial⟩ (q_eql rfl rfl rfl)) rfl rfl rfl rfl rfl ?_
 refine vq (q_and rfl rfl rfl) rfl ?_
 refine vm rfl rfl ?_
 refine simL_cut' 11 (S := Bool) (Unit) (fun s y => [(28, .bool s)]) (fun s y => [F]) ?_ ?_
 refine simL_caseb (fun hb17v => ?_) (fun hb18v => ?_)
 rw [hb17v]
 refine simL_valg (q_move rfl rfl) rfl rfl rfl rfl rfl rfl ?_
 refine simL_valg (q_move rfl rfl) rfl rfl rfl rfl rfl rfl ?_
 refine simL_valg (q_len rfl rfl rfl Tryz.underlying23) rfl rfl rfl rfl rfl rfl ?_
 refine simL_valg (q_add rfl rfl rfl) rfl rfl rfl rfl rfl rfl ?_
 refine simL_ask (fun hb6v => ?_)
 obtain ⟨a7v, c8v, hS9v, hr10v, hc11v, hm12v⟩ := slice_pre (lo := (0 : Int)) (hi := IntKind.i64.wrap ((x1.length : Int) + 1)) h0 hc0 hb6v
 refine simL_valg (q_sub_ro (l := (x0 ++ z0)) (lo' := (0 : Int)) (hi' := IntKind.i64.wrap ((x1.length : Int) + 1)) rfl rfl rfl rfl Tryz.underlying23 Tryz.sizeOf5 (.inr ⟨_, rfl⟩) (.inl ⟨rfl, rfl⟩) hb6v hc0 hS9v) rfl rfl rfl rfl rfl rfl ?_
 refine simL_valg (q_move rfl rfl) rfl rfl rfl rfl rfl rfl ?_
 refine simL_valg (q_len rfl rfl rfl Tryz.underlying23) rfl rfl rfl rfl rfl rfl ?_
 refine simL_ask (fun hi13v => ?_)
 obtain ⟨b14v, b14vo, ha15v⟩ := hr10v.pos (encB_ne (j := (x1.length : Int).toNat) (by omega))
 refine simL_valg (q_idx1 rfl rfl rfl ha15v Tryz.underlying23 Tryz.sizeOf5 hi13v.1 hi13v.2) rfl rfl rfl rfl rfl rfl ?_
 refine simL_valg (q_load rfl rfl Tryz.isAgg5 (hr10v.cell 0 rfl ha15v (encB_get (by omega)))) rfl rfl rfl rfl rfl rfl ?_
 refine simL_valg (q_eql rfl rfl rfl) rfl rfl rfl rfl rfl rfl ?_
 refine vq (q_pick rfl rfl rfl rfl rfl) rfl (simL_nil ?_)
 exact nrm_cut (s := decide ((((cut (x0 ++ z0) (0 : Int) (IntKind.i64.wrap ((x1.length : Int) + 1))).getD (x1.length : Int).toNat 0).toNat : Int) = (201 : Int))) () ⟨rfl, trivial⟩ (.sel 0 rfl (.nil _))
 rw [hb18v]
 refine simL_skipd rfl rfl rfl rfl rfl rfl ?_
 refine simL_skipd rfl rfl rfl rfl rfl rfl ?_
 refine simL_skipd rfl rfl rfl rfl rfl rfl ?_
 refine simL_skipd rfl rfl rfl rfl rfl rfl ?_
 refine simL_skipd rfl rfl rfl rfl rfl rfl ?_
 refine simL_skipd rfl rfl rfl rfl rfl rfl ?_
 refine simL_skipd rfl rfl rfl rfl rfl rfl ?_
 refine simL_skipd rfl rfl rfl rfl rfl rfl ?_
 refine simL_skipd rfl rfl rfl rfl rfl rfl ?_
 refine simL_skipd rfl rfl rfl rfl rfl rfl ?_
 refine vq (q_pick rfl rfl rfl rfl rfl) rfl (simL_nil ?_)
 exact nrm_cut (s := false) () ⟨rfl, trivial⟩ (.sel 0 rfl (.nil _))
 intro s4v y5v
 refine va rfl rfl (simL_nil (nrm_then (sim_rtn ?_)))
 exact rtn_fn () rfl rfl rfl (.sel 0 rfl (.nil _))

def maps_Clone_map_string_string_string_string.f (x0 : List ((List UInt8) × (List UInt8))) : Option ((List ((List UInt8) × (List UInt8)))) := some x0
theorem maps_Clone_map_string_string_string_string.calls (W : World) (F : HA) (m0 : Nat) (x0 : List ((List UInt8) × (List UInt8))) :
    Fn Tryz.prog W 40 [.map (some m0)] [mapO m0 enc9 enc9 x0] F (maps_Clone_map_string_string_string_string.f x0) (fun (r : (List ((List UInt8) × (List UInt8)))) (y : Nat) => .map (some y)) (fun r y => [mapO y enc9 enc9 r, mapO m0 enc9 enc9 x0]) := by
  unfold maps_Clone_map_string_string_string_string.f
  exact fn_clone (fun es clock w h => AnyW.maps_Clone shClone40 _ es clock w h)

def maps_Clone_Session.f (x0 : List ((Int) × (Ty91))) : Option ((List ((Int) × (Ty91)))) := some x0
theorem maps_Clone_Session.calls (W : World) (F : HA) (m0 : Nat) (x0 : List ((Int) × (Ty91))) :
    Fn Tryz.prog W 41 [.map (some m0)] [mapO m0 enc3 enc69 x0] F (maps_Clone_Session.f x0) (fun (r : (List ((Int) × (Ty91)))) (y : Nat) => .map (some y)) (fun r y => [mapO y enc3 enc69 r, mapO m0 enc3 enc69 x0]) := by
  unfold maps_Clone_Session.f
  exact fn_clone (fun es clock w h => AnyW.maps_Clone shClone41 _ es clock w h)

def kv_Store_Copy.f (x0_0 : List ((List UInt8) × (List UInt8))) (x0_1 : List ((Int) × (Ty91))) : Option ((List ((List UInt8) × (List UInt8))) × (List ((Int) × (Ty91)))) := (maps_Clone_map_string_string_string_string.f x0_0).bind fun s1v => ((maps_Clone_Session.f x0_1).bind fun s4v => (some (s1v, s4v)))
theorem kv_Store_Copy.calls (W : World) (F : HA) (b0 : Nat) (m0_0 : Nat) (x0_0 : List ((List UInt8) × (List UInt8))) (m0_1 : Nat) (x0_1 : List ((Int) × (Ty91)))  :
    Fn Tryz.prog W 17 [.pointer (some ⟨b0, 0, none⟩)] [obj b0 58 [.map (some m0_0), .map (some m0_1)], mapO m0_0 enc9 enc9 x0_0, mapO m0_1 enc3 enc69 x0_1] F (kv_Store_Copy.f x0_0 x0_1) (fun (r : (List ((List UInt8) × (List UInt8))) × (List ((Int) × (Ty91)))) (y : Nat × Nat × Nat) => .pointer (some ⟨y.1, 0, none⟩)) (fun r y => [obj y.1 58 [.map (some y.2.1), .map (some y.2.2)], mapO y.2.1 enc9 enc9 r.1, mapO y.2.2 enc3 enc69 r.2, obj b0 58 [.map (some m0_0), .map (some m0_1)], mapO m0_0 enc9 enc9 x0_0, mapO m0_1 enc3 enc69 x0_1]) := by
 unfold kv_Store_Copy.f
 refine fn_intro 15 Tryz.func17 rfl Tryz.ntmps17 rfl ?_
 refine sr ?_
 refine va rfl rfl (simL_nil (nrm_then (sim_seq ?_)))
 refine sim_bind (fun s1v hs2v => ?_)
 refine sim_bind (fun s4v hs5v => ?_)
 refine sim_draw (Γ := Nat × Nat × Nat) (0, 0, 0) [[], [0], [0, 1], [0, 1, 2], rL 4, [], [5], [5, 6], [5, 6, 7], rL 9, rL 10, rL 11, rL 12] [4, 9, 11] [0, 1, 2, 3, 5, 6, 7, 8, 10, 12] (fun i => [[0], [0], [0], [0], [], [0, 1], [0, 1], [0, 1], [0, 1], [], [2], [], [3]].getD i []) (fun i => [[], [], [], [], [0, 1, 2, 3, 5, 6, 7, 8], [], [], [], [], rL 9, [], rL 11, []].getD i []) (fun γ i => [.pointer (some ⟨b0, 0, none⟩), .pointer (some ⟨b0, 0, none⟩), .pointer (some ⟨b0, 0, none⟩), .map (some m0_0), .map (some γ.1), .pointer (some ⟨b0, 0, none⟩), .pointer (some ⟨b0, 0, none⟩), .pointer (some ⟨b0, 1, none⟩), .map (some m0_1), .map (some γ.2.1), .agg #[.map (some γ.1), .map (some γ.2.1)], .pointer (some ⟨γ.2.2, 0, none⟩), .pointer (some ⟨γ.2.2, 0, none⟩)].getD i undef) (fun j γ => [[obj b0 58 [.map (some m0_0), .map (some m0_1)], mapO m0_0 enc9 enc9 x0_0, mapO m0_1 enc3 enc69 x0_1, F], [mapO γ.1 enc9 enc9 s1v, mapO m0_0 enc9 enc9 x0_0, obj b0 58 [.map (some m0_0), .map (some m0_1)], mapO m0_1 enc3 enc69 x0_1, F], [mapO γ.2.1 enc3 enc69 s4v, mapO m0_1 enc3 enc69 x0_1, mapO γ.1 enc9 enc9 s1v, mapO m0_0 enc9 enc9 x0_0, obj b0 58 [.map (some m0_0), .map (some m0_1)], F], [obj γ.2.2 58 [.map (some γ.1), .map (some γ.2.1)], mapO γ.2.1 enc3 enc69 s4v, mapO m0_1 enc3 enc69 x0_1, mapO γ.1 enc9 enc9 s1v, mapO m0_0 enc9 enc9 x0_0, obj b0 58 [.map (some m0_0), .map (some m0_1)], F]].getD j []) (fun γ => [(2, .pointer (some ⟨γ.2.2, 0, none⟩))]) mixed (by decide) (by decide) (by decide) (by decide) (by decide) (by decide) (by decide) 15 rfl (by decide) (by decide) (by decide) (Ent.refl _) ?_ ?_ (fun _ => ⟨rfl, trivial⟩) ?_
 exact (aq rfl (fun γ => qm rfl (.o (s := 0) rfl (by decide) .nil) rfl) (aq rfl (fun γ => qp rfl rfl (.v 0 rfl rfl .nil) (q_nil rfl rfl) rfl) (aq rfl (fun γ => qp rfl rfl (.v 1 rfl rfl .nil) (q_fa rfl rfl Tryz.underlying58 rfl rfl Tryz.sizeOf55 rfl) rfl) (aq rfl (fun γ => qp rfl rfl (.v 2 rfl rfl .nil) (q_load rfl rfl Tryz.isAgg55 (.obj 0 rfl rfl)) rfl) (ac (fun γ => (ac (qm rfl (.o (s := 0) rfl (by decide) .nil) rfl) (ac (qm rfl (.o (s := 0) rfl (by decide) .nil) rfl) zA))) (ac (fun γ => (ac (qp rfl rfl (.v 5 rfl rfl .nil) (q_nil rfl rfl) rfl) (ac (qp rfl rfl (.v 5 rfl rfl .nil) (q_nil rfl rfl) rfl) zA))) (ac (fun γ => (ac (qp rfl rfl (.v 6 rfl rfl .nil) (q_fa rfl rfl Tryz.underlying58 rfl rfl Tryz.sizeOf56 rfl) rfl) (ac (qp rfl rfl (.v 6 rfl rfl .nil) (q_fa rfl rfl Tryz.underlying58 rfl rfl Tryz.sizeOf56 rfl) rfl) zA))) (ac (fun γ => (ac (qp rfl rfl (.v 7 rfl rfl .nil) (q_load rfl rfl Tryz.isAgg56 (.obj 0 rfl rfl)) rfl) (ac (qp rfl rfl (.v 7 rfl rfl .nil) (q_load rfl rfl Tryz.isAgg56 (.obj 2 rfl rfl)) rfl) zA))) (aq rfl (fun γ => qp rfl rfl (.v 4 rfl rfl (.v 9 rfl rfl .nil)) (q_build (v := .agg #[.map (some γ.1), .map (some γ.2.1)]) rfl rfl (fun _ => by kernel_rfl)) rfl) (aq rfl (fun γ => qp rfl rfl (.v 11 rfl rfl .nil) (q_asg rfl rfl) rfl) zA))))))))))
 exact (ac (fun γ => eo (Z := Nat) (fun z => (z, γ.2.1, γ.2.2)) rfl rfl (.v 3 rfl rfl .nil) (re_call (vs := [.map (some m0_0)]) (cap := []) (A := [mapO m0_0 enc9 enc9 x0_0]) (rst := [obj b0 58 [.map (some m0_0), .map (some m0_1)], mapO m0_1 enc3 enc69 x0_1, F]) rfl rfl rfl rfl rfl rfl Tryz.call40 (.sel 1 rfl (.sel 0 rfl (.sel 0 rfl (.sel 0 rfl (.nil _))))) (maps_Clone_map_string_string_string_string.calls _ _ m0_0 x0_0 ) hs2v) (fun _ => ⟨rfl, rfl, rfl, rfl, rfl, rfl, rfl, rfl, trivial⟩) (fun _ => .inr rfl) (fun z => Ent.refl _)) (ac (fun γ => eo (Z := Nat) (fun z => (γ.1, z, γ.2.2)) rfl rfl (.v 8 rfl rfl .nil) (re_call (vs := [.map (some m0_1)]) (cap := []) (A := [mapO m0_1 enc3 enc69 x0_1]) (rst := [mapO γ.1 enc9 enc9 s1v, mapO m0_0 enc9 enc9 x0_0, obj b0 58 [.map (some m0_0), .map (some m0_1)], F]) rfl rfl rfl rfl rfl rfl Tryz.call41 (.sel 3 rfl (.sel 0 rfl (.sel 0 rfl (.sel 0 rfl (.sel 0 rfl (.nil _)))))) (maps_Clone_Session.calls _ _ m0_1 x0_1 ) hs5v) (fun _ => ⟨rfl, rfl, rfl, rfl, rfl, rfl, rfl, rfl, rfl, trivial⟩) (fun _ => .inr rfl) (fun z => Ent.refl _)) (ac (fun γ => eo (Z := Nat) (fun z => (γ.1, γ.2.1, z)) rfl rfl (.v 10 rfl rfl .nil) (re_box rfl rfl rfl) (fun _ => ⟨rfl, rfl, rfl, rfl, rfl, rfl, rfl, rfl, rfl, rfl, rfl, trivial⟩) (fun _ => .inr rfl) (fun z => Ent.refl _)) zA)))
 intro g8v
 refine nrm_then (sim_rtn ?_)
 exact rtn_fn (g8v.2.2, g8v.1, g8v.2.1) rfl rfl rfl (.sel 0 rfl (.sel 2 rfl (.sel 0 rfl (.sel 2 rfl (.sel 1 rfl (.sel 0 rfl (.sel 0 rfl (.nil _))))))))

def synodref11_Store_Copy.f (x0_0 : List (Ty90)) (x0_1 : List (Ty91)) : Option ((List (Ty90)) × (List (Ty91))) := if (([] : List (Ty90)).length + x0_0.length) * 32 ≤ 140737488355328 then (if (([] : List (Ty91)).length + x0_1.length) * 40 ≤ 140737488355328 then (some (([] : List (Ty90)) ++ x0_0, ([] : List (Ty91)) ++ x0_1)) else none) else none
theorem synodref11_Store_Copy.calls (W : World) (F : HA) (b0 : Nat) (a0_0 : Option Addr) (c0_0 : Nat) (x0_0 : List (Ty90)) (a0_1 : Option Addr) (c0_1 : Nat) (x0_1 : List (Ty91)) (h0_0 : RdV F 2 (V90 tt) a0_0 x0_0) (hc0_0 : x0_0.length ≤ c0_0) (hm0_0 : c0_0 ≤ maxLen) (h0_1 : RdV F 4 (V91 tt) a0_1 x0_1) (hc0_1 : x0_1.length ≤ c0_1) (hm0_1 : c0_1 ≤ maxLen) :
    Fn Tryz.prog W 18 [.pointer (some ⟨b0, 0, none⟩)] [obj b0 85 [.slice a0_0 x0_0.length c0_0, .slice a0_1 x0_1.length c0_1]] F (synodref11_Store_Copy.f x0_0 x0_1) (fun (r : (List (Ty90)) × (List (Ty91))) (y : Nat × Option Addr × Nat × Option Addr × Nat) => .pointer (some ⟨y.1, 0, none⟩)) (fun r y => [obj y.1 85 [.slice y.2.1 r.1.length y.2.2.1, .slice y.2.2.2.1 r.2.length y.2.2.2.2], RowV 90 2 (V90 tt) y.2.1 r.1 y.2.2.1, RowV 91 4 (V91 tt) y.2.2.2.1 r.2 y.2.2.2.2, obj b0 85 [.slice a0_0 x0_0.length c0_0, .slice a0_1 x0_1.length c0_1]]) := by
 unfold synodref11_Store_Copy.f
 refine fn_intro 17 Tryz.func18 rfl Tryz.ntmps18 rfl ?_
 refine sr ?_
 refine va rfl rfl (simL_nil (nrm_then (sim_seq ?_)))
 refine sim_ask (fun hb5v => ?_)
 refine sim_ask (fun hb10v => ?_)
 refine sim_drawI (Γ := Nat × (Option Addr × Nat) × Nat × (Option Addr × Nat) × Nat) (0, (none, 0), 0, (none, 0), 0) [[], [], [1], [1, 2], [1, 2, 3], rL 5, [], [], [7], [7, 8], [7, 8, 9], rL 11, rL 12, rL 13, rL 14] [0, 5, 6, 11, 13] [1, 2, 3, 4, 7, 8, 9, 10, 12, 14] [[], [0], [0, 5], [6], [0, 6], [0, 5, 6], [0, 5, 6, 11], [0, 5, 6, 11, 13]] 7 (fun i => [[0, 3], [0, 1, 3, 4], [0, 1, 3, 4], [0, 1, 3, 4], [0, 1, 3, 4], [1, 4], [0, 1, 2], rL 6, rL 6, rL 6, rL 6, [5], [6], [6], [7]].getD i []) (fun i s => ([[1, 0, 0, 4, 0, 0, 0, 0], [], [], [], [], [0, 2, 0, 0, 5, 0, 0, 0], [3, 4, 5, 0, 0, 0, 0, 0], [], [], [], [], [0, 0, 0, 0, 0, 6, 0, 0], [], [0, 0, 0, 0, 0, 0, 7, 0], []].getD i []).getD s 0) (fun i => [[1, 2, 3, 4, 6, 7, 8, 9, 10], [], [], [], [], [0, 1, 2, 3, 4, 6, 7, 8, 9, 10], [0, 1, 2, 3, 4, 5, 7, 8, 9, 10], [], [], [], [], rL 11, [], rL 13, []].getD i []) (fun γ i => [.slice (some ⟨γ.1, 0, none⟩) (([] : List (Ty90)).length) 0, .pointer (some ⟨b0, 0, none⟩), .pointer (some ⟨b0, 0, none⟩), .pointer (some ⟨b0, 0, none⟩), .slice a0_0 x0_0.length c0_0, .slice γ.2.1.1 ((([] : List (Ty90)) ++ x0_0).length) γ.2.1.2, .slice (some ⟨γ.2.2.1, 0, none⟩) (([] : List (Ty91)).length) 0, .pointer (some ⟨b0, 0, none⟩), .pointer (some ⟨b0, 0, none⟩), .pointer (some ⟨b0, 1, none⟩), .slice a0_1 x0_1.length c0_1, .slice γ.2.2.2.1.1 ((([] : List (Ty91)) ++ x0_1).length) γ.2.2.2.1.2, .agg #[.slice γ.2.1.1 ((([] : List (Ty90)) ++ x0_0).length) γ.2.1.2, .slice γ.2.2.2.1.1 ((([] : List (Ty91)) ++ x0_1).length) γ.2.2.2.1.2], .pointer (some ⟨γ.2.2.2.2, 0, none⟩), .pointer (some ⟨γ.2.2.2.2, 0, none⟩)].getD i undef) (fun j γ => [[obj b0 85 [.slice a0_0 x0_0.length c0_0, .slice a0_1 x0_1.length c0_1], F], [RowV 90 2 (V90 tt) (some ⟨γ.1, 0, none⟩) ([] : List (Ty90)) 0, obj b0 85 [.slice a0_0 x0_0.length c0_0, .slice a0_1 x0_1.length c0_1], F], [RowV 90 2 (V90 tt) γ.2.1.1 (([] : List (Ty90)) ++ x0_0) γ.2.1.2, obj b0 85 [.slice a0_0 x0_0.length c0_0, .slice a0_1 x0_1.length c0_1], F], [RowV 91 4 (V91 tt) (some ⟨γ.2.2.1, 0, none⟩) ([] : List (Ty91)) 0, obj b0 85 [.slice a0_0 x0_0.length c0_0, .slice a0_1 x0_1.length c0_1], F], [RowV 91 4 (V91 tt) (some ⟨γ.2.2.1, 0, none⟩) ([] : List (Ty91)) 0, RowV 90 2 (V90 tt) (some ⟨γ.1, 0, none⟩) ([] : List (Ty90)) 0, obj b0 85 [.slice a0_0 x0_0.length c0_0, .slice a0_1 x0_1.length c0_1], F], [RowV 91 4 (V91 tt) (some ⟨γ.2.2.1, 0, none⟩) ([] : List (Ty91)) 0, RowV 90 2 (V90 tt) γ.2.1.1 (([] : List (Ty90)) ++ x0_0) γ.2.1.2, obj b0 85 [.slice a0_0 x0_0.length c0_0, .slice a0_1 x0_1.length c0_1], F], [RowV 91 4 (V91 tt) γ.2.2.2.1.1 (([] : List (Ty91)) ++ x0_1) γ.2.2.2.1.2, RowV 90 2 (V90 tt) γ.2.1.1 (([] : List (Ty90)) ++ x0_0) γ.2.1.2, obj b0 85 [.slice a0_0 x0_0.length c0_0, .slice a0_1 x0_1.length c0_1], F], [obj γ.2.2.2.2 85 [.slice γ.2.1.1 ((([] : List (Ty90)) ++ x0_0).length) γ.2.1.2, .slice γ.2.2.2.1.1 ((([] : List (Ty91)) ++ x0_1).length) γ.2.2.2.1.2], RowV 91 4 (V91 tt) γ.2.2.2.1.1 (([] : List (Ty91)) ++ x0_1) γ.2.2.2.1.2, RowV 90 2 (V90 tt) γ.2.1.1 (([] : List (Ty90)) ++ x0_0) γ.2.1.2, obj b0 85 [.slice a0_0 x0_0.length c0_0, .slice a0_1 x0_1.length c0_1], F]].getD j []) (fun γ => [(2, .pointer (some ⟨γ.2.2.2.2, 0, none⟩))]) mixed (by decide) (by decide) (by decide) (by decide) (by decide) (by decide) 17 rfl (by decide) (by decide) (by decide) (by decide) (by decide) (by decide) (Ent.refl _) ?_ ?_ (fun _ => ⟨rfl, trivial⟩) ?_
 exact (ac (fun γ => (ac (qm rfl (.o (s := 0) rfl (by decide) .nil) rfl) (ac (qm rfl (.o (s := 0) rfl (by decide) .nil) rfl) (ac (qm rfl (.o (s := 0) rfl (by decide) .nil) rfl) (ac (qm rfl (.o (s := 0) rfl (by decide) .nil) rfl) zA))))) (ac (fun γ => (ac (qp rfl rfl (.v 1 rfl rfl .nil) (q_nil rfl rfl) rfl) (ac (qp rfl rfl (.v 1 rfl rfl .nil) (q_nil rfl rfl) rfl) (ac (qp rfl rfl (.v 1 rfl rfl .nil) (q_nil rfl rfl) rfl) (ac (qp rfl rfl (.v 1 rfl rfl .nil) (q_nil rfl rfl) rfl) zA))))) (ac (fun γ => (ac (qp rfl rfl (.v 2 rfl rfl .nil) (q_fa rfl rfl Tryz.underlying85 rfl rfl Tryz.sizeOf82 rfl) rfl) (ac (qp rfl rfl (.v 2 rfl rfl .nil) (q_fa rfl rfl Tryz.underlying85 rfl rfl Tryz.sizeOf82 rfl) rfl) (ac (qp rfl rfl (.v 2 rfl rfl .nil) (q_fa rfl rfl Tryz.underlying85 rfl rfl Tryz.sizeOf82 rfl) rfl) (ac (qp rfl rfl (.v 2 rfl rfl .nil) (q_fa rfl rfl Tryz.underlying85 rfl rfl Tryz.sizeOf82 rfl) rfl) zA))))) (ac (fun γ => (ac (qp rfl rfl (.v 3 rfl rfl .nil) (q_load rfl rfl Tryz.isAgg82 (.obj 0 rfl rfl)) rfl) (ac (qp rfl rfl (.v 3 rfl rfl .nil) (q_load rfl rfl Tryz.isAgg82 (.obj 1 rfl rfl)) rfl) (ac (qp rfl rfl (.v 3 rfl rfl .nil) (q_load rfl rfl Tryz.isAgg82 (.obj 1 rfl rfl)) rfl) (ac (qp rfl rfl (.v 3 rfl rfl .nil) (q_load rfl rfl Tryz.isAgg82 (.obj 2 rfl rfl)) rfl) zA))))) (ac (fun γ => (ac (qm rfl (.o (s := 0) rfl (by decide) .nil) rfl) (ac (qm rfl (.o (s := 0) rfl (by decide) .nil) rfl) (ac (qm rfl (.o (s := 0) rfl (by decide) .nil) rfl) (ac (qm rfl (.o (s := 0) rfl (by decide) .nil) rfl) (ac (qm rfl (.o (s := 0) rfl (by decide) .nil) rfl) (ac (qm rfl (.o (s := 0) rfl (by decide) .nil) rfl) zA))))))) (ac (fun γ => (ac (qp rfl rfl (.v 7 rfl rfl .nil) (q_nil rfl rfl) rfl) (ac (qp rfl rfl (.v 7 rfl rfl .nil) (q_nil rfl rfl) rfl) (ac (qp rfl rfl (.v 7 rfl rfl .nil) (q_nil rfl rfl) rfl) (ac (qp rfl rfl (.v 7 rfl rfl .nil) (q_nil rfl rfl) rfl) (ac (qp rfl rfl (.v 7 rfl rfl .nil) (q_nil rfl rfl) rfl) (ac (qp rfl rfl (.v 7 rfl rfl .nil) (q_nil rfl rfl) rfl) zA))))))) (ac (fun γ => (ac (qp rfl rfl (.v 8 rfl rfl .nil) (q_fa rfl rfl Tryz.underlying85 rfl rfl Tryz.sizeOf83 rfl) rfl) (ac (qp rfl rfl (.v 8 rfl rfl .nil) (q_fa rfl rfl Tryz.underlying85 rfl rfl Tryz.sizeOf83 rfl) rfl) (ac (qp rfl rfl (.v 8 rfl rfl .nil) (q_fa rfl rfl Tryz.underlying85 rfl rfl Tryz.sizeOf83 rfl) rfl) (ac (qp rfl rfl (.v 8 rfl rfl .nil) (q_fa rfl rfl Tryz.underlying85 rfl rfl Tryz.sizeOf83 rfl) rfl) (ac (qp rfl rfl (.v 8 rfl rfl .nil) (q_fa rfl rfl Tryz.underlying85 rfl rfl Tryz.sizeOf83 rfl) rfl) (ac (qp rfl rfl (.v 8 rfl rfl .nil) (q_fa rfl rfl Tryz.underlying85 rfl rfl Tryz.sizeOf83 rfl) rfl) zA))))))) (ac (fun γ => (ac (qp rfl rfl (.v 9 rfl rfl .nil) (q_load rfl rfl Tryz.isAgg83 (.obj 0 rfl rfl)) rfl) (ac (qp rfl rfl (.v 9 rfl rfl .nil) (q_load rfl rfl Tryz.isAgg83 (.obj 1 rfl rfl)) rfl) (ac (qp rfl rfl (.v 9 rfl rfl .nil) (q_load rfl rfl Tryz.isAgg83 (.obj 1 rfl rfl)) rfl) (ac (qp rfl rfl (.v 9 rfl rfl .nil) (q_load rfl rfl Tryz.isAgg83 (.obj 1 rfl rfl)) rfl) (ac (qp rfl rfl (.v 9 rfl rfl .nil) (q_load rfl rfl Tryz.isAgg83 (.obj 2 rfl rfl)) rfl) (ac (qp rfl rfl (.v 9 rfl rfl .nil) (q_load rfl rfl Tryz.isAgg83 (.obj 2 rfl rfl)) rfl) zA))))))) (aq rfl (fun γ => qp rfl rfl (.v 5 rfl rfl (.v 11 rfl rfl .nil)) (q_build (v := .agg #[.slice γ.2.1.1 ((([] : List (Ty90)) ++ x0_0).length) γ.2.1.2, .slice γ.2.2.2.1.1 ((([] : List (Ty91)) ++ x0_1).length) γ.2.2.2.1.2]) rfl rfl (fun _ => by kernel_rfl)) rfl) (aq rfl (fun γ => qp rfl rfl (.v 13 rfl rfl .nil) (q_asg rfl rfl) rfl) zA))))))))))
 exact (ac (fun γ => (ac (eoI (Z := Nat) (fun z => (z, γ.2.1, γ.2.2.1, γ.2.2.2.1, γ.2.2.2.2)) rfl rfl .nil (re_lit0V (α := List UInt8 × List UInt8) (V := (V90 tt)) rfl Tryz.underlying82 elt90) (fun _ => ⟨rfl, rfl, rfl, rfl, rfl, rfl, rfl, rfl, rfl, trivial⟩) (fun _ => .inr rfl) (fun z => (.sel 0 rfl (.sel 0 rfl (.sel 0 rfl (.nil _)))))) (ac (eoI (Z := Nat) (fun z => (z, γ.2.1, γ.2.2.1, γ.2.2.2.1, γ.2.2.2.2)) rfl rfl .nil (re_lit0V (α := List UInt8 × List UInt8) (V := (V90 tt)) rfl Tryz.underlying82 elt90) (fun _ => ⟨rfl, rfl, rfl, rfl, rfl, rfl, rfl, rfl, rfl, trivial⟩) (fun _ => .inr rfl) (fun z => (.sel 1 rfl (.sel 0 rfl (.sel 0 rfl (.sel 0 rfl (.nil _))))))) zA))) (ac (fun γ => (ac (eoI (Z := Option Addr × Nat) (fun z => (γ.1, z, γ.2.2.1, γ.2.2.2.1, γ.2.2.2.2)) rfl rfl (.v 0 rfl rfl (.v 4 rfl rfl .nil)) (re_appendVc 0 rfl rfl rfl Tryz.underlying82 elt90 rfl  (h0_0.rds 1 rfl) hb5v) (fun _ => ⟨rfl, rfl, rfl, rfl, rfl, rfl, rfl, rfl, rfl, rfl, trivial⟩) (fun _ => .inr rfl) (fun z => (.sel 0 rfl (.sel 0 rfl (.sel 0 rfl (.nil _)))))) (ac (eoI (Z := Option Addr × Nat) (fun z => (γ.1, z, γ.2.2.1, γ.2.2.2.1, γ.2.2.2.2)) rfl rfl (.v 0 rfl rfl (.v 4 rfl rfl .nil)) (re_appendVc 1 rfl rfl rfl Tryz.underlying82 elt90 rfl  (h0_0.rds 2 rfl) hb5v) (fun _ => ⟨rfl, rfl, rfl, rfl, rfl, rfl, rfl, rfl, rfl, rfl, trivial⟩) (fun _ => .inr rfl) (fun z => (.sel 0 rfl (.sel 0 rfl (.sel 0 rfl (.sel 0 rfl (.nil _))))))) zA))) (ac (fun γ => (ac (eoI (Z := Nat) (fun z => (γ.1, γ.2.1, z, γ.2.2.2.1, γ.2.2.2.2)) rfl rfl .nil (re_lit0V (α := Int × Int × Int × List UInt8) (V := (V91 tt)) rfl Tryz.underlying83 elt91) (fun _ => ⟨rfl, rfl, rfl, rfl, rfl, rfl, rfl, rfl, rfl, rfl, trivial⟩) (fun _ => .inr rfl) (fun z => (.sel 0 rfl (.sel 0 rfl (.sel 0 rfl (.nil _)))))) (ac (eoI (Z := Nat) (fun z => (γ.1, γ.2.1, z, γ.2.2.2.1, γ.2.2.2.2)) rfl rfl .nil (re_lit0V (α := Int × Int × Int × List UInt8) (V := (V91 tt)) rfl Tryz.underlying83 elt91) (fun _ => ⟨rfl, rfl, rfl, rfl, rfl, rfl, rfl, rfl, rfl, rfl, trivial⟩) (fun _ => .inr rfl) (fun z => (.sel 0 rfl (.sel 0 rfl (.sel 0 rfl (.sel 0 rfl (.nil _))))))) (ac (eoI (Z := Nat) (fun z => (γ.1, γ.2.1, z, γ.2.2.2.1, γ.2.2.2.2)) rfl rfl .nil (re_lit0V (α := Int × Int × Int × List UInt8) (V := (V91 tt)) rfl Tryz.underlying83 elt91) (fun _ => ⟨rfl, rfl, rfl, rfl, rfl, rfl, rfl, rfl, rfl, rfl, trivial⟩) (fun _ => .inr rfl) (fun z => (.sel 0 rfl (.sel 0 rfl (.sel 0 rfl (.sel 0 rfl (.nil _))))))) zA)))) (aq rfl (fun γ => eoI (Z := Option Addr × Nat) (fun z => (γ.1, γ.2.1, γ.2.2.1, z, γ.2.2.2.2)) rfl rfl (.v 6 rfl rfl (.v 10 rfl rfl .nil)) (re_appendVc 0 rfl rfl rfl Tryz.underlying83 elt91 rfl  (h0_1.rds 2 rfl) hb10v) (fun _ => ⟨rfl, rfl, rfl, rfl, rfl, rfl, rfl, rfl, rfl, rfl, rfl, trivial⟩) (fun _ => .inr rfl) (fun z => (.sel 0 rfl (.sel 0 rfl (.sel 0 rfl (.sel 0 rfl (.nil _))))))) (aq rfl (fun γ => eoI (Z := Nat) (fun z => (γ.1, γ.2.1, γ.2.2.1, γ.2.2.2.1, z)) rfl rfl (.v 12 rfl rfl .nil) (re_box rfl rfl rfl) (fun _ => ⟨rfl, rfl, rfl, rfl, rfl, rfl, rfl, rfl, rfl, rfl, rfl, rfl, rfl, trivial⟩) (fun _ => .inr rfl) (fun z => (.sel 0 rfl (.sel 0 rfl (.sel 0 rfl (.sel 0 rfl (.sel 0 rfl (.nil _)))))))) zA)))))
 intro g12v
 refine nrm_then (sim_rtn ?_)
 exact rtn_fn (g12v.2.2.2.2, g12v.2.1.1, g12v.2.1.2, g12v.2.2.2.1.1, g12v.2.2.2.1.2) rfl rfl rfl (.sel 0 rfl (.sel 1 rfl (.sel 0 rfl (.sel 0 rfl (.sel 0 rfl (.nil _))))))

def maps_Keys_map_string_string_string_string.f  : Option (Unit) := some ()
theorem maps_Keys_map_string_string_string_string.calls (W : World) (F : HA) (m0 : Nat)  :
    Fn Tryz.prog W 53 [.map (some m0)] [] F (maps_Keys_map_string_string_string_string.f ) (fun (r : Unit) (y : Nat) => .func (.func 90) #[] #[.pointer (some ⟨y, 0, none⟩)]) (fun r y => [obj y 55 [.map (some m0)]]) := by
 unfold maps_Keys_map_string_string_string_string.f
 refine fn_intro 4 Tryz.func53 rfl Tryz.ntmps53 rfl ?_
 refine sr ?_
 refine simL_eff (re_box rfl rfl rfl) rfl rfl rfl ?_
 intro b1v
 refine va rfl rfl (nx ?_)
 refine vq (q_mkfn rfl rfl rfl) rfl ?_
 refine va rfl rfl (simL_nil (nrm_then (sim_rtn ?_)))
 exact rtn_fn b1v rfl rfl rfl (.sel 0 rfl (.sel 0 rfl (.nil _)))

def slices_Sorted_string_maps_Keys_map_string_string_string_string_1.f (xp0_0 : List ((List UInt8) × (List UInt8))) : Option (List (List UInt8)) := if (xp0_0.map (·.1)).Nodup ∧ xp0_0.length * 16 ≤ 140737488355328 ∧ ∀ p ∈ xp0_0, p.1.length ≤ 140737488351232 then some (keysS xp0_0) else none
theorem slices_Sorted_string_maps_Keys_map_string_string_string_string_1.calls (W : World) (F : HA) (bp0 : Nat) (mp0_0 : Nat) (xp0_0 : List ((List UInt8) × (List UInt8))) :
    Fn Tryz.prog W 52 [.func (.func 90) #[] #[.pointer (some ⟨bp0, 0, none⟩)]] [obj bp0 55 [.map (some mp0_0)], mapO mp0_0 enc9 enc9 xp0_0] F (slices_Sorted_string_maps_Keys_map_string_string_string_string_1.f xp0_0) (fun (r : List (List UInt8)) (y : Option Addr × Nat) => .slice y.1 r.length y.2) (fun r y => [RowV 9 1 (V9 tt) y.1 r y.2, obj bp0 55 [.map (some mp0_0)], mapO mp0_0 enc9 enc9 xp0_0]) := by
  unfold slices_Sorted_string_maps_Keys_map_string_string_string_string_1.f
  exact fn_sortedS (V := (V9 tt)) (fun _ => rfl) Tryz.underlying9 (fun w D0 nn => lib_sorted52_90 w D0 nn mp0_0 bp0)

def kv_Store_Keys.f (x0_0 : List ((List UInt8) × (List UInt8))) (x0_1 : List ((Int) × (Ty91))) : Option (List (List UInt8)) := (maps_Keys_map_string_string_string_string.f).bind fun s1v => ((slices_Sorted_string_maps_Keys_map_string_string_string_string_1.f x0_0).bind fun s4v => (some s4v))
theorem kv_Store_Keys.calls (W : World) (F : HA) (b0 : Nat) (m0_0 : Nat) (x0_0 : List ((List UInt8) × (List UInt8))) (m0_1 : Nat) (x0_1 : List ((Int) × (Ty91)))  :
    Fn Tryz.prog W 42 [.pointer (some ⟨b0, 0, none⟩)] [obj b0 58 [.map (some m0_0), .map (some m0_1)], mapO m0_0 enc9 enc9 x0_0, mapO m0_1 enc3 enc69 x0_1] F (kv_Store_Keys.f x0_0 x0_1) (fun (r : List (List UInt8)) (y : Option Addr × Nat) => .slice y.1 r.length y.2) (fun r y => [RowV 9 1 (V9 tt) y.1 r y.2, obj b0 58 [.map (some m0_0), .map (some m0_1)], mapO m0_0 enc9 enc9 x0_0, mapO m0_1 enc3 enc69 x0_1]) := by
 unfold kv_Store_Keys.f
 refine fn_intro 9 Tryz.func42 rfl Tryz.ntmps42 rfl ?_
 refine sr ?_
 refine va rfl rfl (nx ?_)
 refine vm rfl rfl ?_
 refine vn rfl rfl ?_
 refine vq (q_fa rfl rfl Tryz.underlying58 rfl rfl Tryz.sizeOf55 rfl) rfl ?_
 refine vq (q_load rfl rfl Tryz.isAgg55 (.obj 0 rfl rfl)) rfl ?_
 refine simL_bind (fun s1v hs2v => ?_)
 refine simL_eff (re_call (vs := [.map (some m0_0)]) (cap := []) (A := []) (rst := [obj b0 58 [.map (some m0_0), .map (some m0_1)], mapO m0_0 enc9 enc9 x0_0, mapO m0_1 enc3 enc69 x0_1, F]) rfl rfl rfl rfl rfl rfl Tryz.call53 (.sel 0 rfl (.sel 0 rfl (.sel 0 rfl (.sel 0 rfl (.nil _))))) (maps_Keys_map_string_string_string_string.calls _ _ m0_0 ) hs2v) rfl rfl rfl ?_
 intro y3v
 refine simL_bind (fun s4v hs5v => ?_)
 refine simL_eff (re_call (vs := [.func (.func 90) #[] #[.pointer (some ⟨y3v, 0, none⟩)]]) (cap := []) (A := [obj y3v 55 [.map (some m0_0)], mapO m0_0 enc9 enc9 x0_0]) (rst := [obj b0 58 [.map (some m0_0), .map (some m0_1)], mapO m0_1 enc3 enc69 x0_1, F]) rfl rfl rfl rfl rfl rfl Tryz.call52 (.sel 0 rfl (.sel 1 rfl (.sel 0 rfl (.sel 0 rfl (.sel 0 rfl (.nil _)))))) (slices_Sorted_string_maps_Keys_map_string_string_string_string_1.calls _ _ y3v m0_0 x0_0 ) hs5v) rfl rfl rfl ?_
 intro y6v
 refine va rfl rfl (simL_nil (nrm_then (sim_rtn ?_)))
 exact rtn_fn (y6v.1, y6v.2) rfl rfl rfl (.sel 0 rfl (.sel 2 rfl (.sel 1 rfl (.sel 1 rfl (.sel 1 rfl (.nil _))))))

def maps_Keys_Session.f  : Option (Unit) := some ()
theorem maps_Keys_Session.calls (W : World) (F : HA) (m0 : Nat)  :
    Fn Tryz.prog W 56 [.map (some m0)] [] F (maps_Keys_Session.f ) (fun (r : Unit) (y : Nat) => .func (.func 93) #[] #[.pointer (some ⟨y, 0, none⟩)]) (fun r y => [obj y 56 [.map (some m0)]]) := by
 unfold maps_Keys_Session.f
 refine fn_intro 4 Tryz.func56 rfl Tryz.ntmps56 rfl ?_
 refine sr ?_
 refine simL_eff (re_box rfl rfl rfl) rfl rfl rfl ?_
 intro b1v
 refine va rfl rfl (nx ?_)
 refine vq (q_mkfn rfl rfl rfl) rfl ?_
 refine va rfl rfl (simL_nil (nrm_then (sim_rtn ?_)))
 exact rtn_fn b1v rfl rfl rfl (.sel 0 rfl (.sel 0 rfl (.nil _)))

def slices_Sorted_int_maps_Keys_Session_1.f (xp0_0 : List ((Int) × (Ty91))) : Option (List Int) := if (xp0_0.map (·.1)).Nodup ∧ xp0_0.length * 16 ≤ 140737488355328 ∧ ∀ p ∈ xp0_0, (Lit.int .i64 p.1).wf = true then some (keysI xp0_0) else none
theorem slices_Sorted_int_maps_Keys_Session_1.calls (W : World) (F : HA) (bp0 : Nat) (mp0_0 : Nat) (xp0_0 : List ((Int) × (Ty91))) :
    Fn Tryz.prog W 55 [.func (.func 93) #[] #[.pointer (some ⟨bp0, 0, none⟩)]] [obj bp0 56 [.map (some mp0_0)], mapO mp0_0 enc3 enc69 xp0_0] F (slices_Sorted_int_maps_Keys_Session_1.f xp0_0) (fun (r : List Int) (y : Option Addr × Nat) => .slice y.1 r.length y.2) (fun r y => [RowV 3 1 (V3 tt) y.1 r y.2, obj bp0 56 [.map (some mp0_0)], mapO mp0_0 enc3 enc69 xp0_0]) := by
  unfold slices_Sorted_int_maps_Keys_Session_1.f
  exact fn_sortedI (V := (V3 tt)) (fun _ => rfl) Tryz.underlying3 (fun w D0 nn => lib_sorted55_93 w D0 nn mp0_0 bp0)

def kv_Store_Sessions.l0 (x0_1 : List ((Int) × (Ty91))) (s6v : List Int) : Nat → List (Ty91) → Int → Option ((List (Ty91)))
  | 0, _, _ => none
  | k + 1, z11v, z12v => if z12v < (s6v.length : Int) then (if 0 ≤ z12v ∧ z12v < (s6v.length : Int) then (if (z11v.length + ([(((mget x0_1 (s6v.getD z12v.toNat (0 : Int))).getD dz91).1, ((mget x0_1 (s6v.getD z12v.toNat (0 : Int))).getD dz91).2.1, ((mget x0_1 (s6v.getD z12v.toNat (0 : Int))).getD dz91).2.2.1, ((mget x0_1 (s6v.getD z12v.toNat (0 : Int))).getD dz91).2.2.2)] : List (Ty91)).length) * 40 ≤ 140737488355328 then (kv_Store_Sessions.l0 x0_1 s6v k (z11v ++ ([(((mget x0_1 (s6v.getD z12v.toNat (0 : Int))).getD dz91).1, ((mget x0_1 (s6v.getD z12v.toNat (0 : Int))).getD dz91).2.1, ((mget x0_1 (s6v.getD z12v.toNat (0 : Int))).getD dz91).2.2.1, ((mget x0_1 (s6v.getD z12v.toNat (0 : Int))).getD dz91).2.2.2)] : List (Ty91))) (IntKind.i64.wrap (z12v + 1))) else none) else none) else (some z11v)
def kv_Store_Sessions.f (k : Nat) (x0_0 : List ((List UInt8) × (List UInt8))) (x0_1 : List ((Int) × (Ty91))) : Option ((List (Ty91))) := ((maps_Keys_Session.f).bind fun s3v => ((slices_Sorted_int_maps_Keys_Session_1.f x0_1).bind fun s6v => (kv_Store_Sessions.l0 x0_1 s6v k ([] : List (Ty91)) 0))).bind fun s1v => (some s1v)
theorem kv_Store_Sessions.calls (W : World) (F : HA) (k : Nat) (b0 : Nat) (m0_0 : Nat) (x0_0 : List ((List UInt8) × (List UInt8))) (m0_1 : Nat) (x0_1 : List ((Int) × (Ty91)))  :
    Fn Tryz.prog W 28 [.pointer (some ⟨b0, 0, none⟩)] [obj b0 58 [.map (some m0_0), .map (some m0_1)], mapO m0_0 enc9 enc9 x0_0, mapO m0_1 enc3 enc69 x0_1] F (kv_Store_Sessions.f k x0_0 x0_1) (fun (r : (List (Ty91))) (y : Option Addr × Nat) => .slice y.1 r.length y.2) (fun r y => [RowV 69 4 (V69 tt) y.1 r y.2, obj b0 58 [.map (some m0_0), .map (some m0_1)], mapO m0_0 enc9 enc9 x0_0, mapO m0_1 enc3 enc69 x0_1]) := by
 unfold kv_Store_Sessions.f
 refine fn_intro 28 Tryz.func28 rfl Tryz.ntmps28 rfl ?_
 refine sr ?_
 refine va rfl rfl (nx ?_)
 refine va rfl rfl (simL_nil (nrm_then ?_))
 refine sim_cut (S := (List (Ty91))) (Option Addr × Nat) (fun s y => [(3, .slice y.1 s.length y.2)]) (fun s y => [obj b0 58 [.map (some m0_0), .map (some m0_1)], RowV 69 4 (V69 tt) y.1 s y.2, mapO m0_0 enc9 enc9 x0_0, mapO m0_1 enc3 enc69 x0_1, F]) ?_ ?_
 refine sr ?_
 refine vm rfl rfl ?_
 refine vn rfl rfl ?_
 refine vq (q_fa rfl rfl Tryz.underlying58 rfl rfl Tryz.sizeOf56 rfl) rfl ?_
 refine vq (q_load rfl rfl Tryz.isAgg56 (.obj 0 rfl rfl)) rfl ?_
 refine simL_bind (fun s3v hs4v => ?_)
 refine simL_eff (re_call (vs := [.map (some m0_1)]) (cap := []) (A := []) (rst := [obj b0 58 [.map (some m0_0), .map (some m0_1)], mapO m0_0 enc9 enc9 x0_0, mapO m0_1 enc3 enc69 x0_1, F]) rfl rfl rfl rfl rfl rfl Tryz.call56 (.sel 0 rfl (.sel 0 rfl (.sel 0 rfl (.sel 0 rfl (.nil _))))) (maps_Keys_Session.calls _ _ m0_1 ) hs4v) rfl rfl rfl ?_
 intro y5v
 refine simL_bind (fun s6v hs7v => ?_)
 refine simL_eff (re_call (vs := [.func (.func 93) #[] #[.pointer (some ⟨y5v, 0, none⟩)]]) (cap := []) (A := [obj y5v 56 [.map (some m0_1)], mapO m0_1 enc3 enc69 x0_1]) (rst := [obj b0 58 [.map (some m0_0), .map (some m0_1)], mapO m0_0 enc9 enc9 x0_0, F]) rfl rfl rfl rfl rfl rfl Tryz.call55 (.sel 0 rfl (.sel 2 rfl (.sel 0 rfl (.sel 0 rfl (.sel 0 rfl (.nil _)))))) (slices_Sorted_int_maps_Keys_Session_1.calls _ _ y5v m0_1 x0_1 ) hs7v) rfl rfl rfl ?_
 intro y8v
 refine vq (q_len rfl rfl rfl Tryz.underlying119) rfl ?_
 refine vm rfl rfl (simL_nil (nrm_then ?_))
 refine sim_block ?_
 refine sim_loop (S := (List (Ty91)) × Int) (Option Addr × Nat) (fun k s => kv_Store_Sessions.l0 x0_1 s6v k s.1 s.2) (fun s y => [(0, .pointer (some ⟨b0, 0, none⟩)), (3, .slice y.1 s.1.length y.2), (11, .slice y8v.1 s6v.length y8v.2), (12, .int .i64 (s6v.length : Int)), (13, .int .i64 s.2)]) (fun s y => [obj b0 58 [.map (some m0_0), .map (some m0_1)], RowV 69 4 (V69 tt) y.1 s.1 y.2, RowV 3 1 (V3 tt) y8v.1 s6v y8v.2, mapO m0_0 enc9 enc9 x0_0, mapO m0_1 enc3 enc69 x0_1, F]) (fun _ => by rw [kv_Store_Sessions.l0]) ?_ k (([] : List (Ty91)), 0) (none, 0) ⟨rfl, rfl, rfl, rfl, rfl, trivial⟩ (.sel 3 rfl (.rowV_nil (.sel 0 rfl (.sel 2 rfl (.sel 1 rfl (.sel 1 rfl (.nil _)))))))
 intro k s9v y10v
 refine sim_eq (by rw [kv_Store_Sessions.l0]) ?_
 refine sr ?_
 refine vq (q_lss rfl rfl rfl) rfl (simL_nil (nrm_then (sim_seq ?_)))
 refine sim_cond rfl (fun h13v => ?_) (fun h14v => ?_)
 refine sim_skip ?_
 refine nrm_then (sim_seq ?_)
 refine sim_block ?_
 refine sr ?_
 refine simL_openV 2 rfl (fun rs23v hl24v => ?_)
 refine simL_ask (fun hi15v => ?_)
 refine simL_posV 2 rfl hl24v rfl (i := s9v.2.toNat) (by omega) (0 : Int) (fun b16v b16vo r19v ha17v hV20v hlr21v hcell22v => ?_)
 obtain rfl := hV20v
 refine vq (q_idx rfl rfl rfl ha17v Tryz.underlying119 Tryz.sizeOf3 hi15v.1 hi15v.2) rfl ?_
 refine vq (q_load rfl rfl Tryz.isAgg3 (hcell22v 2 rfl 0 _ rfl)) rfl ?_
 refine va rfl rfl (ny ?_)
 refine vm rfl rfl ?_
 refine vm rfl rfl ?_
 refine vn rfl rfl ?_
 refine vq (q_fa rfl rfl Tryz.underlying58 rfl rfl Tryz.sizeOf56 rfl) rfl ?_
 refine vq (q_load rfl rfl Tryz.isAgg56 (.obj 0 rfl rfl)) rfl ?_
 refine vm rfl rfl ?_
 refine vq ((q_mlook (ek := enc3) (ev := enc69) (z := dz91) 4 (s6v.getD s9v.2.toNat (0 : Int)) rfl rfl rfl Tryz.underlying56 key3 Tryz.zeroValue69 rfl : RQ _ _ _ _ (.agg #[.int .i64 (((mget x0_1 (s6v.getD s9v.2.toNat (0 : Int))).getD dz91).1), .int .i64 (((mget x0_1 (s6v.getD s9v.2.toNat (0 : Int))).getD dz91).2.1), .int .i64 (((mget x0_1 (s6v.getD s9v.2.toNat (0 : Int))).getD dz91).2.2.1), str (((mget x0_1 (s6v.getD s9v.2.toNat (0 : Int))).getD dz91).2.2.2)]))) rfl ?_
 have hlb26v : ListV 4 (V69 tt) ([(((mget x0_1 (s6v.getD s9v.2.toNat (0 : Int))).getD dz91).1, ((mget x0_1 (s6v.getD s9v.2.toNat (0 : Int))).getD dz91).2.1, ((mget x0_1 (s6v.getD s9v.2.toNat (0 : Int))).getD dz91).2.2.1, ((mget x0_1 (s6v.getD s9v.2.toNat (0 : Int))).getD dz91).2.2.2)] : List (Ty91)) [[.int .i64 (((mget x0_1 (s6v.getD s9v.2.toNat (0 : Int))).getD dz91).1), .int .i64 (((mget x0_1 (s6v.getD s9v.2.toNat (0 : Int))).getD dz91).2.1), .int .i64 (((mget x0_1 (s6v.getD s9v.2.toNat (0 : Int))).getD dz91).2.2.1), str (((mget x0_1 (s6v.getD s9v.2.toNat (0 : Int))).getD dz91).2.2.2)]] := ⟨⟨rfl, one_of (by rfl), rfl⟩, trivial⟩
 refine simL_eff (re_litV (V := (V69 tt)) (xs := ([(((mget x0_1 (s6v.getD s9v.2.toNat (0 : Int))).getD dz91).1, ((mget x0_1 (s6v.getD s9v.2.toNat (0 : Int))).getD dz91).2.1, ((mget x0_1 (s6v.getD s9v.2.toNat (0 : Int))).getD dz91).2.2.1, ((mget x0_1 (s6v.getD s9v.2.toNat (0 : Int))).getD dz91).2.2.2)] : List (Ty91))) [[.int .i64 (((mget x0_1 (s6v.getD s9v.2.toNat (0 : Int))).getD dz91).1), .int .i64 (((mget x0_1 (s6v.getD s9v.2.toNat (0 : Int))).getD dz91).2.1), .int .i64 (((mget x0_1 (s6v.getD s9v.2.toNat (0 : Int))).getD dz91).2.2.1), str (((mget x0_1 (s6v.getD s9v.2.toNat (0 : Int))).getD dz91).2.2.2)]] rfl rfl Tryz.underlying66 elt69 rfl (by kernel_rfl) rfl hlb26v rfl rfl) rfl rfl rfl ?_
 intro b26v
 refine simL_openV 2 rfl (fun rs31v hl32v => ?_)
 refine simL_ask (fun hb30v => ?_)
 refine simL_eff (re_appendV 2 rfl rfl rfl Tryz.underlying66 elt69 rfl hl32v (RdsV.row hlb26v 0 rfl) hb30v) rfl rfl rfl ?_
 intro y29v
 refine va rfl rfl (simL_nil (nrm_block (nrm_then (sim_region ?_))))
 refine vq (q_add rfl rfl rfl) rfl ?_
 refine vm rfl rfl (simL_nil ?_)
 exact nrm_again (s := (s9v.1 ++ ([(((mget x0_1 (s6v.getD s9v.2.toNat (0 : Int))).getD dz91).1, ((mget x0_1 (s6v.getD s9v.2.toNat (0 : Int))).getD dz91).2.1, ((mget x0_1 (s6v.getD s9v.2.toNat (0 : Int))).getD dz91).2.2.1, ((mget x0_1 (s6v.getD s9v.2.toNat (0 : Int))).getD dz91).2.2.2)] : List (Ty91)), IntKind.i64.wrap (s9v.2 + 1))) (y29v.1, y29v.2) ⟨rfl, rfl, rfl, rfl, rfl, trivial⟩ (.sel 1 rfl (.sel 1 rfl (.sel' 1 rfl (RowV.mk hl24v) (.sel 1 rfl (.sel 1 rfl (.sel 1 rfl (.nil _)))))))
 refine sim_exi ?_
 refine exi_then ?_
 refine exi_loop ?_
 refine exi_here ?_
 exact nrm_cut (s := s9v.1) (y10v.1, y10v.2) ⟨rfl, trivial⟩ (.sel 0 rfl (.sel 0 rfl (.sel 1 rfl (.sel 1 rfl (.sel 1 rfl (.nil _))))))
 intro s1v y2v
 refine sr ?_
 refine vm rfl rfl ?_
 refine va rfl rfl (simL_nil (nrm_then (sim_rtn ?_)))
 exact rtn_fn (y2v.1, y2v.2) rfl rfl rfl (.sel 1 rfl (.sel 0 rfl (.sel 0 rfl (.sel 0 rfl (.sel 0 rfl (.nil _))))))
end Go.Proofs.YtdaedoklkmdhcaaGreat

/- Printed by gen.py: pure functions and the proofs that the Go functions simulate them. Conditions: as each theorem says. -/
import Derived.Test.YtdaedoklkmdhcaaG2
namespace Go.Proofs.Ytdaedoklkmdhcaa
open Go.RowKit
set_option linter.unusedVariables false
set_option maxRecDepth 20000
set_option maxHeartbeats 2000000
def synodlaw11_KvOnce.l2 (x0 : List (Ty33)) (s106v : Int × (List ((List UInt8) × (List UInt8))) × (List ((Int) × (Int × Int × Int × List UInt8)))) : Nat → Bool → Int → Option (Bool)
  | 0, _, _ => none
  | k + 1, z119v, z120v => if z120v < (x0.length : Int) then (if z119v = true then (if 0 ≤ z120v ∧ z120v < (x0.length : Int) then (if 0 ≤ s106v.1 ∧ s106v.1 < (x0.length : Int) then (if (x0.getD z120v.toNat dz33).2.1 = (x0.getD s106v.1.toNat dz33).2.1 then (if 0 ≤ z120v ∧ z120v < (x0.length : Int) then (if 0 ≤ s106v.1 ∧ s106v.1 < (x0.length : Int) then (synodlaw11_KvOnce.l2 x0 s106v k (decide ((x0.getD z120v.toNat dz33).2.2.1 ≤ (x0.getD s106v.1.toNat dz33).2.2.1)) (IntKind.i64.wrap (z120v + 1))) else none) else none) else (synodlaw11_KvOnce.l2 x0 s106v k true (IntKind.i64.wrap (z120v + 1)))) else none) else none) else (synodlaw11_KvOnce.l2 x0 s106v k false (IntKind.i64.wrap (z120v + 1)))) else (some z119v)
def synodlaw11_KvOnce.l1 (x0 : List (Ty33)) : Nat → Int → List ((List UInt8) × (List UInt8)) → List ((Int) × (Int × Int × Int × List UInt8)) → Option (((List ((List UInt8) × (List UInt8))) × (List ((Int) × (Int × Int × Int × List UInt8)))) ⊕ (Bool))
  | 0, _, _, _ => none
  | k + 1, z108v, z109v, z110v => if z108v < (x0.length : Int) then (orR ((synodlaw11_KvOnce.l2 x0 (z108v, z109v, z110v) k true (IntKind.i64.wrap (z108v + 1))).bind fun s115v => (if 0 ≤ z108v ∧ z108v < (x0.length : Int) then ((kv_Store_Do.f z109v z110v ((x0.getD z108v.toNat dz33).1) ((x0.getD z108v.toNat dz33).2.1) ((x0.getD z108v.toNat dz33).2.2.1) ((x0.getD z108v.toNat dz33).2.2.2.1) ((x0.getD z108v.toNat dz33).2.2.2.2.1) ((x0.getD z108v.toNat dz33).2.2.2.2.2)).bind fun s168v => ((synodref_Num.f s168v.2.2.1).bind fun s172v => (if s172v = (0 : Int) then ((if (((!s115v) && (!decide (s168v.1 = (4 : Int)))) && (!decide (s168v.1 = (5 : Int)))) = true then (if 0 ≤ z108v ∧ z108v < (x0.length : Int) then ((synodlaw11_higher.f k ((x0.getD z108v.toNat dz33).1) ((x0.getD z108v.toNat dz33).2.1) ((x0.getD z108v.toNat dz33).2.2.1) ((x0.getD z108v.toNat dz33).2.2.2.1) ((x0.getD z108v.toNat dz33).2.2.2.2.1) ((x0.getD z108v.toNat dz33).2.2.2.2.2) x0).bind fun s187v => (some s187v)) else none) else (some false)).bind fun s177v => (if s177v = true then (some (.inr (.inr false))) else (some (.inl (s168v.2.2.2.1, s168v.2.2.2.2))))) else (some (.inl (s168v.2.2.2.1, s168v.2.2.2.2)))))) else none)) fun s113v => (synodlaw11_KvOnce.l1 x0 k (IntKind.i64.wrap (z108v + 1)) s113v.1 s113v.2)) else (some (.inl (z109v, z110v)))
def synodlaw11_KvOnce.l0 (x0 : List (Ty33)) : Nat → Int → List ((List UInt8) × (List UInt8)) → List ((Int) × (Int × Int × Int × List UInt8)) → List ((List UInt8) × (List UInt8)) → List ((Int) × (Int × Int × Int × List UInt8)) → Option (((List ((List UInt8) × (List UInt8))) × (List ((Int) × (Int × Int × Int × List UInt8))) × (List ((List UInt8) × (List UInt8))) × (List ((Int) × (Int × Int × Int × List UInt8)))) ⊕ (Bool))
  | 0, _, _, _, _, _ => none
  | k + 1, z19v, z20v, z21v, z22v, z23v => if z19v < (x0.length : Int) then (if 0 ≤ z19v ∧ z19v < (x0.length : Int) then ((kv_Store_Do.f z22v z23v ((x0.getD z19v.toNat dz33).1) ((x0.getD z19v.toNat dz33).2.1) ((x0.getD z19v.toNat dz33).2.2.1) ((x0.getD z19v.toNat dz33).2.2.2.1) ((x0.getD z19v.toNat dz33).2.2.2.2.1) ((x0.getD z19v.toNat dz33).2.2.2.2.2)).bind fun s34v => (if 0 ≤ z19v ∧ z19v < (x0.length : Int) then ((kv_Store_Do.f z20v z21v ((x0.getD z19v.toNat dz33).1) ((x0.getD z19v.toNat dz33).2.1) ((x0.getD z19v.toNat dz33).2.2.1) ((x0.getD z19v.toNat dz33).2.2.2.1) ((x0.getD z19v.toNat dz33).2.2.2.2.1) ((x0.getD z19v.toNat dz33).2.2.2.2.2)).bind fun s46v => (if 0 ≤ z19v ∧ z19v < (x0.length : Int) then ((kv_Store_Do.f s46v.2.2.2.1 s46v.2.2.2.2 ((x0.getD z19v.toNat dz33).1) ((x0.getD z19v.toNat dz33).2.1) ((x0.getD z19v.toNat dz33).2.2.1) ((x0.getD z19v.toNat dz33).2.2.2.1) ((x0.getD z19v.toNat dz33).2.2.2.2.1) ((x0.getD z19v.toNat dz33).2.2.2.2.2)).bind fun s58v => ((if ((!(decide (s34v.1 = s46v.1) && (decide (s34v.2.1 = s46v.2.1)))) || (!(decide (s46v.1 = s58v.1) && (decide (s46v.2.1 = s58v.2.1))))) = true then (some true) else ((synodref_Num.f s34v.2.2.1).bind fun s64v => ((synodref_Num.f s46v.2.2.1).bind fun s67v => (some (!decide (s64v = s67v)))))).bind fun s62v => ((if s62v = true then (some true) else ((synodref_Num.f s46v.2.2.1).bind fun s74v => ((synodref_Num.f s58v.2.2.1).bind fun s77v => (some (!decide (s74v = s77v)))))).bind fun s72v => (if s72v = true then (some (.inr false)) else (synodlaw11_KvOnce.l0 x0 k (IntKind.i64.wrap (z19v + 1)) s58v.2.2.2.1 s58v.2.2.2.2 s34v.2.2.2.1 s34v.2.2.2.2))))) else none)) else none)) else none) else (some (.inl (z20v, z21v, z22v, z23v)))
def synodlaw11_KvOnce.f (k : Nat) (x0 : List (Ty33)) : Option (Bool) := (synodlaw11_first.f).bind fun s1v => ((synodlaw11_few.f k x0).bind fun s4v => (if (((!s1v) || (!s4v)) || (decide ((200 : Int) < (x0.length : Int)))) = true then (some s1v) else ((kv_New.f).bind fun s9v => ((kv_New.f).bind fun s12v => (orR (synodlaw11_KvOnce.l0 x0 k 0 s12v.1 s12v.2 s9v.1 s9v.2) fun s15v => ((kv_Store_Snapshot.f k s15v.2.2.1 s15v.2.2.2).bind fun s87v => ((kv_Store_Snapshot.f k s15v.1 s15v.2.1).bind fun s90v => ((synodref_SameBytes.f k s87v s90v).bind fun s101v => (orR (synodlaw11_KvOnce.l1 x0 k 0 s15v.2.2.1 s15v.2.2.2) fun s104v => ((if s101v = true then ((kv_Store_Snapshot.f k s104v.1 s104v.2).bind fun s202v => ((synodref_SameBytes.f k s87v s202v).bind fun s213v => (some s213v))) else (some false)).bind fun s200v => (some s200v)))))))))))
theorem synodlaw11_KvOnce.calls (W : World) (F : HA) (k : Nat) (a0 : Option Addr) (c0 : Nat) (x0 : List (Ty33)) (h0 : RdV F 6 (V33 tt) a0 x0) (hc0 : x0.length ≤ c0) (hm0 : c0 ≤ maxLen) :
    Fn Try.prog W 3 [.slice a0 x0.length c0] [] F (synodlaw11_KvOnce.f k x0) (fun (r : Bool) (y : Unit) => .bool r) (fun r y => []) := by
 unfold synodlaw11_KvOnce.f
 refine fn_intro 179 Try.func3 rfl Try.ntmps3 rfl ?_
 refine sim_seq (sim_region ?_)
 refine simL_val (q_asg rfl rfl) rfl rfl rfl (simL_nil (nrm_then (sim_seq (sim_region ?_))))
 refine simL_bind (fun s1v hs3v => ?_)
 refine simL_eff (re_call (vs := []) (cap := []) (A := []) (rst := [F]) rfl rfl rfl rfl rfl rfl Try.call9 (.sel 0 rfl (.nil _)) (synodlaw11_first.calls _ _  ) hs3v) rfl rfl rfl ?_
 intro y2v
 refine simL_val (q_asg rfl rfl) rfl rfl rfl (simL_nil (nrm_then (sim_seq (sim_region ?_))))
 refine simL_val (q_move rfl rfl) rfl rfl rfl ?_
 refine simL_bind (fun s4v hs6v => ?_)
 refine simL_eff (re_call (vs := [.slice a0 x0.length c0]) (cap := []) (A := []) (rst := [F]) rfl rfl rfl rfl rfl rfl Try.call10 (.sel 0 rfl (.nil _)) (synodlaw11_few.calls _ _ k a0 c0 x0 (h0.up (Up.lend 0 rfl) (fun _ _ h => h)) hc0 hm0) hs6v) rfl rfl rfl ?_
 intro y5v
 refine simL_val (q_asg rfl rfl) rfl rfl rfl (simL_nil (nrm_then (sim_seq (sim_seq (sim_region ?_)))))
 refine simL_val (q_move rfl rfl) rfl rfl rfl ?_
 refine simL_val (q_not rfl rfl) rfl rfl rfl ?_
 refine simL_val (q_move rfl rfl) rfl rfl rfl ?_
 refine simL_valc (b := !s1v) (fun hb222v => RQ.sub (E' := [(4, .bool s4v)]) ⟨rfl, trivial⟩ (q_move rfl rfl)) rfl rfl rfl rfl rfl ?_
 refine simL_valc (b := !s1v) (fun hb221v => RQ.sub (E' := [(27, .bool s4v)]) ⟨lk_cv rfl hb221v, trivial⟩ (q_not rfl rfl)) rfl rfl rfl rfl rfl ?_
 refine simL_val (q_or rfl rfl rfl) rfl rfl rfl ?_
 refine simL_val (q_move rfl rfl) rfl rfl rfl ?_
 refine simL_valc (b := (!s1v) || (!s4v)) (fun hb220v => RQ.sub (E' := [(0, .slice a0 x0.length c0)]) ⟨rfl, trivial⟩ (q_move rfl rfl)) rfl rfl rfl rfl rfl ?_
 refine simL_valc (b := (!s1v) || (!s4v)) (fun hb219v => RQ.sub (E' := [(31, .slice a0 x0.length c0)]) ⟨lk_cv rfl hb219v, trivial⟩ (q_len rfl rfl rfl Try.underlying22)) rfl rfl rfl rfl rfl ?_
 refine simL_valc (b := (!s1v) || (!s4v)) (fun hb218v => RQ.sub (E' := [(32, .int .i64 (x0.length : Int))]) ⟨lk_cv rfl hb218v, trivial⟩ (q_gtr rfl rfl rfl)) rfl rfl rfl rfl rfl ?_
 refine simL_val (q_or rfl rfl rfl) rfl rfl rfl (simL_nil (nrm_then ?_))
 refine sim_condb rfl (fun h7v => ?_) (fun h8v => ?_)
 refine sim_seq (sim_region ?_)
 refine simL_val (q_move rfl rfl) rfl rfl rfl ?_
 refine simL_val (q_asg rfl rfl) rfl rfl rfl (simL_nil (nrm_then (sim_rtn ?_)))
 refine rtn_then ?_
 exact rtn_fn () rfl rfl rfl (.sel 0 rfl (.nil _))
 refine sim_skip ?_
 refine nrm_then (sim_seq (sim_region ?_))
 refine simL_bind (fun s9v hs11v => ?_)
 refine simL_eff (re_call (vs := []) (cap := []) (A := []) (rst := [F]) rfl rfl rfl rfl rfl rfl Try.call11 (.sel 0 rfl (.nil _)) (kv_New.calls _ _  ) hs11v) rfl rfl rfl ?_
 intro y10v
 refine simL_val (q_asg rfl rfl) rfl rfl rfl (simL_nil (nrm_then (sim_seq (sim_region ?_))))
 refine simL_bind (fun s12v hs14v => ?_)
 refine simL_eff (re_call (vs := []) (cap := []) (A := []) (rst := [obj y10v.1 63 [.map (some y10v.2.1), .map (some y10v.2.2)], mapO y10v.2.1 enc9 enc9 s9v.1, mapO y10v.2.2 enc3 enc42 s9v.2, F]) rfl rfl rfl rfl rfl rfl Try.call11 (.sel 0 rfl (.sel 0 rfl (.sel 0 rfl (.sel 0 rfl (.nil _))))) (kv_New.calls _ _  ) hs14v) rfl rfl rfl ?_
 intro y13v
 refine simL_val (q_asg rfl rfl) rfl rfl rfl (simL_nil (nrm_then ?_))
 refine sim_cutR (S := (List ((List UInt8) × (List UInt8))) × (List ((Int) × (Int × Int × Int × List UInt8))) × (List ((List UInt8) × (List UInt8))) × (List ((Int) × (Int × Int × Int × List UInt8)))) (Nat × Nat × Nat × Nat) (fun s y => [(0, .slice a0 x0.length c0), (5, .pointer (some ⟨y10v.1, 0, none⟩)), (6, .pointer (some ⟨y13v.1, 0, none⟩))]) (fun s y => [obj y13v.1 63 [.map (some y.1), .map (some y.2.1)], obj y10v.1 63 [.map (some y.2.2.1), .map (some y.2.2.2)], mapO y.1 enc9 enc9 s.1, mapO y.2.1 enc3 enc42 s.2.1, mapO y.2.2.1 enc9 enc9 s.2.2.1, mapO y.2.2.2 enc3 enc42 s.2.2.2, F]) ?_ ?_
 refine sim_seq (sim_region ?_)
 refine simL_val (q_asg rfl rfl) rfl rfl rfl (simL_nil (nrm_then ?_))
 refine sim_block ?_
 refine sim_loop (S := Int × (List ((List UInt8) × (List UInt8))) × (List ((Int) × (Int × Int × Int × List UInt8))) × (List ((List UInt8) × (List UInt8))) × (List ((Int) × (Int × Int × Int × List UInt8)))) (Nat × Nat × Nat × Nat) (fun k s => synodlaw11_KvOnce.l0 x0 k s.1 s.2.1 s.2.2.1 s.2.2.2.1 s.2.2.2.2) (fun s y => [(0, .slice a0 x0.length c0), (5, .pointer (some ⟨y10v.1, 0, none⟩)), (6, .pointer (some ⟨y13v.1, 0, none⟩)), (7, .int .i64 s.1)]) (fun s y => [obj y13v.1 63 [.map (some y.1), .map (some y.2.1)], obj y10v.1 63 [.map (some y.2.2.1), .map (some y.2.2.2)], mapO y.1 enc9 enc9 s.2.1, mapO y.2.1 enc3 enc42 s.2.2.1, mapO y.2.2.1 enc9 enc9 s.2.2.2.1, mapO y.2.2.2 enc3 enc42 s.2.2.2.2, F]) (fun _ => by rw [synodlaw11_KvOnce.l0]) ?_ k (0, s12v.1, s12v.2, s9v.1, s9v.2) (y13v.2.1, y13v.2.2, y10v.2.1, y10v.2.2) ⟨rfl, rfl, rfl, rfl, trivial⟩ (.sel 0 rfl (.sel 2 rfl (.sel 0 rfl (.sel 0 rfl (.sel 0 rfl (.sel 0 rfl (.sel 0 rfl (.nil _))))))))
 intro k s17v y18v
 refine sim_eq (by rw [synodlaw11_KvOnce.l0]) ?_
 refine sim_seq (sim_seq (sim_region ?_))
 refine simL_val (q_move rfl rfl) rfl rfl rfl ?_
 refine simL_val (q_move rfl rfl) rfl rfl rfl ?_
 refine simL_val (q_len rfl rfl rfl Try.underlying22) rfl rfl rfl ?_
 refine simL_val (q_lss rfl rfl rfl) rfl rfl rfl (simL_nil (nrm_then ?_))
 refine sim_cond rfl (fun h24v => ?_) (fun h25v => ?_)
 refine sim_skip ?_
 refine nrm_then (sim_seq ?_)
 refine sim_block ?_
 refine sim_seq (sim_region ?_)
 refine simL_val (q_move rfl rfl) rfl rfl rfl ?_
 refine simL_val (q_move rfl rfl) rfl rfl rfl ?_
 refine simL_val (q_move rfl rfl) rfl rfl rfl ?_
 refine simL_ask (fun hi26v => ?_)
 obtain ⟨b27v, b27vo, r30v, ha28v, hV31v, hlr32v, hcell33v⟩ := RdV.pos h0 (Up.refl _) rfl (i := s17v.1.toNat) (by omega) dz33
 obtain rfl := hV31v
 refine simL_val (q_idx rfl rfl rfl ha28v Try.underlying22 Try.sizeOf33 hi26v.1 hi26v.2) rfl rfl rfl ?_
 refine simL_val (q_loads rfl rfl Try.isAgg33 Try.sizeOf33 rfl (fun j v hj => hcell33v 6 rfl j v hj)) rfl rfl rfl ?_
 refine simL_bind (fun s34v hs36v => ?_)
 refine simL_eff (re_call (vs := [.pointer (some ⟨y10v.1, 0, none⟩), .agg #[.int .i64 ((x0.getD s17v.1.toNat dz33).1), .int .i64 ((x0.getD s17v.1.toNat dz33).2.1), .int .i64 ((x0.getD s17v.1.toNat dz33).2.2.1), str ((x0.getD s17v.1.toNat dz33).2.2.2.1), str ((x0.getD s17v.1.toNat dz33).2.2.2.2.1), str ((x0.getD s17v.1.toNat dz33).2.2.2.2.2)]]) (cap := []) (A := [obj y10v.1 63 [.map (some y18v.2.2.1), .map (some y18v.2.2.2)], mapO y18v.2.2.1 enc9 enc9 s17v.2.2.2.1, mapO y18v.2.2.2 enc3 enc42 s17v.2.2.2.2]) (rst := [obj y13v.1 63 [.map (some y18v.1), .map (some y18v.2.1)], mapO y18v.1 enc9 enc9 s17v.2.1, mapO y18v.2.1 enc3 enc42 s17v.2.2.1, F]) rfl rfl rfl rfl rfl rfl Try.call12 (.sel 1 rfl (.sel 3 rfl (.sel 3 rfl (.sel 0 rfl (.sel 0 rfl (.sel 0 rfl (.sel 0 rfl (.nil _)))))))) (kv_Store_Do.calls _ _ y10v.1 y18v.2.2.1 s17v.2.2.2.1 y18v.2.2.2 s17v.2.2.2.2 ((x0.getD s17v.1.toNat dz33).1) ((x0.getD s17v.1.toNat dz33).2.1) ((x0.getD s17v.1.toNat dz33).2.2.1) ((x0.getD s17v.1.toNat dz33).2.2.2.1) ((x0.getD s17v.1.toNat dz33).2.2.2.2.1) ((x0.getD s17v.1.toNat dz33).2.2.2.2.2) ) hs36v) rfl rfl rfl ?_
 intro y35v
 refine simL_val (q_move rfl rfl) rfl rfl rfl ?_
 refine simL_val (q_ext rfl rfl rfl) rfl rfl rfl ?_
 refine simL_val (q_ext rfl rfl rfl) rfl rfl rfl ?_
 refine simL_eff (re_alloc rfl Try.zeroValue28 rfl) rfl rfl rfl ?_
 intro b37v
 refine simL_do (re_store 0 rfl rfl rfl Try.sizeOf28 rfl rfl (one_of (by rfl)) rfl rfl) rfl rfl ?_
 intro _
 refine simL_val (q_asg rfl rfl) rfl rfl rfl (simL_nil (nrm_then (sim_seq (sim_region ?_))))
 refine simL_val (q_move rfl rfl) rfl rfl rfl ?_
 refine simL_val (q_move rfl rfl) rfl rfl rfl ?_
 refine simL_val (q_move rfl rfl) rfl rfl rfl ?_
 refine simL_ask (fun hi38v => ?_)
 obtain ⟨b39v, b39vo, r42v, ha40v, hV43v, hlr44v, hcell45v⟩ := RdV.pos h0 (Up.refl _) rfl (i := s17v.1.toNat) (by omega) dz33
 obtain rfl := hV43v
 refine simL_val (q_idx rfl rfl rfl ha40v Try.underlying22 Try.sizeOf33 hi38v.1 hi38v.2) rfl rfl rfl ?_
 refine simL_val (q_loads rfl rfl Try.isAgg33 Try.sizeOf33 rfl (fun j v hj => hcell45v 7 rfl j v hj)) rfl rfl rfl ?_
 refine simL_bind (fun s46v hs48v => ?_)
 refine simL_eff (re_call (vs := [.pointer (some ⟨y13v.1, 0, none⟩), .agg #[.int .i64 ((x0.getD s17v.1.toNat dz33).1), .int .i64 ((x0.getD s17v.1.toNat dz33).2.1), .int .i64 ((x0.getD s17v.1.toNat dz33).2.2.1), str ((x0.getD s17v.1.toNat dz33).2.2.2.1), str ((x0.getD s17v.1.toNat dz33).2.2.2.2.1), str ((x0.getD s17v.1.toNat dz33).2.2.2.2.2)]]) (cap := []) (A := [obj y13v.1 63 [.map (some y18v.1), .map (some y18v.2.1)], mapO y18v.1 enc9 enc9 s17v.2.1, mapO y18v.2.1 enc3 enc42 s17v.2.2.1]) (rst := [obj b37v 28 [.int .i64 s34v.1, str s34v.2.1], obj y10v.1 63 [.map (some y35v.1), .map (some y35v.2)], mapO y35v.1 enc9 enc9 s34v.2.2.2.1, mapO y35v.2 enc3 enc42 s34v.2.2.2.2, F]) rfl rfl rfl rfl rfl rfl Try.call12 (.sel 4 rfl (.sel 4 rfl (.sel 4 rfl (.sel 0 rfl (.sel 0 rfl (.sel 0 rfl (.sel 0 rfl (.sel 0 rfl (.nil _))))))))) (kv_Store_Do.calls _ _ y13v.1 y18v.1 s17v.2.1 y18v.2.1 s17v.2.2.1 ((x0.getD s17v.1.toNat dz33).1) ((x0.getD s17v.1.toNat dz33).2.1) ((x0.getD s17v.1.toNat dz33).2.2.1) ((x0.getD s17v.1.toNat dz33).2.2.2.1) ((x0.getD s17v.1.toNat dz33).2.2.2.2.1) ((x0.getD s17v.1.toNat dz33).2.2.2.2.2) ) hs48v) rfl rfl rfl ?_
 intro y47v
 refine simL_val (q_move rfl rfl) rfl rfl rfl ?_
 refine simL_val (q_ext rfl rfl rfl) rfl rfl rfl ?_
 refine simL_val (q_ext rfl rfl rfl) rfl rfl rfl ?_
 refine simL_eff (re_alloc rfl Try.zeroValue28 rfl) rfl rfl rfl ?_
 intro b49v
 refine simL_do (re_store 0 rfl rfl rfl Try.sizeOf28 rfl rfl (one_of (by rfl)) rfl rfl) rfl rfl ?_
 intro _
 refine simL_val (q_asg rfl rfl) rfl rfl rfl (simL_nil (nrm_then (sim_seq (sim_region ?_))))
 refine simL_val (q_move rfl rfl) rfl rfl rfl ?_
 refine simL_val (q_move rfl rfl) rfl rfl rfl ?_
 refine simL_val (q_move rfl rfl) rfl rfl rfl ?_
 refine simL_ask (fun hi50v => ?_)
 obtain ⟨b51v, b51vo, r54v, ha52v, hV55v, hlr56v, hcell57v⟩ := RdV.pos h0 (Up.refl _) rfl (i := s17v.1.toNat) (by omega) dz33
 obtain rfl := hV55v
 refine simL_val (q_idx rfl rfl rfl ha52v Try.underlying22 Try.sizeOf33 hi50v.1 hi50v.2) rfl rfl rfl ?_
 refine simL_val (q_loads rfl rfl Try.isAgg33 Try.sizeOf33 rfl (fun j v hj => hcell57v 8 rfl j v hj)) rfl rfl rfl ?_
 refine simL_bind (fun s58v hs60v => ?_)
 refine simL_eff (re_call (vs := [.pointer (some ⟨y13v.1, 0, none⟩), .agg #[.int .i64 ((x0.getD s17v.1.toNat dz33).1), .int .i64 ((x0.getD s17v.1.toNat dz33).2.1), .int .i64 ((x0.getD s17v.1.toNat dz33).2.2.1), str ((x0.getD s17v.1.toNat dz33).2.2.2.1), str ((x0.getD s17v.1.toNat dz33).2.2.2.2.1), str ((x0.getD s17v.1.toNat dz33).2.2.2.2.2)]]) (cap := []) (A := [obj y13v.1 63 [.map (some y47v.1), .map (some y47v.2)], mapO y47v.1 enc9 enc9 s46v.2.2.2.1, mapO y47v.2 enc3 enc42 s46v.2.2.2.2]) (rst := [obj b49v 28 [.int .i64 s46v.1, str s46v.2.1], obj b37v 28 [.int .i64 s34v.1, str s34v.2.1], obj y10v.1 63 [.map (some y35v.1), .map (some y35v.2)], mapO y35v.1 enc9 enc9 s34v.2.2.2.1, mapO y35v.2 enc3 enc42 s34v.2.2.2.2, F]) rfl rfl rfl rfl rfl rfl Try.call12 (.sel 1 rfl (.sel 1 rfl (.sel 1 rfl (.sel 0 rfl (.sel 0 rfl (.sel 0 rfl (.sel 0 rfl (.sel 0 rfl (.sel 0 rfl (.nil _)))))))))) (kv_Store_Do.calls _ _ y13v.1 y47v.1 s46v.2.2.2.1 y47v.2 s46v.2.2.2.2 ((x0.getD s17v.1.toNat dz33).1) ((x0.getD s17v.1.toNat dz33).2.1) ((x0.getD s17v.1.toNat dz33).2.2.1) ((x0.getD s17v.1.toNat dz33).2.2.2.1) ((x0.getD s17v.1.toNat dz33).2.2.2.2.1) ((x0.getD s17v.1.toNat dz33).2.2.2.2.2) ) hs60v) rfl rfl rfl ?_
 intro y59v
 refine simL_val (q_move rfl rfl) rfl rfl rfl ?_
 refine simL_val (q_ext rfl rfl rfl) rfl rfl rfl ?_
 refine simL_val (q_ext rfl rfl rfl) rfl rfl rfl ?_
 refine simL_eff (re_alloc rfl Try.zeroValue28 rfl) rfl rfl rfl ?_
 intro b61v
 refine simL_do (re_store 0 rfl rfl rfl Try.sizeOf28 rfl rfl (one_of (by rfl)) rfl rfl) rfl rfl ?_
 intro _
 refine simL_val (q_asg rfl rfl) rfl rfl rfl (simL_nil (nrm_then (sim_seq (sim_region ?_))))
 refine simL_val (q_loado 5 rfl rfl Try.isAgg28 Try.sizeOf28 rfl rfl) rfl rfl rfl ?_
 refine simL_val (q_loado 4 rfl rfl Try.isAgg28 Try.sizeOf28 rfl rfl) rfl rfl rfl ?_
 refine simL_val (q_neagg rfl rfl rfl (by kernel_rfl) (fun d w => eqi_struct Try.underlying28 (by kernel_rfl) (eqf_cons (by rfl) (part_of Try.isAgg3 rfl) (part_of Try.isAgg3 rfl) (eqi_int Try.underlying3) (eqf_last (by rfl) (part_of Try.isAgg9 rfl) (part_of Try.isAgg9 rfl) (eqi_str Try.underlying9))))) rfl rfl rfl ?_
 refine simL_val (q_move rfl rfl) rfl rfl rfl ?_
 refine simL_valc (b := !(decide (s34v.1 = s46v.1) && (decide (s34v.2.1 = s46v.2.1)))) (fun hb86v => RQ.sub (E' := [(10, .pointer (some ⟨b49v, 0, none⟩))]) ⟨rfl, trivial⟩ (q_loado 4 rfl rfl Try.isAgg28 Try.sizeOf28 rfl rfl)) rfl rfl rfl rfl rfl ?_
 refine simL_valc (b := !(decide (s34v.1 = s46v.1) && (decide (s34v.2.1 = s46v.2.1)))) (fun hb85v => RQ.sub (E' := [(12, .pointer (some ⟨b61v, 0, none⟩))]) ⟨rfl, trivial⟩ (q_loado 0 rfl rfl Try.isAgg28 Try.sizeOf28 rfl rfl)) rfl rfl rfl rfl rfl ?_
 refine simL_valc (b := !(decide (s34v.1 = s46v.1) && (decide (s34v.2.1 = s46v.2.1)))) (fun hb84v => RQ.sub (E' := [(75, .agg #[.int .i64 s46v.1, str s46v.2.1]), (76, .agg #[.int .i64 s58v.1, str s58v.2.1])]) ⟨lk_cv rfl hb84v, lk_cv rfl hb84v, trivial⟩ (q_neagg rfl rfl rfl (by kernel_rfl) (fun d w => eqi_struct Try.underlying28 (by kernel_rfl) (eqf_cons (by rfl) (part_of Try.isAgg3 rfl) (part_of Try.isAgg3 rfl) (eqi_int Try.underlying3) (eqf_last (by rfl) (part_of Try.isAgg9 rfl) (part_of Try.isAgg9 rfl) (eqi_str Try.underlying9)))))) rfl rfl rfl rfl rfl ?_
 refine simL_val (q_or rfl rfl rfl) rfl rfl rfl ?_
 refine simL_val (q_move rfl rfl) rfl rfl rfl ?_
 refine simL_cut' 6 (S := Bool) (Unit) (fun s y => [(0, .slice a0 x0.length c0), (5, .pointer (some ⟨y10v.1, 0, none⟩)), (6, .pointer (some ⟨y13v.1, 0, none⟩)), (7, .int .i64 s17v.1), (11, .int .i64 s46v.2.2.1), (13, .int .i64 s58v.2.2.1), (85, .bool s)]) (fun s y => [obj y13v.1 63 [.map (some y59v.1), .map (some y59v.2)], obj y10v.1 63 [.map (some y35v.1), .map (some y35v.2)], mapO y59v.1 enc9 enc9 s58v.2.2.2.1, mapO y59v.2 enc3 enc42 s58v.2.2.2.2, mapO y35v.1 enc9 enc9 s34v.2.2.2.1, mapO y35v.2 enc3 enc42 s34v.2.2.2.2, F]) ?_ ?_
 refine simL_caseb (fun hb70v => ?_) (fun hb71v => ?_)
 rw [hb70v]
 refine simL_skipd rfl rfl rfl rfl rfl rfl ?_
 refine simL_skipd rfl rfl rfl rfl rfl rfl ?_
 refine simL_skipd rfl rfl rfl rfl rfl rfl ?_
 refine simL_skipd rfl rfl rfl rfl rfl rfl ?_
 refine simL_skipd rfl rfl rfl rfl rfl rfl ?_
 refine simL_val (q_pick rfl rfl rfl rfl rfl) rfl rfl rfl (simL_nil ?_)
 exact nrm_cut (s := true) () ⟨rfl, rfl, rfl, rfl, rfl, rfl, rfl, trivial⟩ (.sel 1 rfl (.sel 5 rfl (.sel 1 rfl (.sel 1 rfl (.sel 3 rfl (.sel 3 rfl (.sel 3 rfl (.nil _))))))))
 rw [hb71v]
 refine simL_valg (q_move rfl rfl) rfl rfl rfl rfl rfl rfl ?_
 refine simL_bind (fun s64v hs66v => ?_)
 refine simL_effg (re_call (vs := [.int .i64 s34v.2.2.1]) (cap := []) (A := []) (rst := [obj b61v 28 [.int .i64 s58v.1, str s58v.2.1], obj y13v.1 63 [.map (some y59v.1), .map (some y59v.2)], mapO y59v.1 enc9 enc9 s58v.2.2.2.1, mapO y59v.2 enc3 enc42 s58v.2.2.2.2, obj b49v 28 [.int .i64 s46v.1, str s46v.2.1], obj b37v 28 [.int .i64 s34v.1, str s34v.2.1], obj y10v.1 63 [.map (some y35v.1), .map (some y35v.2)], mapO y35v.1 enc9 enc9 s34v.2.2.2.1, mapO y35v.2 enc3 enc42 s34v.2.2.2.2, F]) rfl rfl rfl rfl rfl rfl Try.call13 (.sel 0 rfl (.sel 0 rfl (.sel 0 rfl (.sel 0 rfl (.sel 0 rfl (.sel 0 rfl (.sel 0 rfl (.sel 0 rfl (.sel 0 rfl (.sel 0 rfl (.nil _))))))))))) (synodref_Num.calls _ _ s34v.2.2.1 ) hs66v) rfl rfl rfl rfl rfl rfl ?_
 intro y65v
 refine simL_valg (q_move rfl rfl) rfl rfl rfl rfl rfl rfl ?_
 refine simL_bind (fun s67v hs69v => ?_)
 refine simL_effg (re_call (vs := [.int .i64 s46v.2.2.1]) (cap := []) (A := []) (rst := [obj b61v 28 [.int .i64 s58v.1, str s58v.2.1], obj y13v.1 63 [.map (some y59v.1), .map (some y59v.2)], mapO y59v.1 enc9 enc9 s58v.2.2.2.1, mapO y59v.2 enc3 enc42 s58v.2.2.2.2, obj b49v 28 [.int .i64 s46v.1, str s46v.2.1], obj b37v 28 [.int .i64 s34v.1, str s34v.2.1], obj y10v.1 63 [.map (some y35v.1), .map (some y35v.2)], mapO y35v.1 enc9 enc9 s34v.2.2.2.1, mapO y35v.2 enc3 enc42 s34v.2.2.2.2, F]) rfl rfl rfl rfl rfl rfl Try.call13 (.sel 0 rfl (.sel 0 rfl (.sel 0 rfl (.sel 0 rfl (.sel 0 rfl (.sel 0 rfl (.sel 0 rfl (.sel 0 rfl (.sel 0 rfl (.sel 0 rfl (.nil _))))))))))) (synodref_Num.calls _ _ s46v.2.2.1 ) hs69v) rfl rfl rfl rfl rfl rfl ?_
 intro y68v
 refine simL_valg (q_neq rfl rfl rfl) rfl rfl rfl rfl rfl rfl ?_
 refine simL_val (q_pick rfl rfl rfl rfl rfl) rfl rfl rfl (simL_nil ?_)
 exact nrm_cut (s := !decide (s64v = s67v)) () ⟨rfl, rfl, rfl, rfl, rfl, rfl, rfl, trivial⟩ (.sel 1 rfl (.sel 5 rfl (.sel 1 rfl (.sel 1 rfl (.sel 3 rfl (.sel 3 rfl (.sel 3 rfl (.nil _))))))))
 intro s62v y63v
 refine simL_val (q_move rfl rfl) rfl rfl rfl ?_
 refine simL_cut' 6 (S := Bool) (Unit) (fun s y => [(0, .slice a0 x0.length c0), (5, .pointer (some ⟨y10v.1, 0, none⟩)), (6, .pointer (some ⟨y13v.1, 0, none⟩)), (7, .int .i64 s17v.1), (92, .bool s)]) (fun s y => [obj y13v.1 63 [.map (some y59v.1), .map (some y59v.2)], obj y10v.1 63 [.map (some y35v.1), .map (some y35v.2)], mapO y59v.1 enc9 enc9 s58v.2.2.2.1, mapO y59v.2 enc3 enc42 s58v.2.2.2.2, mapO y35v.1 enc9 enc9 s34v.2.2.2.1, mapO y35v.2 enc3 enc42 s34v.2.2.2.2, F]) ?_ ?_
 refine simL_caseb (fun hb80v => ?_) (fun hb81v => ?_)
 rw [hb80v]
 refine simL_skipd rfl rfl rfl rfl rfl rfl ?_
 refine simL_skipd rfl rfl rfl rfl rfl rfl ?_
 refine simL_skipd rfl rfl rfl rfl rfl rfl ?_
 refine simL_skipd rfl rfl rfl rfl rfl rfl ?_
 refine simL_skipd rfl rfl rfl rfl rfl rfl ?_
 refine simL_val (q_pick rfl rfl rfl rfl rfl) rfl rfl rfl (simL_nil ?_)
 exact nrm_cut (s := true) () ⟨rfl, rfl, rfl, rfl, rfl, trivial⟩ (.sel 0 rfl (.sel 0 rfl (.sel 0 rfl (.sel 0 rfl (.sel 0 rfl (.sel 0 rfl (.sel 0 rfl (.nil _))))))))
 rw [hb81v]
 refine simL_valg (q_move rfl rfl) rfl rfl rfl rfl rfl rfl ?_
 refine simL_bind (fun s74v hs76v => ?_)
 refine simL_effg (re_call (vs := [.int .i64 s46v.2.2.1]) (cap := []) (A := []) (rst := [obj y13v.1 63 [.map (some y59v.1), .map (some y59v.2)], obj y10v.1 63 [.map (some y35v.1), .map (some y35v.2)], mapO y59v.1 enc9 enc9 s58v.2.2.2.1, mapO y59v.2 enc3 enc42 s58v.2.2.2.2, mapO y35v.1 enc9 enc9 s34v.2.2.2.1, mapO y35v.2 enc3 enc42 s34v.2.2.2.2, F]) rfl rfl rfl rfl rfl rfl Try.call13 (.sel 0 rfl (.sel 0 rfl (.sel 0 rfl (.sel 0 rfl (.sel 0 rfl (.sel 0 rfl (.sel 0 rfl (.nil _)))))))) (synodref_Num.calls _ _ s46v.2.2.1 ) hs76v) rfl rfl rfl rfl rfl rfl ?_
 intro y75v
 refine simL_valg (q_move rfl rfl) rfl rfl rfl rfl rfl rfl ?_
 refine simL_bind (fun s77v hs79v => ?_)
 refine simL_effg (re_call (vs := [.int .i64 s58v.2.2.1]) (cap := []) (A := []) (rst := [obj y13v.1 63 [.map (some y59v.1), .map (some y59v.2)], obj y10v.1 63 [.map (some y35v.1), .map (some y35v.2)], mapO y59v.1 enc9 enc9 s58v.2.2.2.1, mapO y59v.2 enc3 enc42 s58v.2.2.2.2, mapO y35v.1 enc9 enc9 s34v.2.2.2.1, mapO y35v.2 enc3 enc42 s34v.2.2.2.2, F]) rfl rfl rfl rfl rfl rfl Try.call13 (.sel 0 rfl (.sel 0 rfl (.sel 0 rfl (.sel 0 rfl (.sel 0 rfl (.sel 0 rfl (.sel 0 rfl (.nil _)))))))) (synodref_Num.calls _ _ s58v.2.2.1 ) hs79v) rfl rfl rfl rfl rfl rfl ?_
 intro y78v
 refine simL_valg (q_neq rfl rfl rfl) rfl rfl rfl rfl rfl rfl ?_
 refine simL_val (q_pick rfl rfl rfl rfl rfl) rfl rfl rfl (simL_nil ?_)
 exact nrm_cut (s := !decide (s74v = s77v)) () ⟨rfl, rfl, rfl, rfl, rfl, trivial⟩ (.sel 0 rfl (.sel 0 rfl (.sel 0 rfl (.sel 0 rfl (.sel 0 rfl (.sel 0 rfl (.sel 0 rfl (.nil _))))))))
 intro s72v y73v
 refine simL_nil (nrm_then ?_)
 refine sim_condb rfl (fun h82v => ?_) (fun h83v => ?_)
 refine sim_seq (sim_region ?_)
 refine simL_val (q_asg rfl rfl) rfl rfl rfl (simL_nil (nrm_then (sim_rtn ?_)))
 refine rtn_block ?_
 refine rtn_then ?_
 refine rtn_loop ?_
 refine rtn_block ?_
 refine rtn_cutR ?_
 exact rtn_fn () rfl rfl rfl (.sel 6 rfl (.nil _))
 refine sim_skip ?_
 refine nrm_block (nrm_then (sim_region ?_))
 refine simL_val (q_move rfl rfl) rfl rfl rfl ?_
 refine simL_val (q_add rfl rfl rfl) rfl rfl rfl ?_
 refine simL_val (q_asg rfl rfl) rfl rfl rfl (simL_nil ?_)
 exact nrm_again (s := (IntKind.i64.wrap (s17v.1 + 1), s58v.2.2.2.1, s58v.2.2.2.2, s34v.2.2.2.1, s34v.2.2.2.2)) (y59v.1, y59v.2, y35v.1, y35v.2) ⟨rfl, rfl, rfl, rfl, trivial⟩ (.sel 0 rfl (.sel 0 rfl (.sel 0 rfl (.sel 0 rfl (.sel 0 rfl (.sel 0 rfl (.sel 0 rfl (.nil _))))))))
 refine sim_exi ?_
 refine exi_then ?_
 refine exi_loop ?_
 refine exi_here ?_
 exact nrm_cutR (s := (s17v.2.1, s17v.2.2.1, s17v.2.2.2.1, s17v.2.2.2.2)) (y18v.1, y18v.2.1, y18v.2.2.1, y18v.2.2.2) ⟨rfl, rfl, rfl, trivial⟩ (.sel 0 rfl (.sel 0 rfl (.sel 0 rfl (.sel 0 rfl (.sel 0 rfl (.sel 0 rfl (.sel 0 rfl (.nil _))))))))
 intro s15v y16v
 refine sim_seq (sim_region ?_)
 refine simL_val (q_move rfl rfl) rfl rfl rfl ?_
 refine simL_bind (fun s87v hs89v => ?_)
 refine simL_eff (re_call (vs := [.pointer (some ⟨y10v.1, 0, none⟩)]) (cap := []) (A := [obj y10v.1 63 [.map (some y16v.2.2.1), .map (some y16v.2.2.2)], mapO y16v.2.2.1 enc9 enc9 s15v.2.2.1, mapO y16v.2.2.2 enc3 enc42 s15v.2.2.2]) (rst := [obj y13v.1 63 [.map (some y16v.1), .map (some y16v.2.1)], mapO y16v.1 enc9 enc9 s15v.1, mapO y16v.2.1 enc3 enc42 s15v.2.1, F]) rfl rfl rfl rfl rfl rfl Try.call14 (.sel 1 rfl (.sel 3 rfl (.sel 3 rfl (.sel 0 rfl (.sel 0 rfl (.sel 0 rfl (.sel 0 rfl (.nil _)))))))) (kv_Store_Snapshot.calls _ _ k y10v.1 y16v.2.2.1 s15v.2.2.1 y16v.2.2.2 s15v.2.2.2 ) hs89v) rfl rfl rfl ?_
 intro y88v
 refine simL_val (q_asg rfl rfl) rfl rfl rfl (simL_nil (nrm_then (sim_seq (sim_region ?_))))
 refine simL_val (q_move rfl rfl) rfl rfl rfl ?_
 refine simL_val (q_move rfl rfl) rfl rfl rfl ?_
 refine simL_bind (fun s90v hs92v => ?_)
 refine simL_eff (re_call (vs := [.pointer (some ⟨y13v.1, 0, none⟩)]) (cap := []) (A := [obj y13v.1 63 [.map (some y16v.1), .map (some y16v.2.1)], mapO y16v.1 enc9 enc9 s15v.1, mapO y16v.2.1 enc3 enc42 s15v.2.1]) (rst := [Row 5 1 y88v.1 s87v.length y88v.2 (encB s87v), obj y10v.1 63 [.map (some y16v.2.2.1), .map (some y16v.2.2.2)], mapO y16v.2.2.1 enc9 enc9 s15v.2.2.1, mapO y16v.2.2.2 enc3 enc42 s15v.2.2.2, F]) rfl rfl rfl rfl rfl rfl Try.call14 (.sel 4 rfl (.sel 4 rfl (.sel 4 rfl (.sel 0 rfl (.sel 0 rfl (.sel 0 rfl (.sel 0 rfl (.sel 0 rfl (.nil _))))))))) (kv_Store_Snapshot.calls _ _ k y13v.1 y16v.1 s15v.1 y16v.2.1 s15v.2.1 ) hs92v) rfl rfl rfl ?_
 intro y91v
 refine simL_bind (fun s101v hs103v => ?_)
 refine simL_lend 4 rfl (fun hq93v hq94v hq95v hq96v => ?_)
 refine simL_lend 0 rfl (fun hq97v hq98v hq99v hq100v => ?_)
 refine simL_eff (re_call (vs := [.slice y88v.1 s87v.length y88v.2, .slice y91v.1 s90v.length y91v.2]) (cap := []) (A := []) (rst := [Row 5 1 y91v.1 s90v.length y91v.2 (encB s90v), obj y13v.1 63 [.map (some y16v.1), .map (some y16v.2.1)], mapO y16v.1 enc9 enc9 s15v.1, mapO y16v.2.1 enc3 enc42 s15v.2.1, Row 5 1 y88v.1 s87v.length y88v.2 (encB s87v), obj y10v.1 63 [.map (some y16v.2.2.1), .map (some y16v.2.2.2)], mapO y16v.2.2.1 enc9 enc9 s15v.2.2.1, mapO y16v.2.2.2 enc3 enc42 s15v.2.2.2, F]) rfl rfl rfl rfl rfl rfl Try.call15 (.sel 0 rfl (.sel 0 rfl (.sel 0 rfl (.sel 0 rfl (.sel 0 rfl (.sel 0 rfl (.sel 0 rfl (.sel 0 rfl (.sel 0 rfl (.nil _)))))))))) (synodref_SameBytes.calls _ _ k y88v.1 y88v.2 s87v y91v.1 y91v.2 s90v (hq93v.lend 4 rfl) hq94v hq95v (hq97v.lend 0 rfl) hq98v hq99v) hs103v) rfl rfl rfl ?_
 intro y102v
 refine simL_val (q_asg rfl rfl) rfl rfl rfl (simL_nil (nrm_then ?_))
 refine sim_cutR (S := (List ((List UInt8) × (List UInt8))) × (List ((Int) × (Int × Int × Int × List UInt8)))) (Nat × Nat) (fun s y => [(5, .pointer (some ⟨y10v.1, 0, none⟩)), (14, .slice y88v.1 s87v.length y88v.2), (15, .bool s101v)]) (fun s y => [obj y10v.1 63 [.map (some y.1), .map (some y.2)], Row 5 1 y88v.1 s87v.length y88v.2 (encB s87v), mapO y.1 enc9 enc9 s.1, mapO y.2 enc3 enc42 s.2, F]) ?_ ?_
 refine sim_seq (sim_region ?_)
 refine simL_val (q_asg rfl rfl) rfl rfl rfl (simL_nil (nrm_then ?_))
 refine sim_block ?_
 refine sim_loop (S := Int × (List ((List UInt8) × (List UInt8))) × (List ((Int) × (Int × Int × Int × List UInt8)))) (Nat × Nat) (fun k s => synodlaw11_KvOnce.l1 x0 k s.1 s.2.1 s.2.2) (fun s y => [(0, .slice a0 x0.length c0), (5, .pointer (some ⟨y10v.1, 0, none⟩)), (14, .slice y88v.1 s87v.length y88v.2), (15, .bool s101v), (16, .int .i64 s.1)]) (fun s y => [obj y10v.1 63 [.map (some y.1), .map (some y.2)], Row 5 1 y88v.1 s87v.length y88v.2 (encB s87v), mapO y.1 enc9 enc9 s.2.1, mapO y.2 enc3 enc42 s.2.2, F]) (fun _ => by rw [synodlaw11_KvOnce.l1]) ?_ k (0, s15v.2.2.1, s15v.2.2.2) (y16v.2.2.1, y16v.2.2.2) ⟨rfl, rfl, rfl, rfl, rfl, trivial⟩ (.sel 5 rfl (.sel 4 rfl (.sel 4 rfl (.sel 4 rfl (.sel 4 rfl (.nil _))))))
 intro k s106v y107v
 refine sim_eq (by rw [synodlaw11_KvOnce.l1]) ?_
 refine sim_seq (sim_seq (sim_region ?_))
 refine simL_val (q_move rfl rfl) rfl rfl rfl ?_
 refine simL_val (q_move rfl rfl) rfl rfl rfl ?_
 refine simL_val (q_len rfl rfl rfl Try.underlying22) rfl rfl rfl ?_
 refine simL_val (q_lss rfl rfl rfl) rfl rfl rfl (simL_nil (nrm_then ?_))
 refine sim_cond rfl (fun h111v => ?_) (fun h112v => ?_)
 refine sim_skip ?_
 refine nrm_then ?_
 refine sim_cutR (S := (List ((List UInt8) × (List UInt8))) × (List ((Int) × (Int × Int × Int × List UInt8)))) (Nat × Nat) (fun s y => [(0, .slice a0 x0.length c0), (5, .pointer (some ⟨y10v.1, 0, none⟩)), (14, .slice y88v.1 s87v.length y88v.2), (15, .bool s101v), (16, .int .i64 s106v.1)]) (fun s y => [obj y10v.1 63 [.map (some y.1), .map (some y.2)], Row 5 1 y88v.1 s87v.length y88v.2 (encB s87v), mapO y.1 enc9 enc9 s.1, mapO y.2 enc3 enc42 s.2, F]) ?_ ?_
 refine sim_block ?_
 refine sim_seq (sim_region ?_)
 refine simL_val (q_asg rfl rfl) rfl rfl rfl (simL_nil (nrm_then ?_))
 refine sim_cut (S := Bool) (Unit) (fun s y => [(0, .slice a0 x0.length c0), (5, .pointer (some ⟨y10v.1, 0, none⟩)), (14, .slice y88v.1 s87v.length y88v.2), (15, .bool s101v), (16, .int .i64 s106v.1), (17, .bool s)]) (fun s y => [obj y10v.1 63 [.map (some y107v.1), .map (some y107v.2)], Row 5 1 y88v.1 s87v.length y88v.2 (encB s87v), mapO y107v.1 enc9 enc9 s106v.2.1, mapO y107v.2 enc3 enc42 s106v.2.2, F]) ?_ ?_
 refine sim_seq (sim_region ?_)
 refine simL_val (q_move rfl rfl) rfl rfl rfl ?_
 refine simL_val (q_add rfl rfl rfl) rfl rfl rfl ?_
 refine simL_val (q_asg rfl rfl) rfl rfl rfl (simL_nil (nrm_then ?_))
 refine sim_block ?_
 refine sim_loop (S := Bool × Int) (Unit) (fun k s => synodlaw11_KvOnce.l2 x0 s106v k s.1 s.2) (fun s y => [(0, .slice a0 x0.length c0), (5, .pointer (some ⟨y10v.1, 0, none⟩)), (14, .slice y88v.1 s87v.length y88v.2), (15, .bool s101v), (16, .int .i64 s106v.1), (17, .bool s.1), (18, .int .i64 s.2)]) (fun s y => [obj y10v.1 63 [.map (some y107v.1), .map (some y107v.2)], Row 5 1 y88v.1 s87v.length y88v.2 (encB s87v), mapO y107v.1 enc9 enc9 s106v.2.1, mapO y107v.2 enc3 enc42 s106v.2.2, F]) (fun _ => by rw [synodlaw11_KvOnce.l2]) ?_ k (true, IntKind.i64.wrap (s106v.1 + 1)) () ⟨rfl, rfl, rfl, rfl, rfl, rfl, rfl, trivial⟩ (.sel 0 rfl (.sel 0 rfl (.sel 0 rfl (.sel 0 rfl (.sel 0 rfl (.nil _))))))
 intro k s117v y118v
 refine sim_eq (by rw [synodlaw11_KvOnce.l2]) ?_
 refine sim_seq (sim_seq (sim_region ?_))
 refine simL_val (q_move rfl rfl) rfl rfl rfl ?_
 refine simL_val (q_move rfl rfl) rfl rfl rfl ?_
 refine simL_val (q_len rfl rfl rfl Try.underlying22) rfl rfl rfl ?_
 refine simL_val (q_lss rfl rfl rfl) rfl rfl rfl (simL_nil (nrm_then ?_))
 refine sim_cond rfl (fun h121v => ?_) (fun h122v => ?_)
 refine sim_skip ?_
 refine nrm_then (sim_seq ?_)
 refine sim_block ?_
 refine sim_if (fun hk123v => ?_) (fun hk123v => ?_)
 refine sim_ask (fun hi124v => ?_)
 obtain ⟨b125v, b125vo, r128v, ha126v, hV129v, hlr130v, hcell131v⟩ := RdV.pos h0 (Up.refl _) rfl (i := s117v.2.toNat) (by omega) dz33
 obtain rfl := hV129v
 refine sim_ask (fun hi132v => ?_)
 obtain ⟨b133v, b133vo, r136v, ha134v, hV137v, hlr138v, hcell139v⟩ := RdV.pos h0 (Up.refl _) rfl (i := s106v.1.toNat) (by omega) dz33
 obtain rfl := hV137v
 refine sim_if (fun hk140v => ?_) (fun hk140v => ?_)
 refine sim_ask (fun hi142v => ?_)
 obtain ⟨b143v, b143vo, r146v, ha144v, hV147v, hlr148v, hcell149v⟩ := RdV.pos h0 (Up.refl _) rfl (i := s117v.2.toNat) (by omega) dz33
 obtain rfl := hV147v
 refine sim_ask (fun hi150v => ?_)
 obtain ⟨b151v, b151vo, r154v, ha152v, hV155v, hlr156v, hcell157v⟩ := RdV.pos h0 (Up.refl _) rfl (i := s106v.1.toNat) (by omega) dz33
 obtain rfl := hV155v
 refine sim_draw (Γ := Unit) () [[], [0], [0, 1], [0, 1], [0, 1, 2, 3], [0, 1, 2, 3, 4], [0, 1, 2, 3, 4, 5], [0, 1], [0, 1], [0, 1, 7, 8], [0, 1, 7, 8, 9], [0, 1, 7, 8, 9, 10], [0, 1, 2, 3, 4, 5, 6, 7, 8, 9, 10, 11], [0, 1, 2, 3, 4, 5, 6, 7, 8, 9, 10, 11, 12], [0, 1, 2, 3, 4, 5, 6, 7, 8, 9, 10, 11, 12, 13], [0, 1, 2, 3, 4, 5, 6, 7, 8, 9, 10, 11, 12, 13], [0, 1, 2, 3, 4, 5, 6, 7, 8, 9, 10, 11, 12, 13, 14, 15], [0, 1, 2, 3, 4, 5, 6, 7, 8, 9, 10, 11, 12, 13, 14, 15, 16], [0, 1, 2, 3, 4, 5, 6, 7, 8, 9, 10, 11, 12, 13, 14, 15, 16, 17], [0, 1, 2, 3, 4, 5, 6, 7, 8, 9, 10, 11, 12, 13], [0, 1, 2, 3, 4, 5, 6, 7, 8, 9, 10, 11, 12, 13], [0, 1, 2, 3, 4, 5, 6, 7, 8, 9, 10, 11, 12, 13, 19, 20], [0, 1, 2, 3, 4, 5, 6, 7, 8, 9, 10, 11, 12, 13, 19, 20, 21], [0, 1, 2, 3, 4, 5, 6, 7, 8, 9, 10, 11, 12, 13, 19, 20, 21, 22], [0, 1, 2, 3, 4, 5, 6, 7, 8, 9, 10, 11, 12, 13, 14, 15, 16, 17, 18, 19, 20, 21, 22, 23], [0, 1, 2, 3, 4, 5, 6, 7, 8, 9, 10, 11, 12, 13, 14, 15, 16, 17, 18, 19, 20, 21, 22, 23, 24], [0, 1, 2, 3, 4, 5, 6, 7, 8, 9, 10, 11, 12, 13, 14, 15, 16, 17, 18, 19, 20, 21, 22, 23, 24, 25], [0, 1, 2, 3, 4, 5, 6, 7, 8, 9, 10, 11, 12, 13, 14, 15, 16, 17, 18, 19, 20, 21, 22, 23, 24, 25, 26]] [] [0, 1, 2, 3, 4, 5, 6, 7, 8, 9, 10, 11, 12, 13, 14, 15, 16, 17, 18, 19, 20, 21, 22, 23, 24, 25, 26, 27] (fun i => [[0], [0], [0], [0], [0], [0], [0], [0], [0], [0], [0], [0], [0], [0], [0], [0], [0], [0], [0], [0], [0], [0], [0], [0], [0], [0], [0], [0]].getD i []) (fun i => [[], [], [], [], [], [], [], [], [], [], [], [], [], [], [], [], [], [], [], [], [], [], [], [], [], [], [], []].getD i []) (fun γ i => [.bool s117v.1, .bool s117v.1, .slice a0 x0.length c0, .int .i64 s117v.2, .pointer (some ⟨b125v, b125vo + s117v.2.toNat * 6, none⟩), .pointer (some ⟨b125v, b125vo + s117v.2.toNat * 6 + 1, none⟩), .int .i64 ((x0.getD s117v.2.toNat dz33).2.1), .slice a0 x0.length c0, .int .i64 s106v.1, .pointer (some ⟨b133v, b133vo + s106v.1.toNat * 6, none⟩), .pointer (some ⟨b133v, b133vo + s106v.1.toNat * 6 + 1, none⟩), .int .i64 ((x0.getD s106v.1.toNat dz33).2.1), .bool (!decide ((x0.getD s117v.2.toNat dz33).2.1 = (x0.getD s106v.1.toNat dz33).2.1)), .bool (!decide ((x0.getD s117v.2.toNat dz33).2.1 = (x0.getD s106v.1.toNat dz33).2.1)), .slice a0 x0.length c0, .int .i64 s117v.2, .pointer (some ⟨b143v, b143vo + s117v.2.toNat * 6, none⟩), .pointer (some ⟨b143v, b143vo + s117v.2.toNat * 6 + 2, none⟩), .int .i64 ((x0.getD s117v.2.toNat dz33).2.2.1), .slice a0 x0.length c0, .int .i64 s106v.1, .pointer (some ⟨b151v, b151vo + s106v.1.toNat * 6, none⟩), .pointer (some ⟨b151v, b151vo + s106v.1.toNat * 6 + 2, none⟩), .int .i64 ((x0.getD s106v.1.toNat dz33).2.2.1), .bool (decide ((x0.getD s117v.2.toNat dz33).2.2.1 ≤ (x0.getD s106v.1.toNat dz33).2.2.1)), .bool (decide ((x0.getD s117v.2.toNat dz33).2.2.1 ≤ (x0.getD s106v.1.toNat dz33).2.2.1)), .bool (decide ((x0.getD s117v.2.toNat dz33).2.2.1 ≤ (x0.getD s106v.1.toNat dz33).2.2.1)), .bool (decide ((x0.getD s117v.2.toNat dz33).2.2.1 ≤ (x0.getD s106v.1.toNat dz33).2.2.1))].getD i undef) (fun j γ => [[obj y10v.1 63 [.map (some y107v.1), .map (some y107v.2)], Row 5 1 y88v.1 s87v.length y88v.2 (encB s87v), mapO y107v.1 enc9 enc9 s106v.2.1, mapO y107v.2 enc3 enc42 s106v.2.2, F]].getD j []) (fun γ => [(0, .slice a0 x0.length c0), (5, .pointer (some ⟨y10v.1, 0, none⟩)), (14, .slice y88v.1 s87v.length y88v.2), (15, .bool s101v), (16, .int .i64 s106v.1), (17, .bool (decide ((x0.getD s117v.2.toNat dz33).2.2.1 ≤ (x0.getD s106v.1.toNat dz33).2.2.1))), (18, .int .i64 s117v.2), (115, .slice a0 x0.length c0), (116, .int .i64 s117v.2), (117, .pointer (some ⟨b125v, b125vo + s117v.2.toNat * 6, none⟩)), (118, .pointer (some ⟨b125v, b125vo + s117v.2.toNat * 6 + 1, none⟩)), (119, .int .i64 ((x0.getD s117v.2.toNat dz33).2.1)), (120, .slice a0 x0.length c0), (121, .int .i64 s106v.1), (122, .pointer (some ⟨b133v, b133vo + s106v.1.toNat * 6, none⟩)), (123, .pointer (some ⟨b133v, b133vo + s106v.1.toNat * 6 + 1, none⟩)), (124, .int .i64 ((x0.getD s106v.1.toNat dz33).2.1)), (125, .bool (!decide ((x0.getD s117v.2.toNat dz33).2.1 = (x0.getD s106v.1.toNat dz33).2.1))), (126, .bool (!decide ((x0.getD s117v.2.toNat dz33).2.1 = (x0.getD s106v.1.toNat dz33).2.1))), (127, .slice a0 x0.length c0), (128, .int .i64 s117v.2), (129, .pointer (some ⟨b143v, b143vo + s117v.2.toNat * 6, none⟩)), (130, .pointer (some ⟨b143v, b143vo + s117v.2.toNat * 6 + 2, none⟩)), (131, .int .i64 ((x0.getD s117v.2.toNat dz33).2.2.1)), (132, .slice a0 x0.length c0), (133, .int .i64 s106v.1), (134, .pointer (some ⟨b151v, b151vo + s106v.1.toNat * 6, none⟩)), (135, .pointer (some ⟨b151v, b151vo + s106v.1.toNat * 6 + 2, none⟩)), (136, .int .i64 ((x0.getD s106v.1.toNat dz33).2.2.1)), (137, .bool (decide ((x0.getD s117v.2.toNat dz33).2.2.1 ≤ (x0.getD s106v.1.toNat dz33).2.2.1))), (138, .bool (decide ((x0.getD s117v.2.toNat dz33).2.2.1 ≤ (x0.getD s106v.1.toNat dz33).2.2.1)))]) mixed (by decide) (by decide) (by decide) (by decide) (by decide) (by decide) (by decide) 179 rfl (by decide) (by decide) (by decide) (Ent.refl _) ?_ ?_ (fun _ => ⟨rfl, rfl, rfl, rfl, rfl, rfl, rfl, rfl, rfl, rfl, rfl, rfl, rfl, rfl, rfl, rfl, rfl, rfl, rfl, rfl, rfl, rfl, rfl, rfl, rfl, rfl, rfl, rfl, rfl, rfl, rfl, trivial⟩) ?_
 exact (All.cons (fun γ => (All.cons (QOb.plain [(17, .bool s117v.1)] rfl rfl (.o rfl (by decide) .nil) (q_move rfl rfl) rfl) All.nil)) (All.cons (fun γ => (All.cons (QOb.plain [(113, .bool s117v.1)] rfl rfl (.w 0 rfl rfl rfl .nil) (q_move rfl rfl) rfl) All.nil)) (All.cons (fun γ => (All.cons (QOb.yes (b := s117v.1) [(0, .slice a0 x0.length c0), (114, .bool s117v.1)] rfl rfl rfl rfl (beq_yes hk123v) (.o rfl (by decide) (.w 1 rfl rfl rfl .nil)) (q_move rfl rfl) rfl) All.nil)) (All.cons (fun γ => (All.cons (QOb.yes (b := s117v.1) [(18, .int .i64 s117v.2), (114, .bool s117v.1)] rfl rfl rfl rfl (beq_yes hk123v) (.o rfl (by decide) (.w 1 rfl rfl rfl .nil)) (q_move rfl rfl) rfl) All.nil)) (All.cons (fun γ => (All.cons (QOb.yes (b := s117v.1) [(114, .bool s117v.1), (115, .slice a0 x0.length c0), (116, .int .i64 s117v.2)] rfl rfl rfl rfl (beq_yes hk123v) (.w 1 rfl rfl rfl (.w 2 rfl rfl rfl (.w 3 rfl rfl rfl .nil))) (q_idx rfl rfl rfl ha126v Try.underlying22 Try.sizeOf33 hi124v.1 hi124v.2) rfl) All.nil)) (All.cons (fun γ => (All.cons (QOb.yes (b := s117v.1) [(114, .bool s117v.1), (117, .pointer (some ⟨b125v, b125vo + s117v.2.toNat * 6, none⟩))] rfl rfl rfl rfl (beq_yes hk123v) (.w 1 rfl rfl rfl (.w 4 rfl rfl rfl .nil)) (q_fa rfl rfl Try.underlying33 rfl rfl Try.sizeOf3 rfl) rfl) All.nil)) (All.cons (fun γ => (All.cons (QOb.yes (b := s117v.1) [(114, .bool s117v.1), (118, .pointer (some ⟨b125v, b125vo + s117v.2.toNat * 6 + 1, none⟩))] rfl rfl rfl rfl (beq_yes hk123v) (.w 1 rfl rfl rfl (.w 5 rfl rfl rfl .nil)) (q_load rfl rfl Try.isAgg3 (hcell131v 4 rfl 1 _ rfl)) rfl) All.nil)) (All.cons (fun γ => (All.cons (QOb.yes (b := s117v.1) [(0, .slice a0 x0.length c0), (114, .bool s117v.1)] rfl rfl rfl rfl (beq_yes hk123v) (.o rfl (by decide) (.w 1 rfl rfl rfl .nil)) (q_move rfl rfl) rfl) All.nil)) (All.cons (fun γ => (All.cons (QOb.yes (b := s117v.1) [(16, .int .i64 s106v.1), (114, .bool s117v.1)] rfl rfl rfl rfl (beq_yes hk123v) (.o rfl (by decide) (.w 1 rfl rfl rfl .nil)) (q_move rfl rfl) rfl) All.nil)) (All.cons (fun γ => (All.cons (QOb.yes (b := s117v.1) [(114, .bool s117v.1), (120, .slice a0 x0.length c0), (121, .int .i64 s106v.1)] rfl rfl rfl rfl (beq_yes hk123v) (.w 1 rfl rfl rfl (.w 7 rfl rfl rfl (.w 8 rfl rfl rfl .nil))) (q_idx rfl rfl rfl ha134v Try.underlying22 Try.sizeOf33 hi132v.1 hi132v.2) rfl) All.nil)) (All.cons (fun γ => (All.cons (QOb.yes (b := s117v.1) [(114, .bool s117v.1), (122, .pointer (some ⟨b133v, b133vo + s106v.1.toNat * 6, none⟩))] rfl rfl rfl rfl (beq_yes hk123v) (.w 1 rfl rfl rfl (.w 9 rfl rfl rfl .nil)) (q_fa rfl rfl Try.underlying33 rfl rfl Try.sizeOf3 rfl) rfl) All.nil)) (All.cons (fun γ => (All.cons (QOb.yes (b := s117v.1) [(114, .bool s117v.1), (123, .pointer (some ⟨b133v, b133vo + s106v.1.toNat * 6 + 1, none⟩))] rfl rfl rfl rfl (beq_yes hk123v) (.w 1 rfl rfl rfl (.w 10 rfl rfl rfl .nil)) (q_load rfl rfl Try.isAgg3 (hcell139v 4 rfl 1 _ rfl)) rfl) All.nil)) (All.cons (fun γ => (All.cons (QOb.yes (b := s117v.1) [(114, .bool s117v.1), (119, .int .i64 ((x0.getD s117v.2.toNat dz33).2.1)), (124, .int .i64 ((x0.getD s106v.1.toNat dz33).2.1))] rfl rfl rfl rfl (beq_yes hk123v) (.w 1 rfl rfl rfl (.w 6 rfl rfl rfl (.w 11 rfl rfl rfl .nil))) (q_neq rfl rfl rfl) rfl) All.nil)) (All.cons (fun γ => (All.cons (QOb.yes (b := s117v.1) [(114, .bool s117v.1), (125, .bool (!decide ((x0.getD s117v.2.toNat dz33).2.1 = (x0.getD s106v.1.toNat dz33).2.1)))] rfl rfl rfl rfl (beq_yes hk123v) (.w 1 rfl rfl rfl (.w 12 rfl rfl rfl .nil)) (q_move rfl rfl) rfl) All.nil)) (All.cons (fun γ => (All.cons (QOb.yes (b := !decide ((x0.getD s117v.2.toNat dz33).2.1 = (x0.getD s106v.1.toNat dz33).2.1)) [(0, .slice a0 x0.length c0), (126, .bool (!decide ((x0.getD s117v.2.toNat dz33).2.1 = (x0.getD s106v.1.toNat dz33).2.1)))] rfl rfl rfl rfl (beq_no (ndec_no hk140v)) (.o rfl (by decide) (.w 13 rfl rfl rfl .nil)) (q_move rfl rfl) rfl) All.nil)) (All.cons (fun γ => (All.cons (QOb.yes (b := !decide ((x0.getD s117v.2.toNat dz33).2.1 = (x0.getD s106v.1.toNat dz33).2.1)) [(18, .int .i64 s117v.2), (126, .bool (!decide ((x0.getD s117v.2.toNat dz33).2.1 = (x0.getD s106v.1.toNat dz33).2.1)))] rfl rfl rfl rfl (beq_no (ndec_no hk140v)) (.o rfl (by decide) (.w 13 rfl rfl rfl .nil)) (q_move rfl rfl) rfl) All.nil)) (All.cons (fun γ => (All.cons (QOb.yes (b := !decide ((x0.getD s117v.2.toNat dz33).2.1 = (x0.getD s106v.1.toNat dz33).2.1)) [(126, .bool (!decide ((x0.getD s117v.2.toNat dz33).2.1 = (x0.getD s106v.1.toNat dz33).2.1))), (127, .slice a0 x0.length c0), (128, .int .i64 s117v.2)] rfl rfl rfl rfl (beq_no (ndec_no hk140v)) (.w 13 rfl rfl rfl (.w 14 rfl rfl rfl (.w 15 rfl rfl rfl .nil))) (q_idx rfl rfl rfl ha144v Try.underlying22 Try.sizeOf33 hi142v.1 hi142v.2) rfl) All.nil)) (All.cons (fun γ => (All.cons (QOb.yes (b := !decide ((x0.getD s117v.2.toNat dz33).2.1 = (x0.getD s106v.1.toNat dz33).2.1)) [(126, .bool (!decide ((x0.getD s117v.2.toNat dz33).2.1 = (x0.getD s106v.1.toNat dz33).2.1))), (129, .pointer (some ⟨b143v, b143vo + s117v.2.toNat * 6, none⟩))] rfl rfl rfl rfl (beq_no (ndec_no hk140v)) (.w 13 rfl rfl rfl (.w 16 rfl rfl rfl .nil)) (q_fa rfl rfl Try.underlying33 rfl rfl Try.sizeOf3 rfl) rfl) All.nil)) (All.cons (fun γ => (All.cons (QOb.yes (b := !decide ((x0.getD s117v.2.toNat dz33).2.1 = (x0.getD s106v.1.toNat dz33).2.1)) [(126, .bool (!decide ((x0.getD s117v.2.toNat dz33).2.1 = (x0.getD s106v.1.toNat dz33).2.1))), (130, .pointer (some ⟨b143v, b143vo + s117v.2.toNat * 6 + 2, none⟩))] rfl rfl rfl rfl (beq_no (ndec_no hk140v)) (.w 13 rfl rfl rfl (.w 17 rfl rfl rfl .nil)) (q_load rfl rfl Try.isAgg3 (hcell149v 4 rfl 2 _ rfl)) rfl) All.nil)) (All.cons (fun γ => (All.cons (QOb.yes (b := !decide ((x0.getD s117v.2.toNat dz33).2.1 = (x0.getD s106v.1.toNat dz33).2.1)) [(0, .slice a0 x0.length c0), (126, .bool (!decide ((x0.getD s117v.2.toNat dz33).2.1 = (x0.getD s106v.1.toNat dz33).2.1)))] rfl rfl rfl rfl (beq_no (ndec_no hk140v)) (.o rfl (by decide) (.w 13 rfl rfl rfl .nil)) (q_move rfl rfl) rfl) All.nil)) (All.cons (fun γ => (All.cons (QOb.yes (b := !decide ((x0.getD s117v.2.toNat dz33).2.1 = (x0.getD s106v.1.toNat dz33).2.1)) [(16, .int .i64 s106v.1), (126, .bool (!decide ((x0.getD s117v.2.toNat dz33).2.1 = (x0.getD s106v.1.toNat dz33).2.1)))] rfl rfl rfl rfl (beq_no (ndec_no hk140v)) (.o rfl (by decide) (.w 13 rfl rfl rfl .nil)) (q_move rfl rfl) rfl) All.nil)) (All.cons (fun γ => (All.cons (QOb.yes (b := !decide ((x0.getD s117v.2.toNat dz33).2.1 = (x0.getD s106v.1.toNat dz33).2.1)) [(126, .bool (!decide ((x0.getD s117v.2.toNat dz33).2.1 = (x0.getD s106v.1.toNat dz33).2.1))), (132, .slice a0 x0.length c0), (133, .int .i64 s106v.1)] rfl rfl rfl rfl (beq_no (ndec_no hk140v)) (.w 13 rfl rfl rfl (.w 19 rfl rfl rfl (.w 20 rfl rfl rfl .nil))) (q_idx rfl rfl rfl ha152v Try.underlying22 Try.sizeOf33 hi150v.1 hi150v.2) rfl) All.nil)) (All.cons (fun γ => (All.cons (QOb.yes (b := !decide ((x0.getD s117v.2.toNat dz33).2.1 = (x0.getD s106v.1.toNat dz33).2.1)) [(126, .bool (!decide ((x0.getD s117v.2.toNat dz33).2.1 = (x0.getD s106v.1.toNat dz33).2.1))), (134, .pointer (some ⟨b151v, b151vo + s106v.1.toNat * 6, none⟩))] rfl rfl rfl rfl (beq_no (ndec_no hk140v)) (.w 13 rfl rfl rfl (.w 21 rfl rfl rfl .nil)) (q_fa rfl rfl Try.underlying33 rfl rfl Try.sizeOf3 rfl) rfl) All.nil)) (All.cons (fun γ => (All.cons (QOb.yes (b := !decide ((x0.getD s117v.2.toNat dz33).2.1 = (x0.getD s106v.1.toNat dz33).2.1)) [(126, .bool (!decide ((x0.getD s117v.2.toNat dz33).2.1 = (x0.getD s106v.1.toNat dz33).2.1))), (135, .pointer (some ⟨b151v, b151vo + s106v.1.toNat * 6 + 2, none⟩))] rfl rfl rfl rfl (beq_no (ndec_no hk140v)) (.w 13 rfl rfl rfl (.w 22 rfl rfl rfl .nil)) (q_load rfl rfl Try.isAgg3 (hcell157v 4 rfl 2 _ rfl)) rfl) All.nil)) (All.cons (fun γ => (All.cons (QOb.yes (b := !decide ((x0.getD s117v.2.toNat dz33).2.1 = (x0.getD s106v.1.toNat dz33).2.1)) [(126, .bool (!decide ((x0.getD s117v.2.toNat dz33).2.1 = (x0.getD s106v.1.toNat dz33).2.1))), (131, .int .i64 ((x0.getD s117v.2.toNat dz33).2.2.1)), (136, .int .i64 ((x0.getD s106v.1.toNat dz33).2.2.1))] rfl rfl rfl rfl (beq_no (ndec_no hk140v)) (.w 13 rfl rfl rfl (.w 18 rfl rfl rfl (.w 23 rfl rfl rfl .nil))) (q_leq rfl rfl rfl) rfl) All.nil)) (All.cons (fun γ => (All.cons (QOb.yes (b := s117v.1) [(114, .bool s117v.1), (126, .bool (!decide ((x0.getD s117v.2.toNat dz33).2.1 = (x0.getD s106v.1.toNat dz33).2.1))), (137, .bool (decide ((x0.getD s117v.2.toNat dz33).2.2.1 ≤ (x0.getD s106v.1.toNat dz33).2.2.1)))] rfl rfl rfl rfl (beq_yes hk123v) (.w 1 rfl rfl rfl (.w 13 rfl rfl rfl (.w 24 rfl rfl rfl .nil))) (q_pick rfl rfl rfl rfl (bif_no (ndec_no hk140v) _ _)) rfl) All.nil)) (All.cons (fun γ => (All.cons (QOb.plain [(114, .bool s117v.1), (138, .bool (decide ((x0.getD s117v.2.toNat dz33).2.2.1 ≤ (x0.getD s106v.1.toNat dz33).2.2.1)))] rfl rfl (.w 1 rfl rfl rfl (.w 25 rfl rfl rfl .nil)) (q_pick rfl rfl rfl rfl (bif_yes hk123v _ _)) rfl) All.nil)) (All.cons (fun γ => (All.cons (QOb.plain [(139, .bool (decide ((x0.getD s117v.2.toNat dz33).2.2.1 ≤ (x0.getD s106v.1.toNat dz33).2.2.1)))] rfl rfl (.w 26 rfl rfl rfl .nil) (q_asg rfl rfl) rfl) All.nil)) All.nil))))))))))))))))))))))))))))
 exact All.nil
 intro g158v
 refine nrm_block (nrm_then (sim_region ?_))
 refine simL_val (q_move rfl rfl) rfl rfl rfl ?_
 refine simL_val (q_add rfl rfl rfl) rfl rfl rfl ?_
 refine simL_val (q_asg rfl rfl) rfl rfl rfl (simL_nil ?_)
 exact nrm_again (s := (decide ((x0.getD s117v.2.toNat dz33).2.2.1 ≤ (x0.getD s106v.1.toNat dz33).2.2.1), IntKind.i64.wrap (s117v.2 + 1))) () ⟨rfl, rfl, rfl, rfl, rfl, rfl, rfl, trivial⟩ (.sel 0 rfl (.sel 0 rfl (.sel 0 rfl (.sel 0 rfl (.sel 0 rfl (.nil _))))))
 refine sim_draw (Γ := Unit) () [[], [0], [0, 1], [0, 1], [0, 1, 2, 3], [0, 1, 2, 3, 4], [0, 1, 2, 3, 4, 5], [0, 1], [0, 1], [0, 1, 7, 8], [0, 1, 7, 8, 9], [0, 1, 7, 8, 9, 10], [0, 1, 2, 3, 4, 5, 6, 7, 8, 9, 10, 11], [0, 1, 2, 3, 4, 5, 6, 7, 8, 9, 10, 11, 12], [0, 1, 2, 3, 4, 5, 6, 7, 8, 9, 10, 11, 12, 13], [0, 1, 2, 3, 4, 5, 6, 7, 8, 9, 10, 11, 12, 13], [0, 1, 2, 3, 4, 5, 6, 7, 8, 9, 10, 11, 12, 13, 14, 15], [0, 1, 2, 3, 4, 5, 6, 7, 8, 9, 10, 11, 12, 13, 14, 15, 16], [0, 1, 2, 3, 4, 5, 6, 7, 8, 9, 10, 11, 12, 13, 14, 15, 16, 17], [0, 1, 2, 3, 4, 5, 6, 7, 8, 9, 10, 11, 12, 13], [0, 1, 2, 3, 4, 5, 6, 7, 8, 9, 10, 11, 12, 13], [0, 1, 2, 3, 4, 5, 6, 7, 8, 9, 10, 11, 12, 13, 19, 20], [0, 1, 2, 3, 4, 5, 6, 7, 8, 9, 10, 11, 12, 13, 19, 20, 21], [0, 1, 2, 3, 4, 5, 6, 7, 8, 9, 10, 11, 12, 13, 19, 20, 21, 22], [0, 1, 2, 3, 4, 5, 6, 7, 8, 9, 10, 11, 12, 13, 14, 15, 16, 17, 18, 19, 20, 21, 22, 23], [0, 1, 2, 3, 4, 5, 6, 7, 8, 9, 10, 11, 12, 13, 14, 15, 16, 17, 18, 19, 20, 21, 22, 23, 24], [0, 1, 2, 3, 4, 5, 6, 7, 8, 9, 10, 11, 12, 13, 14, 15, 16, 17, 18, 19, 20, 21, 22, 23, 24, 25], [0, 1, 2, 3, 4, 5, 6, 7, 8, 9, 10, 11, 12, 13, 14, 15, 16, 17, 18, 19, 20, 21, 22, 23, 24, 25, 26]] [] [0, 1, 2, 3, 4, 5, 6, 7, 8, 9, 10, 11, 12, 13, 14, 15, 16, 17, 18, 19, 20, 21, 22, 23, 24, 25, 26, 27] (fun i => [[0], [0], [0], [0], [0], [0], [0], [0], [0], [0], [0], [0], [0], [0], [0], [0], [0], [0], [0], [0], [0], [0], [0], [0], [0], [0], [0], [0]].getD i []) (fun i => [[], [], [], [], [], [], [], [], [], [], [], [], [], [], [], [], [], [], [], [], [], [], [], [], [], [], [], []].getD i []) (fun γ i => [.bool s117v.1, .bool s117v.1, .slice a0 x0.length c0, .int .i64 s117v.2, .pointer (some ⟨b125v, b125vo + s117v.2.toNat * 6, none⟩), .pointer (some ⟨b125v, b125vo + s117v.2.toNat * 6 + 1, none⟩), .int .i64 ((x0.getD s117v.2.toNat dz33).2.1), .slice a0 x0.length c0, .int .i64 s106v.1, .pointer (some ⟨b133v, b133vo + s106v.1.toNat * 6, none⟩), .pointer (some ⟨b133v, b133vo + s106v.1.toNat * 6 + 1, none⟩), .int .i64 ((x0.getD s106v.1.toNat dz33).2.1), .bool (!decide ((x0.getD s117v.2.toNat dz33).2.1 = (x0.getD s106v.1.toNat dz33).2.1)), .bool (!decide ((x0.getD s117v.2.toNat dz33).2.1 = (x0.getD s106v.1.toNat dz33).2.1)), undef, undef, undef, undef, undef, undef, undef, undef, undef, undef, undef, .bool true, .bool true, .bool true].getD i undef) (fun j γ => [[obj y10v.1 63 [.map (some y107v.1), .map (some y107v.2)], Row 5 1 y88v.1 s87v.length y88v.2 (encB s87v), mapO y107v.1 enc9 enc9 s106v.2.1, mapO y107v.2 enc3 enc42 s106v.2.2, F]].getD j []) (fun γ => [(0, .slice a0 x0.length c0), (5, .pointer (some ⟨y10v.1, 0, none⟩)), (14, .slice y88v.1 s87v.length y88v.2), (15, .bool s101v), (16, .int .i64 s106v.1), (17, .bool true), (18, .int .i64 s117v.2), (115, .slice a0 x0.length c0), (116, .int .i64 s117v.2), (117, .pointer (some ⟨b125v, b125vo + s117v.2.toNat * 6, none⟩)), (118, .pointer (some ⟨b125v, b125vo + s117v.2.toNat * 6 + 1, none⟩)), (119, .int .i64 ((x0.getD s117v.2.toNat dz33).2.1)), (120, .slice a0 x0.length c0), (121, .int .i64 s106v.1), (122, .pointer (some ⟨b133v, b133vo + s106v.1.toNat * 6, none⟩)), (123, .pointer (some ⟨b133v, b133vo + s106v.1.toNat * 6 + 1, none⟩)), (124, .int .i64 ((x0.getD s106v.1.toNat dz33).2.1)), (125, .bool (!decide ((x0.getD s117v.2.toNat dz33).2.1 = (x0.getD s106v.1.toNat dz33).2.1))), (126, .bool (!decide ((x0.getD s117v.2.toNat dz33).2.1 = (x0.getD s106v.1.toNat dz33).2.1))), (127, undef), (128, undef), (129, undef), (130, undef), (131, undef), (132, undef), (133, undef), (134, undef), (135, undef), (136, undef), (137, undef), (138, .bool true)]) mixed (by decide) (by decide) (by decide) (by decide) (by decide) (by decide) (by decide) 179 rfl (by decide) (by decide) (by decide) (Ent.refl _) ?_ ?_ (fun _ => ⟨rfl, rfl, rfl, rfl, rfl, rfl, rfl, rfl, rfl, rfl, rfl, rfl, rfl, rfl, rfl, rfl, rfl, rfl, rfl, rfl, rfl, rfl, rfl, rfl, rfl, rfl, rfl, rfl, rfl, rfl, rfl, trivial⟩) ?_
 exact (All.cons (fun γ => (All.cons (QOb.plain [(17, .bool s117v.1)] rfl rfl (.o rfl (by decide) .nil) (q_move rfl rfl) rfl) All.nil)) (All.cons (fun γ => (All.cons (QOb.plain [(113, .bool s117v.1)] rfl rfl (.w 0 rfl rfl rfl .nil) (q_move rfl rfl) rfl) All.nil)) (All.cons (fun γ => (All.cons (QOb.yes (b := s117v.1) [(0, .slice a0 x0.length c0), (114, .bool s117v.1)] rfl rfl rfl rfl (beq_yes hk123v) (.o rfl (by decide) (.w 1 rfl rfl rfl .nil)) (q_move rfl rfl) rfl) All.nil)) (All.cons (fun γ => (All.cons (QOb.yes (b := s117v.1) [(18, .int .i64 s117v.2), (114, .bool s117v.1)] rfl rfl rfl rfl (beq_yes hk123v) (.o rfl (by decide) (.w 1 rfl rfl rfl .nil)) (q_move rfl rfl) rfl) All.nil)) (All.cons (fun γ => (All.cons (QOb.yes (b := s117v.1) [(114, .bool s117v.1), (115, .slice a0 x0.length c0), (116, .int .i64 s117v.2)] rfl rfl rfl rfl (beq_yes hk123v) (.w 1 rfl rfl rfl (.w 2 rfl rfl rfl (.w 3 rfl rfl rfl .nil))) (q_idx rfl rfl rfl ha126v Try.underlying22 Try.sizeOf33 hi124v.1 hi124v.2) rfl) All.nil)) (All.cons (fun γ => (All.cons (QOb.yes (b := s117v.1) [(114, .bool s117v.1), (117, .pointer (some ⟨b125v, b125vo + s117v.2.toNat * 6, none⟩))] rfl rfl rfl rfl (beq_yes hk123v) (.w 1 rfl rfl rfl (.w 4 rfl rfl rfl .nil)) (q_fa rfl rfl Try.underlying33 rfl rfl Try.sizeOf3 rfl) rfl) All.nil)) (All.cons (fun γ => (All.cons (QOb.yes (b := s117v.1) [(114, .bool s117v.1), (118, .pointer (some ⟨b125v, b125vo + s117v.2.toNat * 6 + 1, none⟩))] rfl rfl rfl rfl (beq_yes hk123v) (.w 1 rfl rfl rfl (.w 5 rfl rfl rfl .nil)) (q_load rfl rfl Try.isAgg3 (hcell131v 4 rfl 1 _ rfl)) rfl) All.nil)) (All.cons (fun γ => (All.cons (QOb.yes (b := s117v.1) [(0, .slice a0 x0.length c0), (114, .bool s117v.1)] rfl rfl rfl rfl (beq_yes hk123v) (.o rfl (by decide) (.w 1 rfl rfl rfl .nil)) (q_move rfl rfl) rfl) All.nil)) (All.cons (fun γ => (All.cons (QOb.yes (b := s117v.1) [(16, .int .i64 s106v.1), (114, .bool s117v.1)] rfl rfl rfl rfl (beq_yes hk123v) (.o rfl (by decide) (.w 1 rfl rfl rfl .nil)) (q_move rfl rfl) rfl) All.nil)) (All.cons (fun γ => (All.cons (QOb.yes (b := s117v.1) [(114, .bool s117v.1), (120, .slice a0 x0.length c0), (121, .int .i64 s106v.1)] rfl rfl rfl rfl (beq_yes hk123v) (.w 1 rfl rfl rfl (.w 7 rfl rfl rfl (.w 8 rfl rfl rfl .nil))) (q_idx rfl rfl rfl ha134v Try.underlying22 Try.sizeOf33 hi132v.1 hi132v.2) rfl) All.nil)) (All.cons (fun γ => (All.cons (QOb.yes (b := s117v.1) [(114, .bool s117v.1), (122, .pointer (some ⟨b133v, b133vo + s106v.1.toNat * 6, none⟩))] rfl rfl rfl rfl (beq_yes hk123v) (.w 1 rfl rfl rfl (.w 9 rfl rfl rfl .nil)) (q_fa rfl rfl Try.underlying33 rfl rfl Try.sizeOf3 rfl) rfl) All.nil)) (All.cons (fun γ => (All.cons (QOb.yes (b := s117v.1) [(114, .bool s117v.1), (123, .pointer (some ⟨b133v, b133vo + s106v.1.toNat * 6 + 1, none⟩))] rfl rfl rfl rfl (beq_yes hk123v) (.w 1 rfl rfl rfl (.w 10 rfl rfl rfl .nil)) (q_load rfl rfl Try.isAgg3 (hcell139v 4 rfl 1 _ rfl)) rfl) All.nil)) (All.cons (fun γ => (All.cons (QOb.yes (b := s117v.1) [(114, .bool s117v.1), (119, .int .i64 ((x0.getD s117v.2.toNat dz33).2.1)), (124, .int .i64 ((x0.getD s106v.1.toNat dz33).2.1))] rfl rfl rfl rfl (beq_yes hk123v) (.w 1 rfl rfl rfl (.w 6 rfl rfl rfl (.w 11 rfl rfl rfl .nil))) (q_neq rfl rfl rfl) rfl) All.nil)) (All.cons (fun γ => (All.cons (QOb.yes (b := s117v.1) [(114, .bool s117v.1), (125, .bool (!decide ((x0.getD s117v.2.toNat dz33).2.1 = (x0.getD s106v.1.toNat dz33).2.1)))] rfl rfl rfl rfl (beq_yes hk123v) (.w 1 rfl rfl rfl (.w 12 rfl rfl rfl .nil)) (q_move rfl rfl) rfl) All.nil)) (All.cons (fun γ => (All.cons (QOb.no (b := !decide ((x0.getD s117v.2.toNat dz33).2.1 = (x0.getD s106v.1.toNat dz33).2.1)) [(0, .slice a0 x0.length c0), (126, .bool (!decide ((x0.getD s117v.2.toNat dz33).2.1 = (x0.getD s106v.1.toNat dz33).2.1)))] rfl rfl rfl rfl (beq_yes' (ndec_yes hk140v)) (.o rfl (by decide) (.w 13 rfl rfl rfl .nil)) rfl) All.nil)) (All.cons (fun γ => (All.cons (QOb.no (b := !decide ((x0.getD s117v.2.toNat dz33).2.1 = (x0.getD s106v.1.toNat dz33).2.1)) [(18, .int .i64 s117v.2), (126, .bool (!decide ((x0.getD s117v.2.toNat dz33).2.1 = (x0.getD s106v.1.toNat dz33).2.1)))] rfl rfl rfl rfl (beq_yes' (ndec_yes hk140v)) (.o rfl (by decide) (.w 13 rfl rfl rfl .nil)) rfl) All.nil)) (All.cons (fun γ => (All.cons (QOb.no (b := !decide ((x0.getD s117v.2.toNat dz33).2.1 = (x0.getD s106v.1.toNat dz33).2.1)) [(126, .bool (!decide ((x0.getD s117v.2.toNat dz33).2.1 = (x0.getD s106v.1.toNat dz33).2.1))), (127, undef), (128, undef)] rfl rfl rfl rfl (beq_yes' (ndec_yes hk140v)) (.w 13 rfl rfl rfl (.w 14 rfl rfl rfl (.w 15 rfl rfl rfl .nil))) rfl) All.nil)) (All.cons (fun γ => (All.cons (QOb.no (b := !decide ((x0.getD s117v.2.toNat dz33).2.1 = (x0.getD s106v.1.toNat dz33).2.1)) [(126, .bool (!decide ((x0.getD s117v.2.toNat dz33).2.1 = (x0.getD s106v.1.toNat dz33).2.1))), (129, undef)] rfl rfl rfl rfl (beq_yes' (ndec_yes hk140v)) (.w 13 rfl rfl rfl (.w 16 rfl rfl rfl .nil)) rfl) All.nil)) (All.cons (fun γ => (All.cons (QOb.no (b := !decide ((x0.getD s117v.2.toNat dz33).2.1 = (x0.getD s106v.1.toNat dz33).2.1)) [(126, .bool (!decide ((x0.getD s117v.2.toNat dz33).2.1 = (x0.getD s106v.1.toNat dz33).2.1))), (130, undef)] rfl rfl rfl rfl (beq_yes' (ndec_yes hk140v)) (.w 13 rfl rfl rfl (.w 17 rfl rfl rfl .nil)) rfl) All.nil)) (All.cons (fun γ => (All.cons (QOb.no (b := !decide ((x0.getD s117v.2.toNat dz33).2.1 = (x0.getD s106v.1.toNat dz33).2.1)) [(0, .slice a0 x0.length c0), (126, .bool (!decide ((x0.getD s117v.2.toNat dz33).2.1 = (x0.getD s106v.1.toNat dz33).2.1)))] rfl rfl rfl rfl (beq_yes' (ndec_yes hk140v)) (.o rfl (by decide) (.w 13 rfl rfl rfl .nil)) rfl) All.nil)) (All.cons (fun γ => (All.cons (QOb.no (b := !decide ((x0.getD s117v.2.toNat dz33).2.1 = (x0.getD s106v.1.toNat dz33).2.1)) [(16, .int .i64 s106v.1), (126, .bool (!decide ((x0.getD s117v.2.toNat dz33).2.1 = (x0.getD s106v.1.toNat dz33).2.1)))] rfl rfl rfl rfl (beq_yes' (ndec_yes hk140v)) (.o rfl (by decide) (.w 13 rfl rfl rfl .nil)) rfl) All.nil)) (All.cons (fun γ => (All.cons (QOb.no (b := !decide ((x0.getD s117v.2.toNat dz33).2.1 = (x0.getD s106v.1.toNat dz33).2.1)) [(126, .bool (!decide ((x0.getD s117v.2.toNat dz33).2.1 = (x0.getD s106v.1.toNat dz33).2.1))), (132, undef), (133, undef)] rfl rfl rfl rfl (beq_yes' (ndec_yes hk140v)) (.w 13 rfl rfl rfl (.w 19 rfl rfl rfl (.w 20 rfl rfl rfl .nil))) rfl) All.nil)) (All.cons (fun γ => (All.cons (QOb.no (b := !decide ((x0.getD s117v.2.toNat dz33).2.1 = (x0.getD s106v.1.toNat dz33).2.1)) [(126, .bool (!decide ((x0.getD s117v.2.toNat dz33).2.1 = (x0.getD s106v.1.toNat dz33).2.1))), (134, undef)] rfl rfl rfl rfl (beq_yes' (ndec_yes hk140v)) (.w 13 rfl rfl rfl (.w 21 rfl rfl rfl .nil)) rfl) All.nil)) (All.cons (fun γ => (All.cons (QOb.no (b := !decide ((x0.getD s117v.2.toNat dz33).2.1 = (x0.getD s106v.1.toNat dz33).2.1)) [(126, .bool (!decide ((x0.getD s117v.2.toNat dz33).2.1 = (x0.getD s106v.1.toNat dz33).2.1))), (135, undef)] rfl rfl rfl rfl (beq_yes' (ndec_yes hk140v)) (.w 13 rfl rfl rfl (.w 22 rfl rfl rfl .nil)) rfl) All.nil)) (All.cons (fun γ => (All.cons (QOb.no (b := !decide ((x0.getD s117v.2.toNat dz33).2.1 = (x0.getD s106v.1.toNat dz33).2.1)) [(126, .bool (!decide ((x0.getD s117v.2.toNat dz33).2.1 = (x0.getD s106v.1.toNat dz33).2.1))), (131, undef), (136, undef)] rfl rfl rfl rfl (beq_yes' (ndec_yes hk140v)) (.w 13 rfl rfl rfl (.w 18 rfl rfl rfl (.w 23 rfl rfl rfl .nil))) rfl) All.nil)) (All.cons (fun γ => (All.cons (QOb.yes (b := s117v.1) [(114, .bool s117v.1), (126, .bool (!decide ((x0.getD s117v.2.toNat dz33).2.1 = (x0.getD s106v.1.toNat dz33).2.1))), (137, undef)] rfl rfl rfl rfl (beq_yes hk123v) (.w 1 rfl rfl rfl (.w 13 rfl rfl rfl (.w 24 rfl rfl rfl .nil))) (q_pick rfl rfl rfl rfl (bif_yes (ndec_yes hk140v) _ _)) rfl) All.nil)) (All.cons (fun γ => (All.cons (QOb.plain [(114, .bool s117v.1), (138, .bool true)] rfl rfl (.w 1 rfl rfl rfl (.w 25 rfl rfl rfl .nil)) (q_pick rfl rfl rfl rfl (bif_yes hk123v _ _)) rfl) All.nil)) (All.cons (fun γ => (All.cons (QOb.plain [(139, .bool true)] rfl rfl (.w 26 rfl rfl rfl .nil) (q_asg rfl rfl) rfl) All.nil)) All.nil))))))))))))))))))))))))))))
 exact All.nil
 intro g141v
 refine nrm_block (nrm_then (sim_region ?_))
 refine simL_val (q_move rfl rfl) rfl rfl rfl ?_
 refine simL_val (q_add rfl rfl rfl) rfl rfl rfl ?_
 refine simL_val (q_asg rfl rfl) rfl rfl rfl (simL_nil ?_)
 exact nrm_again (s := (true, IntKind.i64.wrap (s117v.2 + 1))) () ⟨rfl, rfl, rfl, rfl, rfl, rfl, rfl, trivial⟩ (.sel 0 rfl (.sel 0 rfl (.sel 0 rfl (.sel 0 rfl (.sel 0 rfl (.nil _))))))
 refine sim_draw (Γ := Unit) () [[], [0], [0, 1], [0, 1], [0, 1, 2, 3], [0, 1, 2, 3, 4], [0, 1, 2, 3, 4, 5], [0, 1], [0, 1], [0, 1, 7, 8], [0, 1, 7, 8, 9], [0, 1, 7, 8, 9, 10], [0, 1, 2, 3, 4, 5, 6, 7, 8, 9, 10, 11], [0, 1, 2, 3, 4, 5, 6, 7, 8, 9, 10, 11, 12], [0, 1, 2, 3, 4, 5, 6, 7, 8, 9, 10, 11, 12, 13], [0, 1, 2, 3, 4, 5, 6, 7, 8, 9, 10, 11, 12, 13], [0, 1, 2, 3, 4, 5, 6, 7, 8, 9, 10, 11, 12, 13, 14, 15], [0, 1, 2, 3, 4, 5, 6, 7, 8, 9, 10, 11, 12, 13, 14, 15, 16], [0, 1, 2, 3, 4, 5, 6, 7, 8, 9, 10, 11, 12, 13, 14, 15, 16, 17], [0, 1, 2, 3, 4, 5, 6, 7, 8, 9, 10, 11, 12, 13], [0, 1, 2, 3, 4, 5, 6, 7, 8, 9, 10, 11, 12, 13], [0, 1, 2, 3, 4, 5, 6, 7, 8, 9, 10, 11, 12, 13, 19, 20], [0, 1, 2, 3, 4, 5, 6, 7, 8, 9, 10, 11, 12, 13, 19, 20, 21], [0, 1, 2, 3, 4, 5, 6, 7, 8, 9, 10, 11, 12, 13, 19, 20, 21, 22], [0, 1, 2, 3, 4, 5, 6, 7, 8, 9, 10, 11, 12, 13, 14, 15, 16, 17, 18, 19, 20, 21, 22, 23], [0, 1, 2, 3, 4, 5, 6, 7, 8, 9, 10, 11, 12, 13, 14, 15, 16, 17, 18, 19, 20, 21, 22, 23, 24], [0, 1, 2, 3, 4, 5, 6, 7, 8, 9, 10, 11, 12, 13, 14, 15, 16, 17, 18, 19, 20, 21, 22, 23, 24, 25], [0, 1, 2, 3, 4, 5, 6, 7, 8, 9, 10, 11, 12, 13, 14, 15, 16, 17, 18, 19, 20, 21, 22, 23, 24, 25, 26]] [] [0, 1, 2, 3, 4, 5, 6, 7, 8, 9, 10, 11, 12, 13, 14, 15, 16, 17, 18, 19, 20, 21, 22, 23, 24, 25, 26, 27] (fun i => [[0], [0], [0], [0], [0], [0], [0], [0], [0], [0], [0], [0], [0], [0], [0], [0], [0], [0], [0], [0], [0], [0], [0], [0], [0], [0], [0], [0]].getD i []) (fun i => [[], [], [], [], [], [], [], [], [], [], [], [], [], [], [], [], [], [], [], [], [], [], [], [], [], [], [], []].getD i []) (fun γ i => [.bool s117v.1, .bool s117v.1, undef, undef, undef, undef, undef, undef, undef, undef, undef, undef, undef, undef, undef, undef, undef, undef, undef, undef, undef, undef, undef, undef, undef, undef, .bool false, .bool false].getD i undef) (fun j γ => [[obj y10v.1 63 [.map (some y107v.1), .map (some y107v.2)], Row 5 1 y88v.1 s87v.length y88v.2 (encB s87v), mapO y107v.1 enc9 enc9 s106v.2.1, mapO y107v.2 enc3 enc42 s106v.2.2, F]].getD j []) (fun γ => [(0, .slice a0 x0.length c0), (5, .pointer (some ⟨y10v.1, 0, none⟩)), (14, .slice y88v.1 s87v.length y88v.2), (15, .bool s101v), (16, .int .i64 s106v.1), (17, .bool false), (18, .int .i64 s117v.2), (115, undef), (116, undef), (117, undef), (118, undef), (119, undef), (120, undef), (121, undef), (122, undef), (123, undef), (124, undef), (125, undef), (126, undef), (127, undef), (128, undef), (129, undef), (130, undef), (131, undef), (132, undef), (133, undef), (134, undef), (135, undef), (136, undef), (137, undef), (138, undef)]) mixed (by decide) (by decide) (by decide) (by decide) (by decide) (by decide) (by decide) 179 rfl (by decide) (by decide) (by decide) (Ent.refl _) ?_ ?_ (fun _ => ⟨rfl, rfl, rfl, rfl, rfl, rfl, rfl, rfl, rfl, rfl, rfl, rfl, rfl, rfl, rfl, rfl, rfl, rfl, rfl, rfl, rfl, rfl, rfl, rfl, rfl, rfl, rfl, rfl, rfl, rfl, rfl, trivial⟩) ?_
 exact (All.cons (fun γ => (All.cons (QOb.plain [(17, .bool s117v.1)] rfl rfl (.o rfl (by decide) .nil) (q_move rfl rfl) rfl) All.nil)) (All.cons (fun γ => (All.cons (QOb.plain [(113, .bool s117v.1)] rfl rfl (.w 0 rfl rfl rfl .nil) (q_move rfl rfl) rfl) All.nil)) (All.cons (fun γ => (All.cons (QOb.no (b := s117v.1) [(0, .slice a0 x0.length c0), (114, .bool s117v.1)] rfl rfl rfl rfl (beq_no' (eq_false_of_ne_true hk123v)) (.o rfl (by decide) (.w 1 rfl rfl rfl .nil)) rfl) All.nil)) (All.cons (fun γ => (All.cons (QOb.no (b := s117v.1) [(18, .int .i64 s117v.2), (114, .bool s117v.1)] rfl rfl rfl rfl (beq_no' (eq_false_of_ne_true hk123v)) (.o rfl (by decide) (.w 1 rfl rfl rfl .nil)) rfl) All.nil)) (All.cons (fun γ => (All.cons (QOb.no (b := s117v.1) [(114, .bool s117v.1), (115, undef), (116, undef)] rfl rfl rfl rfl (beq_no' (eq_false_of_ne_true hk123v)) (.w 1 rfl rfl rfl (.w 2 rfl rfl rfl (.w 3 rfl rfl rfl .nil))) rfl) All.nil)) (All.cons (fun γ => (All.cons (QOb.no (b := s117v.1) [(114, .bool s117v.1), (117, undef)] rfl rfl rfl rfl (beq_no' (eq_false_of_ne_true hk123v)) (.w 1 rfl rfl rfl (.w 4 rfl rfl rfl .nil)) rfl) All.nil)) (All.cons (fun γ => (All.cons (QOb.no (b := s117v.1) [(114, .bool s117v.1), (118, undef)] rfl rfl rfl rfl (beq_no' (eq_false_of_ne_true hk123v)) (.w 1 rfl rfl rfl (.w 5 rfl rfl rfl .nil)) rfl) All.nil)) (All.cons (fun γ => (All.cons (QOb.no (b := s117v.1) [(0, .slice a0 x0.length c0), (114, .bool s117v.1)] rfl rfl rfl rfl (beq_no' (eq_false_of_ne_true hk123v)) (.o rfl (by decide) (.w 1 rfl rfl rfl .nil)) rfl) All.nil)) (All.cons (fun γ => (All.cons (QOb.no (b := s117v.1) [(16, .int .i64 s106v.1), (114, .bool s117v.1)] rfl rfl rfl rfl (beq_no' (eq_false_of_ne_true hk123v)) (.o rfl (by decide) (.w 1 rfl rfl rfl .nil)) rfl) All.nil)) (All.cons (fun γ => (All.cons (QOb.no (b := s117v.1) [(114, .bool s117v.1), (120, undef), (121, undef)] rfl rfl rfl rfl (beq_no' (eq_false_of_ne_true hk123v)) (.w 1 rfl rfl rfl (.w 7 rfl rfl rfl (.w 8 rfl rfl rfl .nil))) rfl) All.nil)) (All.cons (fun γ => (All.cons (QOb.no (b := s117v.1) [(114, .bool s117v.1), (122, undef)] rfl rfl rfl rfl (beq_no' (eq_false_of_ne_true hk123v)) (.w 1 rfl rfl rfl (.w 9 rfl rfl rfl .nil)) rfl) All.nil)) (All.cons (fun γ => (All.cons (QOb.no (b := s117v.1) [(114, .bool s117v.1), (123, undef)] rfl rfl rfl rfl (beq_no' (eq_false_of_ne_true hk123v)) (.w 1 rfl rfl rfl (.w 10 rfl rfl rfl .nil)) rfl) All.nil)) (All.cons (fun γ => (All.cons (QOb.no (b := s117v.1) [(114, .bool s117v.1), (119, undef), (124, undef)] rfl rfl rfl rfl (beq_no' (eq_false_of_ne_true hk123v)) (.w 1 rfl rfl rfl (.w 6 rfl rfl rfl (.w 11 rfl rfl rfl .nil))) rfl) All.nil)) (All.cons (fun γ => (All.cons (QOb.no (b := s117v.1) [(114, .bool s117v.1), (125, undef)] rfl rfl rfl rfl (beq_no' (eq_false_of_ne_true hk123v)) (.w 1 rfl rfl rfl (.w 12 rfl rfl rfl .nil)) rfl) All.nil)) (All.cons (fun γ => (All.cons (QOb.und [(0, .slice a0 x0.length c0), (126, undef)] rfl rfl rfl rfl (.o rfl (by decide) (.w 13 rfl rfl rfl .nil)) rfl) All.nil)) (All.cons (fun γ => (All.cons (QOb.und [(18, .int .i64 s117v.2), (126, undef)] rfl rfl rfl rfl (.o rfl (by decide) (.w 13 rfl rfl rfl .nil)) rfl) All.nil)) (All.cons (fun γ => (All.cons (QOb.und [(126, undef), (127, undef), (128, undef)] rfl rfl rfl rfl (.w 13 rfl rfl rfl (.w 14 rfl rfl rfl (.w 15 rfl rfl rfl .nil))) rfl) All.nil)) (All.cons (fun γ => (All.cons (QOb.und [(126, undef), (129, undef)] rfl rfl rfl rfl (.w 13 rfl rfl rfl (.w 16 rfl rfl rfl .nil)) rfl) All.nil)) (All.cons (fun γ => (All.cons (QOb.und [(126, undef), (130, undef)] rfl rfl rfl rfl (.w 13 rfl rfl rfl (.w 17 rfl rfl rfl .nil)) rfl) All.nil)) (All.cons (fun γ => (All.cons (QOb.und [(0, .slice a0 x0.length c0), (126, undef)] rfl rfl rfl rfl (.o rfl (by decide) (.w 13 rfl rfl rfl .nil)) rfl) All.nil)) (All.cons (fun γ => (All.cons (QOb.und [(16, .int .i64 s106v.1), (126, undef)] rfl rfl rfl rfl (.o rfl (by decide) (.w 13 rfl rfl rfl .nil)) rfl) All.nil)) (All.cons (fun γ => (All.cons (QOb.und [(126, undef), (132, undef), (133, undef)] rfl rfl rfl rfl (.w 13 rfl rfl rfl (.w 19 rfl rfl rfl (.w 20 rfl rfl rfl .nil))) rfl) All.nil)) (All.cons (fun γ => (All.cons (QOb.und [(126, undef), (134, undef)] rfl rfl rfl rfl (.w 13 rfl rfl rfl (.w 21 rfl rfl rfl .nil)) rfl) All.nil)) (All.cons (fun γ => (All.cons (QOb.und [(126, undef), (135, undef)] rfl rfl rfl rfl (.w 13 rfl rfl rfl (.w 22 rfl rfl rfl .nil)) rfl) All.nil)) (All.cons (fun γ => (All.cons (QOb.und [(126, undef), (131, undef), (136, undef)] rfl rfl rfl rfl (.w 13 rfl rfl rfl (.w 18 rfl rfl rfl (.w 23 rfl rfl rfl .nil))) rfl) All.nil)) (All.cons (fun γ => (All.cons (QOb.no (b := s117v.1) [(114, .bool s117v.1), (126, undef), (137, undef)] rfl rfl rfl rfl (beq_no' (eq_false_of_ne_true hk123v)) (.w 1 rfl rfl rfl (.w 13 rfl rfl rfl (.w 24 rfl rfl rfl .nil))) rfl) All.nil)) (All.cons (fun γ => (All.cons (QOb.plain [(114, .bool s117v.1), (138, undef)] rfl rfl (.w 1 rfl rfl rfl (.w 25 rfl rfl rfl .nil)) (q_pick rfl rfl rfl rfl (bif_no (eq_false_of_ne_true hk123v) _ _)) rfl) All.nil)) (All.cons (fun γ => (All.cons (QOb.plain [(139, .bool false)] rfl rfl (.w 26 rfl rfl rfl .nil) (q_asg rfl rfl) rfl) All.nil)) All.nil))))))))))))))))))))))))))))
 exact All.nil
 intro g159v
 refine nrm_block (nrm_then (sim_region ?_))
 refine simL_val (q_move rfl rfl) rfl rfl rfl ?_
 refine simL_val (q_add rfl rfl rfl) rfl rfl rfl ?_
 refine simL_val (q_asg rfl rfl) rfl rfl rfl (simL_nil ?_)
 exact nrm_again (s := (false, IntKind.i64.wrap (s117v.2 + 1))) () ⟨rfl, rfl, rfl, rfl, rfl, rfl, rfl, trivial⟩ (.sel 0 rfl (.sel 0 rfl (.sel 0 rfl (.sel 0 rfl (.sel 0 rfl (.nil _))))))
 refine sim_exi ?_
 refine exi_then ?_
 refine exi_loop ?_
 refine exi_here ?_
 exact nrm_cut (s := s117v.1) () ⟨rfl, rfl, rfl, rfl, rfl, rfl, trivial⟩ (.sel 0 rfl (.sel 0 rfl (.sel 0 rfl (.sel 0 rfl (.sel 0 rfl (.nil _))))))
 intro s115v y116v
 refine sim_seq (sim_region ?_)
 refine simL_val (q_move rfl rfl) rfl rfl rfl ?_
 refine simL_val (q_move rfl rfl) rfl rfl rfl ?_
 refine simL_val (q_move rfl rfl) rfl rfl rfl ?_
 refine simL_ask (fun hi160v => ?_)
 obtain ⟨b161v, b161vo, r164v, ha162v, hV165v, hlr166v, hcell167v⟩ := RdV.pos h0 (Up.refl _) rfl (i := s106v.1.toNat) (by omega) dz33
 obtain rfl := hV165v
 refine simL_val (q_idx rfl rfl rfl ha162v Try.underlying22 Try.sizeOf33 hi160v.1 hi160v.2) rfl rfl rfl ?_
 refine simL_val (q_loads rfl rfl Try.isAgg33 Try.sizeOf33 rfl (fun j v hj => hcell167v 4 rfl j v hj)) rfl rfl rfl ?_
 refine simL_bind (fun s168v hs170v => ?_)
 refine simL_eff (re_call (vs := [.pointer (some ⟨y10v.1, 0, none⟩), .agg #[.int .i64 ((x0.getD s106v.1.toNat dz33).1), .int .i64 ((x0.getD s106v.1.toNat dz33).2.1), .int .i64 ((x0.getD s106v.1.toNat dz33).2.2.1), str ((x0.getD s106v.1.toNat dz33).2.2.2.1), str ((x0.getD s106v.1.toNat dz33).2.2.2.2.1), str ((x0.getD s106v.1.toNat dz33).2.2.2.2.2)]]) (cap := []) (A := [obj y10v.1 63 [.map (some y107v.1), .map (some y107v.2)], mapO y107v.1 enc9 enc9 s106v.2.1, mapO y107v.2 enc3 enc42 s106v.2.2]) (rst := [Row 5 1 y88v.1 s87v.length y88v.2 (encB s87v), F]) rfl rfl rfl rfl rfl rfl Try.call12 (.sel 0 rfl (.sel 1 rfl (.sel 1 rfl (.sel 0 rfl (.sel 0 rfl (.nil _)))))) (kv_Store_Do.calls _ _ y10v.1 y107v.1 s106v.2.1 y107v.2 s106v.2.2 ((x0.getD s106v.1.toNat dz33).1) ((x0.getD s106v.1.toNat dz33).2.1) ((x0.getD s106v.1.toNat dz33).2.2.1) ((x0.getD s106v.1.toNat dz33).2.2.2.1) ((x0.getD s106v.1.toNat dz33).2.2.2.2.1) ((x0.getD s106v.1.toNat dz33).2.2.2.2.2) ) hs170v) rfl rfl rfl ?_
 intro y169v
 refine simL_val (q_move rfl rfl) rfl rfl rfl ?_
 refine simL_val (q_ext rfl rfl rfl) rfl rfl rfl ?_
 refine simL_val (q_ext rfl rfl rfl) rfl rfl rfl ?_
 refine simL_eff (re_alloc rfl Try.zeroValue28 rfl) rfl rfl rfl ?_
 intro b171v
 refine simL_do (re_store 0 rfl rfl rfl Try.sizeOf28 rfl rfl (one_of (by rfl)) rfl rfl) rfl rfl ?_
 intro _
 refine simL_val (q_asg rfl rfl) rfl rfl rfl (simL_nil (nrm_then (sim_seq (sim_seq (sim_region ?_)))))
 refine simL_val (q_move rfl rfl) rfl rfl rfl ?_
 refine simL_bind (fun s172v hs174v => ?_)
 refine simL_eff (re_call (vs := [.int .i64 s168v.2.2.1]) (cap := []) (A := []) (rst := [obj b171v 28 [.int .i64 s168v.1, str s168v.2.1], obj y10v.1 63 [.map (some y169v.1), .map (some y169v.2)], mapO y169v.1 enc9 enc9 s168v.2.2.2.1, mapO y169v.2 enc3 enc42 s168v.2.2.2.2, Row 5 1 y88v.1 s87v.length y88v.2 (encB s87v), F]) rfl rfl rfl rfl rfl rfl Try.call13 (.sel 0 rfl (.sel 0 rfl (.sel 0 rfl (.sel 0 rfl (.sel 0 rfl (.sel 0 rfl (.nil _))))))) (synodref_Num.calls _ _ s168v.2.2.1 ) hs174v) rfl rfl rfl ?_
 intro y173v
 refine simL_val (q_neq rfl rfl rfl) rfl rfl rfl (simL_nil (nrm_then ?_))
 refine sim_condn rfl (fun h175v => ?_) (fun h176v => ?_)
 refine sim_skip ?_
 refine nrm_then (sim_seq (sim_region ?_))
 refine simL_val (q_move rfl rfl) rfl rfl rfl ?_
 refine simL_val (q_not rfl rfl) rfl rfl rfl ?_
 refine simL_val (q_move rfl rfl) rfl rfl rfl ?_
 refine simL_valc (b := !s115v) (fun hb199v => RQ.sub (E' := [(19, .pointer (some ⟨b171v, 0, none⟩))]) ⟨rfl, trivial⟩ (q_fa rfl rfl Try.underlying28 rfl rfl Try.sizeOf3 rfl)) rfl rfl rfl rfl rfl ?_
 refine simL_valc (b := !s115v) (fun hb198v => RQ.sub (E' := [(155, .pointer (some ⟨b171v, 0, none⟩))]) ⟨lk_cv rfl hb198v, trivial⟩ (q_load rfl rfl Try.isAgg3 (.obj 0 rfl rfl))) rfl rfl rfl rfl rfl ?_
 refine simL_valc (b := !s115v) (fun hb197v => RQ.sub (E' := [(156, .int .i64 s168v.1)]) ⟨lk_cv rfl hb197v, trivial⟩ (q_neq rfl rfl rfl)) rfl rfl rfl rfl rfl ?_
 refine simL_val (q_and rfl rfl rfl) rfl rfl rfl ?_
 refine simL_val (q_move rfl rfl) rfl rfl rfl ?_
 refine simL_valc (b := (!s115v) && (!decide (s168v.1 = (4 : Int)))) (fun hb196v => RQ.sub (E' := [(19, .pointer (some ⟨b171v, 0, none⟩))]) ⟨rfl, trivial⟩ (q_fa rfl rfl Try.underlying28 rfl rfl Try.sizeOf3 rfl)) rfl rfl rfl rfl rfl ?_
 refine simL_valc (b := (!s115v) && (!decide (s168v.1 = (4 : Int)))) (fun hb195v => RQ.sub (E' := [(160, .pointer (some ⟨b171v, 0, none⟩))]) ⟨lk_cv rfl hb195v, trivial⟩ (q_load rfl rfl Try.isAgg3 (.obj 0 rfl rfl))) rfl rfl rfl rfl rfl ?_
 refine simL_valc (b := (!s115v) && (!decide (s168v.1 = (4 : Int)))) (fun hb194v => RQ.sub (E' := [(161, .int .i64 s168v.1)]) ⟨lk_cv rfl hb194v, trivial⟩ (q_neq rfl rfl rfl)) rfl rfl rfl rfl rfl ?_
 refine simL_val (q_and rfl rfl rfl) rfl rfl rfl ?_
 refine simL_val (q_move rfl rfl) rfl rfl rfl ?_
 refine simL_cut' 7 (S := Bool) (Unit) (fun s y => [(0, .slice a0 x0.length c0), (5, .pointer (some ⟨y10v.1, 0, none⟩)), (14, .slice y88v.1 s87v.length y88v.2), (15, .bool s101v), (16, .int .i64 s106v.1), (171, .bool s)]) (fun s y => [obj y10v.1 63 [.map (some y169v.1), .map (some y169v.2)], Row 5 1 y88v.1 s87v.length y88v.2 (encB s87v), mapO y169v.1 enc9 enc9 s168v.2.2.2.1, mapO y169v.2 enc3 enc42 s168v.2.2.2.2, F]) ?_ ?_
 refine simL_caseb (fun hb190v => ?_) (fun hb191v => ?_)
 rw [hb190v]
 refine simL_valg (q_move rfl rfl) rfl rfl rfl rfl rfl rfl ?_
 refine simL_valg (q_move rfl rfl) rfl rfl rfl rfl rfl rfl ?_
 refine simL_ask (fun hi179v => ?_)
 obtain ⟨b180v, b180vo, r183v, ha181v, hV184v, hlr185v, hcell186v⟩ := RdV.pos h0 (Up.refl _) rfl (i := s106v.1.toNat) (by omega) dz33
 obtain rfl := hV184v
 refine simL_valg (q_idx rfl rfl rfl ha181v Try.underlying22 Try.sizeOf33 hi179v.1 hi179v.2) rfl rfl rfl rfl rfl rfl ?_
 refine simL_valg (q_loads rfl rfl Try.isAgg33 Try.sizeOf33 rfl (fun j v hj => hcell186v 5 rfl j v hj)) rfl rfl rfl rfl rfl rfl ?_
 refine simL_valg (q_move rfl rfl) rfl rfl rfl rfl rfl rfl ?_
 refine simL_bind (fun s187v hs189v => ?_)
 refine simL_effg (re_call (vs := [.agg #[.int .i64 ((x0.getD s106v.1.toNat dz33).1), .int .i64 ((x0.getD s106v.1.toNat dz33).2.1), .int .i64 ((x0.getD s106v.1.toNat dz33).2.2.1), str ((x0.getD s106v.1.toNat dz33).2.2.2.1), str ((x0.getD s106v.1.toNat dz33).2.2.2.2.1), str ((x0.getD s106v.1.toNat dz33).2.2.2.2.2)], .slice a0 x0.length c0]) (cap := []) (A := []) (rst := [obj b171v 28 [.int .i64 s168v.1, str s168v.2.1], obj y10v.1 63 [.map (some y169v.1), .map (some y169v.2)], mapO y169v.1 enc9 enc9 s168v.2.2.2.1, mapO y169v.2 enc3 enc42 s168v.2.2.2.2, Row 5 1 y88v.1 s87v.length y88v.2 (encB s87v), F]) rfl rfl rfl rfl rfl rfl Try.call16 (.sel 0 rfl (.sel 0 rfl (.sel 0 rfl (.sel 0 rfl (.sel 0 rfl (.sel 0 rfl (.nil _))))))) (synodlaw11_higher.calls _ _ k ((x0.getD s106v.1.toNat dz33).1) ((x0.getD s106v.1.toNat dz33).2.1) ((x0.getD s106v.1.toNat dz33).2.2.1) ((x0.getD s106v.1.toNat dz33).2.2.2.1) ((x0.getD s106v.1.toNat dz33).2.2.2.2.1) ((x0.getD s106v.1.toNat dz33).2.2.2.2.2) a0 c0 x0 (h0.up (Up.lend 5 rfl) (fun _ _ h => h)) hc0 hm0) hs189v) rfl rfl rfl rfl rfl rfl ?_
 intro y188v
 refine simL_val (q_pick rfl rfl rfl rfl rfl) rfl rfl rfl (simL_nil ?_)
 exact nrm_cut (s := s187v) () ⟨rfl, rfl, rfl, rfl, rfl, rfl, trivial⟩ (.sel 1 rfl (.sel 3 rfl (.sel 1 rfl (.sel 1 rfl (.sel 1 rfl (.nil _))))))
 rw [hb191v]
 refine simL_skipd rfl rfl rfl rfl rfl rfl ?_
 refine simL_skipd rfl rfl rfl rfl rfl rfl ?_
 refine simL_skipd rfl rfl rfl rfl rfl rfl ?_
 refine simL_skipd rfl rfl rfl rfl rfl rfl ?_
 refine simL_skipd rfl rfl rfl rfl rfl rfl ?_
 refine simL_skipd rfl rfl rfl rfl rfl rfl ?_
 refine simL_val (q_pick rfl rfl rfl rfl rfl) rfl rfl rfl (simL_nil ?_)
 exact nrm_cut (s := false) () ⟨rfl, rfl, rfl, rfl, rfl, rfl, trivial⟩ (.sel 1 rfl (.sel 3 rfl (.sel 1 rfl (.sel 1 rfl (.sel 1 rfl (.nil _))))))
 intro s177v y178v
 refine simL_nil (nrm_then ?_)
 refine sim_condb rfl (fun h192v => ?_) (fun h193v => ?_)
 refine sim_seq (sim_region ?_)
 refine simL_val (q_asg rfl rfl) rfl rfl rfl (simL_nil (nrm_then (sim_rtn ?_)))
 refine rtn_block ?_
 refine rtn_cutR ?_
 refine rtn_loop ?_
 refine rtn_block ?_
 refine rtn_cutR ?_
 exact rtn_fn () rfl rfl rfl (.sel 4 rfl (.nil _))
 refine sim_skip ?_
 refine nrm_block ?_
 exact nrm_cutR (s := (s168v.2.2.2.1, s168v.2.2.2.2)) (y169v.1, y169v.2) ⟨rfl, rfl, rfl, rfl, rfl, trivial⟩ (.sel 0 rfl (.sel 0 rfl (.sel 0 rfl (.sel 0 rfl (.sel 0 rfl (.nil _))))))
 refine sim_exi ?_
 refine exi_then ?_
 refine exi_here ?_
 exact nrm_cutR (s := (s168v.2.2.2.1, s168v.2.2.2.2)) (y169v.1, y169v.2) ⟨rfl, rfl, rfl, rfl, rfl, trivial⟩ (.sel 1 rfl (.sel 3 rfl (.sel 1 rfl (.sel 1 rfl (.sel 1 rfl (.nil _))))))
 intro s113v y114v
 refine sim_region ?_
 refine simL_val (q_move rfl rfl) rfl rfl rfl ?_
 refine simL_val (q_add rfl rfl rfl) rfl rfl rfl ?_
 refine simL_val (q_asg rfl rfl) rfl rfl rfl (simL_nil ?_)
 exact nrm_again (s := (IntKind.i64.wrap (s106v.1 + 1), s113v.1, s113v.2)) (y114v.1, y114v.2) ⟨rfl, rfl, rfl, rfl, rfl, trivial⟩ (.sel 0 rfl (.sel 0 rfl (.sel 0 rfl (.sel 0 rfl (.sel 0 rfl (.nil _))))))
 refine sim_exi ?_
 refine exi_then ?_
 refine exi_loop ?_
 refine exi_here ?_
 exact nrm_cutR (s := (s106v.2.1, s106v.2.2)) (y107v.1, y107v.2) ⟨rfl, rfl, rfl, trivial⟩ (.sel 0 rfl (.sel 0 rfl (.sel 0 rfl (.sel 0 rfl (.sel 0 rfl (.nil _))))))
 intro s104v y105v
 refine sim_seq (sim_region ?_)
 refine simL_val (q_move rfl rfl) rfl rfl rfl ?_
 refine simL_val (q_move rfl rfl) rfl rfl rfl ?_
 refine simL_cut' 5 (S := Bool) (Unit) (fun s y => [(178, .bool s)]) (fun s y => [F]) ?_ ?_
 refine simL_caseb (fun hb216v => ?_) (fun hb217v => ?_)
 rw [hb216v]
 refine simL_valg (q_move rfl rfl) rfl rfl rfl rfl rfl rfl ?_
 refine simL_valg (q_move rfl rfl) rfl rfl rfl rfl rfl rfl ?_
 refine simL_bind (fun s202v hs204v => ?_)
 refine simL_effg (re_call (vs := [.pointer (some ⟨y10v.1, 0, none⟩)]) (cap := []) (A := [obj y10v.1 63 [.map (some y105v.1), .map (some y105v.2)], mapO y105v.1 enc9 enc9 s104v.1, mapO y105v.2 enc3 enc42 s104v.2]) (rst := [Row 5 1 y88v.1 s87v.length y88v.2 (encB s87v), F]) rfl rfl rfl rfl rfl rfl Try.call14 (.sel 0 rfl (.sel 1 rfl (.sel 1 rfl (.sel 0 rfl (.sel 0 rfl (.nil _)))))) (kv_Store_Snapshot.calls _ _ k y10v.1 y105v.1 s104v.1 y105v.2 s104v.2 ) hs204v) rfl rfl rfl rfl rfl rfl ?_
 intro y203v
 refine simL_bind (fun s213v hs215v => ?_)
 refine simL_lend 4 rfl (fun hq205v hq206v hq207v hq208v => ?_)
 refine simL_lend 0 rfl (fun hq209v hq210v hq211v hq212v => ?_)
 refine simL_effg (re_call (vs := [.slice y88v.1 s87v.length y88v.2, .slice y203v.1 s202v.length y203v.2]) (cap := []) (A := []) (rst := [Row 5 1 y203v.1 s202v.length y203v.2 (encB s202v), obj y10v.1 63 [.map (some y105v.1), .map (some y105v.2)], mapO y105v.1 enc9 enc9 s104v.1, mapO y105v.2 enc3 enc42 s104v.2, Row 5 1 y88v.1 s87v.length y88v.2 (encB s87v), F]) rfl rfl rfl rfl rfl rfl Try.call15 (.sel 0 rfl (.sel 0 rfl (.sel 0 rfl (.sel 0 rfl (.sel 0 rfl (.sel 0 rfl (.nil _))))))) (synodref_SameBytes.calls _ _ k y88v.1 y88v.2 s87v y203v.1 y203v.2 s202v (hq205v.lend 4 rfl) hq206v hq207v (hq209v.lend 0 rfl) hq210v hq211v) hs215v) rfl rfl rfl rfl rfl rfl ?_
 intro y214v
 refine simL_val (q_pick rfl rfl rfl rfl rfl) rfl rfl rfl (simL_nil ?_)
 exact nrm_cut (s := s213v) () ⟨rfl, trivial⟩ (.sel 5 rfl (.nil _))
 rw [hb217v]
 refine simL_skipd rfl rfl rfl rfl rfl rfl ?_
 refine simL_skipd rfl rfl rfl rfl rfl rfl ?_
 refine simL_skipd rfl rfl rfl rfl rfl rfl ?_
 refine simL_skipd rfl rfl rfl rfl rfl rfl ?_
 refine simL_val (q_pick rfl rfl rfl rfl rfl) rfl rfl rfl (simL_nil ?_)
 exact nrm_cut (s := false) () ⟨rfl, trivial⟩ (.sel 4 rfl (.nil _))
 intro s200v y201v
 refine simL_val (q_asg rfl rfl) rfl rfl rfl (simL_nil (nrm_then (sim_rtn ?_)))
 exact rtn_fn () rfl rfl rfl (.sel 0 rfl (.nil _))
end Go.Proofs.Ytdaedoklkmdhcaa

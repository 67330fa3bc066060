/- Printed by gen.py: pure functions and the proofs that the Go functions simulate them. Conditions: as each theorem says. -/
import Derived.Test.YtdaedoklkmdhcaaGreatG5
namespace Go.Proofs.YtdaedoklkmdhcaaGreat
open Go.RowKit
set_option linter.unusedVariables false
set_option linter.unusedSimpArgs false
set_option maxRecDepth 20000
set_option maxHeartbeats 20000000
def synodlaw11_KvRestores.l4 : Nat → List UInt8 → Int → Option (Unit)
  | 0, _, _ => none
  | k + 1, z246v, z247v => if z247v < (z246v.length : Int) then (if 0 ≤ z247v ∧ z247v < (z246v.length : Int) then (synodlaw11_KvRestores.l4 k (z246v.set z247v.toNat 54) (IntKind.i64.wrap (z247v + 1))) else none) else (some ())
def synodlaw11_KvRestores.l3 : Nat → List UInt8 → Int → Option (Unit)
  | 0, _, _ => none
  | k + 1, z213v, z214v => if z214v < (z213v.length : Int) then (if 0 ≤ z214v ∧ z214v < (z213v.length : Int) then (synodlaw11_KvRestores.l3 k (z213v.set z214v.toNat 54) (IntKind.i64.wrap (z214v + 1))) else none) else (some ())
def synodlaw11_KvRestores.l2 : Nat → List UInt8 → Int → Option (Unit)
  | 0, _, _ => none
  | k + 1, z176v, z177v => if z177v < (z176v.length : Int) then (if 0 ≤ z177v ∧ z177v < (z176v.length : Int) then (synodlaw11_KvRestores.l2 k (z176v.set z177v.toNat 54) (IntKind.i64.wrap (z177v + 1))) else none) else (some ())
def synodlaw11_KvRestores.l1 (x1 : List (Ty49)) : Nat → Int → List (Ty90) → List (Ty91) → List ((List UInt8) × (List UInt8)) → List ((Int) × (Ty91)) → Option (((List (Ty90)) × (List (Ty91)) × (List ((List UInt8) × (List UInt8))) × (List ((Int) × (Ty91)))) ⊕ (Bool))
  | 0, _, _, _, _, _ => none
  | k + 1, z88v, z89v, z90v, z91v, z92v => if z88v < (x1.length : Int) then (if 0 ≤ z88v ∧ z88v < (x1.length : Int) then ((kv_Store_Do.f z91v z92v ((x1.getD z88v.toNat dz49).1) ((x1.getD z88v.toNat dz49).2.1) ((x1.getD z88v.toNat dz49).2.2.1) ((x1.getD z88v.toNat dz49).2.2.2.1) ((x1.getD z88v.toNat dz49).2.2.2.2.1) ((x1.getD z88v.toNat dz49).2.2.2.2.2)).bind fun s103v => (if 0 ≤ z88v ∧ z88v < (x1.length : Int) then ((synodref11_Store_Do.f k z89v z90v ((x1.getD z88v.toNat dz49).1) ((x1.getD z88v.toNat dz49).2.1) ((x1.getD z88v.toNat dz49).2.2.1) ((x1.getD z88v.toNat dz49).2.2.2.1) ((x1.getD z88v.toNat dz49).2.2.2.2.1) ((x1.getD z88v.toNat dz49).2.2.2.2.2)).bind fun s119v => (if (!(decide (s103v.1 = s119v.1) && (decide (s103v.2.1 = s119v.2.1)))) = true then (some (.inr false)) else (synodlaw11_KvRestores.l1 x1 k (IntKind.i64.wrap (z88v + 1)) s119v.2.2.2.1 s119v.2.2.2.2 s103v.2.2.2.1 s103v.2.2.2.2))) else none)) else none) else (some (.inl (z89v, z90v, z91v, z92v)))
def synodlaw11_KvRestores.l0 : Nat → List UInt8 → Int → Option (Unit)
  | 0, _, _ => none
  | k + 1, z35v, z36v => if z36v < (z35v.length : Int) then (if 0 ≤ z36v ∧ z36v < (z35v.length : Int) then (synodlaw11_KvRestores.l0 k (z35v.set z36v.toNat 54) (IntKind.i64.wrap (z36v + 1))) else none) else (some ())
def synodlaw11_KvRestores.f (k : Nat) (x0 : List UInt8) (x1 : List (Ty49)) : Option (Bool) := (synodlaw11_first.f).bind fun s1v => ((synodlaw11_few.f k x1).bind fun s4v => (if (((!s1v) || (!s4v)) || (decide ((40000 : Int) < (x0.length : Int)))) = true then (some s1v) else ((synodref_Lent.f x0).bind fun s9v => ((kv_Restore.f k s9v.1).bind fun s16v => (if s16v.1 = true then ((synodref11_Restore.f k x0).bind fun s20v => (if s20v.1 = true then ((synodref_Kept.f k s9v.1 s9v.2 x0).bind fun s28v => ((synodlaw11_KvRestores.l0 k s9v.1 0).bind fun s31v => ((if (!s28v) = true then (some true) else ((synodref_Num.f s16v.2.2.2).bind fun s46v => (some (!decide (s46v = s20v.2.2.2))))).bind fun s44v => (if (s44v || false) = true then (some false) else ((kv_Store_Copy.f s16v.2.1 s16v.2.2.1).bind fun s53v => ((synodref11_Store_Copy.f s20v.2.1 s20v.2.2.1).bind fun s68v => ((synodlaw11_Same.f k s16v.2.1 s16v.2.2.1 s20v.2.1 s20v.2.2.1).bind fun s79v => (if (!s79v) = true then (some false) else (orR (synodlaw11_KvRestores.l1 x1 k 0 s68v.1 s68v.2 s53v.1 s53v.2) fun s84v => ((synodlaw11_Same.f k s84v.2.2.1 s84v.2.2.2 s84v.1 s84v.2.1).bind fun s137v => ((if s137v = true then ((synodlaw11_Same.f k s16v.2.1 s16v.2.2.1 s20v.2.1 s20v.2.2.1).bind fun s154v => (some s154v)) else (some false)).bind fun s140v => (some s140v)))))))))))) else ((synodref_Kept.f k s9v.1 s9v.2 x0).bind fun s169v => ((synodlaw11_KvRestores.l2 k s9v.1 0).bind fun s172v => ((if (!s169v) = true then (some true) else ((synodref_Num.f s16v.2.2.2).bind fun s187v => (some (!decide (s187v = s20v.2.2.2))))).bind fun s185v => (some false)))))) else ((synodref11_Restore.f k x0).bind fun s198v => (if s198v.1 = true then ((synodref_Kept.f k s9v.1 s9v.2 x0).bind fun s206v => ((synodlaw11_KvRestores.l3 k s9v.1 0).bind fun s209v => ((if (!s206v) = true then (some true) else ((synodref_Num.f s16v.2.2.2).bind fun s224v => (some (!decide (s224v = s198v.2.2.2))))).bind fun s222v => (some false)))) else ((synodref_Kept.f k s9v.1 s9v.2 x0).bind fun s239v => ((synodlaw11_KvRestores.l4 k s9v.1 0).bind fun s242v => ((if (!s239v) = true then (some true) else ((synodref_Num.f s16v.2.2.2).bind fun s257v => (some (!decide (s257v = s198v.2.2.2))))).bind fun s255v => (if (s255v || false) = true then (some false) else (some true))))))))))))
theorem synodlaw11_KvRestores.calls (W : World) (F : HA) (k : Nat) (a0 : Option Addr) (c0 : Nat) (x0 : List UInt8) (a1 : Option Addr) (c1 : Nat) (x1 : List (Ty49)) (h0 : Rd F a0 (encB x0)) (hc0 : x0.length ≤ c0) (hm0 : c0 ≤ maxLen) (h1 : RdV F 6 (V49 tt) a1 x1) (hc1 : x1.length ≤ c1) (hm1 : c1 ≤ maxLen) :
    Fn Tryz.prog W 4 [.slice a0 x0.length c0, .slice a1 x1.length c1] [] F (synodlaw11_KvRestores.f k x0 x1) (fun (r : Bool) (y : Unit) => .bool r) (fun r y => []) := by
 unfold synodlaw11_KvRestores.f
 refine fn_intro 124 Tryz.func4 rfl Tryz.ntmps4 rfl ?_
 refine sr ?_
 refine va rfl rfl (nx ?_)
 refine simL_bind (fun s1v hs2v => ?_)
 refine simL_eff (re_call (vs := []) (cap := []) (A := []) (rst := [F]) rfl rfl rfl rfl rfl rfl Tryz.call5 (.sel 0 rfl (.nil _)) (synodlaw11_first.calls _ _  ) hs2v) rfl rfl rfl ?_
 intro y3v
 refine va rfl rfl (nx ?_)
 refine vm rfl rfl ?_
 refine simL_bind (fun s4v hs5v => ?_)
 refine simL_eff (re_call (vs := [.slice a1 x1.length c1]) (cap := []) (A := []) (rst := [F]) rfl rfl rfl rfl rfl rfl Tryz.call6 (.sel 0 rfl (.nil _)) (synodlaw11_few.calls _ _ k a1 c1 x1 (h1.up (Up.lend 0 rfl) (fun _ _ h => h)) hc1 hm1) hs5v) rfl rfl rfl ?_
 intro y6v
 refine va rfl rfl (simL_nil (nrm_then (sim_seq (sr ?_))))
 refine vm rfl rfl ?_
 refine vq (q_not rfl rfl) rfl ?_
 refine vm rfl rfl ?_
 refine simL_valc (b := !s1v) (fun hb273v => RQ.sub (E' := [(6, .bool s4v)]) ⟨rfl, trivial⟩ (q_move rfl rfl)) rfl rfl rfl rfl rfl ?_
 refine simL_valc (b := !s1v) (fun hb272v => RQ.sub (E' := [(27, .bool s4v)]) ⟨lk_cv rfl hb272v, trivial⟩ (q_not rfl rfl)) rfl rfl rfl rfl rfl ?_
 refine vq (q_or rfl rfl rfl) rfl ?_
 refine vm rfl rfl ?_
 refine simL_valc (b := (!s1v) || (!s4v)) (fun hb271v => RQ.sub (E' := [(0, .slice a0 x0.length c0)]) ⟨rfl, trivial⟩ (q_move rfl rfl)) rfl rfl rfl rfl rfl ?_
 refine simL_valc (b := (!s1v) || (!s4v)) (fun hb270v => RQ.sub (E' := [(31, .slice a0 x0.length c0)]) ⟨lk_cv rfl hb270v, trivial⟩ (q_len rfl rfl rfl Tryz.underlying23)) rfl rfl rfl rfl rfl ?_
 refine simL_valc (b := (!s1v) || (!s4v)) (fun hb269v => RQ.sub (E' := [(32, .int .i64 (x0.length : Int))]) ⟨lk_cv rfl hb269v, trivial⟩ (q_gtr rfl rfl rfl)) rfl rfl rfl rfl rfl ?_
 refine vq (q_or rfl rfl rfl) rfl (simL_nil (nrm_then ?_))
 refine sim_condb rfl (fun h7v => ?_) (fun h8v => ?_)
 refine sr ?_
 refine vm rfl rfl ?_
 refine va rfl rfl (simL_nil (nrm_then (sim_rtn ?_)))
 refine rtn_then ?_
 exact rtn_fn () rfl rfl rfl (.sel 0 rfl (.nil _))
 refine sim_skip ?_
 refine nrm_then (sr ?_)
 refine vm rfl rfl ?_
 refine simL_bind (fun s9v hs10v => ?_)
 refine simL_eff (re_call (vs := [.slice a0 x0.length c0]) (cap := []) (A := []) (rst := [F]) rfl rfl rfl rfl rfl rfl Tryz.call14 (.sel 0 rfl (.nil _)) (synodref_Lent.calls _ _ a0 c0 x0 (h0.lend 0 rfl) hc0 hm0) hs10v) rfl rfl rfl ?_
 intro y11v
 refine va rfl rfl (nx ?_)
 refine vm rfl rfl ?_
 refine simL_bind (fun s16v hs17v => ?_)
 refine simL_if (fun hb18v => ?_) (fun hb18v => ?_)
 refine simL_lend 0 rfl (fun hq12v hq13v hq14v hq15v => ?_)
 refine simL_eff (re_call (vs := [.slice y11v.1 s9v.1.length y11v.2]) (cap := []) (A := []) (rst := [Row 5 1 y11v.1 s9v.1.length y11v.2 (encB (s9v.1 ++ s9v.2)), F]) rfl rfl rfl rfl rfl rfl Tryz.call10 (.sel 0 rfl (.sel 0 rfl (.nil _))) (kv_Restore.callsT _ _ k y11v.1 y11v.2 s9v.1 ((rd_front hq12v).lend 0 rfl) hq13v hq14v) (filt_of hs17v hb18v)) rfl rfl rfl ?_
 intro y19v
 refine vm rfl rfl ?_
 refine vq (q_ext rfl rfl rfl) rfl ?_
 refine vq (q_ext rfl rfl rfl) rfl ?_
 refine va rfl rfl ?_
 refine va rfl rfl (nx ?_)
 refine vm rfl rfl ?_
 refine simL_bind (fun s20v hs21v => ?_)
 refine simL_if (fun hb22v => ?_) (fun hb22v => ?_)
 refine simL_eff (re_call (vs := [.slice a0 x0.length c0]) (cap := []) (A := []) (rst := [obj y19v.1 58 [.map (some y19v.2.1), .map (some y19v.2.2)], mapO y19v.2.1 enc9 enc9 s16v.2.1, mapO y19v.2.2 enc3 enc69 s16v.2.2.1, Row 5 1 y11v.1 s9v.1.length y11v.2 (encB (s9v.1 ++ s9v.2)), F]) rfl rfl rfl rfl rfl rfl Tryz.call15 (.sel 0 rfl (.sel 0 rfl (.sel 0 rfl (.sel 0 rfl (.sel 0 rfl (.nil _)))))) (synodref11_Restore.callsT _ _ k a0 c0 x0 (h0.lend 4 rfl) hc0 hm0) (filt_of hs21v hb22v)) rfl rfl rfl ?_
 intro y23v
 refine vm rfl rfl ?_
 refine vq (q_ext rfl rfl rfl) rfl ?_
 refine vq (q_ext rfl rfl rfl) rfl ?_
 refine va rfl rfl ?_
 refine va rfl rfl (nx ?_)
 refine vm rfl rfl ?_
 refine vm rfl rfl ?_
 refine simL_bind (fun s28v hs29v => ?_)
 refine simL_lendt 6 rfl (fun hq24v hq25v hq26v => ?_)
 refine simL_eff (re_call (vs := [.slice y11v.1 s9v.1.length y11v.2, .slice a0 x0.length c0]) (cap := []) (A := []) (rst := [obj y23v.1 85 [.slice y23v.2.1 s20v.2.1.length y23v.2.2.1, .slice y23v.2.2.2.1 s20v.2.2.1.length y23v.2.2.2.2], RowV 90 2 (V90 tt) y23v.2.1 s20v.2.1 y23v.2.2.1, RowV 91 4 (V91 tt) y23v.2.2.2.1 s20v.2.2.1 y23v.2.2.2.2, obj y19v.1 58 [.map (some y19v.2.1), .map (some y19v.2.2)], mapO y19v.2.1 enc9 enc9 s16v.2.1, mapO y19v.2.2 enc3 enc69 s16v.2.2.1, Row 5 1 y11v.1 s9v.1.length y11v.2 (encB (s9v.1 ++ s9v.2)), F]) rfl rfl rfl rfl rfl rfl Tryz.call16 (.sel 0 rfl (.sel 0 rfl (.sel 0 rfl (.sel 0 rfl (.sel 0 rfl (.sel 0 rfl (.sel 0 rfl (.sel 0 rfl (.nil _))))))))) (synodref_Kept.calls _ _ k y11v.1 y11v.2 s9v.1 s9v.2 a0 c0 x0 (hq24v.lend 6 rfl) (by rw [encB_length, Nat.mul_one] at hq25v; exact hq25v) hq26v (h0.lend 7 rfl) hc0 hm0) hs29v) rfl rfl rfl ?_
 intro y30v
 refine va rfl rfl (simL_nil (nrm_then ?_))
 refine sim_cut (S := Unit) (Unit) (fun s y => [(1, .slice a1 x1.length c1), (8, .pointer (some ⟨y19v.1, 0, none⟩)), (9, .int .i64 s16v.2.2.2), (10, .pointer (some ⟨y23v.1, 0, none⟩)), (11, .int .i64 s20v.2.2.2), (12, .bool s28v)]) (fun s y => [obj y23v.1 85 [.slice y23v.2.1 s20v.2.1.length y23v.2.2.1, .slice y23v.2.2.2.1 s20v.2.2.1.length y23v.2.2.2.2], obj y19v.1 58 [.map (some y19v.2.1), .map (some y19v.2.2)], RowV 90 2 (V90 tt) y23v.2.1 s20v.2.1 y23v.2.2.1, RowV 91 4 (V91 tt) y23v.2.2.2.1 s20v.2.2.1 y23v.2.2.2.2, mapO y19v.2.1 enc9 enc9 s16v.2.1, mapO y19v.2.2 enc3 enc69 s16v.2.2.1, F]) ?_ ?_
 refine sr ?_
 refine va rfl rfl (simL_nil (nrm_then ?_))
 refine sim_block ?_
 refine sim_loop (S := List UInt8 × Int) (Unit) (fun k s => synodlaw11_KvRestores.l0 k s.1 s.2) (fun s y => [(1, .slice a1 x1.length c1), (7, .slice y11v.1 s.1.length y11v.2), (8, .pointer (some ⟨y19v.1, 0, none⟩)), (9, .int .i64 s16v.2.2.2), (10, .pointer (some ⟨y23v.1, 0, none⟩)), (11, .int .i64 s20v.2.2.2), (12, .bool s28v), (13, .int .i64 s.2)]) (fun s y => [obj y23v.1 85 [.slice y23v.2.1 s20v.2.1.length y23v.2.2.1, .slice y23v.2.2.2.1 s20v.2.2.1.length y23v.2.2.2.2], obj y19v.1 58 [.map (some y19v.2.1), .map (some y19v.2.2)], Row 5 1 y11v.1 s.1.length y11v.2 (encB (s.1 ++ s9v.2)), RowV 90 2 (V90 tt) y23v.2.1 s20v.2.1 y23v.2.2.1, RowV 91 4 (V91 tt) y23v.2.2.2.1 s20v.2.2.1 y23v.2.2.2.2, mapO y19v.2.1 enc9 enc9 s16v.2.1, mapO y19v.2.2 enc3 enc69 s16v.2.2.1, F]) (fun _ => by rw [synodlaw11_KvRestores.l0]) ?_ k (s9v.1, 0) () ⟨rfl, rfl, rfl, rfl, rfl, rfl, rfl, rfl, trivial⟩ (.sel 0 rfl (.sel 2 rfl (.sel 4 rfl (.sel 0 rfl (.sel 0 rfl (.sel 0 rfl (.sel 0 rfl (.sel 0 rfl (.nil _)))))))))
 intro k s33v y34v
 refine sim_eq (by rw [synodlaw11_KvRestores.l0]) ?_
 refine sim_seq (sr ?_)
 refine vm rfl rfl ?_
 refine vm rfl rfl ?_
 refine vq (q_len rfl rfl rfl Tryz.underlying23) rfl ?_
 refine vq (q_lss rfl rfl rfl) rfl (simL_nil (nrm_then ?_))
 refine sim_cond rfl (fun h37v => ?_) (fun h38v => ?_)
 refine sim_skip ?_
 refine nrm_then (sim_seq ?_)
 refine sim_block ?_
 refine sim_region ?_
 refine vm rfl rfl ?_
 refine vm rfl rfl ?_
 refine simL_ask (fun hi39v => ?_)
 refine simL_row 2 rfl (encB_ne (j := s33v.2.toNat) (by rw [List.length_append]; omega)) (fun b40v b40vo ha41v => ?_)
 refine vq (q_idx1 rfl rfl rfl ha41v Tryz.underlying23 Tryz.sizeOf5 hi39v.1 hi39v.2) rfl ?_
 refine simL_do (re_storebk 54 2 rfl rfl rfl Tryz.sizeOf5 rfl ha41v hi39v.2 hi39v.1 rfl) rfl rfl ?_
 intro _
 refine simL_ren (.slice y11v.1 ((s33v.1.set s33v.2.toNat 54).length) y11v.2) (d := 7) rfl (slc_len (by simp)) ?_
 refine simL_ren (.slice y11v.1 ((s33v.1.set s33v.2.toNat 54).length) y11v.2) (d := 52) rfl (slc_len (by simp)) ?_
 refine simL_ren (.slice y11v.1 ((s33v.1.set s33v.2.toNat 54).length) y11v.2) (d := 57) rfl (slc_len (by simp)) ?_
 refine simL_nil (nrm_block (nrm_then (sim_region ?_)))
 refine vm rfl rfl ?_
 refine vq (q_add rfl rfl rfl) rfl ?_
 refine va rfl rfl (simL_nil ?_)
 exact nrm_again (s := (s33v.1.set s33v.2.toNat 54, IntKind.i64.wrap (s33v.2 + 1))) () ⟨rfl, rfl, rfl, rfl, rfl, rfl, rfl, rfl, trivial⟩ (.sel 0 rfl (.sel 0 rfl (.sel 0 rfl (.sel 0 rfl (.sel 0 rfl (.sel 0 rfl (.sel 0 rfl (.sel 0 rfl (.nil _)))))))))
 refine sim_exi ?_
 refine exi_then ?_
 refine exi_loop ?_
 refine exi_here ?_
 exact nrm_cut (s := ()) () ⟨rfl, rfl, rfl, rfl, rfl, rfl, trivial⟩ (.sel 0 rfl (.sel 0 rfl (.sel 1 rfl (.sel 1 rfl (.sel 1 rfl (.sel 1 rfl (.sel 1 rfl (.nil _))))))))
 intro s31v y32v
 refine sim_seq (sr ?_)
 refine vm rfl rfl ?_
 refine vq (q_not rfl rfl) rfl ?_
 refine vm rfl rfl ?_
 refine simL_cut' 5 (S := Bool) (Unit) (fun s y => [(1, .slice a1 x1.length c1), (8, .pointer (some ⟨y19v.1, 0, none⟩)), (10, .pointer (some ⟨y23v.1, 0, none⟩)), (67, .bool s)]) (fun s y => [obj y23v.1 85 [.slice y23v.2.1 s20v.2.1.length y23v.2.2.1, .slice y23v.2.2.2.1 s20v.2.2.1.length y23v.2.2.2.2], obj y19v.1 58 [.map (some y19v.2.1), .map (some y19v.2.2)], RowV 90 2 (V90 tt) y23v.2.1 s20v.2.1 y23v.2.2.1, RowV 91 4 (V91 tt) y23v.2.2.2.1 s20v.2.2.1 y23v.2.2.2.2, mapO y19v.2.1 enc9 enc9 s16v.2.1, mapO y19v.2.2 enc3 enc69 s16v.2.2.1, F]) ?_ ?_
 refine simL_caseb (fun hb49v => ?_) (fun hb50v => ?_)
 rw [hb49v]
 refine simL_skipd rfl rfl rfl rfl rfl rfl ?_
 refine simL_skipd rfl rfl rfl rfl rfl rfl ?_
 refine simL_skipd rfl rfl rfl rfl rfl rfl ?_
 refine simL_skipd rfl rfl rfl rfl rfl rfl ?_
 refine vq (q_pick rfl rfl rfl rfl rfl) rfl (simL_nil ?_)
 exact nrm_cut (s := true) () ⟨rfl, rfl, rfl, rfl, trivial⟩ (.sel 0 rfl (.sel 0 rfl (.sel 0 rfl (.sel 0 rfl (.sel 0 rfl (.sel 0 rfl (.sel 0 rfl (.nil _))))))))
 rw [hb50v]
 refine simL_valg (q_move rfl rfl) rfl rfl rfl rfl rfl rfl ?_
 refine simL_bind (fun s46v hs47v => ?_)
 refine simL_effg (re_call (vs := [.int .i64 s16v.2.2.2]) (cap := []) (A := []) (rst := [obj y23v.1 85 [.slice y23v.2.1 s20v.2.1.length y23v.2.2.1, .slice y23v.2.2.2.1 s20v.2.2.1.length y23v.2.2.2.2], obj y19v.1 58 [.map (some y19v.2.1), .map (some y19v.2.2)], RowV 90 2 (V90 tt) y23v.2.1 s20v.2.1 y23v.2.2.1, RowV 91 4 (V91 tt) y23v.2.2.2.1 s20v.2.2.1 y23v.2.2.2.2, mapO y19v.2.1 enc9 enc9 s16v.2.1, mapO y19v.2.2 enc3 enc69 s16v.2.2.1, F]) rfl rfl rfl rfl rfl rfl Tryz.call11 (.sel 0 rfl (.sel 0 rfl (.sel 0 rfl (.sel 0 rfl (.sel 0 rfl (.sel 0 rfl (.sel 0 rfl (.nil _)))))))) (synodref_Num.calls _ _ s16v.2.2.2 ) hs47v) rfl rfl rfl rfl rfl rfl ?_
 intro y48v
 refine simL_valg (q_move rfl rfl) rfl rfl rfl rfl rfl rfl ?_
 refine simL_valg (q_neq rfl rfl rfl) rfl rfl rfl rfl rfl rfl ?_
 refine vq (q_pick rfl rfl rfl rfl rfl) rfl (simL_nil ?_)
 exact nrm_cut (s := !decide (s46v = s20v.2.2.2)) () ⟨rfl, rfl, rfl, rfl, trivial⟩ (.sel 0 rfl (.sel 0 rfl (.sel 0 rfl (.sel 0 rfl (.sel 0 rfl (.sel 0 rfl (.sel 0 rfl (.nil _))))))))
 intro s44v y45v
 refine vm rfl rfl ?_
 refine simL_valc (b := s44v) (fun hb163v => RQ.sub (E' := [(8, .pointer (some ⟨y19v.1, 0, none⟩))]) ⟨rfl, trivial⟩ (q_move rfl rfl)) rfl rfl rfl rfl rfl ?_
 refine simL_valc (b := s44v) (fun hb162v => RQ.sub (E' := [(69, .pointer (some ⟨y19v.1, 0, none⟩))]) ⟨lk_cv rfl hb162v, trivial⟩ (q_eqp rfl rfl rfl Tryz.underlying26)) rfl rfl rfl rfl rfl ?_
 refine simL_valc (b := s44v) (fun hb161v => RQ.sub (E' := [(10, .pointer (some ⟨y23v.1, 0, none⟩))]) ⟨rfl, trivial⟩ (q_move rfl rfl)) rfl rfl rfl rfl rfl ?_
 refine simL_valc (b := s44v) (fun hb160v => RQ.sub (E' := [(71, .pointer (some ⟨y23v.1, 0, none⟩))]) ⟨lk_cv rfl hb160v, trivial⟩ (q_eqp rfl rfl rfl Tryz.underlying39)) rfl rfl rfl rfl rfl ?_
 refine simL_valc (b := s44v) (fun hb159v => RQ.sub (E' := [(70, .bool false), (72, .bool false)]) ⟨lk_cv rfl hb159v, lk_cv rfl hb159v, trivial⟩ (q_neb rfl rfl rfl Tryz.underlying4)) rfl rfl rfl rfl rfl ?_
 refine vq (q_or rfl rfl rfl) rfl (simL_nil (nrm_then ?_))
 refine sim_condb rfl (fun h51v => ?_) (fun h52v => ?_)
 refine sr ?_
 refine va rfl rfl (simL_nil (nrm_then (sim_rtn ?_)))
 refine rtn_then ?_
 exact rtn_fn () rfl rfl rfl (.sel 6 rfl (.nil _))
 refine sim_skip ?_
 refine nrm_then (sim_seq (sr ?_))
 refine vm rfl rfl ?_
 refine vq (q_eqp rfl rfl rfl Tryz.underlying39) rfl (simL_nil (nrm_then ?_))
 refine sim_false rfl ?_
 refine sim_skip ?_
 refine nrm_then (sr ?_)
 refine vm rfl rfl ?_
 refine simL_bind (fun s53v hs54v => ?_)
 refine simL_eff (re_call (vs := [.pointer (some ⟨y19v.1, 0, none⟩)]) (cap := []) (A := [obj y19v.1 58 [.map (some y19v.2.1), .map (some y19v.2.2)], mapO y19v.2.1 enc9 enc9 s16v.2.1, mapO y19v.2.2 enc3 enc69 s16v.2.2.1]) (rst := [obj y23v.1 85 [.slice y23v.2.1 s20v.2.1.length y23v.2.2.1, .slice y23v.2.2.2.1 s20v.2.2.1.length y23v.2.2.2.2], RowV 90 2 (V90 tt) y23v.2.1 s20v.2.1 y23v.2.2.1, RowV 91 4 (V91 tt) y23v.2.2.2.1 s20v.2.2.1 y23v.2.2.2.2, F]) rfl rfl rfl rfl rfl rfl Tryz.call17 (.sel 1 rfl (.sel 3 rfl (.sel 3 rfl (.sel 0 rfl (.sel 0 rfl (.sel 0 rfl (.sel 0 rfl (.nil _)))))))) (kv_Store_Copy.calls _ _ y19v.1 y19v.2.1 s16v.2.1 y19v.2.2 s16v.2.2.1 ) hs54v) rfl rfl rfl ?_
 intro y55v
 refine va rfl rfl (nx ?_)
 refine vm rfl rfl ?_
 refine simL_openV 7 rfl (fun rs56v hl57v => ?_)
 refine simL_openV 8 rfl (fun rs58v hl59v => ?_)
 refine simL_bind (fun s68v hs69v => ?_)
 refine simL_lend 7 rfl (fun hq60v hq61v hq62v hq63v => ?_)
 refine simL_lend 8 rfl (fun hq64v hq65v hq66v hq67v => ?_)
 refine simL_eff (re_call (vs := [.pointer (some ⟨y23v.1, 0, none⟩)]) (cap := []) (A := [obj y23v.1 85 [.slice y23v.2.1 s20v.2.1.length y23v.2.2.1, .slice y23v.2.2.2.1 s20v.2.2.1.length y23v.2.2.2.2]]) (rst := [obj y55v.1 58 [.map (some y55v.2.1), .map (some y55v.2.2)], mapO y55v.2.1 enc9 enc9 s53v.1, mapO y55v.2.2 enc3 enc69 s53v.2, obj y19v.1 58 [.map (some y19v.2.1), .map (some y19v.2.2)], mapO y19v.2.1 enc9 enc9 s16v.2.1, mapO y19v.2.2 enc3 enc69 s16v.2.2.1, Row 90 2 y23v.2.1 s20v.2.1.length y23v.2.2.1 rs56v.flatten, Row 91 4 y23v.2.2.2.1 s20v.2.2.1.length y23v.2.2.2.2 rs58v.flatten, F]) rfl rfl rfl rfl rfl rfl Tryz.call18 (.sel 6 rfl (.sel 0 rfl (.sel 0 rfl (.sel 0 rfl (.sel 0 rfl (.sel 0 rfl (.sel 0 rfl (.sel 0 rfl (.sel 0 rfl (.sel 0 rfl (.nil _))))))))))) (synodref11_Store_Copy.calls _ _ y23v.1 y23v.2.1 y23v.2.2.1 s20v.2.1 y23v.2.2.2.1 y23v.2.2.2.2 s20v.2.2.1 ((Rd.asV hl57v hq60v).up (Up.lend 6 rfl) (fun _ _ h => h)) hq61v hq62v ((Rd.asV hl59v hq64v).up (Up.lend 7 rfl) (fun _ _ h => h)) hq65v hq66v) hs69v) rfl rfl rfl ?_
 intro y70v
 refine va rfl rfl (simL_nil (nrm_then (sim_seq (sr ?_))))
 refine vm rfl rfl ?_
 refine vq (q_eqp rfl rfl rfl Tryz.underlying26) rfl ?_
 refine vm rfl rfl ?_
 refine simL_valg (q_move rfl rfl) rfl rfl rfl rfl rfl rfl ?_
 refine simL_valg (q_move rfl rfl) rfl rfl rfl rfl rfl rfl ?_
 refine simL_bind (fun s79v hs80v => ?_)
 refine simL_lend 10 rfl (fun hq71v hq72v hq73v hq74v => ?_)
 refine simL_lend 11 rfl (fun hq75v hq76v hq77v hq78v => ?_)
 refine simL_effg (re_call (vs := [.pointer (some ⟨y19v.1, 0, none⟩), .pointer (some ⟨y23v.1, 0, none⟩)]) (cap := []) (A := [obj y19v.1 58 [.map (some y19v.2.1), .map (some y19v.2.2)], mapO y19v.2.1 enc9 enc9 s16v.2.1, mapO y19v.2.2 enc3 enc69 s16v.2.2.1, obj y23v.1 85 [.slice y23v.2.1 s20v.2.1.length y23v.2.2.1, .slice y23v.2.2.2.1 s20v.2.2.1.length y23v.2.2.2.2]]) (rst := [obj y70v.1 85 [.slice y70v.2.1 s68v.1.length y70v.2.2.1, .slice y70v.2.2.2.1 s68v.2.length y70v.2.2.2.2], RowV 90 2 (V90 tt) y70v.2.1 s68v.1 y70v.2.2.1, RowV 91 4 (V91 tt) y70v.2.2.2.1 s68v.2 y70v.2.2.2.2, obj y55v.1 58 [.map (some y55v.2.1), .map (some y55v.2.2)], mapO y55v.2.1 enc9 enc9 s53v.1, mapO y55v.2.2 enc3 enc69 s53v.2, Row 90 2 y23v.2.1 s20v.2.1.length y23v.2.2.1 rs56v.flatten, Row 91 4 y23v.2.2.2.1 s20v.2.2.1.length y23v.2.2.2.2 rs58v.flatten, F]) rfl rfl rfl rfl rfl rfl Tryz.call19 (.sel 7 rfl (.sel 7 rfl (.sel 7 rfl (.sel 3 rfl (.sel 0 rfl (.sel 0 rfl (.sel 0 rfl (.sel 0 rfl (.sel 0 rfl (.sel 0 rfl (.sel 0 rfl (.sel 0 rfl (.sel 0 rfl (.nil _)))))))))))))) (synodlaw11_Same.calls _ _ k y19v.1 y19v.2.1 s16v.2.1 y19v.2.2 s16v.2.2.1 y23v.1 y23v.2.1 y23v.2.2.1 s20v.2.1 y23v.2.2.2.1 y23v.2.2.2.2 s20v.2.2.1 ((Rd.asV hl57v hq71v).up (Up.lend 6 rfl) (fun _ _ h => h)) hq72v hq73v ((Rd.asV hl59v hq75v).up (Up.lend 7 rfl) (fun _ _ h => h)) hq76v hq77v) hs80v) rfl rfl rfl rfl rfl rfl ?_
 intro y81v
 refine simL_valg (q_not rfl rfl) rfl rfl rfl rfl rfl rfl ?_
 refine vq (q_pick rfl rfl rfl rfl rfl) rfl (simL_nil (nrm_then ?_))
 refine sim_condb rfl (fun h82v => ?_) (fun h83v => ?_)
 refine sr ?_
 refine va rfl rfl (simL_nil (nrm_then (sim_rtn ?_)))
 refine rtn_then ?_
 exact rtn_fn () rfl rfl rfl (.sel 12 rfl (.nil _))
 refine sim_skip ?_
 refine nrm_then ?_
 refine sim_cutR (S := (List (Ty90)) × (List (Ty91)) × (List ((List UInt8) × (List UInt8))) × (List ((Int) × (Ty91)))) (Option Addr × Nat × Option Addr × Nat × Nat × Nat) (fun s y => [(8, .pointer (some ⟨y19v.1, 0, none⟩)), (10, .pointer (some ⟨y23v.1, 0, none⟩)), (14, .pointer (some ⟨y55v.1, 0, none⟩)), (15, .pointer (some ⟨y70v.1, 0, none⟩))]) (fun s y => [obj y19v.1 58 [.map (some y19v.2.1), .map (some y19v.2.2)], obj y23v.1 85 [.slice y23v.2.1 s20v.2.1.length y23v.2.2.1, .slice y23v.2.2.2.1 s20v.2.2.1.length y23v.2.2.2.2], obj y70v.1 85 [.slice y.1 s.1.length y.2.1, .slice y.2.2.1 s.2.1.length y.2.2.2.1], obj y55v.1 58 [.map (some y.2.2.2.2.1), .map (some y.2.2.2.2.2)], mapO y19v.2.1 enc9 enc9 s16v.2.1, mapO y19v.2.2 enc3 enc69 s16v.2.2.1, RowV 90 2 (V90 tt) y23v.2.1 s20v.2.1 y23v.2.2.1, RowV 91 4 (V91 tt) y23v.2.2.2.1 s20v.2.2.1 y23v.2.2.2.2, RowV 90 2 (V90 tt) y.1 s.1 y.2.1, RowV 91 4 (V91 tt) y.2.2.1 s.2.1 y.2.2.2.1, mapO y.2.2.2.2.1 enc9 enc9 s.2.2.1, mapO y.2.2.2.2.2 enc3 enc69 s.2.2.2, F]) ?_ ?_
 refine sr ?_
 refine va rfl rfl (simL_nil (nrm_then ?_))
 refine sim_block ?_
 refine sim_loop (S := Int × (List (Ty90)) × (List (Ty91)) × (List ((List UInt8) × (List UInt8))) × (List ((Int) × (Ty91)))) (Option Addr × Nat × Option Addr × Nat × Nat × Nat) (fun k s => synodlaw11_KvRestores.l1 x1 k s.1 s.2.1 s.2.2.1 s.2.2.2.1 s.2.2.2.2) (fun s y => [(1, .slice a1 x1.length c1), (8, .pointer (some ⟨y19v.1, 0, none⟩)), (10, .pointer (some ⟨y23v.1, 0, none⟩)), (14, .pointer (some ⟨y55v.1, 0, none⟩)), (15, .pointer (some ⟨y70v.1, 0, none⟩)), (16, .int .i64 s.1)]) (fun s y => [obj y19v.1 58 [.map (some y19v.2.1), .map (some y19v.2.2)], obj y23v.1 85 [.slice y23v.2.1 s20v.2.1.length y23v.2.2.1, .slice y23v.2.2.2.1 s20v.2.2.1.length y23v.2.2.2.2], obj y70v.1 85 [.slice y.1 s.2.1.length y.2.1, .slice y.2.2.1 s.2.2.1.length y.2.2.2.1], obj y55v.1 58 [.map (some y.2.2.2.2.1), .map (some y.2.2.2.2.2)], mapO y19v.2.1 enc9 enc9 s16v.2.1, mapO y19v.2.2 enc3 enc69 s16v.2.2.1, RowV 90 2 (V90 tt) y23v.2.1 s20v.2.1 y23v.2.2.1, RowV 91 4 (V91 tt) y23v.2.2.2.1 s20v.2.2.1 y23v.2.2.2.2, RowV 90 2 (V90 tt) y.1 s.2.1 y.2.1, RowV 91 4 (V91 tt) y.2.2.1 s.2.2.1 y.2.2.2.1, mapO y.2.2.2.2.1 enc9 enc9 s.2.2.2.1, mapO y.2.2.2.2.2 enc3 enc69 s.2.2.2.2, F]) (fun _ => by rw [synodlaw11_KvRestores.l1]) ?_ k (0, s68v.1, s68v.2, s53v.1, s53v.2) (y70v.2.1, y70v.2.2.1, y70v.2.2.2.1, y70v.2.2.2.2, y55v.2.1, y55v.2.2) ⟨rfl, rfl, rfl, rfl, rfl, rfl, trivial⟩ (.sel 0 rfl (.sel 2 rfl (.sel 2 rfl (.sel 4 rfl (.sel 0 rfl (.sel 0 rfl (.sel' 4 rfl (RowV.mk hl57v) (.sel' 4 rfl (RowV.mk hl59v) (.sel 0 rfl (.sel 0 rfl (.sel 0 rfl (.sel 0 rfl (.sel 0 rfl (.nil _))))))))))))))
 intro k s86v y87v
 refine sim_eq (by rw [synodlaw11_KvRestores.l1]) ?_
 refine sim_seq (sr ?_)
 refine vm rfl rfl ?_
 refine vm rfl rfl ?_
 refine vq (q_len rfl rfl rfl Tryz.underlying22) rfl ?_
 refine vq (q_lss rfl rfl rfl) rfl (simL_nil (nrm_then ?_))
 refine sim_cond rfl (fun h93v => ?_) (fun h94v => ?_)
 refine sim_skip ?_
 refine nrm_then (sim_seq ?_)
 refine sim_block ?_
 refine sr ?_
 refine vm rfl rfl ?_
 refine vm rfl rfl ?_
 refine vm rfl rfl ?_
 refine simL_ask (fun hi95v => ?_)
 obtain ⟨b96v, b96vo, r99v, ha97v, hV100v, hlr101v, hcell102v⟩ := RdV.pos h1 (Up.refl _) rfl (i := s86v.1.toNat) (by omega) dz49
 obtain rfl := hV100v
 refine vq (q_idx rfl rfl rfl ha97v Tryz.underlying22 Tryz.sizeOf49 hi95v.1 hi95v.2) rfl ?_
 refine vq (q_loads rfl rfl Tryz.isAgg49 Tryz.sizeOf49 rfl (fun j v hj => hcell102v 12 rfl j v hj)) rfl ?_
 refine simL_bind (fun s103v hs104v => ?_)
 refine simL_eff (re_call (vs := [.pointer (some ⟨y55v.1, 0, none⟩), .agg #[.int .i64 ((x1.getD s86v.1.toNat dz49).1), .int .i64 ((x1.getD s86v.1.toNat dz49).2.1), .int .i64 ((x1.getD s86v.1.toNat dz49).2.2.1), str ((x1.getD s86v.1.toNat dz49).2.2.2.1), str ((x1.getD s86v.1.toNat dz49).2.2.2.2.1), str ((x1.getD s86v.1.toNat dz49).2.2.2.2.2)]]) (cap := []) (A := [obj y55v.1 58 [.map (some y87v.2.2.2.2.1), .map (some y87v.2.2.2.2.2)], mapO y87v.2.2.2.2.1 enc9 enc9 s86v.2.2.2.1, mapO y87v.2.2.2.2.2 enc3 enc69 s86v.2.2.2.2]) (rst := [obj y19v.1 58 [.map (some y19v.2.1), .map (some y19v.2.2)], obj y23v.1 85 [.slice y23v.2.1 s20v.2.1.length y23v.2.2.1, .slice y23v.2.2.2.1 s20v.2.2.1.length y23v.2.2.2.2], obj y70v.1 85 [.slice y87v.1 s86v.2.1.length y87v.2.1, .slice y87v.2.2.1 s86v.2.2.1.length y87v.2.2.2.1], mapO y19v.2.1 enc9 enc9 s16v.2.1, mapO y19v.2.2 enc3 enc69 s16v.2.2.1, RowV 90 2 (V90 tt) y23v.2.1 s20v.2.1 y23v.2.2.1, RowV 91 4 (V91 tt) y23v.2.2.2.1 s20v.2.2.1 y23v.2.2.2.2, RowV 90 2 (V90 tt) y87v.1 s86v.2.1 y87v.2.1, RowV 91 4 (V91 tt) y87v.2.2.1 s86v.2.2.1 y87v.2.2.2.1, F]) rfl rfl rfl rfl rfl rfl Tryz.call20 (.sel 3 rfl (.sel 9 rfl (.sel 9 rfl (.sel 0 rfl (.sel 0 rfl (.sel 0 rfl (.sel 0 rfl (.sel 0 rfl (.sel 0 rfl (.sel 0 rfl (.sel 0 rfl (.sel 0 rfl (.sel 0 rfl (.nil _)))))))))))))) (kv_Store_Do.calls _ _ y55v.1 y87v.2.2.2.2.1 s86v.2.2.2.1 y87v.2.2.2.2.2 s86v.2.2.2.2 ((x1.getD s86v.1.toNat dz49).1) ((x1.getD s86v.1.toNat dz49).2.1) ((x1.getD s86v.1.toNat dz49).2.2.1) ((x1.getD s86v.1.toNat dz49).2.2.2.1) ((x1.getD s86v.1.toNat dz49).2.2.2.2.1) ((x1.getD s86v.1.toNat dz49).2.2.2.2.2) ) hs104v) rfl rfl rfl ?_
 intro y105v
 refine vm rfl rfl ?_
 refine vq (q_ext rfl rfl rfl) rfl ?_
 refine vq (q_ext rfl rfl rfl) rfl ?_
 refine simL_eff (re_alloc rfl Tryz.zeroValue45 rfl) rfl rfl rfl ?_
 intro b106v
 refine simL_do (re_store 0 rfl rfl rfl Tryz.sizeOf45 rfl rfl (one_of (by rfl)) rfl rfl) rfl rfl ?_
 intro _
 refine va rfl rfl (nx ?_)
 refine vm rfl rfl ?_
 refine vm rfl rfl ?_
 refine vm rfl rfl ?_
 refine simL_ask (fun hi107v => ?_)
 obtain ⟨b108v, b108vo, r111v, ha109v, hV112v, hlr113v, hcell114v⟩ := RdV.pos h1 (Up.refl _) rfl (i := s86v.1.toNat) (by omega) dz49
 obtain rfl := hV112v
 refine vq (q_idx rfl rfl rfl ha109v Tryz.underlying22 Tryz.sizeOf49 hi107v.1 hi107v.2) rfl ?_
 refine vq (q_loads rfl rfl Tryz.isAgg49 Tryz.sizeOf49 rfl (fun j v hj => hcell114v 13 rfl j v hj)) rfl ?_
 refine simL_openV 11 rfl (fun rs115v hl116v => ?_)
 refine simL_openV 12 rfl (fun rs117v hl118v => ?_)
 refine simL_bind (fun s119v hs120v => ?_)
 refine simL_eff (re_call (vs := [.pointer (some ⟨y70v.1, 0, none⟩), .agg #[.int .i64 ((x1.getD s86v.1.toNat dz49).1), .int .i64 ((x1.getD s86v.1.toNat dz49).2.1), .int .i64 ((x1.getD s86v.1.toNat dz49).2.2.1), str ((x1.getD s86v.1.toNat dz49).2.2.2.1), str ((x1.getD s86v.1.toNat dz49).2.2.2.2.1), str ((x1.getD s86v.1.toNat dz49).2.2.2.2.2)]]) (cap := []) (A := [obj y70v.1 85 [.slice y87v.1 s86v.2.1.length y87v.2.1, .slice y87v.2.2.1 s86v.2.2.1.length y87v.2.2.2.1], RowV 90 2 (V90 tt) y87v.1 s86v.2.1 y87v.2.1, RowV 91 4 (V91 tt) y87v.2.2.1 s86v.2.2.1 y87v.2.2.2.1]) (rst := [obj b106v 45 [.int .i64 s103v.1, str s103v.2.1], obj y55v.1 58 [.map (some y105v.1), .map (some y105v.2)], mapO y105v.1 enc9 enc9 s103v.2.2.2.1, mapO y105v.2 enc3 enc69 s103v.2.2.2.2, obj y19v.1 58 [.map (some y19v.2.1), .map (some y19v.2.2)], obj y23v.1 85 [.slice y23v.2.1 s20v.2.1.length y23v.2.2.1, .slice y23v.2.2.2.1 s20v.2.2.1.length y23v.2.2.2.2], mapO y19v.2.1 enc9 enc9 s16v.2.1, mapO y19v.2.2 enc3 enc69 s16v.2.2.1, RowV 90 2 (V90 tt) y23v.2.1 s20v.2.1 y23v.2.2.1, RowV 91 4 (V91 tt) y23v.2.2.2.1 s20v.2.2.1 y23v.2.2.2.2, F]) rfl rfl rfl rfl rfl rfl Tryz.call21 (.sel 6 rfl (.sel' 10 rfl (RowV.mk hl116v) (.sel' 10 rfl (RowV.mk hl118v) (.sel 0 rfl (.sel 0 rfl (.sel 0 rfl (.sel 0 rfl (.sel 0 rfl (.sel 0 rfl (.sel 0 rfl (.sel 0 rfl (.sel 0 rfl (.sel 0 rfl (.sel 0 rfl (.nil _))))))))))))))) (synodref11_Store_Do.calls _ _ k y70v.1 y87v.1 y87v.2.1 s86v.2.1 y87v.2.2.1 y87v.2.2.2.1 s86v.2.2.1 ((x1.getD s86v.1.toNat dz49).1) ((x1.getD s86v.1.toNat dz49).2.1) ((x1.getD s86v.1.toNat dz49).2.2.1) ((x1.getD s86v.1.toNat dz49).2.2.2.1) ((x1.getD s86v.1.toNat dz49).2.2.2.2.1) ((x1.getD s86v.1.toNat dz49).2.2.2.2.2) ) hs120v) rfl rfl rfl ?_
 intro y121v
 refine vm rfl rfl ?_
 refine vq (q_ext rfl rfl rfl) rfl ?_
 refine vq (q_ext rfl rfl rfl) rfl ?_
 refine simL_eff (re_alloc rfl Tryz.zeroValue45 rfl) rfl rfl rfl ?_
 intro b122v
 refine simL_do (re_store 0 rfl rfl rfl Tryz.sizeOf45 rfl rfl (one_of (by rfl)) rfl rfl) rfl rfl ?_
 intro _
 refine va rfl rfl (nx ?_)
 refine vq (q_loado 4 rfl rfl Tryz.isAgg45 Tryz.sizeOf45 rfl rfl) rfl ?_
 refine vq (q_loado 0 rfl rfl Tryz.isAgg45 Tryz.sizeOf45 rfl rfl) rfl ?_
 refine vq (q_neagg rfl rfl rfl (by kernel_rfl) (fun d w => eqi_struct Tryz.underlying45 (by kernel_rfl) (eqf_cons (by rfl) (part_of Tryz.isAgg3 rfl) (part_of Tryz.isAgg3 rfl) (eqi_int Tryz.underlying3) (eqf_last (by rfl) (part_of Tryz.isAgg9 rfl) (part_of Tryz.isAgg9 rfl) (eqi_str Tryz.underlying9))))) rfl ?_
 refine simL_nil (nrm_then ?_)
 refine sim_condb rfl (fun h123v => ?_) (fun h124v => ?_)
 refine sr ?_
 refine va rfl rfl (simL_nil (nrm_then (sim_rtn ?_)))
 refine rtn_block ?_
 refine rtn_then ?_
 refine rtn_loop ?_
 refine rtn_block ?_
 refine rtn_cutR ?_
 exact rtn_fn () rfl rfl rfl (.sel 14 rfl (.nil _))
 refine sim_skip ?_
 refine nrm_block (nrm_then (sim_region ?_))
 refine vm rfl rfl ?_
 refine vq (q_add rfl rfl rfl) rfl ?_
 refine va rfl rfl (simL_nil ?_)
 exact nrm_again (s := (IntKind.i64.wrap (s86v.1 + 1), s119v.2.2.2.1, s119v.2.2.2.2, s103v.2.2.2.1, s103v.2.2.2.2)) (y121v.1, y121v.2.1, y121v.2.2.1, y121v.2.2.2, y105v.1, y105v.2) ⟨rfl, rfl, rfl, rfl, rfl, rfl, trivial⟩ (.sel 8 rfl (.sel 8 rfl (.sel 1 rfl (.sel 4 rfl (.sel 6 rfl (.sel 6 rfl (.sel 6 rfl (.sel 6 rfl (.sel 1 rfl (.sel 1 rfl (.sel 2 rfl (.sel 2 rfl (.sel 2 rfl (.nil _))))))))))))))
 refine sim_exi ?_
 refine exi_then ?_
 refine exi_loop ?_
 refine exi_here ?_
 exact nrm_cutR (s := (s86v.2.1, s86v.2.2.1, s86v.2.2.2.1, s86v.2.2.2.2)) (y87v.1, y87v.2.1, y87v.2.2.1, y87v.2.2.2.1, y87v.2.2.2.2.1, y87v.2.2.2.2.2) ⟨rfl, rfl, rfl, rfl, trivial⟩ (.sel 0 rfl (.sel 0 rfl (.sel 0 rfl (.sel 0 rfl (.sel 0 rfl (.sel 0 rfl (.sel 0 rfl (.sel 0 rfl (.sel 0 rfl (.sel 0 rfl (.sel 0 rfl (.sel 0 rfl (.sel 0 rfl (.nil _))))))))))))))
 intro s84v y85v
 refine sr ?_
 refine vm rfl rfl ?_
 refine vm rfl rfl ?_
 refine simL_openV 8 rfl (fun rs125v hl126v => ?_)
 refine simL_openV 9 rfl (fun rs127v hl128v => ?_)
 refine simL_bind (fun s137v hs138v => ?_)
 refine simL_lend 8 rfl (fun hq129v hq130v hq131v hq132v => ?_)
 refine simL_lend 9 rfl (fun hq133v hq134v hq135v hq136v => ?_)
 refine simL_eff (re_call (vs := [.pointer (some ⟨y55v.1, 0, none⟩), .pointer (some ⟨y70v.1, 0, none⟩)]) (cap := []) (A := [obj y55v.1 58 [.map (some y85v.2.2.2.2.1), .map (some y85v.2.2.2.2.2)], mapO y85v.2.2.2.2.1 enc9 enc9 s84v.2.2.1, mapO y85v.2.2.2.2.2 enc3 enc69 s84v.2.2.2, obj y70v.1 85 [.slice y85v.1 s84v.1.length y85v.2.1, .slice y85v.2.2.1 s84v.2.1.length y85v.2.2.2.1]]) (rst := [obj y19v.1 58 [.map (some y19v.2.1), .map (some y19v.2.2)], obj y23v.1 85 [.slice y23v.2.1 s20v.2.1.length y23v.2.2.1, .slice y23v.2.2.2.1 s20v.2.2.1.length y23v.2.2.2.2], mapO y19v.2.1 enc9 enc9 s16v.2.1, mapO y19v.2.2 enc3 enc69 s16v.2.2.1, RowV 90 2 (V90 tt) y23v.2.1 s20v.2.1 y23v.2.2.1, RowV 91 4 (V91 tt) y23v.2.2.2.1 s20v.2.2.1 y23v.2.2.2.2, Row 90 2 y85v.1 s84v.1.length y85v.2.1 rs125v.flatten, Row 91 4 y85v.2.2.1 s84v.2.1.length y85v.2.2.2.1 rs127v.flatten, F]) rfl rfl rfl rfl rfl rfl Tryz.call19 (.sel 3 rfl (.sel 9 rfl (.sel 9 rfl (.sel 2 rfl (.sel 0 rfl (.sel 0 rfl (.sel 0 rfl (.sel 0 rfl (.sel 0 rfl (.sel 0 rfl (.sel 0 rfl (.sel 0 rfl (.sel 0 rfl (.nil _)))))))))))))) (synodlaw11_Same.calls _ _ k y55v.1 y85v.2.2.2.2.1 s84v.2.2.1 y85v.2.2.2.2.2 s84v.2.2.2 y70v.1 y85v.1 y85v.2.1 s84v.1 y85v.2.2.1 y85v.2.2.2.1 s84v.2.1 ((Rd.asV hl126v hq129v).up (Up.lend 6 rfl) (fun _ _ h => h)) hq130v hq131v ((Rd.asV hl128v hq133v).up (Up.lend 7 rfl) (fun _ _ h => h)) hq134v hq135v) hs138v) rfl rfl rfl ?_
 intro y139v
 refine vm rfl rfl ?_
 refine simL_cut' 4 (S := Bool) (Unit) (fun s y => [(123, .bool s)]) (fun s y => [F]) ?_ ?_
 refine simL_caseb (fun hb157v => ?_) (fun hb158v => ?_)
 rw [hb157v]
 refine simL_valg (q_move rfl rfl) rfl rfl rfl rfl rfl rfl ?_
 refine simL_valg (q_move rfl rfl) rfl rfl rfl rfl rfl rfl ?_
 refine simL_openV 8 rfl (fun rs142v hl143v => ?_)
 refine simL_openV 9 rfl (fun rs144v hl145v => ?_)
 refine simL_bind (fun s154v hs155v => ?_)
 refine simL_lend 8 rfl (fun hq146v hq147v hq148v hq149v => ?_)
 refine simL_lend 9 rfl (fun hq150v hq151v hq152v hq153v => ?_)
 refine simL_effg (re_call (vs := [.pointer (some ⟨y19v.1, 0, none⟩), .pointer (some ⟨y23v.1, 0, none⟩)]) (cap := []) (A := [obj y19v.1 58 [.map (some y19v.2.1), .map (some y19v.2.2)], mapO y19v.2.1 enc9 enc9 s16v.2.1, mapO y19v.2.2 enc3 enc69 s16v.2.2.1, obj y23v.1 85 [.slice y23v.2.1 s20v.2.1.length y23v.2.2.1, .slice y23v.2.2.2.1 s20v.2.2.1.length y23v.2.2.2.2]]) (rst := [obj y55v.1 58 [.map (some y85v.2.2.2.2.1), .map (some y85v.2.2.2.2.2)], mapO y85v.2.2.2.2.1 enc9 enc9 s84v.2.2.1, mapO y85v.2.2.2.2.2 enc3 enc69 s84v.2.2.2, obj y70v.1 85 [.slice y85v.1 s84v.1.length y85v.2.1, .slice y85v.2.2.1 s84v.2.1.length y85v.2.2.2.1], Row 90 2 y23v.2.1 s20v.2.1.length y23v.2.2.1 rs142v.flatten, Row 91 4 y23v.2.2.2.1 s20v.2.2.1.length y23v.2.2.2.2 rs144v.flatten, Row 90 2 y85v.1 s84v.1.length y85v.2.1 rs125v.flatten, Row 91 4 y85v.2.2.1 s84v.2.1.length y85v.2.2.2.1 rs127v.flatten, F]) rfl rfl rfl rfl rfl rfl Tryz.call19 (.sel 4 rfl (.sel 5 rfl (.sel 5 rfl (.sel 4 rfl (.sel 0 rfl (.sel 0 rfl (.sel 0 rfl (.sel 0 rfl (.sel 0 rfl (.sel 0 rfl (.sel 0 rfl (.sel 0 rfl (.sel 0 rfl (.nil _)))))))))))))) (synodlaw11_Same.calls _ _ k y19v.1 y19v.2.1 s16v.2.1 y19v.2.2 s16v.2.2.1 y23v.1 y23v.2.1 y23v.2.2.1 s20v.2.1 y23v.2.2.2.1 y23v.2.2.2.2 s20v.2.2.1 ((Rd.asV hl143v hq146v).up (Up.lend 4 rfl) (fun _ _ h => h)) hq147v hq148v ((Rd.asV hl145v hq150v).up (Up.lend 5 rfl) (fun _ _ h => h)) hq151v hq152v) hs155v) rfl rfl rfl rfl rfl rfl ?_
 intro y156v
 refine vq (q_pick rfl rfl rfl rfl rfl) rfl (simL_nil ?_)
 exact nrm_cut (s := s154v) () ⟨rfl, trivial⟩ (.sel 12 rfl (.nil _))
 rw [hb158v]
 refine simL_skipd rfl rfl rfl rfl rfl rfl ?_
 refine simL_skipd rfl rfl rfl rfl rfl rfl ?_
 refine simL_skipd rfl rfl rfl rfl rfl rfl ?_
 refine vq (q_pick rfl rfl rfl rfl rfl) rfl (simL_nil ?_)
 exact nrm_cut (s := false) () ⟨rfl, trivial⟩ (.sel 12 rfl (.nil _))
 intro s140v y141v
 refine va rfl rfl (simL_nil (nrm_then (sim_rtn ?_)))
 exact rtn_fn () rfl rfl rfl (.sel 0 rfl (.nil _))
 refine simL_eff (re_call (vs := [.slice a0 x0.length c0]) (cap := []) (A := []) (rst := [obj y19v.1 58 [.map (some y19v.2.1), .map (some y19v.2.2)], mapO y19v.2.1 enc9 enc9 s16v.2.1, mapO y19v.2.2 enc3 enc69 s16v.2.2.1, Row 5 1 y11v.1 s9v.1.length y11v.2 (encB (s9v.1 ++ s9v.2)), F]) rfl rfl rfl rfl rfl rfl Tryz.call15 (.sel 0 rfl (.sel 0 rfl (.sel 0 rfl (.sel 0 rfl (.sel 0 rfl (.nil _)))))) (synodref11_Restore.callsN _ _ k a0 c0 x0 (h0.lend 4 rfl) hc0 hm0) (filt_of hs21v (eq_false_of_ne_true hb22v))) rfl rfl rfl ?_
 intro y164v
 refine vm rfl rfl ?_
 refine vq (q_ext rfl rfl rfl) rfl ?_
 refine vq (q_ext rfl rfl rfl) rfl ?_
 refine va rfl rfl ?_
 refine va rfl rfl (nx ?_)
 refine vm rfl rfl ?_
 refine vm rfl rfl ?_
 refine simL_bind (fun s169v hs170v => ?_)
 refine simL_lendt 3 rfl (fun hq165v hq166v hq167v => ?_)
 refine simL_eff (re_call (vs := [.slice y11v.1 s9v.1.length y11v.2, .slice a0 x0.length c0]) (cap := []) (A := []) (rst := [obj y19v.1 58 [.map (some y19v.2.1), .map (some y19v.2.2)], mapO y19v.2.1 enc9 enc9 s16v.2.1, mapO y19v.2.2 enc3 enc69 s16v.2.2.1, Row 5 1 y11v.1 s9v.1.length y11v.2 (encB (s9v.1 ++ s9v.2)), F]) rfl rfl rfl rfl rfl rfl Tryz.call16 (.sel 0 rfl (.sel 0 rfl (.sel 0 rfl (.sel 0 rfl (.sel 0 rfl (.nil _)))))) (synodref_Kept.calls _ _ k y11v.1 y11v.2 s9v.1 s9v.2 a0 c0 x0 (hq165v.lend 3 rfl) (by rw [encB_length, Nat.mul_one] at hq166v; exact hq166v) hq167v (h0.lend 4 rfl) hc0 hm0) hs170v) rfl rfl rfl ?_
 intro y171v
 refine va rfl rfl (simL_nil (nrm_then ?_))
 refine sim_cut (S := Unit) (Unit) (fun s y => [(1, .slice a1 x1.length c1), (8, .pointer (some ⟨y19v.1, 0, none⟩)), (9, .int .i64 s16v.2.2.2), (10, .pointer none), (11, .int .i64 s20v.2.2.2), (12, .bool s169v)]) (fun s y => [obj y19v.1 58 [.map (some y19v.2.1), .map (some y19v.2.2)], mapO y19v.2.1 enc9 enc9 s16v.2.1, mapO y19v.2.2 enc3 enc69 s16v.2.2.1, F]) ?_ ?_
 refine sr ?_
 refine va rfl rfl (simL_nil (nrm_then ?_))
 refine sim_block ?_
 refine sim_loop (S := List UInt8 × Int) (Unit) (fun k s => synodlaw11_KvRestores.l2 k s.1 s.2) (fun s y => [(1, .slice a1 x1.length c1), (7, .slice y11v.1 s.1.length y11v.2), (8, .pointer (some ⟨y19v.1, 0, none⟩)), (9, .int .i64 s16v.2.2.2), (10, .pointer none), (11, .int .i64 s20v.2.2.2), (12, .bool s169v), (13, .int .i64 s.2)]) (fun s y => [obj y19v.1 58 [.map (some y19v.2.1), .map (some y19v.2.2)], Row 5 1 y11v.1 s.1.length y11v.2 (encB (s.1 ++ s9v.2)), mapO y19v.2.1 enc9 enc9 s16v.2.1, mapO y19v.2.2 enc3 enc69 s16v.2.2.1, F]) (fun _ => by rw [synodlaw11_KvRestores.l2]) ?_ k (s9v.1, 0) () ⟨rfl, rfl, rfl, rfl, rfl, rfl, rfl, rfl, trivial⟩ (.sel 0 rfl (.sel 2 rfl (.sel 0 rfl (.sel 0 rfl (.sel 0 rfl (.nil _))))))
 intro k s174v y175v
 refine sim_eq (by rw [synodlaw11_KvRestores.l2]) ?_
 refine sim_seq (sr ?_)
 refine vm rfl rfl ?_
 refine vm rfl rfl ?_
 refine vq (q_len rfl rfl rfl Tryz.underlying23) rfl ?_
 refine vq (q_lss rfl rfl rfl) rfl (simL_nil (nrm_then ?_))
 refine sim_cond rfl (fun h178v => ?_) (fun h179v => ?_)
 refine sim_skip ?_
 refine nrm_then (sim_seq ?_)
 refine sim_block ?_
 refine sim_region ?_
 refine vm rfl rfl ?_
 refine vm rfl rfl ?_
 refine simL_ask (fun hi180v => ?_)
 refine simL_row 1 rfl (encB_ne (j := s174v.2.toNat) (by rw [List.length_append]; omega)) (fun b181v b181vo ha182v => ?_)
 refine vq (q_idx1 rfl rfl rfl ha182v Tryz.underlying23 Tryz.sizeOf5 hi180v.1 hi180v.2) rfl ?_
 refine simL_do (re_storebk 54 1 rfl rfl rfl Tryz.sizeOf5 rfl ha182v hi180v.2 hi180v.1 rfl) rfl rfl ?_
 intro _
 refine simL_ren (.slice y11v.1 ((s174v.1.set s174v.2.toNat 54).length) y11v.2) (d := 7) rfl (slc_len (by simp)) ?_
 refine simL_ren (.slice y11v.1 ((s174v.1.set s174v.2.toNat 54).length) y11v.2) (d := 52) rfl (slc_len (by simp)) ?_
 refine simL_ren (.slice y11v.1 ((s174v.1.set s174v.2.toNat 54).length) y11v.2) (d := 57) rfl (slc_len (by simp)) ?_
 refine simL_nil (nrm_block (nrm_then (sim_region ?_)))
 refine vm rfl rfl ?_
 refine vq (q_add rfl rfl rfl) rfl ?_
 refine va rfl rfl (simL_nil ?_)
 exact nrm_again (s := (s174v.1.set s174v.2.toNat 54, IntKind.i64.wrap (s174v.2 + 1))) () ⟨rfl, rfl, rfl, rfl, rfl, rfl, rfl, rfl, trivial⟩ (.sel 0 rfl (.sel 0 rfl (.sel 0 rfl (.sel 0 rfl (.sel 0 rfl (.nil _))))))
 refine sim_exi ?_
 refine exi_then ?_
 refine exi_loop ?_
 refine exi_here ?_
 exact nrm_cut (s := ()) () ⟨rfl, rfl, rfl, rfl, rfl, rfl, trivial⟩ (.sel 0 rfl (.sel 1 rfl (.sel 1 rfl (.sel 1 rfl (.nil _)))))
 intro s172v y173v
 refine sim_seq (sr ?_)
 refine vm rfl rfl ?_
 refine vq (q_not rfl rfl) rfl ?_
 refine vm rfl rfl ?_
 refine simL_cut' 5 (S := Bool) (Unit) (fun s y => [(1, .slice a1 x1.length c1), (8, .pointer (some ⟨y19v.1, 0, none⟩)), (10, .pointer none), (67, .bool s)]) (fun s y => [obj y19v.1 58 [.map (some y19v.2.1), .map (some y19v.2.2)], mapO y19v.2.1 enc9 enc9 s16v.2.1, mapO y19v.2.2 enc3 enc69 s16v.2.2.1, F]) ?_ ?_
 refine simL_caseb (fun hb190v => ?_) (fun hb191v => ?_)
 rw [hb190v]
 refine simL_skipd rfl rfl rfl rfl rfl rfl ?_
 refine simL_skipd rfl rfl rfl rfl rfl rfl ?_
 refine simL_skipd rfl rfl rfl rfl rfl rfl ?_
 refine simL_skipd rfl rfl rfl rfl rfl rfl ?_
 refine vq (q_pick rfl rfl rfl rfl rfl) rfl (simL_nil ?_)
 exact nrm_cut (s := true) () ⟨rfl, rfl, rfl, rfl, trivial⟩ (.sel 0 rfl (.sel 0 rfl (.sel 0 rfl (.sel 0 rfl (.nil _)))))
 rw [hb191v]
 refine simL_valg (q_move rfl rfl) rfl rfl rfl rfl rfl rfl ?_
 refine simL_bind (fun s187v hs188v => ?_)
 refine simL_effg (re_call (vs := [.int .i64 s16v.2.2.2]) (cap := []) (A := []) (rst := [obj y19v.1 58 [.map (some y19v.2.1), .map (some y19v.2.2)], mapO y19v.2.1 enc9 enc9 s16v.2.1, mapO y19v.2.2 enc3 enc69 s16v.2.2.1, F]) rfl rfl rfl rfl rfl rfl Tryz.call11 (.sel 0 rfl (.sel 0 rfl (.sel 0 rfl (.sel 0 rfl (.nil _))))) (synodref_Num.calls _ _ s16v.2.2.2 ) hs188v) rfl rfl rfl rfl rfl rfl ?_
 intro y189v
 refine simL_valg (q_move rfl rfl) rfl rfl rfl rfl rfl rfl ?_
 refine simL_valg (q_neq rfl rfl rfl) rfl rfl rfl rfl rfl rfl ?_
 refine vq (q_pick rfl rfl rfl rfl rfl) rfl (simL_nil ?_)
 exact nrm_cut (s := !decide (s187v = s20v.2.2.2)) () ⟨rfl, rfl, rfl, rfl, trivial⟩ (.sel 0 rfl (.sel 0 rfl (.sel 0 rfl (.sel 0 rfl (.nil _)))))
 intro s185v y186v
 refine vm rfl rfl ?_
 refine simL_valc (b := s185v) (fun hb196v => RQ.sub (E' := [(8, .pointer (some ⟨y19v.1, 0, none⟩))]) ⟨rfl, trivial⟩ (q_move rfl rfl)) rfl rfl rfl rfl rfl ?_
 refine simL_valc (b := s185v) (fun hb195v => RQ.sub (E' := [(69, .pointer (some ⟨y19v.1, 0, none⟩))]) ⟨lk_cv rfl hb195v, trivial⟩ (q_eqp rfl rfl rfl Tryz.underlying26)) rfl rfl rfl rfl rfl ?_
 refine simL_valc (b := s185v) (fun hb194v => RQ.sub (E' := [(10, .pointer none)]) ⟨rfl, trivial⟩ (q_move rfl rfl)) rfl rfl rfl rfl rfl ?_
 refine simL_valc (b := s185v) (fun hb193v => RQ.sub (E' := [(71, .pointer none)]) ⟨lk_cv rfl hb193v, trivial⟩ (q_eqnn rfl rfl rfl Tryz.underlying39)) rfl rfl rfl rfl rfl ?_
 refine simL_valc (b := s185v) (fun hb192v => RQ.sub (E' := [(70, .bool false), (72, .bool true)]) ⟨lk_cv rfl hb192v, lk_cv rfl hb192v, trivial⟩ (q_neb rfl rfl rfl Tryz.underlying4)) rfl rfl rfl rfl rfl ?_
 refine vq (q_or rfl rfl rfl) rfl (simL_nil (nrm_then ?_))
 refine sim_trueb (b := s185v || true) rfl (by simp) ?_
 refine sr ?_
 refine va rfl rfl (simL_nil (nrm_then (sim_rtn ?_)))
 refine rtn_then ?_
 exact rtn_fn () rfl rfl rfl (.sel 3 rfl (.nil _))
 refine simL_lend 0 rfl (fun hq12v hq13v hq14v hq15v => ?_)
 refine simL_eff (re_call (vs := [.slice y11v.1 s9v.1.length y11v.2]) (cap := []) (A := []) (rst := [Row 5 1 y11v.1 s9v.1.length y11v.2 (encB (s9v.1 ++ s9v.2)), F]) rfl rfl rfl rfl rfl rfl Tryz.call10 (.sel 0 rfl (.sel 0 rfl (.nil _))) (kv_Restore.callsN _ _ k y11v.1 y11v.2 s9v.1 ((rd_front hq12v).lend 0 rfl) hq13v hq14v) (filt_of hs17v (eq_false_of_ne_true hb18v))) rfl rfl rfl ?_
 intro y197v
 refine vm rfl rfl ?_
 refine vq (q_ext rfl rfl rfl) rfl ?_
 refine vq (q_ext rfl rfl rfl) rfl ?_
 refine va rfl rfl ?_
 refine va rfl rfl (nx ?_)
 refine vm rfl rfl ?_
 refine simL_bind (fun s198v hs199v => ?_)
 refine simL_if (fun hb200v => ?_) (fun hb200v => ?_)
 refine simL_eff (re_call (vs := [.slice a0 x0.length c0]) (cap := []) (A := []) (rst := [Row 5 1 y11v.1 s9v.1.length y11v.2 (encB (s9v.1 ++ s9v.2)), F]) rfl rfl rfl rfl rfl rfl Tryz.call15 (.sel 0 rfl (.sel 0 rfl (.nil _))) (synodref11_Restore.callsT _ _ k a0 c0 x0 (h0.lend 1 rfl) hc0 hm0) (filt_of hs199v hb200v)) rfl rfl rfl ?_
 intro y201v
 refine vm rfl rfl ?_
 refine vq (q_ext rfl rfl rfl) rfl ?_
 refine vq (q_ext rfl rfl rfl) rfl ?_
 refine va rfl rfl ?_
 refine va rfl rfl (nx ?_)
 refine vm rfl rfl ?_
 refine vm rfl rfl ?_
 refine simL_bind (fun s206v hs207v => ?_)
 refine simL_lendt 3 rfl (fun hq202v hq203v hq204v => ?_)
 refine simL_eff (re_call (vs := [.slice y11v.1 s9v.1.length y11v.2, .slice a0 x0.length c0]) (cap := []) (A := []) (rst := [obj y201v.1 85 [.slice y201v.2.1 s198v.2.1.length y201v.2.2.1, .slice y201v.2.2.2.1 s198v.2.2.1.length y201v.2.2.2.2], RowV 90 2 (V90 tt) y201v.2.1 s198v.2.1 y201v.2.2.1, RowV 91 4 (V91 tt) y201v.2.2.2.1 s198v.2.2.1 y201v.2.2.2.2, Row 5 1 y11v.1 s9v.1.length y11v.2 (encB (s9v.1 ++ s9v.2)), F]) rfl rfl rfl rfl rfl rfl Tryz.call16 (.sel 0 rfl (.sel 0 rfl (.sel 0 rfl (.sel 0 rfl (.sel 0 rfl (.nil _)))))) (synodref_Kept.calls _ _ k y11v.1 y11v.2 s9v.1 s9v.2 a0 c0 x0 (hq202v.lend 3 rfl) (by rw [encB_length, Nat.mul_one] at hq203v; exact hq203v) hq204v (h0.lend 4 rfl) hc0 hm0) hs207v) rfl rfl rfl ?_
 intro y208v
 refine va rfl rfl (simL_nil (nrm_then ?_))
 refine sim_cut (S := Unit) (Unit) (fun s y => [(1, .slice a1 x1.length c1), (8, .pointer none), (9, .int .i64 s16v.2.2.2), (10, .pointer (some ⟨y201v.1, 0, none⟩)), (11, .int .i64 s198v.2.2.2), (12, .bool s206v)]) (fun s y => [obj y201v.1 85 [.slice y201v.2.1 s198v.2.1.length y201v.2.2.1, .slice y201v.2.2.2.1 s198v.2.2.1.length y201v.2.2.2.2], RowV 90 2 (V90 tt) y201v.2.1 s198v.2.1 y201v.2.2.1, RowV 91 4 (V91 tt) y201v.2.2.2.1 s198v.2.2.1 y201v.2.2.2.2, F]) ?_ ?_
 refine sr ?_
 refine va rfl rfl (simL_nil (nrm_then ?_))
 refine sim_block ?_
 refine sim_loop (S := List UInt8 × Int) (Unit) (fun k s => synodlaw11_KvRestores.l3 k s.1 s.2) (fun s y => [(1, .slice a1 x1.length c1), (7, .slice y11v.1 s.1.length y11v.2), (8, .pointer none), (9, .int .i64 s16v.2.2.2), (10, .pointer (some ⟨y201v.1, 0, none⟩)), (11, .int .i64 s198v.2.2.2), (12, .bool s206v), (13, .int .i64 s.2)]) (fun s y => [obj y201v.1 85 [.slice y201v.2.1 s198v.2.1.length y201v.2.2.1, .slice y201v.2.2.2.1 s198v.2.2.1.length y201v.2.2.2.2], Row 5 1 y11v.1 s.1.length y11v.2 (encB (s.1 ++ s9v.2)), RowV 90 2 (V90 tt) y201v.2.1 s198v.2.1 y201v.2.2.1, RowV 91 4 (V91 tt) y201v.2.2.2.1 s198v.2.2.1 y201v.2.2.2.2, F]) (fun _ => by rw [synodlaw11_KvRestores.l3]) ?_ k (s9v.1, 0) () ⟨rfl, rfl, rfl, rfl, rfl, rfl, rfl, rfl, trivial⟩ (.sel 0 rfl (.sel 2 rfl (.sel 0 rfl (.sel 0 rfl (.sel 0 rfl (.nil _))))))
 intro k s211v y212v
 refine sim_eq (by rw [synodlaw11_KvRestores.l3]) ?_
 refine sim_seq (sr ?_)
 refine vm rfl rfl ?_
 refine vm rfl rfl ?_
 refine vq (q_len rfl rfl rfl Tryz.underlying23) rfl ?_
 refine vq (q_lss rfl rfl rfl) rfl (simL_nil (nrm_then ?_))
 refine sim_cond rfl (fun h215v => ?_) (fun h216v => ?_)
 refine sim_skip ?_
 refine nrm_then (sim_seq ?_)
 refine sim_block ?_
 refine sim_region ?_
 refine vm rfl rfl ?_
 refine vm rfl rfl ?_
 refine simL_ask (fun hi217v => ?_)
 refine simL_row 1 rfl (encB_ne (j := s211v.2.toNat) (by rw [List.length_append]; omega)) (fun b218v b218vo ha219v => ?_)
 refine vq (q_idx1 rfl rfl rfl ha219v Tryz.underlying23 Tryz.sizeOf5 hi217v.1 hi217v.2) rfl ?_
 refine simL_do (re_storebk 54 1 rfl rfl rfl Tryz.sizeOf5 rfl ha219v hi217v.2 hi217v.1 rfl) rfl rfl ?_
 intro _
 refine simL_ren (.slice y11v.1 ((s211v.1.set s211v.2.toNat 54).length) y11v.2) (d := 7) rfl (slc_len (by simp)) ?_
 refine simL_ren (.slice y11v.1 ((s211v.1.set s211v.2.toNat 54).length) y11v.2) (d := 52) rfl (slc_len (by simp)) ?_
 refine simL_ren (.slice y11v.1 ((s211v.1.set s211v.2.toNat 54).length) y11v.2) (d := 57) rfl (slc_len (by simp)) ?_
 refine simL_nil (nrm_block (nrm_then (sim_region ?_)))
 refine vm rfl rfl ?_
 refine vq (q_add rfl rfl rfl) rfl ?_
 refine va rfl rfl (simL_nil ?_)
 exact nrm_again (s := (s211v.1.set s211v.2.toNat 54, IntKind.i64.wrap (s211v.2 + 1))) () ⟨rfl, rfl, rfl, rfl, rfl, rfl, rfl, rfl, trivial⟩ (.sel 0 rfl (.sel 0 rfl (.sel 0 rfl (.sel 0 rfl (.sel 0 rfl (.nil _))))))
 refine sim_exi ?_
 refine exi_then ?_
 refine exi_loop ?_
 refine exi_here ?_
 exact nrm_cut (s := ()) () ⟨rfl, rfl, rfl, rfl, rfl, rfl, trivial⟩ (.sel 0 rfl (.sel 1 rfl (.sel 1 rfl (.sel 1 rfl (.nil _)))))
 intro s209v y210v
 refine sim_seq (sr ?_)
 refine vm rfl rfl ?_
 refine vq (q_not rfl rfl) rfl ?_
 refine vm rfl rfl ?_
 refine simL_cut' 5 (S := Bool) (Unit) (fun s y => [(1, .slice a1 x1.length c1), (8, .pointer none), (10, .pointer (some ⟨y201v.1, 0, none⟩)), (67, .bool s)]) (fun s y => [obj y201v.1 85 [.slice y201v.2.1 s198v.2.1.length y201v.2.2.1, .slice y201v.2.2.2.1 s198v.2.2.1.length y201v.2.2.2.2], RowV 90 2 (V90 tt) y201v.2.1 s198v.2.1 y201v.2.2.1, RowV 91 4 (V91 tt) y201v.2.2.2.1 s198v.2.2.1 y201v.2.2.2.2, F]) ?_ ?_
 refine simL_caseb (fun hb227v => ?_) (fun hb228v => ?_)
 rw [hb227v]
 refine simL_skipd rfl rfl rfl rfl rfl rfl ?_
 refine simL_skipd rfl rfl rfl rfl rfl rfl ?_
 refine simL_skipd rfl rfl rfl rfl rfl rfl ?_
 refine simL_skipd rfl rfl rfl rfl rfl rfl ?_
 refine vq (q_pick rfl rfl rfl rfl rfl) rfl (simL_nil ?_)
 exact nrm_cut (s := true) () ⟨rfl, rfl, rfl, rfl, trivial⟩ (.sel 0 rfl (.sel 0 rfl (.sel 0 rfl (.sel 0 rfl (.nil _)))))
 rw [hb228v]
 refine simL_valg (q_move rfl rfl) rfl rfl rfl rfl rfl rfl ?_
 refine simL_bind (fun s224v hs225v => ?_)
 refine simL_effg (re_call (vs := [.int .i64 s16v.2.2.2]) (cap := []) (A := []) (rst := [obj y201v.1 85 [.slice y201v.2.1 s198v.2.1.length y201v.2.2.1, .slice y201v.2.2.2.1 s198v.2.2.1.length y201v.2.2.2.2], RowV 90 2 (V90 tt) y201v.2.1 s198v.2.1 y201v.2.2.1, RowV 91 4 (V91 tt) y201v.2.2.2.1 s198v.2.2.1 y201v.2.2.2.2, F]) rfl rfl rfl rfl rfl rfl Tryz.call11 (.sel 0 rfl (.sel 0 rfl (.sel 0 rfl (.sel 0 rfl (.nil _))))) (synodref_Num.calls _ _ s16v.2.2.2 ) hs225v) rfl rfl rfl rfl rfl rfl ?_
 intro y226v
 refine simL_valg (q_move rfl rfl) rfl rfl rfl rfl rfl rfl ?_
 refine simL_valg (q_neq rfl rfl rfl) rfl rfl rfl rfl rfl rfl ?_
 refine vq (q_pick rfl rfl rfl rfl rfl) rfl (simL_nil ?_)
 exact nrm_cut (s := !decide (s224v = s198v.2.2.2)) () ⟨rfl, rfl, rfl, rfl, trivial⟩ (.sel 0 rfl (.sel 0 rfl (.sel 0 rfl (.sel 0 rfl (.nil _)))))
 intro s222v y223v
 refine vm rfl rfl ?_
 refine simL_valc (b := s222v) (fun hb233v => RQ.sub (E' := [(8, .pointer none)]) ⟨rfl, trivial⟩ (q_move rfl rfl)) rfl rfl rfl rfl rfl ?_
 refine simL_valc (b := s222v) (fun hb232v => RQ.sub (E' := [(69, .pointer none)]) ⟨lk_cv rfl hb232v, trivial⟩ (q_eqnn rfl rfl rfl Tryz.underlying26)) rfl rfl rfl rfl rfl ?_
 refine simL_valc (b := s222v) (fun hb231v => RQ.sub (E' := [(10, .pointer (some ⟨y201v.1, 0, none⟩))]) ⟨rfl, trivial⟩ (q_move rfl rfl)) rfl rfl rfl rfl rfl ?_
 refine simL_valc (b := s222v) (fun hb230v => RQ.sub (E' := [(71, .pointer (some ⟨y201v.1, 0, none⟩))]) ⟨lk_cv rfl hb230v, trivial⟩ (q_eqp rfl rfl rfl Tryz.underlying39)) rfl rfl rfl rfl rfl ?_
 refine simL_valc (b := s222v) (fun hb229v => RQ.sub (E' := [(70, .bool true), (72, .bool false)]) ⟨lk_cv rfl hb229v, lk_cv rfl hb229v, trivial⟩ (q_neb rfl rfl rfl Tryz.underlying4)) rfl rfl rfl rfl rfl ?_
 refine vq (q_or rfl rfl rfl) rfl (simL_nil (nrm_then ?_))
 refine sim_trueb (b := s222v || true) rfl (by simp) ?_
 refine sr ?_
 refine va rfl rfl (simL_nil (nrm_then (sim_rtn ?_)))
 refine rtn_then ?_
 exact rtn_fn () rfl rfl rfl (.sel 3 rfl (.nil _))
 refine simL_eff (re_call (vs := [.slice a0 x0.length c0]) (cap := []) (A := []) (rst := [Row 5 1 y11v.1 s9v.1.length y11v.2 (encB (s9v.1 ++ s9v.2)), F]) rfl rfl rfl rfl rfl rfl Tryz.call15 (.sel 0 rfl (.sel 0 rfl (.nil _))) (synodref11_Restore.callsN _ _ k a0 c0 x0 (h0.lend 1 rfl) hc0 hm0) (filt_of hs199v (eq_false_of_ne_true hb200v))) rfl rfl rfl ?_
 intro y234v
 refine vm rfl rfl ?_
 refine vq (q_ext rfl rfl rfl) rfl ?_
 refine vq (q_ext rfl rfl rfl) rfl ?_
 refine va rfl rfl ?_
 refine va rfl rfl (nx ?_)
 refine vm rfl rfl ?_
 refine vm rfl rfl ?_
 refine simL_bind (fun s239v hs240v => ?_)
 refine simL_lendt 0 rfl (fun hq235v hq236v hq237v => ?_)
 refine simL_eff (re_call (vs := [.slice y11v.1 s9v.1.length y11v.2, .slice a0 x0.length c0]) (cap := []) (A := []) (rst := [Row 5 1 y11v.1 s9v.1.length y11v.2 (encB (s9v.1 ++ s9v.2)), F]) rfl rfl rfl rfl rfl rfl Tryz.call16 (.sel 0 rfl (.sel 0 rfl (.nil _))) (synodref_Kept.calls _ _ k y11v.1 y11v.2 s9v.1 s9v.2 a0 c0 x0 (hq235v.lend 0 rfl) (by rw [encB_length, Nat.mul_one] at hq236v; exact hq236v) hq237v (h0.lend 1 rfl) hc0 hm0) hs240v) rfl rfl rfl ?_
 intro y241v
 refine va rfl rfl (simL_nil (nrm_then ?_))
 refine sim_cut (S := Unit) (Unit) (fun s y => [(1, .slice a1 x1.length c1), (8, .pointer none), (9, .int .i64 s16v.2.2.2), (10, .pointer none), (11, .int .i64 s198v.2.2.2), (12, .bool s239v)]) (fun s y => [F]) ?_ ?_
 refine sr ?_
 refine va rfl rfl (simL_nil (nrm_then ?_))
 refine sim_block ?_
 refine sim_loop (S := List UInt8 × Int) (Unit) (fun k s => synodlaw11_KvRestores.l4 k s.1 s.2) (fun s y => [(1, .slice a1 x1.length c1), (7, .slice y11v.1 s.1.length y11v.2), (8, .pointer none), (9, .int .i64 s16v.2.2.2), (10, .pointer none), (11, .int .i64 s198v.2.2.2), (12, .bool s239v), (13, .int .i64 s.2)]) (fun s y => [Row 5 1 y11v.1 s.1.length y11v.2 (encB (s.1 ++ s9v.2)), F]) (fun _ => by rw [synodlaw11_KvRestores.l4]) ?_ k (s9v.1, 0) () ⟨rfl, rfl, rfl, rfl, rfl, rfl, rfl, rfl, trivial⟩ (.sel 0 rfl (.sel 0 rfl (.nil _)))
 intro k s244v y245v
 refine sim_eq (by rw [synodlaw11_KvRestores.l4]) ?_
 refine sim_seq (sr ?_)
 refine vm rfl rfl ?_
 refine vm rfl rfl ?_
 refine vq (q_len rfl rfl rfl Tryz.underlying23) rfl ?_
 refine vq (q_lss rfl rfl rfl) rfl (simL_nil (nrm_then ?_))
 refine sim_cond rfl (fun h248v => ?_) (fun h249v => ?_)
 refine sim_skip ?_
 refine nrm_then (sim_seq ?_)
 refine sim_block ?_
 refine sim_region ?_
 refine vm rfl rfl ?_
 refine vm rfl rfl ?_
 refine simL_ask (fun hi250v => ?_)
 refine simL_row 0 rfl (encB_ne (j := s244v.2.toNat) (by rw [List.length_append]; omega)) (fun b251v b251vo ha252v => ?_)
 refine vq (q_idx1 rfl rfl rfl ha252v Tryz.underlying23 Tryz.sizeOf5 hi250v.1 hi250v.2) rfl ?_
 refine simL_do (re_storebk 54 0 rfl rfl rfl Tryz.sizeOf5 rfl ha252v hi250v.2 hi250v.1 rfl) rfl rfl ?_
 intro _
 refine simL_ren (.slice y11v.1 ((s244v.1.set s244v.2.toNat 54).length) y11v.2) (d := 7) rfl (slc_len (by simp)) ?_
 refine simL_ren (.slice y11v.1 ((s244v.1.set s244v.2.toNat 54).length) y11v.2) (d := 52) rfl (slc_len (by simp)) ?_
 refine simL_ren (.slice y11v.1 ((s244v.1.set s244v.2.toNat 54).length) y11v.2) (d := 57) rfl (slc_len (by simp)) ?_
 refine simL_nil (nrm_block (nrm_then (sim_region ?_)))
 refine vm rfl rfl ?_
 refine vq (q_add rfl rfl rfl) rfl ?_
 refine va rfl rfl (simL_nil ?_)
 exact nrm_again (s := (s244v.1.set s244v.2.toNat 54, IntKind.i64.wrap (s244v.2 + 1))) () ⟨rfl, rfl, rfl, rfl, rfl, rfl, rfl, rfl, trivial⟩ (.sel 0 rfl (.sel 0 rfl (.nil _)))
 refine sim_exi ?_
 refine exi_then ?_
 refine exi_loop ?_
 refine exi_here ?_
 exact nrm_cut (s := ()) () ⟨rfl, rfl, rfl, rfl, rfl, rfl, trivial⟩ (.sel 1 rfl (.nil _))
 intro s242v y243v
 refine sim_seq (sr ?_)
 refine vm rfl rfl ?_
 refine vq (q_not rfl rfl) rfl ?_
 refine vm rfl rfl ?_
 refine simL_cut' 5 (S := Bool) (Unit) (fun s y => [(1, .slice a1 x1.length c1), (8, .pointer none), (10, .pointer none), (67, .bool s)]) (fun s y => [F]) ?_ ?_
 refine simL_caseb (fun hb260v => ?_) (fun hb261v => ?_)
 rw [hb260v]
 refine simL_skipd rfl rfl rfl rfl rfl rfl ?_
 refine simL_skipd rfl rfl rfl rfl rfl rfl ?_
 refine simL_skipd rfl rfl rfl rfl rfl rfl ?_
 refine simL_skipd rfl rfl rfl rfl rfl rfl ?_
 refine vq (q_pick rfl rfl rfl rfl rfl) rfl (simL_nil ?_)
 exact nrm_cut (s := true) () ⟨rfl, rfl, rfl, rfl, trivial⟩ (.sel 0 rfl (.nil _))
 rw [hb261v]
 refine simL_valg (q_move rfl rfl) rfl rfl rfl rfl rfl rfl ?_
 refine simL_bind (fun s257v hs258v => ?_)
 refine simL_effg (re_call (vs := [.int .i64 s16v.2.2.2]) (cap := []) (A := []) (rst := [F]) rfl rfl rfl rfl rfl rfl Tryz.call11 (.sel 0 rfl (.nil _)) (synodref_Num.calls _ _ s16v.2.2.2 ) hs258v) rfl rfl rfl rfl rfl rfl ?_
 intro y259v
 refine simL_valg (q_move rfl rfl) rfl rfl rfl rfl rfl rfl ?_
 refine simL_valg (q_neq rfl rfl rfl) rfl rfl rfl rfl rfl rfl ?_
 refine vq (q_pick rfl rfl rfl rfl rfl) rfl (simL_nil ?_)
 exact nrm_cut (s := !decide (s257v = s198v.2.2.2)) () ⟨rfl, rfl, rfl, rfl, trivial⟩ (.sel 0 rfl (.nil _))
 intro s255v y256v
 refine vm rfl rfl ?_
 refine simL_valc (b := s255v) (fun hb268v => RQ.sub (E' := [(8, .pointer none)]) ⟨rfl, trivial⟩ (q_move rfl rfl)) rfl rfl rfl rfl rfl ?_
 refine simL_valc (b := s255v) (fun hb267v => RQ.sub (E' := [(69, .pointer none)]) ⟨lk_cv rfl hb267v, trivial⟩ (q_eqnn rfl rfl rfl Tryz.underlying26)) rfl rfl rfl rfl rfl ?_
 refine simL_valc (b := s255v) (fun hb266v => RQ.sub (E' := [(10, .pointer none)]) ⟨rfl, trivial⟩ (q_move rfl rfl)) rfl rfl rfl rfl rfl ?_
 refine simL_valc (b := s255v) (fun hb265v => RQ.sub (E' := [(71, .pointer none)]) ⟨lk_cv rfl hb265v, trivial⟩ (q_eqnn rfl rfl rfl Tryz.underlying39)) rfl rfl rfl rfl rfl ?_
 refine simL_valc (b := s255v) (fun hb264v => RQ.sub (E' := [(70, .bool true), (72, .bool true)]) ⟨lk_cv rfl hb264v, lk_cv rfl hb264v, trivial⟩ (q_neb rfl rfl rfl Tryz.underlying4)) rfl rfl rfl rfl rfl ?_
 refine vq (q_or rfl rfl rfl) rfl (simL_nil (nrm_then ?_))
 refine sim_condb rfl (fun h262v => ?_) (fun h263v => ?_)
 refine sr ?_
 refine va rfl rfl (simL_nil (nrm_then (sim_rtn ?_)))
 refine rtn_then ?_
 exact rtn_fn () rfl rfl rfl (.sel 0 rfl (.nil _))
 refine sim_skip ?_
 refine nrm_then (sim_seq (sr ?_))
 refine vm rfl rfl ?_
 refine vq (q_eqnn rfl rfl rfl Tryz.underlying39) rfl (simL_nil (nrm_then ?_))
 refine sim_true rfl ?_
 refine sr ?_
 refine va rfl rfl (simL_nil (nrm_then (sim_rtn ?_)))
 refine rtn_then ?_
 exact rtn_fn () rfl rfl rfl (.sel 0 rfl (.nil _))
end Go.Proofs.YtdaedoklkmdhcaaGreat

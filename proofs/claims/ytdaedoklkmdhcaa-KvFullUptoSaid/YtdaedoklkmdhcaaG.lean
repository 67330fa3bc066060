/- Printed by gen.py: pure functions and the proofs that the Go functions simulate them. Conditions: as each theorem says. -/
import Derived.Test.YtdaedoklkmdhcaaG3
namespace Go.Proofs.Ytdaedoklkmdhcaa
open Go.RowKit
set_option linter.unusedVariables false
set_option linter.unusedSimpArgs false
set_option maxRecDepth 20000
set_option maxHeartbeats 2000000
def synodref11_Store_Snapshot.l1 (x0_1 : List (Int × Int × Int × List UInt8)) : Nat → Int → List UInt8 → Int → Option (List UInt8 × Int)
  | 0, _, _, _ => none
  | k + 1, z43v, z44v, z45v => if z43v < (x0_1.length : Int) then (if 0 ≤ z43v ∧ z43v < (x0_1.length : Int) then ((synodref1_Writer_Int.f k z44v z45v ((x0_1.getD z43v.toNat ((0 : Int), (0 : Int), (0 : Int), ([] : List UInt8))).1)).bind fun s56v => (if 0 ≤ z43v ∧ z43v < (x0_1.length : Int) then ((synodref1_Writer_Int.f k s56v.1 s56v.2 ((x0_1.getD z43v.toNat ((0 : Int), (0 : Int), (0 : Int), ([] : List UInt8))).2.1)).bind fun s67v => (if 0 ≤ z43v ∧ z43v < (x0_1.length : Int) then ((synodref1_Writer_Int.f k s67v.1 s67v.2 ((x0_1.getD z43v.toNat ((0 : Int), (0 : Int), (0 : Int), ([] : List UInt8))).2.2.1)).bind fun s78v => (if 0 ≤ z43v ∧ z43v < (x0_1.length : Int) then ((synodref1_Writer_Text.f k s78v.1 s78v.2 ((x0_1.getD z43v.toNat ((0 : Int), (0 : Int), (0 : Int), ([] : List UInt8))).2.2.2) (1024 : Int)).bind fun s89v => (synodref11_Store_Snapshot.l1 x0_1 k (IntKind.i64.wrap (z43v + 1)) s89v.1 s89v.2)) else none)) else none)) else none)) else none) else (some (z44v, z45v))
def synodref11_Store_Snapshot.l0 (x0_0 : List (List UInt8 × List UInt8)) : Nat → Int → List UInt8 → Int → Option (List UInt8 × Int)
  | 0, _, _, _ => none
  | k + 1, z9v, z10v, z11v => if z9v < (x0_0.length : Int) then (if 0 ≤ z9v ∧ z9v < (x0_0.length : Int) then ((synodref1_Writer_Text.f k z10v z11v ((x0_0.getD z9v.toNat (([] : List UInt8), ([] : List UInt8))).1) (64 : Int)).bind fun s22v => (if 0 ≤ z9v ∧ z9v < (x0_0.length : Int) then ((synodref1_Writer_Text.f k s22v.1 s22v.2 ((x0_0.getD z9v.toNat (([] : List UInt8), ([] : List UInt8))).2) (1024 : Int)).bind fun s33v => (synodref11_Store_Snapshot.l0 x0_0 k (IntKind.i64.wrap (z9v + 1)) s33v.1 s33v.2)) else none)) else none) else (some (z10v, z11v))
def synodref11_Store_Snapshot.f (k : Nat) (x0_0 : List (List UInt8 × List UInt8)) (x0_1 : List (Int × Int × Int × List UInt8)) : Option (List UInt8) := (synodref1_Writer_Int.f k ([] : List UInt8) (0 : Int) (x0_0.length : Int)).bind fun s2v => ((synodref11_Store_Snapshot.l0 x0_0 k 0 s2v.1 s2v.2).bind fun s5v => ((synodref1_Writer_Int.f k s5v.1 s5v.2 (x0_1.length : Int)).bind fun s36v => ((synodref11_Store_Snapshot.l1 x0_1 k 0 s36v.1 s36v.2).bind fun s39v => ((synodref1_Writer_Done_s_c0p0.f s39v.1 s39v.2).bind fun s92v => (some s92v.1)))))
theorem synodref11_Store_Snapshot.calls (W : World) (F : HA) (k : Nat) (b0 : Nat) (a0_0 : Option Addr) (c0_0 : Nat) (x0_0 : List (List UInt8 × List UInt8)) (a0_1 : Option Addr) (c0_1 : Nat) (x0_1 : List (Int × Int × Int × List UInt8)) (h0_0 : RdV F 2 (V92 tt) a0_0 x0_0) (hc0_0 : x0_0.length ≤ c0_0) (hm0_0 : c0_0 ≤ maxLen) (h0_1 : RdV F 4 (V86 tt) a0_1 x0_1) (hc0_1 : x0_1.length ≤ c0_1) (hm0_1 : c0_1 ≤ maxLen) :
    Fn Try.prog W 40 [.pointer (some ⟨b0, 0, none⟩)] [obj b0 47 [.slice a0_0 x0_0.length c0_0, .slice a0_1 x0_1.length c0_1]] F (synodref11_Store_Snapshot.f k x0_0 x0_1) (fun (r : List UInt8) (y : Option Addr × Nat) => .slice y.1 r.length y.2) (fun r y => [Row 5 1 y.1 r.length y.2 (encB r), obj b0 47 [.slice a0_0 x0_0.length c0_0, .slice a0_1 x0_1.length c0_1]]) := by
 unfold synodref11_Store_Snapshot.f
 refine fn_intro 110 Try.func40 rfl Try.ntmps40 rfl ?_
 refine sim_seq (sim_region ?_)
 refine simL_val (q_asg rfl rfl) rfl rfl rfl (simL_nil (nrm_then (sim_seq (sim_region ?_))))
 refine simL_val (q_build (v := .agg #[.slice none 0 0, .int .i64 0]) rfl rfl (fun _ => by kernel_rfl)) rfl rfl rfl ?_
 refine simL_eff (re_box rfl rfl rfl) rfl rfl rfl ?_
 intro b1v
 refine simL_val (q_asg rfl rfl) rfl rfl rfl (simL_nil (nrm_then (sim_seq (sim_region ?_))))
 refine simL_val (q_move rfl rfl) rfl rfl rfl ?_
 refine simL_val (q_move rfl rfl) rfl rfl rfl ?_
 refine simL_val (q_nil rfl rfl) rfl rfl rfl ?_
 refine simL_val (q_fa rfl rfl Try.underlying47 rfl rfl Try.sizeOf44 rfl) rfl rfl rfl ?_
 refine simL_val (q_load rfl rfl Try.isAgg44 (.obj 1 rfl rfl)) rfl rfl rfl ?_
 refine simL_val (q_len rfl rfl rfl Try.underlying44) rfl rfl rfl ?_
 refine simL_bind (fun s2v hs4v => ?_)
 refine simL_eff (re_call (vs := [.pointer (some ⟨b1v, 0, none⟩), .int .i64 (x0_0.length : Int)]) (cap := []) (A := [obj b1v 117 [.slice none 0 0, .int .i64 0], Row 5 1 none ([] : List UInt8).length 0 (encB ([] : List UInt8))]) (rst := [obj b0 47 [.slice a0_0 x0_0.length c0_0, .slice a0_1 x0_1.length c0_1], F]) rfl rfl rfl rfl rfl rfl Try.call58 (.sel 0 rfl (.row_nil (.sel 0 rfl (.sel 0 rfl (.nil _))))) (synodref1_Writer_Int.calls _ _ k b1v none 0 ([] : List UInt8) (0 : Int) (x0_0.length : Int) ) hs4v) rfl rfl rfl ?_
 intro y3v
 refine simL_nil (nrm_then ?_)
 refine sim_cut (S := List UInt8 × Int) (Option Addr × Nat) (fun s y => [(0, .pointer (some ⟨b0, 0, none⟩)), (3, .pointer (some ⟨b1v, 0, none⟩))]) (fun s y => [obj b1v 117 [.slice y.1 s.1.length y.2, .int .i64 s.2], obj b0 47 [.slice a0_0 x0_0.length c0_0, .slice a0_1 x0_1.length c0_1], Row 5 1 y.1 s.1.length y.2 (encB s.1), F]) ?_ ?_
 refine sim_seq (sim_region ?_)
 refine simL_val (q_asg rfl rfl) rfl rfl rfl (simL_nil (nrm_then ?_))
 refine sim_block ?_
 refine sim_loop (S := Int × List UInt8 × Int) (Option Addr × Nat) (fun k s => synodref11_Store_Snapshot.l0 x0_0 k s.1 s.2.1 s.2.2) (fun s y => [(0, .pointer (some ⟨b0, 0, none⟩)), (3, .pointer (some ⟨b1v, 0, none⟩)), (4, .int .i64 s.1)]) (fun s y => [obj b1v 117 [.slice y.1 s.2.1.length y.2, .int .i64 s.2.2], obj b0 47 [.slice a0_0 x0_0.length c0_0, .slice a0_1 x0_1.length c0_1], Row 5 1 y.1 s.2.1.length y.2 (encB s.2.1), F]) (fun _ => by rw [synodref11_Store_Snapshot.l0]) ?_ k (0, s2v.1, s2v.2) (y3v.1, y3v.2) ⟨rfl, rfl, rfl, trivial⟩ (.sel 0 rfl (.sel 1 rfl (.sel 0 rfl (.sel 0 rfl (.nil _)))))
 intro k s7v y8v
 refine sim_eq (by rw [synodref11_Store_Snapshot.l0]) ?_
 refine sim_seq (sim_seq (sim_region ?_))
 refine simL_val (q_move rfl rfl) rfl rfl rfl ?_
 refine simL_val (q_move rfl rfl) rfl rfl rfl ?_
 refine simL_val (q_nil rfl rfl) rfl rfl rfl ?_
 refine simL_val (q_fa rfl rfl Try.underlying47 rfl rfl Try.sizeOf44 rfl) rfl rfl rfl ?_
 refine simL_val (q_load rfl rfl Try.isAgg44 (.obj 1 rfl rfl)) rfl rfl rfl ?_
 refine simL_val (q_len rfl rfl rfl Try.underlying44) rfl rfl rfl ?_
 refine simL_val (q_lss rfl rfl rfl) rfl rfl rfl (simL_nil (nrm_then ?_))
 refine sim_cond rfl (fun h12v => ?_) (fun h13v => ?_)
 refine sim_skip ?_
 refine nrm_then (sim_seq ?_)
 refine sim_block ?_
 refine sim_seq (sim_region ?_)
 refine simL_val (q_move rfl rfl) rfl rfl rfl ?_
 refine simL_val (q_move rfl rfl) rfl rfl rfl ?_
 refine simL_val (q_nil rfl rfl) rfl rfl rfl ?_
 refine simL_val (q_fa rfl rfl Try.underlying47 rfl rfl Try.sizeOf44 rfl) rfl rfl rfl ?_
 refine simL_val (q_load rfl rfl Try.isAgg44 (.obj 1 rfl rfl)) rfl rfl rfl ?_
 refine simL_val (q_move rfl rfl) rfl rfl rfl ?_
 refine simL_ask (fun hi14v => ?_)
 obtain ⟨b15v, b15vo, r18v, ha16v, hV19v, hlr20v, hcell21v⟩ := RdV.pos h0_0 (Up.refl _) rfl (i := s7v.1.toNat) (by omega) (([] : List UInt8), ([] : List UInt8))
 obtain rfl := hV19v
 refine simL_val (q_idx rfl rfl rfl ha16v Try.underlying44 Try.sizeOf92 hi14v.1 hi14v.2) rfl rfl rfl ?_
 refine simL_val (q_fa rfl rfl Try.underlying92 rfl rfl Try.sizeOf9 rfl) rfl rfl rfl ?_
 refine simL_val (q_load rfl rfl Try.isAgg9 (hcell21v 3 rfl 0 _ rfl)) rfl rfl rfl ?_
 refine simL_bind (fun s22v hs24v => ?_)
 refine simL_eff (re_call (vs := [.pointer (some ⟨b1v, 0, none⟩), str ((x0_0.getD s7v.1.toNat (([] : List UInt8), ([] : List UInt8))).1), .int .i64 64]) (cap := []) (A := [obj b1v 117 [.slice y8v.1 s7v.2.1.length y8v.2, .int .i64 s7v.2.2], Row 5 1 y8v.1 s7v.2.1.length y8v.2 (encB s7v.2.1)]) (rst := [obj b0 47 [.slice a0_0 x0_0.length c0_0, .slice a0_1 x0_1.length c0_1], F]) rfl rfl rfl rfl rfl rfl Try.call59 (.sel 0 rfl (.sel 1 rfl (.sel 0 rfl (.sel 0 rfl (.nil _))))) (synodref1_Writer_Text.calls _ _ k b1v y8v.1 y8v.2 s7v.2.1 s7v.2.2 ((x0_0.getD s7v.1.toNat (([] : List UInt8), ([] : List UInt8))).1) (64 : Int) ) hs24v) rfl rfl rfl ?_
 intro y23v
 refine simL_nil (nrm_then (sim_region ?_))
 refine simL_val (q_move rfl rfl) rfl rfl rfl ?_
 refine simL_val (q_move rfl rfl) rfl rfl rfl ?_
 refine simL_val (q_nil rfl rfl) rfl rfl rfl ?_
 refine simL_val (q_fa rfl rfl Try.underlying47 rfl rfl Try.sizeOf44 rfl) rfl rfl rfl ?_
 refine simL_val (q_load rfl rfl Try.isAgg44 (.obj 2 rfl rfl)) rfl rfl rfl ?_
 refine simL_val (q_move rfl rfl) rfl rfl rfl ?_
 refine simL_ask (fun hi25v => ?_)
 obtain ⟨b26v, b26vo, r29v, ha27v, hV30v, hlr31v, hcell32v⟩ := RdV.pos h0_0 (Up.refl _) rfl (i := s7v.1.toNat) (by omega) (([] : List UInt8), ([] : List UInt8))
 obtain rfl := hV30v
 refine simL_val (q_idx rfl rfl rfl ha27v Try.underlying44 Try.sizeOf92 hi25v.1 hi25v.2) rfl rfl rfl ?_
 refine simL_val (q_fa rfl rfl Try.underlying92 rfl rfl Try.sizeOf9 rfl) rfl rfl rfl ?_
 refine simL_val (q_load rfl rfl Try.isAgg9 (hcell32v 3 rfl 1 _ rfl)) rfl rfl rfl ?_
 refine simL_bind (fun s33v hs35v => ?_)
 refine simL_eff (re_call (vs := [.pointer (some ⟨b1v, 0, none⟩), str ((x0_0.getD s7v.1.toNat (([] : List UInt8), ([] : List UInt8))).2), .int .i64 1024]) (cap := []) (A := [obj b1v 117 [.slice y23v.1 s22v.1.length y23v.2, .int .i64 s22v.2], Row 5 1 y23v.1 s22v.1.length y23v.2 (encB s22v.1)]) (rst := [obj b0 47 [.slice a0_0 x0_0.length c0_0, .slice a0_1 x0_1.length c0_1], F]) rfl rfl rfl rfl rfl rfl Try.call59 (.sel 0 rfl (.sel 0 rfl (.sel 0 rfl (.sel 0 rfl (.nil _))))) (synodref1_Writer_Text.calls _ _ k b1v y23v.1 y23v.2 s22v.1 s22v.2 ((x0_0.getD s7v.1.toNat (([] : List UInt8), ([] : List UInt8))).2) (1024 : Int) ) hs35v) rfl rfl rfl ?_
 intro y34v
 refine simL_nil (nrm_block (nrm_then (sim_region ?_)))
 refine simL_val (q_move rfl rfl) rfl rfl rfl ?_
 refine simL_val (q_add rfl rfl rfl) rfl rfl rfl ?_
 refine simL_val (q_asg rfl rfl) rfl rfl rfl (simL_nil ?_)
 exact nrm_again (s := (IntKind.i64.wrap (s7v.1 + 1), s33v.1, s33v.2)) (y34v.1, y34v.2) ⟨rfl, rfl, rfl, trivial⟩ (.sel 0 rfl (.sel 1 rfl (.sel 0 rfl (.sel 0 rfl (.nil _)))))
 refine sim_exi ?_
 refine exi_then ?_
 refine exi_loop ?_
 refine exi_here ?_
 exact nrm_cut (s := (s7v.2.1, s7v.2.2)) (y8v.1, y8v.2) ⟨rfl, rfl, trivial⟩ (.sel 0 rfl (.sel 0 rfl (.sel 0 rfl (.sel 0 rfl (.nil _)))))
 intro s5v y6v
 refine sim_seq (sim_region ?_)
 refine simL_val (q_move rfl rfl) rfl rfl rfl ?_
 refine simL_val (q_move rfl rfl) rfl rfl rfl ?_
 refine simL_val (q_nil rfl rfl) rfl rfl rfl ?_
 refine simL_val (q_fa rfl rfl Try.underlying47 rfl rfl Try.sizeOf45 rfl) rfl rfl rfl ?_
 refine simL_val (q_load rfl rfl Try.isAgg45 (.obj 1 rfl rfl)) rfl rfl rfl ?_
 refine simL_val (q_len rfl rfl rfl Try.underlying45) rfl rfl rfl ?_
 refine simL_bind (fun s36v hs38v => ?_)
 refine simL_eff (re_call (vs := [.pointer (some ⟨b1v, 0, none⟩), .int .i64 (x0_1.length : Int)]) (cap := []) (A := [obj b1v 117 [.slice y6v.1 s5v.1.length y6v.2, .int .i64 s5v.2], Row 5 1 y6v.1 s5v.1.length y6v.2 (encB s5v.1)]) (rst := [obj b0 47 [.slice a0_0 x0_0.length c0_0, .slice a0_1 x0_1.length c0_1], F]) rfl rfl rfl rfl rfl rfl Try.call58 (.sel 0 rfl (.sel 1 rfl (.sel 0 rfl (.sel 0 rfl (.nil _))))) (synodref1_Writer_Int.calls _ _ k b1v y6v.1 y6v.2 s5v.1 s5v.2 (x0_1.length : Int) ) hs38v) rfl rfl rfl ?_
 intro y37v
 refine simL_nil (nrm_then ?_)
 refine sim_cut (S := List UInt8 × Int) (Option Addr × Nat) (fun s y => [(3, .pointer (some ⟨b1v, 0, none⟩))]) (fun s y => [obj b1v 117 [.slice y.1 s.1.length y.2, .int .i64 s.2], obj b0 47 [.slice a0_0 x0_0.length c0_0, .slice a0_1 x0_1.length c0_1], Row 5 1 y.1 s.1.length y.2 (encB s.1), F]) ?_ ?_
 refine sim_seq (sim_region ?_)
 refine simL_val (q_asg rfl rfl) rfl rfl rfl (simL_nil (nrm_then ?_))
 refine sim_block ?_
 refine sim_loop (S := Int × List UInt8 × Int) (Option Addr × Nat) (fun k s => synodref11_Store_Snapshot.l1 x0_1 k s.1 s.2.1 s.2.2) (fun s y => [(0, .pointer (some ⟨b0, 0, none⟩)), (3, .pointer (some ⟨b1v, 0, none⟩)), (5, .int .i64 s.1)]) (fun s y => [obj b1v 117 [.slice y.1 s.2.1.length y.2, .int .i64 s.2.2], obj b0 47 [.slice a0_0 x0_0.length c0_0, .slice a0_1 x0_1.length c0_1], Row 5 1 y.1 s.2.1.length y.2 (encB s.2.1), F]) (fun _ => by rw [synodref11_Store_Snapshot.l1]) ?_ k (0, s36v.1, s36v.2) (y37v.1, y37v.2) ⟨rfl, rfl, rfl, trivial⟩ (.sel 0 rfl (.sel 1 rfl (.sel 0 rfl (.sel 0 rfl (.nil _)))))
 intro k s41v y42v
 refine sim_eq (by rw [synodref11_Store_Snapshot.l1]) ?_
 refine sim_seq (sim_seq (sim_region ?_))
 refine simL_val (q_move rfl rfl) rfl rfl rfl ?_
 refine simL_val (q_move rfl rfl) rfl rfl rfl ?_
 refine simL_val (q_nil rfl rfl) rfl rfl rfl ?_
 refine simL_val (q_fa rfl rfl Try.underlying47 rfl rfl Try.sizeOf45 rfl) rfl rfl rfl ?_
 refine simL_val (q_load rfl rfl Try.isAgg45 (.obj 1 rfl rfl)) rfl rfl rfl ?_
 refine simL_val (q_len rfl rfl rfl Try.underlying45) rfl rfl rfl ?_
 refine simL_val (q_lss rfl rfl rfl) rfl rfl rfl (simL_nil (nrm_then ?_))
 refine sim_cond rfl (fun h46v => ?_) (fun h47v => ?_)
 refine sim_skip ?_
 refine nrm_then (sim_seq ?_)
 refine sim_block ?_
 refine sim_seq (sim_region ?_)
 refine simL_val (q_move rfl rfl) rfl rfl rfl ?_
 refine simL_val (q_move rfl rfl) rfl rfl rfl ?_
 refine simL_val (q_nil rfl rfl) rfl rfl rfl ?_
 refine simL_val (q_fa rfl rfl Try.underlying47 rfl rfl Try.sizeOf45 rfl) rfl rfl rfl ?_
 refine simL_val (q_load rfl rfl Try.isAgg45 (.obj 1 rfl rfl)) rfl rfl rfl ?_
 refine simL_val (q_move rfl rfl) rfl rfl rfl ?_
 refine simL_ask (fun hi48v => ?_)
 obtain ⟨b49v, b49vo, r52v, ha50v, hV53v, hlr54v, hcell55v⟩ := RdV.pos h0_1 (Up.refl _) rfl (i := s41v.1.toNat) (by omega) ((0 : Int), (0 : Int), (0 : Int), ([] : List UInt8))
 obtain rfl := hV53v
 refine simL_val (q_idx rfl rfl rfl ha50v Try.underlying45 Try.sizeOf86 hi48v.1 hi48v.2) rfl rfl rfl ?_
 refine simL_val (q_fa rfl rfl Try.underlying86 rfl rfl Try.sizeOf3 rfl) rfl rfl rfl ?_
 refine simL_val (q_load rfl rfl Try.isAgg3 (hcell55v 3 rfl 0 _ rfl)) rfl rfl rfl ?_
 refine simL_bind (fun s56v hs58v => ?_)
 refine simL_eff (re_call (vs := [.pointer (some ⟨b1v, 0, none⟩), .int .i64 ((x0_1.getD s41v.1.toNat ((0 : Int), (0 : Int), (0 : Int), ([] : List UInt8))).1)]) (cap := []) (A := [obj b1v 117 [.slice y42v.1 s41v.2.1.length y42v.2, .int .i64 s41v.2.2], Row 5 1 y42v.1 s41v.2.1.length y42v.2 (encB s41v.2.1)]) (rst := [obj b0 47 [.slice a0_0 x0_0.length c0_0, .slice a0_1 x0_1.length c0_1], F]) rfl rfl rfl rfl rfl rfl Try.call58 (.sel 0 rfl (.sel 1 rfl (.sel 0 rfl (.sel 0 rfl (.nil _))))) (synodref1_Writer_Int.calls _ _ k b1v y42v.1 y42v.2 s41v.2.1 s41v.2.2 ((x0_1.getD s41v.1.toNat ((0 : Int), (0 : Int), (0 : Int), ([] : List UInt8))).1) ) hs58v) rfl rfl rfl ?_
 intro y57v
 refine simL_nil (nrm_then (sim_seq (sim_region ?_)))
 refine simL_val (q_move rfl rfl) rfl rfl rfl ?_
 refine simL_val (q_move rfl rfl) rfl rfl rfl ?_
 refine simL_val (q_nil rfl rfl) rfl rfl rfl ?_
 refine simL_val (q_fa rfl rfl Try.underlying47 rfl rfl Try.sizeOf45 rfl) rfl rfl rfl ?_
 refine simL_val (q_load rfl rfl Try.isAgg45 (.obj 2 rfl rfl)) rfl rfl rfl ?_
 refine simL_val (q_move rfl rfl) rfl rfl rfl ?_
 refine simL_ask (fun hi59v => ?_)
 obtain ⟨b60v, b60vo, r63v, ha61v, hV64v, hlr65v, hcell66v⟩ := RdV.pos h0_1 (Up.refl _) rfl (i := s41v.1.toNat) (by omega) ((0 : Int), (0 : Int), (0 : Int), ([] : List UInt8))
 obtain rfl := hV64v
 refine simL_val (q_idx rfl rfl rfl ha61v Try.underlying45 Try.sizeOf86 hi59v.1 hi59v.2) rfl rfl rfl ?_
 refine simL_val (q_fa rfl rfl Try.underlying86 rfl rfl Try.sizeOf3 rfl) rfl rfl rfl ?_
 refine simL_val (q_load rfl rfl Try.isAgg3 (hcell66v 3 rfl 1 _ rfl)) rfl rfl rfl ?_
 refine simL_bind (fun s67v hs69v => ?_)
 refine simL_eff (re_call (vs := [.pointer (some ⟨b1v, 0, none⟩), .int .i64 ((x0_1.getD s41v.1.toNat ((0 : Int), (0 : Int), (0 : Int), ([] : List UInt8))).2.1)]) (cap := []) (A := [obj b1v 117 [.slice y57v.1 s56v.1.length y57v.2, .int .i64 s56v.2], Row 5 1 y57v.1 s56v.1.length y57v.2 (encB s56v.1)]) (rst := [obj b0 47 [.slice a0_0 x0_0.length c0_0, .slice a0_1 x0_1.length c0_1], F]) rfl rfl rfl rfl rfl rfl Try.call58 (.sel 0 rfl (.sel 0 rfl (.sel 0 rfl (.sel 0 rfl (.nil _))))) (synodref1_Writer_Int.calls _ _ k b1v y57v.1 y57v.2 s56v.1 s56v.2 ((x0_1.getD s41v.1.toNat ((0 : Int), (0 : Int), (0 : Int), ([] : List UInt8))).2.1) ) hs69v) rfl rfl rfl ?_
 intro y68v
 refine simL_nil (nrm_then (sim_seq (sim_region ?_)))
 refine simL_val (q_move rfl rfl) rfl rfl rfl ?_
 refine simL_val (q_move rfl rfl) rfl rfl rfl ?_
 refine simL_val (q_nil rfl rfl) rfl rfl rfl ?_
 refine simL_val (q_fa rfl rfl Try.underlying47 rfl rfl Try.sizeOf45 rfl) rfl rfl rfl ?_
 refine simL_val (q_load rfl rfl Try.isAgg45 (.obj 2 rfl rfl)) rfl rfl rfl ?_
 refine simL_val (q_move rfl rfl) rfl rfl rfl ?_
 refine simL_ask (fun hi70v => ?_)
 obtain ⟨b71v, b71vo, r74v, ha72v, hV75v, hlr76v, hcell77v⟩ := RdV.pos h0_1 (Up.refl _) rfl (i := s41v.1.toNat) (by omega) ((0 : Int), (0 : Int), (0 : Int), ([] : List UInt8))
 obtain rfl := hV75v
 refine simL_val (q_idx rfl rfl rfl ha72v Try.underlying45 Try.sizeOf86 hi70v.1 hi70v.2) rfl rfl rfl ?_
 refine simL_val (q_fa rfl rfl Try.underlying86 rfl rfl Try.sizeOf28 rfl) rfl rfl rfl ?_
 refine simL_val (q_fa rfl rfl Try.underlying28 rfl rfl Try.sizeOf3 rfl) rfl rfl rfl ?_
 refine simL_val (q_load rfl rfl Try.isAgg3 (hcell77v 3 rfl 2 _ rfl)) rfl rfl rfl ?_
 refine simL_bind (fun s78v hs80v => ?_)
 refine simL_eff (re_call (vs := [.pointer (some ⟨b1v, 0, none⟩), .int .i64 ((x0_1.getD s41v.1.toNat ((0 : Int), (0 : Int), (0 : Int), ([] : List UInt8))).2.2.1)]) (cap := []) (A := [obj b1v 117 [.slice y68v.1 s67v.1.length y68v.2, .int .i64 s67v.2], Row 5 1 y68v.1 s67v.1.length y68v.2 (encB s67v.1)]) (rst := [obj b0 47 [.slice a0_0 x0_0.length c0_0, .slice a0_1 x0_1.length c0_1], F]) rfl rfl rfl rfl rfl rfl Try.call58 (.sel 0 rfl (.sel 0 rfl (.sel 0 rfl (.sel 0 rfl (.nil _))))) (synodref1_Writer_Int.calls _ _ k b1v y68v.1 y68v.2 s67v.1 s67v.2 ((x0_1.getD s41v.1.toNat ((0 : Int), (0 : Int), (0 : Int), ([] : List UInt8))).2.2.1) ) hs80v) rfl rfl rfl ?_
 intro y79v
 refine simL_nil (nrm_then (sim_region ?_))
 refine simL_val (q_move rfl rfl) rfl rfl rfl ?_
 refine simL_val (q_move rfl rfl) rfl rfl rfl ?_
 refine simL_val (q_nil rfl rfl) rfl rfl rfl ?_
 refine simL_val (q_fa rfl rfl Try.underlying47 rfl rfl Try.sizeOf45 rfl) rfl rfl rfl ?_
 refine simL_val (q_load rfl rfl Try.isAgg45 (.obj 2 rfl rfl)) rfl rfl rfl ?_
 refine simL_val (q_move rfl rfl) rfl rfl rfl ?_
 refine simL_ask (fun hi81v => ?_)
 obtain ⟨b82v, b82vo, r85v, ha83v, hV86v, hlr87v, hcell88v⟩ := RdV.pos h0_1 (Up.refl _) rfl (i := s41v.1.toNat) (by omega) ((0 : Int), (0 : Int), (0 : Int), ([] : List UInt8))
 obtain rfl := hV86v
 refine simL_val (q_idx rfl rfl rfl ha83v Try.underlying45 Try.sizeOf86 hi81v.1 hi81v.2) rfl rfl rfl ?_
 refine simL_val (q_fa rfl rfl Try.underlying86 rfl rfl Try.sizeOf28 rfl) rfl rfl rfl ?_
 refine simL_val (q_fa rfl rfl Try.underlying28 rfl rfl Try.sizeOf9 rfl) rfl rfl rfl ?_
 refine simL_val (q_load rfl rfl Try.isAgg9 (hcell88v 3 rfl 3 _ rfl)) rfl rfl rfl ?_
 refine simL_bind (fun s89v hs91v => ?_)
 refine simL_eff (re_call (vs := [.pointer (some ⟨b1v, 0, none⟩), str ((x0_1.getD s41v.1.toNat ((0 : Int), (0 : Int), (0 : Int), ([] : List UInt8))).2.2.2), .int .i64 1024]) (cap := []) (A := [obj b1v 117 [.slice y79v.1 s78v.1.length y79v.2, .int .i64 s78v.2], Row 5 1 y79v.1 s78v.1.length y79v.2 (encB s78v.1)]) (rst := [obj b0 47 [.slice a0_0 x0_0.length c0_0, .slice a0_1 x0_1.length c0_1], F]) rfl rfl rfl rfl rfl rfl Try.call59 (.sel 0 rfl (.sel 0 rfl (.sel 0 rfl (.sel 0 rfl (.nil _))))) (synodref1_Writer_Text.calls _ _ k b1v y79v.1 y79v.2 s78v.1 s78v.2 ((x0_1.getD s41v.1.toNat ((0 : Int), (0 : Int), (0 : Int), ([] : List UInt8))).2.2.2) (1024 : Int) ) hs91v) rfl rfl rfl ?_
 intro y90v
 refine simL_nil (nrm_block (nrm_then (sim_region ?_)))
 refine simL_val (q_move rfl rfl) rfl rfl rfl ?_
 refine simL_val (q_add rfl rfl rfl) rfl rfl rfl ?_
 refine simL_val (q_asg rfl rfl) rfl rfl rfl (simL_nil ?_)
 exact nrm_again (s := (IntKind.i64.wrap (s41v.1 + 1), s89v.1, s89v.2)) (y90v.1, y90v.2) ⟨rfl, rfl, rfl, trivial⟩ (.sel 0 rfl (.sel 1 rfl (.sel 0 rfl (.sel 0 rfl (.nil _)))))
 refine sim_exi ?_
 refine exi_then ?_
 refine exi_loop ?_
 refine exi_here ?_
 exact nrm_cut (s := (s41v.2.1, s41v.2.2)) (y42v.1, y42v.2) ⟨rfl, trivial⟩ (.sel 0 rfl (.sel 0 rfl (.sel 0 rfl (.sel 0 rfl (.nil _)))))
 intro s39v y40v
 refine sim_seq (sim_region ?_)
 refine simL_val (q_move rfl rfl) rfl rfl rfl ?_
 refine simL_bind (fun s92v hs94v => ?_)
 refine simL_eff (re_call (vs := [.pointer (some ⟨b1v, 0, none⟩)]) (cap := []) (A := [obj b1v 117 [.slice y40v.1 s39v.1.length y40v.2, .int .i64 s39v.2], Row 5 1 y40v.1 s39v.1.length y40v.2 (encB s39v.1)]) (rst := [obj b0 47 [.slice a0_0 x0_0.length c0_0, .slice a0_1 x0_1.length c0_1], F]) rfl rfl rfl rfl rfl rfl Try.call60 (.sel 0 rfl (.sel 1 rfl (.sel 0 rfl (.sel 0 rfl (.nil _))))) (synodref1_Writer_Done_s_c0p0.calls _ _ b1v y40v.1 y40v.2 s39v.1 s39v.2 ) hs94v) rfl rfl rfl ?_
 intro y93v
 refine simL_val (q_move rfl rfl) rfl rfl rfl ?_
 refine simL_val (q_ext rfl rfl rfl) rfl rfl rfl ?_
 refine simL_val (q_ext rfl rfl rfl) rfl rfl rfl ?_
 refine simL_val (q_asg rfl rfl) rfl rfl rfl ?_
 refine simL_val (q_asg rfl rfl) rfl rfl rfl (simL_nil (nrm_then (sim_seq (sim_region ?_))))
 refine simL_val (q_move rfl rfl) rfl rfl rfl ?_
 refine simL_val (q_asg rfl rfl) rfl rfl rfl (simL_nil (nrm_then (sim_rtn ?_)))
 exact rtn_fn (y93v.1, y93v.2) rfl rfl rfl (.sel 0 rfl (.sel 0 rfl (.sel 0 rfl (.nil _))))

def synodref_SameBytes.l0 (x0 : List UInt8) (x1 : List UInt8) : Nat → Int → Option ((Unit) ⊕ (Bool))
  | 0, _ => none
  | k + 1, z7v => if z7v < (x0.length : Int) then (if 0 ≤ z7v ∧ z7v < (x0.length : Int) then (if 0 ≤ z7v ∧ z7v < (x1.length : Int) then (if ((x0.getD z7v.toNat 0).toNat : Int) = ((x1.getD z7v.toNat 0).toNat : Int) then (synodref_SameBytes.l0 x0 x1 k (IntKind.i64.wrap (z7v + 1))) else (some (.inr false))) else none) else none) else (some (.inl ()))
def synodref_SameBytes.f (k : Nat) (x0 : List UInt8) (x1 : List UInt8) : Option (Bool) := if (x0.length : Int) = (x1.length : Int) then (orR (synodref_SameBytes.l0 x0 x1 k 0) fun s3v => (some true)) else (some false)
theorem synodref_SameBytes.calls (W : World) (F : HA) (k : Nat) (a0 : Option Addr) (c0 : Nat) (x0 : List UInt8) (a1 : Option Addr) (c1 : Nat) (x1 : List UInt8) (h0 : Rd F a0 (encB x0)) (hc0 : x0.length ≤ c0) (hm0 : c0 ≤ maxLen) (h1 : Rd F a1 (encB x1)) (hc1 : x1.length ≤ c1) (hm1 : c1 ≤ maxLen) :
    Fn Try.prog W 15 [.slice a0 x0.length c0, .slice a1 x1.length c1] [] F (synodref_SameBytes.f k x0 x1) (fun (r : Bool) (y : Unit) => .bool r) (fun r y => []) := by
 unfold synodref_SameBytes.f
 refine fn_intro 26 Try.func15 rfl Try.ntmps15 rfl ?_
 refine sim_seq (sim_region ?_)
 refine simL_val (q_asg rfl rfl) rfl rfl rfl (simL_nil (nrm_then (sim_seq (sim_seq (sim_region ?_)))))
 refine simL_val (q_move rfl rfl) rfl rfl rfl ?_
 refine simL_val (q_len rfl rfl rfl Try.underlying35) rfl rfl rfl ?_
 refine simL_val (q_move rfl rfl) rfl rfl rfl ?_
 refine simL_val (q_len rfl rfl rfl Try.underlying35) rfl rfl rfl ?_
 refine simL_val (q_neq rfl rfl rfl) rfl rfl rfl (simL_nil (nrm_then ?_))
 refine sim_condn rfl (fun h1v => ?_) (fun h2v => ?_)
 refine sim_skip ?_
 refine nrm_then ?_
 refine sim_cutR (S := Unit) (Unit) (fun s y => []) (fun s y => [F]) ?_ ?_
 refine sim_seq (sim_region ?_)
 refine simL_val (q_asg rfl rfl) rfl rfl rfl (simL_nil (nrm_then ?_))
 refine sim_block ?_
 refine sim_loop (S := Int) (Unit) (fun k s => synodref_SameBytes.l0 x0 x1 k s) (fun s y => [(0, .slice a0 x0.length c0), (1, .slice a1 x1.length c1), (5, .int .i64 s)]) (fun s y => [F]) (fun _ => by rw [synodref_SameBytes.l0]) ?_ k 0 () ⟨rfl, rfl, rfl, trivial⟩ (.sel 0 rfl (.nil _))
 intro k s5v y6v
 refine sim_eq (by rw [synodref_SameBytes.l0]) ?_
 refine sim_seq (sim_seq (sim_region ?_))
 refine simL_val (q_move rfl rfl) rfl rfl rfl ?_
 refine simL_val (q_move rfl rfl) rfl rfl rfl ?_
 refine simL_val (q_len rfl rfl rfl Try.underlying35) rfl rfl rfl ?_
 refine simL_val (q_lss rfl rfl rfl) rfl rfl rfl (simL_nil (nrm_then ?_))
 refine sim_cond rfl (fun h8v => ?_) (fun h9v => ?_)
 refine sim_skip ?_
 refine nrm_then (sim_seq ?_)
 refine sim_block ?_
 refine sim_seq ?_
 refine sim_ask (fun hi10v => ?_)
 obtain ⟨b11v, b11vo, ha12v⟩ := h0.pos (encB_ne (j := s5v.toNat) (by omega))
 refine sim_ask (fun hi14v => ?_)
 obtain ⟨b15v, b15vo, ha16v⟩ := h1.pos (encB_ne (j := s5v.toNat) (by omega))
 refine sim_draw (Γ := Unit) () [[], [], [0, 1], [0, 1, 2], [], [], [4, 5], [4, 5, 6], [0, 1, 2, 3, 4, 5, 6, 7]] [] [0, 1, 2, 3, 4, 5, 6, 7, 8] (fun i => [[0], [0], [0], [0], [0], [0], [0], [0], [0]].getD i []) (fun i => [[], [], [], [], [], [], [], [], []].getD i []) (fun γ i => [.slice a0 x0.length c0, .int .i64 s5v, .pointer (some ⟨b11v, b11vo + s5v.toNat, none⟩), .int .u8 ((x0.getD s5v.toNat 0).toNat : Int), .slice a1 x1.length c1, .int .i64 s5v, .pointer (some ⟨b15v, b15vo + s5v.toNat, none⟩), .int .u8 ((x1.getD s5v.toNat 0).toNat : Int), .bool (!decide (((x0.getD s5v.toNat 0).toNat : Int) = ((x1.getD s5v.toNat 0).toNat : Int)))].getD i undef) (fun j γ => [[F]].getD j []) (fun γ => [(0, .slice a0 x0.length c0), (1, .slice a1 x1.length c1), (5, .int .i64 s5v), (25, .bool (!decide (((x0.getD s5v.toNat 0).toNat : Int) = ((x1.getD s5v.toNat 0).toNat : Int))))]) mixed (by decide) (by decide) (by decide) (by decide) (by decide) (by decide) (by decide) 26 rfl (by decide) (by decide) (by decide) (Ent.refl _) ?_ ?_ (fun _ => ⟨rfl, rfl, rfl, rfl, trivial⟩) ?_
 exact (All.cons (fun γ => (All.cons (QOb.plain [(0, .slice a0 x0.length c0)] rfl rfl (.o rfl (by decide) .nil) (q_move rfl rfl) rfl) All.nil)) (All.cons (fun γ => (All.cons (QOb.plain [(5, .int .i64 s5v)] rfl rfl (.o rfl (by decide) .nil) (q_move rfl rfl) rfl) All.nil)) (All.cons (fun γ => (All.cons (QOb.plain [(17, .slice a0 x0.length c0), (18, .int .i64 s5v)] rfl rfl (.w 0 rfl rfl rfl (.w 1 rfl rfl rfl .nil)) (q_idx1 rfl rfl rfl ha12v Try.underlying35 Try.sizeOf5 hi10v.1 hi10v.2) rfl) All.nil)) (All.cons (fun γ => (All.cons (QOb.plain [(19, .pointer (some ⟨b11v, b11vo + s5v.toNat, none⟩))] rfl rfl (.w 2 rfl rfl rfl .nil) (q_load rfl rfl Try.isAgg5 (h0.cell 0 rfl ha12v (encB_get (by omega)))) rfl) All.nil)) (All.cons (fun γ => (All.cons (QOb.plain [(1, .slice a1 x1.length c1)] rfl rfl (.o rfl (by decide) .nil) (q_move rfl rfl) rfl) All.nil)) (All.cons (fun γ => (All.cons (QOb.plain [(5, .int .i64 s5v)] rfl rfl (.o rfl (by decide) .nil) (q_move rfl rfl) rfl) All.nil)) (All.cons (fun γ => (All.cons (QOb.plain [(21, .slice a1 x1.length c1), (22, .int .i64 s5v)] rfl rfl (.w 4 rfl rfl rfl (.w 5 rfl rfl rfl .nil)) (q_idx1 rfl rfl rfl ha16v Try.underlying35 Try.sizeOf5 hi14v.1 hi14v.2) rfl) All.nil)) (All.cons (fun γ => (All.cons (QOb.plain [(23, .pointer (some ⟨b15v, b15vo + s5v.toNat, none⟩))] rfl rfl (.w 6 rfl rfl rfl .nil) (q_load rfl rfl Try.isAgg5 (h1.cell 0 rfl ha16v (encB_get (by omega)))) rfl) All.nil)) (All.cons (fun γ => (All.cons (QOb.plain [(20, .int .u8 ((x0.getD s5v.toNat 0).toNat : Int)), (24, .int .u8 ((x1.getD s5v.toNat 0).toNat : Int))] rfl rfl (.w 3 rfl rfl rfl (.w 7 rfl rfl rfl .nil)) (q_neq rfl rfl rfl) rfl) All.nil)) All.nil)))))))))
 exact All.nil
 intro g18v
 refine nrm_then ?_
 refine sim_condn rfl (fun h19v => ?_) (fun h20v => ?_)
 refine sim_skip ?_
 refine nrm_block (nrm_then (sim_region ?_))
 refine simL_val (q_move rfl rfl) rfl rfl rfl ?_
 refine simL_val (q_add rfl rfl rfl) rfl rfl rfl ?_
 refine simL_val (q_asg rfl rfl) rfl rfl rfl (simL_nil ?_)
 exact nrm_again (s := IntKind.i64.wrap (s5v + 1)) () ⟨rfl, rfl, rfl, trivial⟩ (.sel 0 rfl (.nil _))
 refine sim_seq (sim_region ?_)
 refine simL_val (q_asg rfl rfl) rfl rfl rfl (simL_nil (nrm_then (sim_rtn ?_)))
 refine rtn_block ?_
 refine rtn_then ?_
 refine rtn_loop ?_
 refine rtn_block ?_
 refine rtn_cutR ?_
 exact rtn_fn () rfl rfl rfl (.sel 0 rfl (.nil _))
 refine sim_exi ?_
 refine exi_then ?_
 refine exi_loop ?_
 refine exi_here ?_
 exact nrm_cutR (s := ()) () trivial (.sel 0 rfl (.nil _))
 intro s3v y4v
 refine sim_seq (sim_region ?_)
 refine simL_val (q_asg rfl rfl) rfl rfl rfl (simL_nil (nrm_then (sim_rtn ?_)))
 exact rtn_fn () rfl rfl rfl (.sel 0 rfl (.nil _))
 refine sim_seq (sim_region ?_)
 refine simL_val (q_asg rfl rfl) rfl rfl rfl (simL_nil (nrm_then (sim_rtn ?_)))
 refine rtn_then ?_
 exact rtn_fn () rfl rfl rfl (.sel 0 rfl (.nil _))

def synodlaw11_Same.l3 : Nat → List UInt8 → Int → Option (Unit)
  | 0, _, _ => none
  | k + 1, z146v, z147v => if z147v < (z146v.length : Int) then (if 0 ≤ z147v ∧ z147v < (z146v.length : Int) then (synodlaw11_Same.l3 k (z146v.set z147v.toNat 55) (IntKind.i64.wrap (z147v + 1))) else none) else (some ())
def synodlaw11_Same.l2 : Nat → List (List UInt8) → Int → Option (Unit)
  | 0, _, _ => none
  | k + 1, z111v, z112v => if z112v < (z111v.length : Int) then (if 0 ≤ z112v ∧ z112v < (z111v.length : Int) then (synodlaw11_Same.l2 k (z111v.set z112v.toNat ([111, 118, 101, 114] : List UInt8)) (IntKind.i64.wrap (z112v + 1))) else none) else (some ())
def synodlaw11_Same.l1 : Nat → List (Int × Int × Int × List UInt8) → Int → Option (Unit)
  | 0, _, _ => none
  | k + 1, z93v, z94v => if z94v < (z93v.length : Int) then (if 0 ≤ z94v ∧ z94v < (z93v.length : Int) then (synodlaw11_Same.l1 k (z93v.set z94v.toNat ((0 : Int), (0 : Int), (0 : Int), ([] : List UInt8))) (IntKind.i64.wrap (z94v + 1))) else none) else (some ())
def synodlaw11_Same.l0 (x0_0 : List ((List UInt8) × (List UInt8))) (x0_1 : List ((Int) × (Int × Int × Int × List UInt8))) (x1_0 : List (List UInt8 × List UInt8)) (s1v : List (List UInt8)) : Nat → Int → Option ((Unit) ⊕ (Bool))
  | 0, _ => none
  | k + 1, z27v => if z27v < (s1v.length : Int) then ((if 0 ≤ z27v ∧ z27v < (s1v.length : Int) then (if 0 ≤ z27v ∧ z27v < (x1_0.length : Int) then (if (s1v.getD z27v.toNat ([] : List UInt8)) = ((x1_0.getD z27v.toNat (([] : List UInt8), ([] : List UInt8))).1) then (if 0 ≤ z27v ∧ z27v < (s1v.length : Int) then (if 0 ≤ z27v ∧ z27v < (x1_0.length : Int) then (some (!(decide ((kv_Store_Get.v x0_0 x0_1 (s1v.getD z27v.toNat ([] : List UInt8))).1 = (1 : Int)) && (decide (((kv_Store_Get.v x0_0 x0_1 (s1v.getD z27v.toNat ([] : List UInt8))).2) = ((x1_0.getD z27v.toNat (([] : List UInt8), ([] : List UInt8))).2)))))) else none) else none) else (some true)) else none) else none).bind fun s30v => (if s30v = true then (some (.inr false)) else (synodlaw11_Same.l0 x0_0 x0_1 x1_0 s1v k (IntKind.i64.wrap (z27v + 1))))) else (some (.inl ()))
def synodlaw11_Same.f (k : Nat) (x0_0 : List ((List UInt8) × (List UInt8))) (x0_1 : List ((Int) × (Int × Int × Int × List UInt8))) (x1_0 : List (List UInt8 × List UInt8)) (x1_1 : List (Int × Int × Int × List UInt8)) : Option (Bool) := (kv_Store_Keys.f x0_0 x0_1).bind fun s1v => (if ((!decide ((s1v.length : Int) = (x1_0.length : Int))) || (!decide ((kv_Store_Len.v x0_0 x0_1) = (x1_0.length : Int)))) = true then (some false) else (orR (synodlaw11_Same.l0 x0_0 x0_1 x1_0 s1v k 0) fun s23v => ((kv_Store_Sessions.f k x0_0 x0_1).bind fun s77v => ((synodlaw11_Sessions.f k s77v x1_0 x1_1).bind fun s86v => ((synodlaw11_Same.l1 k s77v 0).bind fun s89v => ((synodlaw11_Same.l2 k s1v 0).bind fun s107v => ((kv_Store_Snapshot.f k x0_0 x0_1).bind fun s125v => ((synodref11_Store_Snapshot.f k x1_0 x1_1).bind fun s128v => ((synodref_SameBytes.f k s125v s128v).bind fun s139v => ((synodlaw11_Same.l3 k s125v 0).bind fun s142v => ((if (s86v && s139v) = true then ((kv_Store_Sessions.f k x0_0 x0_1).bind fun s157v => ((synodlaw11_Sessions.f k s157v x1_0 x1_1).bind fun s166v => (some s166v))) else (some false)).bind fun s155v => (some s155v))))))))))))
theorem synodlaw11_Same.calls (W : World) (F : HA) (k : Nat) (b0 : Nat) (m0_0 : Nat) (x0_0 : List ((List UInt8) × (List UInt8))) (m0_1 : Nat) (x0_1 : List ((Int) × (Int × Int × Int × List UInt8))) (b1 : Nat) (a1_0 : Option Addr) (c1_0 : Nat) (x1_0 : List (List UInt8 × List UInt8)) (a1_1 : Option Addr) (c1_1 : Nat) (x1_1 : List (Int × Int × Int × List UInt8)) (h1_0 : RdV F 2 (V92 tt) a1_0 x1_0) (hc1_0 : x1_0.length ≤ c1_0) (hm1_0 : c1_0 ≤ maxLen) (h1_1 : RdV F 4 (V86 tt) a1_1 x1_1) (hc1_1 : x1_1.length ≤ c1_1) (hm1_1 : c1_1 ≤ maxLen) :
    Fn Try.prog W 21 [.pointer (some ⟨b0, 0, none⟩), .pointer (some ⟨b1, 0, none⟩)] [obj b0 63 [.map (some m0_0), .map (some m0_1)], mapO m0_0 enc9 enc9 x0_0, mapO m0_1 enc3 enc42 x0_1, obj b1 47 [.slice a1_0 x1_0.length c1_0, .slice a1_1 x1_1.length c1_1]] F (synodlaw11_Same.f k x0_0 x0_1 x1_0 x1_1) (fun (r : Bool) (y : Unit) => .bool r) (fun r y => [obj b0 63 [.map (some m0_0), .map (some m0_1)], mapO m0_0 enc9 enc9 x0_0, mapO m0_1 enc3 enc42 x0_1, obj b1 47 [.slice a1_0 x1_0.length c1_0, .slice a1_1 x1_1.length c1_1]]) := by
 unfold synodlaw11_Same.f
 refine fn_intro 120 Try.func21 rfl Try.ntmps21 rfl ?_
 refine sim_seq (sim_region ?_)
 refine simL_val (q_asg rfl rfl) rfl rfl rfl (simL_nil (nrm_then (sim_seq (sim_region ?_))))
 refine simL_val (q_move rfl rfl) rfl rfl rfl ?_
 refine simL_bind (fun s1v hs3v => ?_)
 refine simL_eff (re_call (vs := [.pointer (some ⟨b0, 0, none⟩)]) (cap := []) (A := [obj b0 63 [.map (some m0_0), .map (some m0_1)], mapO m0_0 enc9 enc9 x0_0, mapO m0_1 enc3 enc42 x0_1]) (rst := [obj b1 47 [.slice a1_0 x1_0.length c1_0, .slice a1_1 x1_1.length c1_1], F]) rfl rfl rfl rfl rfl rfl Try.call38 (.sel 0 rfl (.sel 0 rfl (.sel 0 rfl (.sel 0 rfl (.sel 0 rfl (.nil _)))))) (kv_Store_Keys.calls _ _ b0 m0_0 x0_0 m0_1 x0_1 ) hs3v) rfl rfl rfl ?_
 intro y2v
 refine simL_val (q_asg rfl rfl) rfl rfl rfl (simL_nil (nrm_then (sim_seq (sim_seq ?_))))
 refine sim_openV 0 rfl (fun rs4v hl5v => ?_)
 refine sim_draw (Γ := Unit) () [[], [0], [], [2], [2, 3], [2, 3, 4], [2, 3, 4, 5], [0, 1, 2, 3, 4, 5, 6], [0, 1, 2, 3, 4, 5, 6, 7], [0, 1, 2, 3, 4, 5, 6, 7, 8], [0, 1, 2, 3, 4, 5, 6, 7, 8, 9], [0, 1, 2, 3, 4, 5, 6, 7, 8], [0, 1, 2, 3, 4, 5, 6, 7, 8, 11], [0, 1, 2, 3, 4, 5, 6, 7, 8, 11, 12], [0, 1, 2, 3, 4, 5, 6, 7, 8, 11, 12, 13], [0, 1, 2, 3, 4, 5, 6, 7, 8, 11, 12, 13, 14], [0, 1, 2, 3, 4, 5, 6, 7, 8, 9, 10, 11, 12, 13, 14, 15], [0, 1, 2, 3, 4, 5, 6, 7, 8, 9, 10, 11, 12, 13, 14, 15, 16]] [] [0, 1, 2, 3, 4, 5, 6, 7, 8, 9, 10, 11, 12, 13, 14, 15, 16, 17] (fun i => [[0], [0], [0], [0], [0], [0], [0], [0], [0], [0], [0], [0], [0], [0], [0], [0], [0], [0]].getD i []) (fun i => [[], [], [], [], [], [], [], [], [], [], [], [], [], [], [], [], [], []].getD i []) (fun γ i => [.slice y2v.1 s1v.length y2v.2, .int .i64 (s1v.length : Int), .pointer (some ⟨b1, 0, none⟩), .pointer (some ⟨b1, 0, none⟩), .pointer (some ⟨b1, 0, none⟩), .slice a1_0 x1_0.length c1_0, .int .i64 (x1_0.length : Int), .bool (!decide ((s1v.length : Int) = (x1_0.length : Int))), .bool (!decide ((s1v.length : Int) = (x1_0.length : Int))), cv ((!decide ((s1v.length : Int) = (x1_0.length : Int))) == false) (.pointer (some ⟨b0, 0, none⟩)), cv ((!decide ((s1v.length : Int) = (x1_0.length : Int))) == false) (.int .i64 (kv_Store_Len.v x0_0 x0_1)), cv ((!decide ((s1v.length : Int) = (x1_0.length : Int))) == false) (.pointer (some ⟨b1, 0, none⟩)), cv ((!decide ((s1v.length : Int) = (x1_0.length : Int))) == false) (.pointer (some ⟨b1, 0, none⟩)), cv ((!decide ((s1v.length : Int) = (x1_0.length : Int))) == false) (.pointer (some ⟨b1, 0, none⟩)), cv ((!decide ((s1v.length : Int) = (x1_0.length : Int))) == false) (.slice a1_0 x1_0.length c1_0), cv ((!decide ((s1v.length : Int) = (x1_0.length : Int))) == false) (.int .i64 (x1_0.length : Int)), cv ((!decide ((s1v.length : Int) = (x1_0.length : Int))) == false) (.bool (!decide ((kv_Store_Len.v x0_0 x0_1) = (x1_0.length : Int)))), .bool ((!decide ((s1v.length : Int) = (x1_0.length : Int))) || (!decide ((kv_Store_Len.v x0_0 x0_1) = (x1_0.length : Int))))].getD i undef) (fun j γ => [[Row 9 1 y2v.1 s1v.length y2v.2 rs4v.flatten, obj b0 63 [.map (some m0_0), .map (some m0_1)], mapO m0_0 enc9 enc9 x0_0, mapO m0_1 enc3 enc42 x0_1, obj b1 47 [.slice a1_0 x1_0.length c1_0, .slice a1_1 x1_1.length c1_1], F]].getD j []) (fun γ => [(0, .pointer (some ⟨b0, 0, none⟩)), (1, .pointer (some ⟨b1, 0, none⟩)), (5, .slice y2v.1 s1v.length y2v.2), (33, .bool ((!decide ((s1v.length : Int) = (x1_0.length : Int))) || (!decide ((kv_Store_Len.v x0_0 x0_1) = (x1_0.length : Int)))))]) mixed (by decide) (by decide) (by decide) (by decide) (by decide) (by decide) (by decide) 120 rfl (by decide) (by decide) (by decide) (Ent.refl _) ?_ ?_ (fun _ => ⟨rfl, rfl, rfl, rfl, trivial⟩) ?_
 exact (All.cons (fun γ => (All.cons (QOb.plain [(5, .slice y2v.1 s1v.length y2v.2)] rfl rfl (.o rfl (by decide) .nil) (q_move rfl rfl) rfl) All.nil)) (All.cons (fun γ => (All.cons (QOb.plain [(16, .slice y2v.1 s1v.length y2v.2)] rfl rfl (.w 0 rfl rfl rfl .nil) (q_len rfl rfl rfl Try.underlying93) rfl) All.nil)) (All.cons (fun γ => (All.cons (QOb.plain [(1, .pointer (some ⟨b1, 0, none⟩))] rfl rfl (.o rfl (by decide) .nil) (q_move rfl rfl) rfl) All.nil)) (All.cons (fun γ => (All.cons (QOb.plain [(18, .pointer (some ⟨b1, 0, none⟩))] rfl rfl (.w 2 rfl rfl rfl .nil) (q_nil rfl rfl) rfl) All.nil)) (All.cons (fun γ => (All.cons (QOb.plain [(19, .pointer (some ⟨b1, 0, none⟩))] rfl rfl (.w 3 rfl rfl rfl .nil) (q_fa rfl rfl Try.underlying47 rfl rfl Try.sizeOf44 rfl) rfl) All.nil)) (All.cons (fun γ => (All.cons (QOb.plain [(20, .pointer (some ⟨b1, 0, none⟩))] rfl rfl (.w 4 rfl rfl rfl .nil) (q_load rfl rfl Try.isAgg44 (.obj 4 rfl rfl)) rfl) All.nil)) (All.cons (fun γ => (All.cons (QOb.plain [(21, .slice a1_0 x1_0.length c1_0)] rfl rfl (.w 5 rfl rfl rfl .nil) (q_len rfl rfl rfl Try.underlying44) rfl) All.nil)) (All.cons (fun γ => (All.cons (QOb.plain [(17, .int .i64 (s1v.length : Int)), (22, .int .i64 (x1_0.length : Int))] rfl rfl (.w 1 rfl rfl rfl (.w 6 rfl rfl rfl .nil)) (q_neq rfl rfl rfl) rfl) All.nil)) (All.cons (fun γ => (All.cons (QOb.plain [(23, .bool (!decide ((s1v.length : Int) = (x1_0.length : Int))))] rfl rfl (.w 7 rfl rfl rfl .nil) (q_move rfl rfl) rfl) All.nil)) (All.cons (fun γ => (All.cons (QOb.grd (b := !decide ((s1v.length : Int) = (x1_0.length : Int))) [(0, .pointer (some ⟨b0, 0, none⟩)), (24, .bool (!decide ((s1v.length : Int) = (x1_0.length : Int))))] rfl rfl rfl rfl (.o rfl (by decide) (.w 8 rfl rfl rfl .nil)) (fun hb9v => RQ.sub (E' := [(0, .pointer (some ⟨b0, 0, none⟩))]) ⟨rfl, trivial⟩ (q_move rfl rfl)) rfl) All.nil)) (All.cons (fun γ => (All.cons (QOb.grd (b := !decide ((s1v.length : Int) = (x1_0.length : Int))) [(24, .bool (!decide ((s1v.length : Int) = (x1_0.length : Int)))), (25, cv ((!decide ((s1v.length : Int) = (x1_0.length : Int))) == false) (.pointer (some ⟨b0, 0, none⟩)))] rfl rfl rfl rfl (.w 8 rfl rfl rfl (.w 9 rfl rfl rfl .nil)) (fun hb13v => RQ.sub (E' := [(25, .pointer (some ⟨b0, 0, none⟩))]) ⟨lk_cv rfl hb13v, trivial⟩ (RE.rq (re_call (vs := [.pointer (some ⟨b0, 0, none⟩)]) (cap := []) (A := [obj b0 63 [.map (some m0_0), .map (some m0_1)], mapO m0_0 enc9 enc9 x0_0, mapO m0_1 enc3 enc42 x0_1]) (rst := [Row 9 1 y2v.1 s1v.length y2v.2 rs4v.flatten, obj b1 47 [.slice a1_0 x1_0.length c1_0, .slice a1_1 x1_1.length c1_1], F]) rfl rfl rfl rfl rfl rfl Try.call25 (.sel 1 rfl (.sel 1 rfl (.sel 1 rfl (.sel 0 rfl (.sel 0 rfl (.sel 0 rfl (.nil _))))))) (kv_Store_Len.calls _ _ b0 m0_0 x0_0 m0_1 x0_1 ) (kv_Store_Len.tot x0_0 x0_1)) (fun _ => rfl) (fun _ => (.sel 3 rfl (.sel 0 rfl (.sel 0 rfl (.sel 0 rfl (.sel 0 rfl (.sel 0 rfl (.nil _)))))))))) rfl) All.nil)) (All.cons (fun γ => (All.cons (QOb.grd (b := !decide ((s1v.length : Int) = (x1_0.length : Int))) [(1, .pointer (some ⟨b1, 0, none⟩)), (24, .bool (!decide ((s1v.length : Int) = (x1_0.length : Int))))] rfl rfl rfl rfl (.o rfl (by decide) (.w 8 rfl rfl rfl .nil)) (fun hb14v => RQ.sub (E' := [(1, .pointer (some ⟨b1, 0, none⟩))]) ⟨rfl, trivial⟩ (q_move rfl rfl)) rfl) All.nil)) (All.cons (fun γ => (All.cons (QOb.grd (b := !decide ((s1v.length : Int) = (x1_0.length : Int))) [(24, .bool (!decide ((s1v.length : Int) = (x1_0.length : Int)))), (27, cv ((!decide ((s1v.length : Int) = (x1_0.length : Int))) == false) (.pointer (some ⟨b1, 0, none⟩)))] rfl rfl rfl rfl (.w 8 rfl rfl rfl (.w 11 rfl rfl rfl .nil)) (fun hb15v => RQ.sub (E' := [(27, .pointer (some ⟨b1, 0, none⟩))]) ⟨lk_cv rfl hb15v, trivial⟩ (q_nil rfl rfl)) rfl) All.nil)) (All.cons (fun γ => (All.cons (QOb.grd (b := !decide ((s1v.length : Int) = (x1_0.length : Int))) [(24, .bool (!decide ((s1v.length : Int) = (x1_0.length : Int)))), (28, cv ((!decide ((s1v.length : Int) = (x1_0.length : Int))) == false) (.pointer (some ⟨b1, 0, none⟩)))] rfl rfl rfl rfl (.w 8 rfl rfl rfl (.w 12 rfl rfl rfl .nil)) (fun hb16v => RQ.sub (E' := [(28, .pointer (some ⟨b1, 0, none⟩))]) ⟨lk_cv rfl hb16v, trivial⟩ (q_fa rfl rfl Try.underlying47 rfl rfl Try.sizeOf44 rfl)) rfl) All.nil)) (All.cons (fun γ => (All.cons (QOb.grd (b := !decide ((s1v.length : Int) = (x1_0.length : Int))) [(24, .bool (!decide ((s1v.length : Int) = (x1_0.length : Int)))), (29, cv ((!decide ((s1v.length : Int) = (x1_0.length : Int))) == false) (.pointer (some ⟨b1, 0, none⟩)))] rfl rfl rfl rfl (.w 8 rfl rfl rfl (.w 13 rfl rfl rfl .nil)) (fun hb17v => RQ.sub (E' := [(29, .pointer (some ⟨b1, 0, none⟩))]) ⟨lk_cv rfl hb17v, trivial⟩ (q_load rfl rfl Try.isAgg44 (.obj 4 rfl rfl))) rfl) All.nil)) (All.cons (fun γ => (All.cons (QOb.grd (b := !decide ((s1v.length : Int) = (x1_0.length : Int))) [(24, .bool (!decide ((s1v.length : Int) = (x1_0.length : Int)))), (30, cv ((!decide ((s1v.length : Int) = (x1_0.length : Int))) == false) (.slice a1_0 x1_0.length c1_0))] rfl rfl rfl rfl (.w 8 rfl rfl rfl (.w 14 rfl rfl rfl .nil)) (fun hb18v => RQ.sub (E' := [(30, .slice a1_0 x1_0.length c1_0)]) ⟨lk_cv rfl hb18v, trivial⟩ (q_len rfl rfl rfl Try.underlying44)) rfl) All.nil)) (All.cons (fun γ => (All.cons (QOb.grd (b := !decide ((s1v.length : Int) = (x1_0.length : Int))) [(24, .bool (!decide ((s1v.length : Int) = (x1_0.length : Int)))), (26, cv ((!decide ((s1v.length : Int) = (x1_0.length : Int))) == false) (.int .i64 (kv_Store_Len.v x0_0 x0_1))), (31, cv ((!decide ((s1v.length : Int) = (x1_0.length : Int))) == false) (.int .i64 (x1_0.length : Int)))] rfl rfl rfl rfl (.w 8 rfl rfl rfl (.w 10 rfl rfl rfl (.w 15 rfl rfl rfl .nil))) (fun hb19v => RQ.sub (E' := [(26, .int .i64 (kv_Store_Len.v x0_0 x0_1)), (31, .int .i64 (x1_0.length : Int))]) ⟨lk_cv rfl hb19v, lk_cv rfl hb19v, trivial⟩ (q_neq rfl rfl rfl)) rfl) All.nil)) (All.cons (fun γ => (All.cons (QOb.plain [(24, .bool (!decide ((s1v.length : Int) = (x1_0.length : Int)))), (32, cv ((!decide ((s1v.length : Int) = (x1_0.length : Int))) == false) (.bool (!decide ((kv_Store_Len.v x0_0 x0_1) = (x1_0.length : Int)))))] rfl rfl (.w 8 rfl rfl rfl (.w 16 rfl rfl rfl .nil)) (q_or rfl rfl rfl) rfl) All.nil)) All.nil))))))))))))))))))
 exact All.nil
 intro g20v
 refine nrm_then ?_
 refine sim_condb rfl (fun h21v => ?_) (fun h22v => ?_)
 refine sim_seq (sim_region ?_)
 refine simL_val (q_asg rfl rfl) rfl rfl rfl (simL_nil (nrm_then (sim_rtn ?_)))
 refine rtn_then ?_
 exact rtn_fn () rfl rfl rfl (.sel 1 rfl (.sel 1 rfl (.sel 1 rfl (.sel 1 rfl (.sel 1 rfl (.nil _))))))
 refine sim_skip ?_
 refine nrm_then ?_
 refine sim_cutR (S := Unit) (Unit) (fun s y => [(0, .pointer (some ⟨b0, 0, none⟩)), (1, .pointer (some ⟨b1, 0, none⟩)), (5, .slice y2v.1 s1v.length y2v.2)]) (fun s y => [obj b0 63 [.map (some m0_0), .map (some m0_1)], obj b1 47 [.slice a1_0 x1_0.length c1_0, .slice a1_1 x1_1.length c1_1], RowV 9 1 (V9 tt) y2v.1 s1v y2v.2, mapO m0_0 enc9 enc9 x0_0, mapO m0_1 enc3 enc42 x0_1, F]) ?_ ?_
 refine sim_seq (sim_region ?_)
 refine simL_val (q_asg rfl rfl) rfl rfl rfl (simL_nil (nrm_then ?_))
 refine sim_block ?_
 refine sim_loop (S := Int) (Unit) (fun k s => synodlaw11_Same.l0 x0_0 x0_1 x1_0 s1v k s) (fun s y => [(0, .pointer (some ⟨b0, 0, none⟩)), (1, .pointer (some ⟨b1, 0, none⟩)), (5, .slice y2v.1 s1v.length y2v.2), (6, .int .i64 s)]) (fun s y => [obj b0 63 [.map (some m0_0), .map (some m0_1)], obj b1 47 [.slice a1_0 x1_0.length c1_0, .slice a1_1 x1_1.length c1_1], RowV 9 1 (V9 tt) y2v.1 s1v y2v.2, mapO m0_0 enc9 enc9 x0_0, mapO m0_1 enc3 enc42 x0_1, F]) (fun _ => by rw [synodlaw11_Same.l0]) ?_ k 0 () ⟨rfl, rfl, rfl, rfl, trivial⟩ (.sel 1 rfl (.sel 3 rfl (.sel' 0 rfl (RowV.mk hl5v) (.sel 0 rfl (.sel 0 rfl (.sel 0 rfl (.nil _)))))))
 intro k s25v y26v
 refine sim_eq (by rw [synodlaw11_Same.l0]) ?_
 refine sim_seq (sim_seq (sim_region ?_))
 refine simL_val (q_move rfl rfl) rfl rfl rfl ?_
 refine simL_val (q_move rfl rfl) rfl rfl rfl ?_
 refine simL_val (q_len rfl rfl rfl Try.underlying93) rfl rfl rfl ?_
 refine simL_val (q_lss rfl rfl rfl) rfl rfl rfl (simL_nil (nrm_then ?_))
 refine sim_cond rfl (fun h28v => ?_) (fun h29v => ?_)
 refine sim_skip ?_
 refine nrm_then (sim_seq ?_)
 refine sim_block ?_
 refine sim_cut (S := Bool) (Unit) (fun s y => [(0, .pointer (some ⟨b0, 0, none⟩)), (1, .pointer (some ⟨b1, 0, none⟩)), (5, .slice y2v.1 s1v.length y2v.2), (6, .int .i64 s25v), (70, .bool s)]) (fun s y => [obj b0 63 [.map (some m0_0), .map (some m0_1)], obj b1 47 [.slice a1_0 x1_0.length c1_0, .slice a1_1 x1_1.length c1_1], RowV 9 1 (V9 tt) y2v.1 s1v y2v.2, mapO m0_0 enc9 enc9 x0_0, mapO m0_1 enc3 enc42 x0_1, F]) ?_ ?_
 refine sim_openV 2 rfl (fun rs32v hl33v => ?_)
 refine sim_ask (fun hi34v => ?_)
 refine sim_posV 2 rfl hl33v rfl (i := s25v.toNat) (by omega) ([] : List UInt8) (fun b35v b35vo r38v ha36v hV39v hlr40v hcell41v => ?_)
 obtain rfl := hV39v
 refine sim_ask (fun hi42v => ?_)
 obtain ⟨b43v, b43vo, r46v, ha44v, hV47v, hlr48v, hcell49v⟩ := RdV.pos h1_0 (Up.refl _) rfl (i := s25v.toNat) (by omega) (([] : List UInt8), ([] : List UInt8))
 obtain rfl := hV47v
 refine sim_if (fun hk50v => ?_) (fun hk50v => ?_)
 refine sim_ask (fun hi52v => ?_)
 refine sim_posV 2 rfl hl33v rfl (i := s25v.toNat) (by omega) ([] : List UInt8) (fun b53v b53vo r56v ha54v hV57v hlr58v hcell59v => ?_)
 obtain rfl := hV57v
 refine sim_ask (fun hi63v => ?_)
 obtain ⟨b64v, b64vo, r67v, ha65v, hV68v, hlr69v, hcell70v⟩ := RdV.pos h1_0 (Up.refl _) rfl (i := s25v.toNat) (by omega) (([] : List UInt8), ([] : List UInt8))
 obtain rfl := hV68v
 refine sim_draw (Γ := Unit) () [[], [], [0, 1], [0, 1, 2], [], [4], [4, 5], [4, 5, 6], [], [4, 5, 6, 7, 8], [4, 5, 6, 7, 8, 9], [4, 5, 6, 7, 8, 9, 10], [0, 1, 2, 3, 4, 5, 6, 7, 8, 9, 10, 11], [0, 1, 2, 3, 4, 5, 6, 7, 8, 9, 10, 11, 12], [0, 1, 2, 3, 4, 5, 6, 7, 8, 9, 10, 11, 12, 13], [0, 1, 2, 3, 4, 5, 6, 7, 8, 9, 10, 11, 12, 13], [0, 1, 2, 3, 4, 5, 6, 7, 8, 9, 10, 11, 12, 13], [0, 1, 2, 3, 4, 5, 6, 7, 8, 9, 10, 11, 12, 13, 15, 16], [0, 1, 2, 3, 4, 5, 6, 7, 8, 9, 10, 11, 12, 13, 15, 16, 17], [0, 1, 2, 3, 4, 5, 6, 7, 8, 9, 10, 11, 12, 13, 14, 15, 16, 17, 18], [0, 1, 2, 3, 4, 5, 6, 7, 8, 9, 10, 11, 12, 13], [0, 1, 2, 3, 4, 5, 6, 7, 8, 9, 10, 11, 12, 13, 20], [0, 1, 2, 3, 4, 5, 6, 7, 8, 9, 10, 11, 12, 13, 20, 21], [0, 1, 2, 3, 4, 5, 6, 7, 8, 9, 10, 11, 12, 13, 20, 21, 22], [0, 1, 2, 3, 4, 5, 6, 7, 8, 9, 10, 11, 12, 13], [0, 1, 2, 3, 4, 5, 6, 7, 8, 9, 10, 11, 12, 13, 20, 21, 22, 23, 24], [0, 1, 2, 3, 4, 5, 6, 7, 8, 9, 10, 11, 12, 13, 20, 21, 22, 23, 24, 25], [0, 1, 2, 3, 4, 5, 6, 7, 8, 9, 10, 11, 12, 13, 20, 21, 22, 23, 24, 25, 26], [0, 1, 2, 3, 4, 5, 6, 7, 8, 9, 10, 11, 12, 13, 20, 21, 22, 23, 24, 25, 26, 27], [0, 1, 2, 3, 4, 5, 6, 7, 8, 9, 10, 11, 12, 13, 14, 15, 16, 17, 18, 19, 20, 21, 22, 23, 24, 25, 26, 27, 28], [0, 1, 2, 3, 4, 5, 6, 7, 8, 9, 10, 11, 12, 13, 14, 15, 16, 17, 18, 19, 20, 21, 22, 23, 24, 25, 26, 27, 28, 29]] [] [0, 1, 2, 3, 4, 5, 6, 7, 8, 9, 10, 11, 12, 13, 14, 15, 16, 17, 18, 19, 20, 21, 22, 23, 24, 25, 26, 27, 28, 29, 30] (fun i => [[0], [0], [0], [0], [0], [0], [0], [0], [0], [0], [0], [0], [0], [0], [0], [0], [0], [0], [0], [0], [0], [0], [0], [0], [0], [0], [0], [0], [0], [0], [0]].getD i []) (fun i => [[], [], [], [], [], [], [], [], [], [], [], [], [], [], [], [], [], [], [], [], [], [], [], [], [], [], [], [], [], [], []].getD i []) (fun γ i => [.slice y2v.1 s1v.length y2v.2, .int .i64 s25v, .pointer (some ⟨b35v, b35vo + s25v.toNat * 1, none⟩), str (s1v.getD s25v.toNat ([] : List UInt8)), .pointer (some ⟨b1, 0, none⟩), .pointer (some ⟨b1, 0, none⟩), .pointer (some ⟨b1, 0, none⟩), .slice a1_0 x1_0.length c1_0, .int .i64 s25v, .pointer (some ⟨b43v, b43vo + s25v.toNat * 2, none⟩), .pointer (some ⟨b43v, b43vo + s25v.toNat * 2 + 0, none⟩), str ((x1_0.getD s25v.toNat (([] : List UInt8), ([] : List UInt8))).1), .bool (!decide ((s1v.getD s25v.toNat ([] : List UInt8)) = ((x1_0.getD s25v.toNat (([] : List UInt8), ([] : List UInt8))).1))), .bool (!decide ((s1v.getD s25v.toNat ([] : List UInt8)) = ((x1_0.getD s25v.toNat (([] : List UInt8), ([] : List UInt8))).1))), .pointer (some ⟨b0, 0, none⟩), .slice y2v.1 s1v.length y2v.2, .int .i64 s25v, .pointer (some ⟨b53v, b53vo + s25v.toNat * 1, none⟩), str (s1v.getD s25v.toNat ([] : List UInt8)), .agg #[.int .i64 ((kv_Store_Get.v x0_0 x0_1 (s1v.getD s25v.toNat ([] : List UInt8))).1), str ((kv_Store_Get.v x0_0 x0_1 (s1v.getD s25v.toNat ([] : List UInt8))).2)], .pointer (some ⟨b1, 0, none⟩), .pointer (some ⟨b1, 0, none⟩), .pointer (some ⟨b1, 0, none⟩), .slice a1_0 x1_0.length c1_0, .int .i64 s25v, .pointer (some ⟨b64v, b64vo + s25v.toNat * 2, none⟩), .pointer (some ⟨b64v, b64vo + s25v.toNat * 2 + 1, none⟩), str ((x1_0.getD s25v.toNat (([] : List UInt8), ([] : List UInt8))).2), .agg #[.int .i64 1, str ((x1_0.getD s25v.toNat (([] : List UInt8), ([] : List UInt8))).2)], .bool (!(decide ((kv_Store_Get.v x0_0 x0_1 (s1v.getD s25v.toNat ([] : List UInt8))).1 = (1 : Int)) && (decide (((kv_Store_Get.v x0_0 x0_1 (s1v.getD s25v.toNat ([] : List UInt8))).2) = ((x1_0.getD s25v.toNat (([] : List UInt8), ([] : List UInt8))).2))))), .bool (!(decide ((kv_Store_Get.v x0_0 x0_1 (s1v.getD s25v.toNat ([] : List UInt8))).1 = (1 : Int)) && (decide (((kv_Store_Get.v x0_0 x0_1 (s1v.getD s25v.toNat ([] : List UInt8))).2) = ((x1_0.getD s25v.toNat (([] : List UInt8), ([] : List UInt8))).2)))))].getD i undef) (fun j γ => [[obj b0 63 [.map (some m0_0), .map (some m0_1)], obj b1 47 [.slice a1_0 x1_0.length c1_0, .slice a1_1 x1_1.length c1_1], Row 9 1 y2v.1 s1v.length y2v.2 rs32v.flatten, mapO m0_0 enc9 enc9 x0_0, mapO m0_1 enc3 enc42 x0_1, F]].getD j []) (fun γ => [(0, .pointer (some ⟨b0, 0, none⟩)), (1, .pointer (some ⟨b1, 0, none⟩)), (5, .slice y2v.1 s1v.length y2v.2), (6, .int .i64 s25v), (54, .pointer (some ⟨b0, 0, none⟩)), (55, .slice y2v.1 s1v.length y2v.2), (56, .int .i64 s25v), (57, .pointer (some ⟨b53v, b53vo + s25v.toNat * 1, none⟩)), (58, str (s1v.getD s25v.toNat ([] : List UInt8))), (59, .agg #[.int .i64 ((kv_Store_Get.v x0_0 x0_1 (s1v.getD s25v.toNat ([] : List UInt8))).1), str ((kv_Store_Get.v x0_0 x0_1 (s1v.getD s25v.toNat ([] : List UInt8))).2)]), (60, .pointer (some ⟨b1, 0, none⟩)), (61, .pointer (some ⟨b1, 0, none⟩)), (62, .pointer (some ⟨b1, 0, none⟩)), (63, .slice a1_0 x1_0.length c1_0), (64, .int .i64 s25v), (65, .pointer (some ⟨b64v, b64vo + s25v.toNat * 2, none⟩)), (66, .pointer (some ⟨b64v, b64vo + s25v.toNat * 2 + 1, none⟩)), (67, str ((x1_0.getD s25v.toNat (([] : List UInt8), ([] : List UInt8))).2)), (68, .agg #[.int .i64 1, str ((x1_0.getD s25v.toNat (([] : List UInt8), ([] : List UInt8))).2)]), (69, .bool (!(decide ((kv_Store_Get.v x0_0 x0_1 (s1v.getD s25v.toNat ([] : List UInt8))).1 = (1 : Int)) && (decide (((kv_Store_Get.v x0_0 x0_1 (s1v.getD s25v.toNat ([] : List UInt8))).2) = ((x1_0.getD s25v.toNat (([] : List UInt8), ([] : List UInt8))).2)))))), (70, .bool (!(decide ((kv_Store_Get.v x0_0 x0_1 (s1v.getD s25v.toNat ([] : List UInt8))).1 = (1 : Int)) && (decide (((kv_Store_Get.v x0_0 x0_1 (s1v.getD s25v.toNat ([] : List UInt8))).2) = ((x1_0.getD s25v.toNat (([] : List UInt8), ([] : List UInt8))).2))))))]) mixed (by decide) (by decide) (by decide) (by decide) (by decide) (by decide) (by decide) 120 rfl (by decide) (by decide) (by decide) (Ent.refl _) ?_ ?_ (fun _ => ⟨rfl, rfl, rfl, rfl, rfl, rfl, rfl, rfl, rfl, rfl, rfl, rfl, rfl, rfl, rfl, rfl, rfl, rfl, rfl, rfl, rfl, trivial⟩) ?_
 exact (All.cons (fun γ => (All.cons (QOb.plain [(5, .slice y2v.1 s1v.length y2v.2)] rfl rfl (.o rfl (by decide) .nil) (q_move rfl rfl) rfl) All.nil)) (All.cons (fun γ => (All.cons (QOb.plain [(6, .int .i64 s25v)] rfl rfl (.o rfl (by decide) .nil) (q_move rfl rfl) rfl) All.nil)) (All.cons (fun γ => (All.cons (QOb.plain [(40, .slice y2v.1 s1v.length y2v.2), (41, .int .i64 s25v)] rfl rfl (.w 0 rfl rfl rfl (.w 1 rfl rfl rfl .nil)) (q_idx rfl rfl rfl ha36v Try.underlying93 Try.sizeOf9 hi34v.1 hi34v.2) rfl) All.nil)) (All.cons (fun γ => (All.cons (QOb.plain [(42, .pointer (some ⟨b35v, b35vo + s25v.toNat * 1, none⟩))] rfl rfl (.w 2 rfl rfl rfl .nil) (q_load rfl rfl Try.isAgg9 (hcell41v 2 rfl 0 _ rfl)) rfl) All.nil)) (All.cons (fun γ => (All.cons (QOb.plain [(1, .pointer (some ⟨b1, 0, none⟩))] rfl rfl (.o rfl (by decide) .nil) (q_move rfl rfl) rfl) All.nil)) (All.cons (fun γ => (All.cons (QOb.plain [(44, .pointer (some ⟨b1, 0, none⟩))] rfl rfl (.w 4 rfl rfl rfl .nil) (q_nil rfl rfl) rfl) All.nil)) (All.cons (fun γ => (All.cons (QOb.plain [(45, .pointer (some ⟨b1, 0, none⟩))] rfl rfl (.w 5 rfl rfl rfl .nil) (q_fa rfl rfl Try.underlying47 rfl rfl Try.sizeOf44 rfl) rfl) All.nil)) (All.cons (fun γ => (All.cons (QOb.plain [(46, .pointer (some ⟨b1, 0, none⟩))] rfl rfl (.w 6 rfl rfl rfl .nil) (q_load rfl rfl Try.isAgg44 (.obj 1 rfl rfl)) rfl) All.nil)) (All.cons (fun γ => (All.cons (QOb.plain [(6, .int .i64 s25v)] rfl rfl (.o rfl (by decide) .nil) (q_move rfl rfl) rfl) All.nil)) (All.cons (fun γ => (All.cons (QOb.plain [(47, .slice a1_0 x1_0.length c1_0), (48, .int .i64 s25v)] rfl rfl (.w 7 rfl rfl rfl (.w 8 rfl rfl rfl .nil)) (q_idx rfl rfl rfl ha44v Try.underlying44 Try.sizeOf92 hi42v.1 hi42v.2) rfl) All.nil)) (All.cons (fun γ => (All.cons (QOb.plain [(49, .pointer (some ⟨b43v, b43vo + s25v.toNat * 2, none⟩))] rfl rfl (.w 9 rfl rfl rfl .nil) (q_fa rfl rfl Try.underlying92 rfl rfl Try.sizeOf9 rfl) rfl) All.nil)) (All.cons (fun γ => (All.cons (QOb.plain [(50, .pointer (some ⟨b43v, b43vo + s25v.toNat * 2 + 0, none⟩))] rfl rfl (.w 10 rfl rfl rfl .nil) (q_load rfl rfl Try.isAgg9 (hcell49v 5 rfl 0 _ rfl)) rfl) All.nil)) (All.cons (fun γ => (All.cons (QOb.plain [(43, str (s1v.getD s25v.toNat ([] : List UInt8))), (51, str ((x1_0.getD s25v.toNat (([] : List UInt8), ([] : List UInt8))).1))] rfl rfl (.w 3 rfl rfl rfl (.w 11 rfl rfl rfl .nil)) (q_nes rfl rfl rfl) rfl) All.nil)) (All.cons (fun γ => (All.cons (QOb.plain [(52, .bool (!decide ((s1v.getD s25v.toNat ([] : List UInt8)) = ((x1_0.getD s25v.toNat (([] : List UInt8), ([] : List UInt8))).1))))] rfl rfl (.w 12 rfl rfl rfl .nil) (q_move rfl rfl) rfl) All.nil)) (All.cons (fun γ => (All.cons (QOb.yes (b := !decide ((s1v.getD s25v.toNat ([] : List UInt8)) = ((x1_0.getD s25v.toNat (([] : List UInt8), ([] : List UInt8))).1))) [(0, .pointer (some ⟨b0, 0, none⟩)), (53, .bool (!decide ((s1v.getD s25v.toNat ([] : List UInt8)) = ((x1_0.getD s25v.toNat (([] : List UInt8), ([] : List UInt8))).1))))] rfl rfl rfl rfl (beq_no (ndec_no hk50v)) (.o rfl (by decide) (.w 13 rfl rfl rfl .nil)) (q_move rfl rfl) rfl) All.nil)) (All.cons (fun γ => (All.cons (QOb.yes (b := !decide ((s1v.getD s25v.toNat ([] : List UInt8)) = ((x1_0.getD s25v.toNat (([] : List UInt8), ([] : List UInt8))).1))) [(5, .slice y2v.1 s1v.length y2v.2), (53, .bool (!decide ((s1v.getD s25v.toNat ([] : List UInt8)) = ((x1_0.getD s25v.toNat (([] : List UInt8), ([] : List UInt8))).1))))] rfl rfl rfl rfl (beq_no (ndec_no hk50v)) (.o rfl (by decide) (.w 13 rfl rfl rfl .nil)) (q_move rfl rfl) rfl) All.nil)) (All.cons (fun γ => (All.cons (QOb.yes (b := !decide ((s1v.getD s25v.toNat ([] : List UInt8)) = ((x1_0.getD s25v.toNat (([] : List UInt8), ([] : List UInt8))).1))) [(6, .int .i64 s25v), (53, .bool (!decide ((s1v.getD s25v.toNat ([] : List UInt8)) = ((x1_0.getD s25v.toNat (([] : List UInt8), ([] : List UInt8))).1))))] rfl rfl rfl rfl (beq_no (ndec_no hk50v)) (.o rfl (by decide) (.w 13 rfl rfl rfl .nil)) (q_move rfl rfl) rfl) All.nil)) (All.cons (fun γ => (All.cons (QOb.yes (b := !decide ((s1v.getD s25v.toNat ([] : List UInt8)) = ((x1_0.getD s25v.toNat (([] : List UInt8), ([] : List UInt8))).1))) [(53, .bool (!decide ((s1v.getD s25v.toNat ([] : List UInt8)) = ((x1_0.getD s25v.toNat (([] : List UInt8), ([] : List UInt8))).1)))), (55, .slice y2v.1 s1v.length y2v.2), (56, .int .i64 s25v)] rfl rfl rfl rfl (beq_no (ndec_no hk50v)) (.w 13 rfl rfl rfl (.w 15 rfl rfl rfl (.w 16 rfl rfl rfl .nil))) (q_idx rfl rfl rfl ha54v Try.underlying93 Try.sizeOf9 hi52v.1 hi52v.2) rfl) All.nil)) (All.cons (fun γ => (All.cons (QOb.yes (b := !decide ((s1v.getD s25v.toNat ([] : List UInt8)) = ((x1_0.getD s25v.toNat (([] : List UInt8), ([] : List UInt8))).1))) [(53, .bool (!decide ((s1v.getD s25v.toNat ([] : List UInt8)) = ((x1_0.getD s25v.toNat (([] : List UInt8), ([] : List UInt8))).1)))), (57, .pointer (some ⟨b53v, b53vo + s25v.toNat * 1, none⟩))] rfl rfl rfl rfl (beq_no (ndec_no hk50v)) (.w 13 rfl rfl rfl (.w 17 rfl rfl rfl .nil)) (q_load rfl rfl Try.isAgg9 (hcell59v 2 rfl 0 _ rfl)) rfl) All.nil)) (All.cons (fun γ => (All.cons (QOb.yes (b := !decide ((s1v.getD s25v.toNat ([] : List UInt8)) = ((x1_0.getD s25v.toNat (([] : List UInt8), ([] : List UInt8))).1))) [(53, .bool (!decide ((s1v.getD s25v.toNat ([] : List UInt8)) = ((x1_0.getD s25v.toNat (([] : List UInt8), ([] : List UInt8))).1)))), (54, .pointer (some ⟨b0, 0, none⟩)), (58, str (s1v.getD s25v.toNat ([] : List UInt8)))] rfl rfl rfl rfl (beq_no (ndec_no hk50v)) (.w 13 rfl rfl rfl (.w 14 rfl rfl rfl (.w 18 rfl rfl rfl .nil))) (RE.rq (re_call (vs := [.pointer (some ⟨b0, 0, none⟩), str (s1v.getD s25v.toNat ([] : List UInt8))]) (cap := []) (A := [obj b0 63 [.map (some m0_0), .map (some m0_1)], mapO m0_0 enc9 enc9 x0_0, mapO m0_1 enc3 enc42 x0_1]) (rst := [obj b1 47 [.slice a1_0 x1_0.length c1_0, .slice a1_1 x1_1.length c1_1], Row 9 1 y2v.1 s1v.length y2v.2 rs32v.flatten, F]) rfl rfl rfl rfl rfl rfl Try.call19 (.sel 0 rfl (.sel 2 rfl (.sel 2 rfl (.sel 0 rfl (.sel 0 rfl (.sel 0 rfl (.nil _))))))) (kv_Store_Get.calls _ _ b0 m0_0 x0_0 m0_1 x0_1 (s1v.getD s25v.toNat ([] : List UInt8)) ) (kv_Store_Get.tot x0_0 x0_1 (s1v.getD s25v.toNat ([] : List UInt8)))) (fun _ => rfl) (fun _ => (.sel 0 rfl (.sel 2 rfl (.sel 2 rfl (.sel 0 rfl (.sel 0 rfl (.sel 0 rfl (.nil _))))))))) rfl) All.nil)) (All.cons (fun γ => (All.cons (QOb.yes (b := !decide ((s1v.getD s25v.toNat ([] : List UInt8)) = ((x1_0.getD s25v.toNat (([] : List UInt8), ([] : List UInt8))).1))) [(1, .pointer (some ⟨b1, 0, none⟩)), (53, .bool (!decide ((s1v.getD s25v.toNat ([] : List UInt8)) = ((x1_0.getD s25v.toNat (([] : List UInt8), ([] : List UInt8))).1))))] rfl rfl rfl rfl (beq_no (ndec_no hk50v)) (.o rfl (by decide) (.w 13 rfl rfl rfl .nil)) (q_move rfl rfl) rfl) All.nil)) (All.cons (fun γ => (All.cons (QOb.yes (b := !decide ((s1v.getD s25v.toNat ([] : List UInt8)) = ((x1_0.getD s25v.toNat (([] : List UInt8), ([] : List UInt8))).1))) [(53, .bool (!decide ((s1v.getD s25v.toNat ([] : List UInt8)) = ((x1_0.getD s25v.toNat (([] : List UInt8), ([] : List UInt8))).1)))), (60, .pointer (some ⟨b1, 0, none⟩))] rfl rfl rfl rfl (beq_no (ndec_no hk50v)) (.w 13 rfl rfl rfl (.w 20 rfl rfl rfl .nil)) (q_nil rfl rfl) rfl) All.nil)) (All.cons (fun γ => (All.cons (QOb.yes (b := !decide ((s1v.getD s25v.toNat ([] : List UInt8)) = ((x1_0.getD s25v.toNat (([] : List UInt8), ([] : List UInt8))).1))) [(53, .bool (!decide ((s1v.getD s25v.toNat ([] : List UInt8)) = ((x1_0.getD s25v.toNat (([] : List UInt8), ([] : List UInt8))).1)))), (61, .pointer (some ⟨b1, 0, none⟩))] rfl rfl rfl rfl (beq_no (ndec_no hk50v)) (.w 13 rfl rfl rfl (.w 21 rfl rfl rfl .nil)) (q_fa rfl rfl Try.underlying47 rfl rfl Try.sizeOf44 rfl) rfl) All.nil)) (All.cons (fun γ => (All.cons (QOb.yes (b := !decide ((s1v.getD s25v.toNat ([] : List UInt8)) = ((x1_0.getD s25v.toNat (([] : List UInt8), ([] : List UInt8))).1))) [(53, .bool (!decide ((s1v.getD s25v.toNat ([] : List UInt8)) = ((x1_0.getD s25v.toNat (([] : List UInt8), ([] : List UInt8))).1)))), (62, .pointer (some ⟨b1, 0, none⟩))] rfl rfl rfl rfl (beq_no (ndec_no hk50v)) (.w 13 rfl rfl rfl (.w 22 rfl rfl rfl .nil)) (q_load rfl rfl Try.isAgg44 (.obj 1 rfl rfl)) rfl) All.nil)) (All.cons (fun γ => (All.cons (QOb.yes (b := !decide ((s1v.getD s25v.toNat ([] : List UInt8)) = ((x1_0.getD s25v.toNat (([] : List UInt8), ([] : List UInt8))).1))) [(6, .int .i64 s25v), (53, .bool (!decide ((s1v.getD s25v.toNat ([] : List UInt8)) = ((x1_0.getD s25v.toNat (([] : List UInt8), ([] : List UInt8))).1))))] rfl rfl rfl rfl (beq_no (ndec_no hk50v)) (.o rfl (by decide) (.w 13 rfl rfl rfl .nil)) (q_move rfl rfl) rfl) All.nil)) (All.cons (fun γ => (All.cons (QOb.yes (b := !decide ((s1v.getD s25v.toNat ([] : List UInt8)) = ((x1_0.getD s25v.toNat (([] : List UInt8), ([] : List UInt8))).1))) [(53, .bool (!decide ((s1v.getD s25v.toNat ([] : List UInt8)) = ((x1_0.getD s25v.toNat (([] : List UInt8), ([] : List UInt8))).1)))), (63, .slice a1_0 x1_0.length c1_0), (64, .int .i64 s25v)] rfl rfl rfl rfl (beq_no (ndec_no hk50v)) (.w 13 rfl rfl rfl (.w 23 rfl rfl rfl (.w 24 rfl rfl rfl .nil))) (q_idx rfl rfl rfl ha65v Try.underlying44 Try.sizeOf92 hi63v.1 hi63v.2) rfl) All.nil)) (All.cons (fun γ => (All.cons (QOb.yes (b := !decide ((s1v.getD s25v.toNat ([] : List UInt8)) = ((x1_0.getD s25v.toNat (([] : List UInt8), ([] : List UInt8))).1))) [(53, .bool (!decide ((s1v.getD s25v.toNat ([] : List UInt8)) = ((x1_0.getD s25v.toNat (([] : List UInt8), ([] : List UInt8))).1)))), (65, .pointer (some ⟨b64v, b64vo + s25v.toNat * 2, none⟩))] rfl rfl rfl rfl (beq_no (ndec_no hk50v)) (.w 13 rfl rfl rfl (.w 25 rfl rfl rfl .nil)) (q_fa rfl rfl Try.underlying92 rfl rfl Try.sizeOf9 rfl) rfl) All.nil)) (All.cons (fun γ => (All.cons (QOb.yes (b := !decide ((s1v.getD s25v.toNat ([] : List UInt8)) = ((x1_0.getD s25v.toNat (([] : List UInt8), ([] : List UInt8))).1))) [(53, .bool (!decide ((s1v.getD s25v.toNat ([] : List UInt8)) = ((x1_0.getD s25v.toNat (([] : List UInt8), ([] : List UInt8))).1)))), (66, .pointer (some ⟨b64v, b64vo + s25v.toNat * 2 + 1, none⟩))] rfl rfl rfl rfl (beq_no (ndec_no hk50v)) (.w 13 rfl rfl rfl (.w 26 rfl rfl rfl .nil)) (q_load rfl rfl Try.isAgg9 (hcell70v 5 rfl 1 _ rfl)) rfl) All.nil)) (All.cons (fun γ => (All.cons (QOb.yes (b := !decide ((s1v.getD s25v.toNat ([] : List UInt8)) = ((x1_0.getD s25v.toNat (([] : List UInt8), ([] : List UInt8))).1))) [(53, .bool (!decide ((s1v.getD s25v.toNat ([] : List UInt8)) = ((x1_0.getD s25v.toNat (([] : List UInt8), ([] : List UInt8))).1)))), (67, str ((x1_0.getD s25v.toNat (([] : List UInt8), ([] : List UInt8))).2))] rfl rfl rfl rfl (beq_no (ndec_no hk50v)) (.w 13 rfl rfl rfl (.w 27 rfl rfl rfl .nil)) (q_build (v := .agg #[.int .i64 1, str ((x1_0.getD s25v.toNat (([] : List UInt8), ([] : List UInt8))).2)]) rfl rfl (fun _ => by kernel_rfl)) rfl) All.nil)) (All.cons (fun γ => (All.cons (QOb.yes (b := !decide ((s1v.getD s25v.toNat ([] : List UInt8)) = ((x1_0.getD s25v.toNat (([] : List UInt8), ([] : List UInt8))).1))) [(53, .bool (!decide ((s1v.getD s25v.toNat ([] : List UInt8)) = ((x1_0.getD s25v.toNat (([] : List UInt8), ([] : List UInt8))).1)))), (59, .agg #[.int .i64 ((kv_Store_Get.v x0_0 x0_1 (s1v.getD s25v.toNat ([] : List UInt8))).1), str ((kv_Store_Get.v x0_0 x0_1 (s1v.getD s25v.toNat ([] : List UInt8))).2)]), (68, .agg #[.int .i64 1, str ((x1_0.getD s25v.toNat (([] : List UInt8), ([] : List UInt8))).2)])] rfl rfl rfl rfl (beq_no (ndec_no hk50v)) (.w 13 rfl rfl rfl (.w 19 rfl rfl rfl (.w 28 rfl rfl rfl .nil))) (q_neagg rfl rfl rfl (by kernel_rfl) (fun d w => eqi_struct Try.underlying28 (by kernel_rfl) (eqf_cons (by rfl) (part_of Try.isAgg3 rfl) (part_of Try.isAgg3 rfl) (eqi_int Try.underlying3) (eqf_last (by rfl) (part_of Try.isAgg9 rfl) (part_of Try.isAgg9 rfl) (eqi_str Try.underlying9))))) rfl) All.nil)) (All.cons (fun γ => (All.cons (QOb.plain [(53, .bool (!decide ((s1v.getD s25v.toNat ([] : List UInt8)) = ((x1_0.getD s25v.toNat (([] : List UInt8), ([] : List UInt8))).1)))), (69, .bool (!(decide ((kv_Store_Get.v x0_0 x0_1 (s1v.getD s25v.toNat ([] : List UInt8))).1 = (1 : Int)) && (decide (((kv_Store_Get.v x0_0 x0_1 (s1v.getD s25v.toNat ([] : List UInt8))).2) = ((x1_0.getD s25v.toNat (([] : List UInt8), ([] : List UInt8))).2))))))] rfl rfl (.w 13 rfl rfl rfl (.w 29 rfl rfl rfl .nil)) (q_pick rfl rfl rfl rfl (bif_no (ndec_no hk50v) _ _)) rfl) All.nil)) All.nil)))))))))))))))))))))))))))))))
 exact All.nil
 intro g74v
 exact nrm_cut (s := !(decide ((kv_Store_Get.v x0_0 x0_1 (s1v.getD s25v.toNat ([] : List UInt8))).1 = (1 : Int)) && (decide (((kv_Store_Get.v x0_0 x0_1 (s1v.getD s25v.toNat ([] : List UInt8))).2) = ((x1_0.getD s25v.toNat (([] : List UInt8), ([] : List UInt8))).2))))) () ⟨rfl, rfl, rfl, rfl, rfl, trivial⟩ (.sel 0 rfl (.sel 0 rfl (.sel' 0 rfl (RowV.mk hl33v) (.sel 0 rfl (.sel 0 rfl (.sel 0 rfl (.nil _)))))))
 refine sim_draw (Γ := Unit) () [[], [], [0, 1], [0, 1, 2], [], [4], [4, 5], [4, 5, 6], [], [4, 5, 6, 7, 8], [4, 5, 6, 7, 8, 9], [4, 5, 6, 7, 8, 9, 10], [0, 1, 2, 3, 4, 5, 6, 7, 8, 9, 10, 11], [0, 1, 2, 3, 4, 5, 6, 7, 8, 9, 10, 11, 12], [0, 1, 2, 3, 4, 5, 6, 7, 8, 9, 10, 11, 12, 13], [0, 1, 2, 3, 4, 5, 6, 7, 8, 9, 10, 11, 12, 13], [0, 1, 2, 3, 4, 5, 6, 7, 8, 9, 10, 11, 12, 13], [0, 1, 2, 3, 4, 5, 6, 7, 8, 9, 10, 11, 12, 13, 15, 16], [0, 1, 2, 3, 4, 5, 6, 7, 8, 9, 10, 11, 12, 13, 15, 16, 17], [0, 1, 2, 3, 4, 5, 6, 7, 8, 9, 10, 11, 12, 13, 14, 15, 16, 17, 18], [0, 1, 2, 3, 4, 5, 6, 7, 8, 9, 10, 11, 12, 13], [0, 1, 2, 3, 4, 5, 6, 7, 8, 9, 10, 11, 12, 13, 20], [0, 1, 2, 3, 4, 5, 6, 7, 8, 9, 10, 11, 12, 13, 20, 21], [0, 1, 2, 3, 4, 5, 6, 7, 8, 9, 10, 11, 12, 13, 20, 21, 22], [0, 1, 2, 3, 4, 5, 6, 7, 8, 9, 10, 11, 12, 13], [0, 1, 2, 3, 4, 5, 6, 7, 8, 9, 10, 11, 12, 13, 20, 21, 22, 23, 24], [0, 1, 2, 3, 4, 5, 6, 7, 8, 9, 10, 11, 12, 13, 20, 21, 22, 23, 24, 25], [0, 1, 2, 3, 4, 5, 6, 7, 8, 9, 10, 11, 12, 13, 20, 21, 22, 23, 24, 25, 26], [0, 1, 2, 3, 4, 5, 6, 7, 8, 9, 10, 11, 12, 13, 20, 21, 22, 23, 24, 25, 26, 27], [0, 1, 2, 3, 4, 5, 6, 7, 8, 9, 10, 11, 12, 13, 14, 15, 16, 17, 18, 19, 20, 21, 22, 23, 24, 25, 26, 27, 28], [0, 1, 2, 3, 4, 5, 6, 7, 8, 9, 10, 11, 12, 13, 14, 15, 16, 17, 18, 19, 20, 21, 22, 23, 24, 25, 26, 27, 28, 29]] [] [0, 1, 2, 3, 4, 5, 6, 7, 8, 9, 10, 11, 12, 13, 14, 15, 16, 17, 18, 19, 20, 21, 22, 23, 24, 25, 26, 27, 28, 29, 30] (fun i => [[0], [0], [0], [0], [0], [0], [0], [0], [0], [0], [0], [0], [0], [0], [0], [0], [0], [0], [0], [0], [0], [0], [0], [0], [0], [0], [0], [0], [0], [0], [0]].getD i []) (fun i => [[], [], [], [], [], [], [], [], [], [], [], [], [], [], [], [], [], [], [], [], [], [], [], [], [], [], [], [], [], [], []].getD i []) (fun γ i => [.slice y2v.1 s1v.length y2v.2, .int .i64 s25v, .pointer (some ⟨b35v, b35vo + s25v.toNat * 1, none⟩), str (s1v.getD s25v.toNat ([] : List UInt8)), .pointer (some ⟨b1, 0, none⟩), .pointer (some ⟨b1, 0, none⟩), .pointer (some ⟨b1, 0, none⟩), .slice a1_0 x1_0.length c1_0, .int .i64 s25v, .pointer (some ⟨b43v, b43vo + s25v.toNat * 2, none⟩), .pointer (some ⟨b43v, b43vo + s25v.toNat * 2 + 0, none⟩), str ((x1_0.getD s25v.toNat (([] : List UInt8), ([] : List UInt8))).1), .bool (!decide ((s1v.getD s25v.toNat ([] : List UInt8)) = ((x1_0.getD s25v.toNat (([] : List UInt8), ([] : List UInt8))).1))), .bool (!decide ((s1v.getD s25v.toNat ([] : List UInt8)) = ((x1_0.getD s25v.toNat (([] : List UInt8), ([] : List UInt8))).1))), undef, undef, undef, undef, undef, undef, undef, undef, undef, undef, undef, undef, undef, undef, undef, undef, .bool true].getD i undef) (fun j γ => [[obj b0 63 [.map (some m0_0), .map (some m0_1)], obj b1 47 [.slice a1_0 x1_0.length c1_0, .slice a1_1 x1_1.length c1_1], Row 9 1 y2v.1 s1v.length y2v.2 rs32v.flatten, mapO m0_0 enc9 enc9 x0_0, mapO m0_1 enc3 enc42 x0_1, F]].getD j []) (fun γ => [(0, .pointer (some ⟨b0, 0, none⟩)), (1, .pointer (some ⟨b1, 0, none⟩)), (5, .slice y2v.1 s1v.length y2v.2), (6, .int .i64 s25v), (54, undef), (55, undef), (56, undef), (57, undef), (58, undef), (59, undef), (60, undef), (61, undef), (62, undef), (63, undef), (64, undef), (65, undef), (66, undef), (67, undef), (68, undef), (69, undef), (70, .bool true)]) mixed (by decide) (by decide) (by decide) (by decide) (by decide) (by decide) (by decide) 120 rfl (by decide) (by decide) (by decide) (Ent.refl _) ?_ ?_ (fun _ => ⟨rfl, rfl, rfl, rfl, rfl, rfl, rfl, rfl, rfl, rfl, rfl, rfl, rfl, rfl, rfl, rfl, rfl, rfl, rfl, rfl, rfl, trivial⟩) ?_
 exact (All.cons (fun γ => (All.cons (QOb.plain [(5, .slice y2v.1 s1v.length y2v.2)] rfl rfl (.o rfl (by decide) .nil) (q_move rfl rfl) rfl) All.nil)) (All.cons (fun γ => (All.cons (QOb.plain [(6, .int .i64 s25v)] rfl rfl (.o rfl (by decide) .nil) (q_move rfl rfl) rfl) All.nil)) (All.cons (fun γ => (All.cons (QOb.plain [(40, .slice y2v.1 s1v.length y2v.2), (41, .int .i64 s25v)] rfl rfl (.w 0 rfl rfl rfl (.w 1 rfl rfl rfl .nil)) (q_idx rfl rfl rfl ha36v Try.underlying93 Try.sizeOf9 hi34v.1 hi34v.2) rfl) All.nil)) (All.cons (fun γ => (All.cons (QOb.plain [(42, .pointer (some ⟨b35v, b35vo + s25v.toNat * 1, none⟩))] rfl rfl (.w 2 rfl rfl rfl .nil) (q_load rfl rfl Try.isAgg9 (hcell41v 2 rfl 0 _ rfl)) rfl) All.nil)) (All.cons (fun γ => (All.cons (QOb.plain [(1, .pointer (some ⟨b1, 0, none⟩))] rfl rfl (.o rfl (by decide) .nil) (q_move rfl rfl) rfl) All.nil)) (All.cons (fun γ => (All.cons (QOb.plain [(44, .pointer (some ⟨b1, 0, none⟩))] rfl rfl (.w 4 rfl rfl rfl .nil) (q_nil rfl rfl) rfl) All.nil)) (All.cons (fun γ => (All.cons (QOb.plain [(45, .pointer (some ⟨b1, 0, none⟩))] rfl rfl (.w 5 rfl rfl rfl .nil) (q_fa rfl rfl Try.underlying47 rfl rfl Try.sizeOf44 rfl) rfl) All.nil)) (All.cons (fun γ => (All.cons (QOb.plain [(46, .pointer (some ⟨b1, 0, none⟩))] rfl rfl (.w 6 rfl rfl rfl .nil) (q_load rfl rfl Try.isAgg44 (.obj 1 rfl rfl)) rfl) All.nil)) (All.cons (fun γ => (All.cons (QOb.plain [(6, .int .i64 s25v)] rfl rfl (.o rfl (by decide) .nil) (q_move rfl rfl) rfl) All.nil)) (All.cons (fun γ => (All.cons (QOb.plain [(47, .slice a1_0 x1_0.length c1_0), (48, .int .i64 s25v)] rfl rfl (.w 7 rfl rfl rfl (.w 8 rfl rfl rfl .nil)) (q_idx rfl rfl rfl ha44v Try.underlying44 Try.sizeOf92 hi42v.1 hi42v.2) rfl) All.nil)) (All.cons (fun γ => (All.cons (QOb.plain [(49, .pointer (some ⟨b43v, b43vo + s25v.toNat * 2, none⟩))] rfl rfl (.w 9 rfl rfl rfl .nil) (q_fa rfl rfl Try.underlying92 rfl rfl Try.sizeOf9 rfl) rfl) All.nil)) (All.cons (fun γ => (All.cons (QOb.plain [(50, .pointer (some ⟨b43v, b43vo + s25v.toNat * 2 + 0, none⟩))] rfl rfl (.w 10 rfl rfl rfl .nil) (q_load rfl rfl Try.isAgg9 (hcell49v 5 rfl 0 _ rfl)) rfl) All.nil)) (All.cons (fun γ => (All.cons (QOb.plain [(43, str (s1v.getD s25v.toNat ([] : List UInt8))), (51, str ((x1_0.getD s25v.toNat (([] : List UInt8), ([] : List UInt8))).1))] rfl rfl (.w 3 rfl rfl rfl (.w 11 rfl rfl rfl .nil)) (q_nes rfl rfl rfl) rfl) All.nil)) (All.cons (fun γ => (All.cons (QOb.plain [(52, .bool (!decide ((s1v.getD s25v.toNat ([] : List UInt8)) = ((x1_0.getD s25v.toNat (([] : List UInt8), ([] : List UInt8))).1))))] rfl rfl (.w 12 rfl rfl rfl .nil) (q_move rfl rfl) rfl) All.nil)) (All.cons (fun γ => (All.cons (QOb.no (b := !decide ((s1v.getD s25v.toNat ([] : List UInt8)) = ((x1_0.getD s25v.toNat (([] : List UInt8), ([] : List UInt8))).1))) [(0, .pointer (some ⟨b0, 0, none⟩)), (53, .bool (!decide ((s1v.getD s25v.toNat ([] : List UInt8)) = ((x1_0.getD s25v.toNat (([] : List UInt8), ([] : List UInt8))).1))))] rfl rfl rfl rfl (beq_yes' (ndec_yes hk50v)) (.o rfl (by decide) (.w 13 rfl rfl rfl .nil)) rfl) All.nil)) (All.cons (fun γ => (All.cons (QOb.no (b := !decide ((s1v.getD s25v.toNat ([] : List UInt8)) = ((x1_0.getD s25v.toNat (([] : List UInt8), ([] : List UInt8))).1))) [(5, .slice y2v.1 s1v.length y2v.2), (53, .bool (!decide ((s1v.getD s25v.toNat ([] : List UInt8)) = ((x1_0.getD s25v.toNat (([] : List UInt8), ([] : List UInt8))).1))))] rfl rfl rfl rfl (beq_yes' (ndec_yes hk50v)) (.o rfl (by decide) (.w 13 rfl rfl rfl .nil)) rfl) All.nil)) (All.cons (fun γ => (All.cons (QOb.no (b := !decide ((s1v.getD s25v.toNat ([] : List UInt8)) = ((x1_0.getD s25v.toNat (([] : List UInt8), ([] : List UInt8))).1))) [(6, .int .i64 s25v), (53, .bool (!decide ((s1v.getD s25v.toNat ([] : List UInt8)) = ((x1_0.getD s25v.toNat (([] : List UInt8), ([] : List UInt8))).1))))] rfl rfl rfl rfl (beq_yes' (ndec_yes hk50v)) (.o rfl (by decide) (.w 13 rfl rfl rfl .nil)) rfl) All.nil)) (All.cons (fun γ => (All.cons (QOb.no (b := !decide ((s1v.getD s25v.toNat ([] : List UInt8)) = ((x1_0.getD s25v.toNat (([] : List UInt8), ([] : List UInt8))).1))) [(53, .bool (!decide ((s1v.getD s25v.toNat ([] : List UInt8)) = ((x1_0.getD s25v.toNat (([] : List UInt8), ([] : List UInt8))).1)))), (55, undef), (56, undef)] rfl rfl rfl rfl (beq_yes' (ndec_yes hk50v)) (.w 13 rfl rfl rfl (.w 15 rfl rfl rfl (.w 16 rfl rfl rfl .nil))) rfl) All.nil)) (All.cons (fun γ => (All.cons (QOb.no (b := !decide ((s1v.getD s25v.toNat ([] : List UInt8)) = ((x1_0.getD s25v.toNat (([] : List UInt8), ([] : List UInt8))).1))) [(53, .bool (!decide ((s1v.getD s25v.toNat ([] : List UInt8)) = ((x1_0.getD s25v.toNat (([] : List UInt8), ([] : List UInt8))).1)))), (57, undef)] rfl rfl rfl rfl (beq_yes' (ndec_yes hk50v)) (.w 13 rfl rfl rfl (.w 17 rfl rfl rfl .nil)) rfl) All.nil)) (All.cons (fun γ => (All.cons (QOb.no (b := !decide ((s1v.getD s25v.toNat ([] : List UInt8)) = ((x1_0.getD s25v.toNat (([] : List UInt8), ([] : List UInt8))).1))) [(53, .bool (!decide ((s1v.getD s25v.toNat ([] : List UInt8)) = ((x1_0.getD s25v.toNat (([] : List UInt8), ([] : List UInt8))).1)))), (54, undef), (58, undef)] rfl rfl rfl rfl (beq_yes' (ndec_yes hk50v)) (.w 13 rfl rfl rfl (.w 14 rfl rfl rfl (.w 18 rfl rfl rfl .nil))) rfl) All.nil)) (All.cons (fun γ => (All.cons (QOb.no (b := !decide ((s1v.getD s25v.toNat ([] : List UInt8)) = ((x1_0.getD s25v.toNat (([] : List UInt8), ([] : List UInt8))).1))) [(1, .pointer (some ⟨b1, 0, none⟩)), (53, .bool (!decide ((s1v.getD s25v.toNat ([] : List UInt8)) = ((x1_0.getD s25v.toNat (([] : List UInt8), ([] : List UInt8))).1))))] rfl rfl rfl rfl (beq_yes' (ndec_yes hk50v)) (.o rfl (by decide) (.w 13 rfl rfl rfl .nil)) rfl) All.nil)) (All.cons (fun γ => (All.cons (QOb.no (b := !decide ((s1v.getD s25v.toNat ([] : List UInt8)) = ((x1_0.getD s25v.toNat (([] : List UInt8), ([] : List UInt8))).1))) [(53, .bool (!decide ((s1v.getD s25v.toNat ([] : List UInt8)) = ((x1_0.getD s25v.toNat (([] : List UInt8), ([] : List UInt8))).1)))), (60, undef)] rfl rfl rfl rfl (beq_yes' (ndec_yes hk50v)) (.w 13 rfl rfl rfl (.w 20 rfl rfl rfl .nil)) rfl) All.nil)) (All.cons (fun γ => (All.cons (QOb.no (b := !decide ((s1v.getD s25v.toNat ([] : List UInt8)) = ((x1_0.getD s25v.toNat (([] : List UInt8), ([] : List UInt8))).1))) [(53, .bool (!decide ((s1v.getD s25v.toNat ([] : List UInt8)) = ((x1_0.getD s25v.toNat (([] : List UInt8), ([] : List UInt8))).1)))), (61, undef)] rfl rfl rfl rfl (beq_yes' (ndec_yes hk50v)) (.w 13 rfl rfl rfl (.w 21 rfl rfl rfl .nil)) rfl) All.nil)) (All.cons (fun γ => (All.cons (QOb.no (b := !decide ((s1v.getD s25v.toNat ([] : List UInt8)) = ((x1_0.getD s25v.toNat (([] : List UInt8), ([] : List UInt8))).1))) [(53, .bool (!decide ((s1v.getD s25v.toNat ([] : List UInt8)) = ((x1_0.getD s25v.toNat (([] : List UInt8), ([] : List UInt8))).1)))), (62, undef)] rfl rfl rfl rfl (beq_yes' (ndec_yes hk50v)) (.w 13 rfl rfl rfl (.w 22 rfl rfl rfl .nil)) rfl) All.nil)) (All.cons (fun γ => (All.cons (QOb.no (b := !decide ((s1v.getD s25v.toNat ([] : List UInt8)) = ((x1_0.getD s25v.toNat (([] : List UInt8), ([] : List UInt8))).1))) [(6, .int .i64 s25v), (53, .bool (!decide ((s1v.getD s25v.toNat ([] : List UInt8)) = ((x1_0.getD s25v.toNat (([] : List UInt8), ([] : List UInt8))).1))))] rfl rfl rfl rfl (beq_yes' (ndec_yes hk50v)) (.o rfl (by decide) (.w 13 rfl rfl rfl .nil)) rfl) All.nil)) (All.cons (fun γ => (All.cons (QOb.no (b := !decide ((s1v.getD s25v.toNat ([] : List UInt8)) = ((x1_0.getD s25v.toNat (([] : List UInt8), ([] : List UInt8))).1))) [(53, .bool (!decide ((s1v.getD s25v.toNat ([] : List UInt8)) = ((x1_0.getD s25v.toNat (([] : List UInt8), ([] : List UInt8))).1)))), (63, undef), (64, undef)] rfl rfl rfl rfl (beq_yes' (ndec_yes hk50v)) (.w 13 rfl rfl rfl (.w 23 rfl rfl rfl (.w 24 rfl rfl rfl .nil))) rfl) All.nil)) (All.cons (fun γ => (All.cons (QOb.no (b := !decide ((s1v.getD s25v.toNat ([] : List UInt8)) = ((x1_0.getD s25v.toNat (([] : List UInt8), ([] : List UInt8))).1))) [(53, .bool (!decide ((s1v.getD s25v.toNat ([] : List UInt8)) = ((x1_0.getD s25v.toNat (([] : List UInt8), ([] : List UInt8))).1)))), (65, undef)] rfl rfl rfl rfl (beq_yes' (ndec_yes hk50v)) (.w 13 rfl rfl rfl (.w 25 rfl rfl rfl .nil)) rfl) All.nil)) (All.cons (fun γ => (All.cons (QOb.no (b := !decide ((s1v.getD s25v.toNat ([] : List UInt8)) = ((x1_0.getD s25v.toNat (([] : List UInt8), ([] : List UInt8))).1))) [(53, .bool (!decide ((s1v.getD s25v.toNat ([] : List UInt8)) = ((x1_0.getD s25v.toNat (([] : List UInt8), ([] : List UInt8))).1)))), (66, undef)] rfl rfl rfl rfl (beq_yes' (ndec_yes hk50v)) (.w 13 rfl rfl rfl (.w 26 rfl rfl rfl .nil)) rfl) All.nil)) (All.cons (fun γ => (All.cons (QOb.no (b := !decide ((s1v.getD s25v.toNat ([] : List UInt8)) = ((x1_0.getD s25v.toNat (([] : List UInt8), ([] : List UInt8))).1))) [(53, .bool (!decide ((s1v.getD s25v.toNat ([] : List UInt8)) = ((x1_0.getD s25v.toNat (([] : List UInt8), ([] : List UInt8))).1)))), (67, undef)] rfl rfl rfl rfl (beq_yes' (ndec_yes hk50v)) (.w 13 rfl rfl rfl (.w 27 rfl rfl rfl .nil)) rfl) All.nil)) (All.cons (fun γ => (All.cons (QOb.no (b := !decide ((s1v.getD s25v.toNat ([] : List UInt8)) = ((x1_0.getD s25v.toNat (([] : List UInt8), ([] : List UInt8))).1))) [(53, .bool (!decide ((s1v.getD s25v.toNat ([] : List UInt8)) = ((x1_0.getD s25v.toNat (([] : List UInt8), ([] : List UInt8))).1)))), (59, undef), (68, undef)] rfl rfl rfl rfl (beq_yes' (ndec_yes hk50v)) (.w 13 rfl rfl rfl (.w 19 rfl rfl rfl (.w 28 rfl rfl rfl .nil))) rfl) All.nil)) (All.cons (fun γ => (All.cons (QOb.plain [(53, .bool (!decide ((s1v.getD s25v.toNat ([] : List UInt8)) = ((x1_0.getD s25v.toNat (([] : List UInt8), ([] : List UInt8))).1)))), (69, undef)] rfl rfl (.w 13 rfl rfl rfl (.w 29 rfl rfl rfl .nil)) (q_pick rfl rfl rfl rfl (bif_yes (ndec_yes hk50v) _ _)) rfl) All.nil)) All.nil)))))))))))))))))))))))))))))))
 exact All.nil
 intro g51v
 exact nrm_cut (s := true) () ⟨rfl, rfl, rfl, rfl, rfl, trivial⟩ (.sel 0 rfl (.sel 0 rfl (.sel' 0 rfl (RowV.mk hl33v) (.sel 0 rfl (.sel 0 rfl (.sel 0 rfl (.nil _)))))))
 intro s30v y31v
 refine sim_condb rfl (fun h75v => ?_) (fun h76v => ?_)
 refine sim_seq (sim_region ?_)
 refine simL_val (q_asg rfl rfl) rfl rfl rfl (simL_nil (nrm_then (sim_rtn ?_)))
 refine rtn_block ?_
 refine rtn_then ?_
 refine rtn_loop ?_
 refine rtn_block ?_
 refine rtn_cutR ?_
 exact rtn_fn () rfl rfl rfl (.sel 0 rfl (.sel 2 rfl (.sel 2 rfl (.sel 0 rfl (.sel 1 rfl (.nil _))))))
 refine sim_skip ?_
 refine nrm_block (nrm_then (sim_region ?_))
 refine simL_val (q_move rfl rfl) rfl rfl rfl ?_
 refine simL_val (q_add rfl rfl rfl) rfl rfl rfl ?_
 refine simL_val (q_asg rfl rfl) rfl rfl rfl (simL_nil ?_)
 exact nrm_again (s := IntKind.i64.wrap (s25v + 1)) () ⟨rfl, rfl, rfl, rfl, trivial⟩ (.sel 0 rfl (.sel 0 rfl (.sel 0 rfl (.sel 0 rfl (.sel 0 rfl (.sel 0 rfl (.nil _)))))))
 refine sim_exi ?_
 refine exi_then ?_
 refine exi_loop ?_
 refine exi_here ?_
 exact nrm_cutR (s := ()) () ⟨rfl, rfl, rfl, trivial⟩ (.sel 0 rfl (.sel 0 rfl (.sel 0 rfl (.sel 0 rfl (.sel 0 rfl (.sel 0 rfl (.nil _)))))))
 intro s23v y24v
 refine sim_seq (sim_region ?_)
 refine simL_val (q_move rfl rfl) rfl rfl rfl ?_
 refine simL_bind (fun s77v hs79v => ?_)
 refine simL_eff (re_call (vs := [.pointer (some ⟨b0, 0, none⟩)]) (cap := []) (A := [obj b0 63 [.map (some m0_0), .map (some m0_1)], mapO m0_0 enc9 enc9 x0_0, mapO m0_1 enc3 enc42 x0_1]) (rst := [obj b1 47 [.slice a1_0 x1_0.length c1_0, .slice a1_1 x1_1.length c1_1], RowV 9 1 (V9 tt) y2v.1 s1v y2v.2, F]) rfl rfl rfl rfl rfl rfl Try.call17 (.sel 0 rfl (.sel 2 rfl (.sel 2 rfl (.sel 0 rfl (.sel 0 rfl (.sel 0 rfl (.nil _))))))) (kv_Store_Sessions.calls _ _ k b0 m0_0 x0_0 m0_1 x0_1 ) hs79v) rfl rfl rfl ?_
 intro y78v
 refine simL_val (q_asg rfl rfl) rfl rfl rfl (simL_nil (nrm_then (sim_seq (sim_region ?_))))
 refine simL_val (q_move rfl rfl) rfl rfl rfl ?_
 refine simL_val (q_move rfl rfl) rfl rfl rfl ?_
 refine simL_openV 0 rfl (fun rs80v hl81v => ?_)
 refine simL_bind (fun s86v hs88v => ?_)
 refine simL_lend 0 rfl (fun hq82v hq83v hq84v hq85v => ?_)
 refine simL_eff (re_call (vs := [.slice y78v.1 s77v.length y78v.2, .pointer (some ⟨b1, 0, none⟩)]) (cap := []) (A := [obj b1 47 [.slice a1_0 x1_0.length c1_0, .slice a1_1 x1_1.length c1_1]]) (rst := [Row 42 4 y78v.1 s77v.length y78v.2 rs80v.flatten, obj b0 63 [.map (some m0_0), .map (some m0_1)], mapO m0_0 enc9 enc9 x0_0, mapO m0_1 enc3 enc42 x0_1, RowV 9 1 (V9 tt) y2v.1 s1v y2v.2, F]) rfl rfl rfl rfl rfl rfl Try.call39 (.sel 4 rfl (.sel 0 rfl (.sel 0 rfl (.sel 0 rfl (.sel 0 rfl (.sel 0 rfl (.sel 0 rfl (.nil _)))))))) (synodlaw11_Sessions.calls _ _ k y78v.1 y78v.2 s77v b1 a1_0 c1_0 x1_0 a1_1 c1_1 x1_1 ((Rd.asV hl81v hq82v).up (Up.lend 0 rfl) (fun _ _ h => h)) hq83v hq84v (h1_0.up (Up.lend 5 rfl) (fun _ _ h => h)) hc1_0 hm1_0 (h1_1.up (Up.lend 5 rfl) (fun _ _ h => h)) hc1_1 hm1_1) hs88v) rfl rfl rfl ?_
 intro y87v
 refine simL_val (q_asg rfl rfl) rfl rfl rfl (simL_nil (nrm_then ?_))
 refine sim_cut (S := Unit) (Unit) (fun s y => [(0, .pointer (some ⟨b0, 0, none⟩)), (1, .pointer (some ⟨b1, 0, none⟩)), (5, .slice y2v.1 s1v.length y2v.2), (8, .bool s86v)]) (fun s y => [obj b1 47 [.slice a1_0 x1_0.length c1_0, .slice a1_1 x1_1.length c1_1], obj b0 63 [.map (some m0_0), .map (some m0_1)], RowV 9 1 (V9 tt) y2v.1 s1v y2v.2, mapO m0_0 enc9 enc9 x0_0, mapO m0_1 enc3 enc42 x0_1, F]) ?_ ?_
 refine sim_seq (sim_region ?_)
 refine simL_val (q_asg rfl rfl) rfl rfl rfl (simL_nil (nrm_then ?_))
 refine sim_block ?_
 refine sim_loop (S := (List (Int × Int × Int × List UInt8)) × Int) (Unit) (fun k s => synodlaw11_Same.l1 k s.1 s.2) (fun s y => [(0, .pointer (some ⟨b0, 0, none⟩)), (1, .pointer (some ⟨b1, 0, none⟩)), (5, .slice y2v.1 s1v.length y2v.2), (7, .slice y78v.1 s.1.length y78v.2), (8, .bool s86v), (9, .int .i64 s.2)]) (fun s y => [obj b1 47 [.slice a1_0 x1_0.length c1_0, .slice a1_1 x1_1.length c1_1], obj b0 63 [.map (some m0_0), .map (some m0_1)], RowV 9 1 (V9 tt) y2v.1 s1v y2v.2, RowV 42 4 (V42 tt) y78v.1 s.1 y78v.2, mapO m0_0 enc9 enc9 x0_0, mapO m0_1 enc3 enc42 x0_1, F]) (fun _ => by rw [synodlaw11_Same.l1]) ?_ k (s77v, 0) () ⟨rfl, rfl, rfl, rfl, rfl, rfl, trivial⟩ (.sel 0 rfl (.sel 1 rfl (.sel 3 rfl (.sel' 0 rfl (RowV.mk hl81v) (.sel 0 rfl (.sel 0 rfl (.sel 0 rfl (.nil _))))))))
 intro k s91v y92v
 refine sim_eq (by rw [synodlaw11_Same.l1]) ?_
 refine sim_seq (sim_seq (sim_region ?_))
 refine simL_val (q_move rfl rfl) rfl rfl rfl ?_
 refine simL_val (q_move rfl rfl) rfl rfl rfl ?_
 refine simL_val (q_len rfl rfl rfl Try.underlying39) rfl rfl rfl ?_
 refine simL_val (q_lss rfl rfl rfl) rfl rfl rfl (simL_nil (nrm_then ?_))
 refine sim_cond rfl (fun h95v => ?_) (fun h96v => ?_)
 refine sim_skip ?_
 refine nrm_then (sim_seq ?_)
 refine sim_block ?_
 refine sim_region ?_
 refine simL_val (q_move rfl rfl) rfl rfl rfl ?_
 refine simL_val (q_move rfl rfl) rfl rfl rfl ?_
 refine simL_val (q_build (v := .agg #[.int .i64 0, .int .i64 0, .int .i64 0, str ([] : List UInt8)]) rfl rfl (fun _ => by kernel_rfl)) rfl rfl rfl ?_
 refine simL_openV 3 rfl (fun rs105v hl106v => ?_)
 refine simL_ask (fun hi97v => ?_)
 refine simL_posV 3 rfl hl106v rfl (i := s91v.2.toNat) (by omega) ((0 : Int), (0 : Int), (0 : Int), ([] : List UInt8)) (fun b98v b98vo r101v ha99v hV102v hlr103v hcell104v => ?_)
 obtain rfl := hV102v
 refine simL_val (q_idx rfl rfl rfl ha99v Try.underlying39 Try.sizeOf42 hi97v.1 hi97v.2) rfl rfl rfl ?_
 refine simL_do (re_storeV (V := (V42 tt)) ((0 : Int), (0 : Int), (0 : Int), ([] : List UInt8)) 0 ((0 : Int), (0 : Int), (0 : Int), ([] : List UInt8)) 3 rfl rfl rfl Try.sizeOf42 rfl rfl (one_of (by rfl)) rfl hl106v ha99v (by omega) rfl (fun r hr _ _ => by cases (show r = _ from hr); exact rfl)) rfl rfl ?_
 intro _
 refine simL_ren (.slice y78v.1 ((s91v.1.set s91v.2.toNat ((0 : Int), (0 : Int), (0 : Int), ([] : List UInt8))).length) y78v.2) (d := 7) rfl (slc_len (by simp)) ?_
 refine simL_ren (.slice y78v.1 ((s91v.1.set s91v.2.toNat ((0 : Int), (0 : Int), (0 : Int), ([] : List UInt8))).length) y78v.2) (d := 77) rfl (slc_len (by simp)) ?_
 refine simL_ren (.slice y78v.1 ((s91v.1.set s91v.2.toNat ((0 : Int), (0 : Int), (0 : Int), ([] : List UInt8))).length) y78v.2) (d := 82) rfl (slc_len (by simp)) ?_
 refine simL_nil (nrm_block (nrm_then (sim_region ?_)))
 refine simL_val (q_move rfl rfl) rfl rfl rfl ?_
 refine simL_val (q_add rfl rfl rfl) rfl rfl rfl ?_
 refine simL_val (q_asg rfl rfl) rfl rfl rfl (simL_nil ?_)
 exact nrm_again (s := (s91v.1.set s91v.2.toNat ((0 : Int), (0 : Int), (0 : Int), ([] : List UInt8)), IntKind.i64.wrap (s91v.2 + 1))) () ⟨rfl, rfl, rfl, rfl, rfl, rfl, trivial⟩ (.sel 0 rfl (.sel 0 rfl (.sel 0 rfl (.sel 0 rfl (.sel 0 rfl (.sel 0 rfl (.sel 0 rfl (.nil _))))))))
 refine sim_exi ?_
 refine exi_then ?_
 refine exi_loop ?_
 refine exi_here ?_
 exact nrm_cut (s := ()) () ⟨rfl, rfl, rfl, rfl, trivial⟩ (.sel 0 rfl (.sel 0 rfl (.sel 0 rfl (.sel 1 rfl (.sel 1 rfl (.sel 1 rfl (.nil _)))))))
 intro s89v y90v
 refine sim_cut (S := Unit) (Unit) (fun s y => [(0, .pointer (some ⟨b0, 0, none⟩)), (1, .pointer (some ⟨b1, 0, none⟩)), (8, .bool s86v)]) (fun s y => [obj b1 47 [.slice a1_0 x1_0.length c1_0, .slice a1_1 x1_1.length c1_1], obj b0 63 [.map (some m0_0), .map (some m0_1)], mapO m0_0 enc9 enc9 x0_0, mapO m0_1 enc3 enc42 x0_1, F]) ?_ ?_
 refine sim_seq (sim_region ?_)
 refine simL_val (q_asg rfl rfl) rfl rfl rfl (simL_nil (nrm_then ?_))
 refine sim_block ?_
 refine sim_loop (S := List (List UInt8) × Int) (Unit) (fun k s => synodlaw11_Same.l2 k s.1 s.2) (fun s y => [(0, .pointer (some ⟨b0, 0, none⟩)), (1, .pointer (some ⟨b1, 0, none⟩)), (5, .slice y2v.1 s.1.length y2v.2), (8, .bool s86v), (10, .int .i64 s.2)]) (fun s y => [obj b1 47 [.slice a1_0 x1_0.length c1_0, .slice a1_1 x1_1.length c1_1], obj b0 63 [.map (some m0_0), .map (some m0_1)], RowV 9 1 (V9 tt) y2v.1 s.1 y2v.2, mapO m0_0 enc9 enc9 x0_0, mapO m0_1 enc3 enc42 x0_1, F]) (fun _ => by rw [synodlaw11_Same.l2]) ?_ k (s1v, 0) () ⟨rfl, rfl, rfl, rfl, rfl, trivial⟩ (.sel 0 rfl (.sel 0 rfl (.sel 0 rfl (.sel 0 rfl (.sel 0 rfl (.sel 0 rfl (.nil _)))))))
 intro k s109v y110v
 refine sim_eq (by rw [synodlaw11_Same.l2]) ?_
 refine sim_seq (sim_seq (sim_region ?_))
 refine simL_val (q_move rfl rfl) rfl rfl rfl ?_
 refine simL_val (q_move rfl rfl) rfl rfl rfl ?_
 refine simL_val (q_len rfl rfl rfl Try.underlying93) rfl rfl rfl ?_
 refine simL_val (q_lss rfl rfl rfl) rfl rfl rfl (simL_nil (nrm_then ?_))
 refine sim_cond rfl (fun h113v => ?_) (fun h114v => ?_)
 refine sim_skip ?_
 refine nrm_then (sim_seq ?_)
 refine sim_block ?_
 refine sim_region ?_
 refine simL_val (q_move rfl rfl) rfl rfl rfl ?_
 refine simL_val (q_move rfl rfl) rfl rfl rfl ?_
 refine simL_openV 2 rfl (fun rs123v hl124v => ?_)
 refine simL_ask (fun hi115v => ?_)
 refine simL_posV 2 rfl hl124v rfl (i := s109v.2.toNat) (by omega) ([] : List UInt8) (fun b116v b116vo r119v ha117v hV120v hlr121v hcell122v => ?_)
 obtain rfl := hV120v
 refine simL_val (q_idx rfl rfl rfl ha117v Try.underlying93 Try.sizeOf9 hi115v.1 hi115v.2) rfl rfl rfl ?_
 refine simL_do (re_storeV (V := (V9 tt)) ([111, 118, 101, 114] : List UInt8) 0 ([] : List UInt8) 2 rfl rfl rfl Try.sizeOf9 rfl rfl (one_of (by rfl)) rfl hl124v ha117v (by omega) rfl (fun r hr _ _ => by cases (show r = _ from hr); exact rfl)) rfl rfl ?_
 intro _
 refine simL_ren (.slice y2v.1 ((s109v.1.set s109v.2.toNat ([111, 118, 101, 114] : List UInt8)).length) y2v.2) (d := 5) rfl (slc_len (by simp)) ?_
 refine simL_ren (.slice y2v.1 ((s109v.1.set s109v.2.toNat ([111, 118, 101, 114] : List UInt8)).length) y2v.2) (d := 87) rfl (slc_len (by simp)) ?_
 refine simL_ren (.slice y2v.1 ((s109v.1.set s109v.2.toNat ([111, 118, 101, 114] : List UInt8)).length) y2v.2) (d := 92) rfl (slc_len (by simp)) ?_
 refine simL_nil (nrm_block (nrm_then (sim_region ?_)))
 refine simL_val (q_move rfl rfl) rfl rfl rfl ?_
 refine simL_val (q_add rfl rfl rfl) rfl rfl rfl ?_
 refine simL_val (q_asg rfl rfl) rfl rfl rfl (simL_nil ?_)
 exact nrm_again (s := (s109v.1.set s109v.2.toNat ([111, 118, 101, 114] : List UInt8), IntKind.i64.wrap (s109v.2 + 1))) () ⟨rfl, rfl, rfl, rfl, rfl, trivial⟩ (.sel 0 rfl (.sel 0 rfl (.sel 0 rfl (.sel 0 rfl (.sel 0 rfl (.sel 0 rfl (.nil _)))))))
 refine sim_exi ?_
 refine exi_then ?_
 refine exi_loop ?_
 refine exi_here ?_
 exact nrm_cut (s := ()) () ⟨rfl, rfl, rfl, trivial⟩ (.sel 0 rfl (.sel 0 rfl (.sel 1 rfl (.sel 1 rfl (.sel 1 rfl (.nil _))))))
 intro s107v y108v
 refine sim_seq (sim_region ?_)
 refine simL_val (q_move rfl rfl) rfl rfl rfl ?_
 refine simL_bind (fun s125v hs127v => ?_)
 refine simL_eff (re_call (vs := [.pointer (some ⟨b0, 0, none⟩)]) (cap := []) (A := [obj b0 63 [.map (some m0_0), .map (some m0_1)], mapO m0_0 enc9 enc9 x0_0, mapO m0_1 enc3 enc42 x0_1]) (rst := [obj b1 47 [.slice a1_0 x1_0.length c1_0, .slice a1_1 x1_1.length c1_1], F]) rfl rfl rfl rfl rfl rfl Try.call14 (.sel 1 rfl (.sel 1 rfl (.sel 1 rfl (.sel 0 rfl (.sel 0 rfl (.nil _)))))) (kv_Store_Snapshot.calls _ _ k b0 m0_0 x0_0 m0_1 x0_1 ) hs127v) rfl rfl rfl ?_
 intro y126v
 refine simL_val (q_asg rfl rfl) rfl rfl rfl (simL_nil (nrm_then (sim_seq (sim_region ?_))))
 refine simL_val (q_move rfl rfl) rfl rfl rfl ?_
 refine simL_val (q_move rfl rfl) rfl rfl rfl ?_
 refine simL_bind (fun s128v hs130v => ?_)
 refine simL_eff (re_call (vs := [.pointer (some ⟨b1, 0, none⟩)]) (cap := []) (A := [obj b1 47 [.slice a1_0 x1_0.length c1_0, .slice a1_1 x1_1.length c1_1]]) (rst := [Row 5 1 y126v.1 s125v.length y126v.2 (encB s125v), obj b0 63 [.map (some m0_0), .map (some m0_1)], mapO m0_0 enc9 enc9 x0_0, mapO m0_1 enc3 enc42 x0_1, F]) rfl rfl rfl rfl rfl rfl Try.call40 (.sel 4 rfl (.sel 0 rfl (.sel 0 rfl (.sel 0 rfl (.sel 0 rfl (.sel 0 rfl (.nil _))))))) (synodref11_Store_Snapshot.calls _ _ k b1 a1_0 c1_0 x1_0 a1_1 c1_1 x1_1 (h1_0.up (Up.lend 4 rfl) (fun _ _ h => h)) hc1_0 hm1_0 (h1_1.up (Up.lend 4 rfl) (fun _ _ h => h)) hc1_1 hm1_1) hs130v) rfl rfl rfl ?_
 intro y129v
 refine simL_bind (fun s139v hs141v => ?_)
 refine simL_lend 2 rfl (fun hq131v hq132v hq133v hq134v => ?_)
 refine simL_lend 0 rfl (fun hq135v hq136v hq137v hq138v => ?_)
 refine simL_eff (re_call (vs := [.slice y126v.1 s125v.length y126v.2, .slice y129v.1 s128v.length y129v.2]) (cap := []) (A := []) (rst := [Row 5 1 y129v.1 s128v.length y129v.2 (encB s128v), obj b1 47 [.slice a1_0 x1_0.length c1_0, .slice a1_1 x1_1.length c1_1], Row 5 1 y126v.1 s125v.length y126v.2 (encB s125v), obj b0 63 [.map (some m0_0), .map (some m0_1)], mapO m0_0 enc9 enc9 x0_0, mapO m0_1 enc3 enc42 x0_1, F]) rfl rfl rfl rfl rfl rfl Try.call15 (.sel 0 rfl (.sel 0 rfl (.sel 0 rfl (.sel 0 rfl (.sel 0 rfl (.sel 0 rfl (.sel 0 rfl (.nil _)))))))) (synodref_SameBytes.calls _ _ k y126v.1 y126v.2 s125v y129v.1 y129v.2 s128v (hq131v.lend 2 rfl) hq132v hq133v (hq135v.lend 0 rfl) hq136v hq137v) hs141v) rfl rfl rfl ?_
 intro y140v
 refine simL_val (q_asg rfl rfl) rfl rfl rfl (simL_nil (nrm_then ?_))
 refine sim_cut (S := Unit) (Unit) (fun s y => [(0, .pointer (some ⟨b0, 0, none⟩)), (1, .pointer (some ⟨b1, 0, none⟩)), (8, .bool s86v), (12, .bool s139v)]) (fun s y => [obj b1 47 [.slice a1_0 x1_0.length c1_0, .slice a1_1 x1_1.length c1_1], obj b0 63 [.map (some m0_0), .map (some m0_1)], mapO m0_0 enc9 enc9 x0_0, mapO m0_1 enc3 enc42 x0_1, F]) ?_ ?_
 refine sim_seq (sim_region ?_)
 refine simL_val (q_asg rfl rfl) rfl rfl rfl (simL_nil (nrm_then ?_))
 refine sim_block ?_
 refine sim_loop (S := List UInt8 × Int) (Unit) (fun k s => synodlaw11_Same.l3 k s.1 s.2) (fun s y => [(0, .pointer (some ⟨b0, 0, none⟩)), (1, .pointer (some ⟨b1, 0, none⟩)), (8, .bool s86v), (11, .slice y126v.1 s.1.length y126v.2), (12, .bool s139v), (13, .int .i64 s.2)]) (fun s y => [obj b1 47 [.slice a1_0 x1_0.length c1_0, .slice a1_1 x1_1.length c1_1], obj b0 63 [.map (some m0_0), .map (some m0_1)], Row 5 1 y126v.1 s.1.length y126v.2 (encB s.1), mapO m0_0 enc9 enc9 x0_0, mapO m0_1 enc3 enc42 x0_1, F]) (fun _ => by rw [synodlaw11_Same.l3]) ?_ k (s125v, 0) () ⟨rfl, rfl, rfl, rfl, rfl, rfl, trivial⟩ (.sel 1 rfl (.sel 2 rfl (.sel 1 rfl (.sel 1 rfl (.sel 1 rfl (.sel 1 rfl (.nil _)))))))
 intro k s144v y145v
 refine sim_eq (by rw [synodlaw11_Same.l3]) ?_
 refine sim_seq (sim_seq (sim_region ?_))
 refine simL_val (q_move rfl rfl) rfl rfl rfl ?_
 refine simL_val (q_move rfl rfl) rfl rfl rfl ?_
 refine simL_val (q_len rfl rfl rfl Try.underlying35) rfl rfl rfl ?_
 refine simL_val (q_lss rfl rfl rfl) rfl rfl rfl (simL_nil (nrm_then ?_))
 refine sim_cond rfl (fun h148v => ?_) (fun h149v => ?_)
 refine sim_skip ?_
 refine nrm_then (sim_seq ?_)
 refine sim_block ?_
 refine sim_region ?_
 refine simL_val (q_move rfl rfl) rfl rfl rfl ?_
 refine simL_val (q_move rfl rfl) rfl rfl rfl ?_
 refine simL_ask (fun hi150v => ?_)
 refine simL_row 2 rfl (encB_ne (j := s144v.2.toNat) (by omega)) (fun b151v b151vo ha152v => ?_)
 refine simL_val (q_idx1 rfl rfl rfl ha152v Try.underlying35 Try.sizeOf5 hi150v.1 hi150v.2) rfl rfl rfl ?_
 refine simL_do (re_storeb 55 2 rfl rfl rfl Try.sizeOf5 rfl ha152v hi150v.2 hi150v.1 rfl) rfl rfl ?_
 intro _
 refine simL_ren (.slice y126v.1 ((s144v.1.set s144v.2.toNat 55).length) y126v.2) (d := 11) rfl (slc_len (by simp)) ?_
 refine simL_ren (.slice y126v.1 ((s144v.1.set s144v.2.toNat 55).length) y126v.2) (d := 102) rfl (slc_len (by simp)) ?_
 refine simL_ren (.slice y126v.1 ((s144v.1.set s144v.2.toNat 55).length) y126v.2) (d := 107) rfl (slc_len (by simp)) ?_
 refine simL_nil (nrm_block (nrm_then (sim_region ?_)))
 refine simL_val (q_move rfl rfl) rfl rfl rfl ?_
 refine simL_val (q_add rfl rfl rfl) rfl rfl rfl ?_
 refine simL_val (q_asg rfl rfl) rfl rfl rfl (simL_nil ?_)
 exact nrm_again (s := (s144v.1.set s144v.2.toNat 55, IntKind.i64.wrap (s144v.2 + 1))) () ⟨rfl, rfl, rfl, rfl, rfl, rfl, trivial⟩ (.sel 0 rfl (.sel 0 rfl (.sel 0 rfl (.sel 0 rfl (.sel 0 rfl (.sel 0 rfl (.nil _)))))))
 refine sim_exi ?_
 refine exi_then ?_
 refine exi_loop ?_
 refine exi_here ?_
 exact nrm_cut (s := ()) () ⟨rfl, rfl, rfl, rfl, trivial⟩ (.sel 0 rfl (.sel 0 rfl (.sel 1 rfl (.sel 1 rfl (.sel 1 rfl (.nil _))))))
 intro s142v y143v
 refine sim_seq (sim_region ?_)
 refine simL_val (q_move rfl rfl) rfl rfl rfl ?_
 refine simL_val (q_move rfl rfl) rfl rfl rfl ?_
 refine simL_valc (b := s86v) (fun hb171v => RQ.sub (E' := [(12, .bool s139v)]) ⟨rfl, trivial⟩ (q_move rfl rfl)) rfl rfl rfl rfl rfl ?_
 refine simL_val (q_and rfl rfl rfl) rfl rfl rfl ?_
 refine simL_val (q_move rfl rfl) rfl rfl rfl ?_
 refine simL_cut' 5 (S := Bool) (Unit) (fun s y => [(119, .bool s)]) (fun s y => [obj b1 47 [.slice a1_0 x1_0.length c1_0, .slice a1_1 x1_1.length c1_1], obj b0 63 [.map (some m0_0), .map (some m0_1)], mapO m0_0 enc9 enc9 x0_0, mapO m0_1 enc3 enc42 x0_1, F]) ?_ ?_
 refine simL_caseb (fun hb169v => ?_) (fun hb170v => ?_)
 rw [hb169v]
 refine simL_valg (q_move rfl rfl) rfl rfl rfl rfl rfl rfl ?_
 refine simL_bind (fun s157v hs159v => ?_)
 refine simL_effg (re_call (vs := [.pointer (some ⟨b0, 0, none⟩)]) (cap := []) (A := [obj b0 63 [.map (some m0_0), .map (some m0_1)], mapO m0_0 enc9 enc9 x0_0, mapO m0_1 enc3 enc42 x0_1]) (rst := [obj b1 47 [.slice a1_0 x1_0.length c1_0, .slice a1_1 x1_1.length c1_1], F]) rfl rfl rfl rfl rfl rfl Try.call17 (.sel 1 rfl (.sel 1 rfl (.sel 1 rfl (.sel 0 rfl (.sel 0 rfl (.nil _)))))) (kv_Store_Sessions.calls _ _ k b0 m0_0 x0_0 m0_1 x0_1 ) hs159v) rfl rfl rfl rfl rfl rfl ?_
 intro y158v
 refine simL_valg (q_move rfl rfl) rfl rfl rfl rfl rfl rfl ?_
 refine simL_openV 0 rfl (fun rs160v hl161v => ?_)
 refine simL_bind (fun s166v hs168v => ?_)
 refine simL_lend 0 rfl (fun hq162v hq163v hq164v hq165v => ?_)
 refine simL_effg (re_call (vs := [.slice y158v.1 s157v.length y158v.2, .pointer (some ⟨b1, 0, none⟩)]) (cap := []) (A := [obj b1 47 [.slice a1_0 x1_0.length c1_0, .slice a1_1 x1_1.length c1_1]]) (rst := [Row 42 4 y158v.1 s157v.length y158v.2 rs160v.flatten, obj b0 63 [.map (some m0_0), .map (some m0_1)], mapO m0_0 enc9 enc9 x0_0, mapO m0_1 enc3 enc42 x0_1, F]) rfl rfl rfl rfl rfl rfl Try.call39 (.sel 4 rfl (.sel 0 rfl (.sel 0 rfl (.sel 0 rfl (.sel 0 rfl (.sel 0 rfl (.nil _))))))) (synodlaw11_Sessions.calls _ _ k y158v.1 y158v.2 s157v b1 a1_0 c1_0 x1_0 a1_1 c1_1 x1_1 ((Rd.asV hl161v hq162v).up (Up.lend 0 rfl) (fun _ _ h => h)) hq163v hq164v (h1_0.up (Up.lend 4 rfl) (fun _ _ h => h)) hc1_0 hm1_0 (h1_1.up (Up.lend 4 rfl) (fun _ _ h => h)) hc1_1 hm1_1) hs168v) rfl rfl rfl rfl rfl rfl ?_
 intro y167v
 refine simL_val (q_pick rfl rfl rfl rfl rfl) rfl rfl rfl (simL_nil ?_)
 exact nrm_cut (s := s166v) () ⟨rfl, trivial⟩ (.sel 0 rfl (.sel 1 rfl (.sel 1 rfl (.sel 1 rfl (.sel 1 rfl (.nil _))))))
 rw [hb170v]
 refine simL_skipd rfl rfl rfl rfl rfl rfl ?_
 refine simL_skipd rfl rfl rfl rfl rfl rfl ?_
 refine simL_skipd rfl rfl rfl rfl rfl rfl ?_
 refine simL_skipd rfl rfl rfl rfl rfl rfl ?_
 refine simL_val (q_pick rfl rfl rfl rfl rfl) rfl rfl rfl (simL_nil ?_)
 exact nrm_cut (s := false) () ⟨rfl, trivial⟩ (.sel 0 rfl (.sel 0 rfl (.sel 0 rfl (.sel 0 rfl (.sel 0 rfl (.nil _))))))
 intro s155v y156v
 refine simL_val (q_asg rfl rfl) rfl rfl rfl (simL_nil (nrm_then (sim_rtn ?_)))
 exact rtn_fn () rfl rfl rfl (.sel 1 rfl (.sel 1 rfl (.sel 1 rfl (.sel 0 rfl (.sel 0 rfl (.nil _))))))

def synodlaw11_KvFull.l1 (x2 : List (Ty33)) : Nat → Int → List (List UInt8 × List UInt8) → List (Int × Int × Int × List UInt8) → List ((List UInt8) × (List UInt8)) → List ((Int) × (Int × Int × Int × List UInt8)) → Option (((List (List UInt8 × List UInt8)) × (List (Int × Int × Int × List UInt8)) × (List ((List UInt8) × (List UInt8))) × (List ((Int) × (Int × Int × Int × List UInt8)))) ⊕ (Bool))
  | 0, _, _, _, _, _ => none
  | k + 1, z50v, z51v, z52v, z53v, z54v => if z50v < (x2.length : Int) then (if 0 ≤ z50v ∧ z50v < (x2.length : Int) then ((kv_Store_Do.f z53v z54v ((x2.getD z50v.toNat dz33).1) ((x2.getD z50v.toNat dz33).2.1) ((x2.getD z50v.toNat dz33).2.2.1) ((x2.getD z50v.toNat dz33).2.2.2.1) ((x2.getD z50v.toNat dz33).2.2.2.2.1) ((x2.getD z50v.toNat dz33).2.2.2.2.2)).bind fun s65v => (if 0 ≤ z50v ∧ z50v < (x2.length : Int) then ((synodref11_Store_Do.f k z51v z52v ((x2.getD z50v.toNat dz33).1) ((x2.getD z50v.toNat dz33).2.1) ((x2.getD z50v.toNat dz33).2.2.1) ((x2.getD z50v.toNat dz33).2.2.2.1) ((x2.getD z50v.toNat dz33).2.2.2.2.1) ((x2.getD z50v.toNat dz33).2.2.2.2.2)).bind fun s81v => ((if (!(decide (s65v.1 = s81v.1) && (decide (s65v.2.1 = s81v.2.1)))) = true then (some true) else ((synodref_Num.f s65v.2.2.1).bind fun s87v => (some (!decide (s87v = s81v.2.2.1))))).bind fun s85v => (if s85v = true then (some (.inr false)) else (synodlaw11_KvFull.l1 x2 k (IntKind.i64.wrap (z50v + 1)) s81v.2.2.2.1 s81v.2.2.2.2 s65v.2.2.2.1 s65v.2.2.2.2)))) else none)) else none) else (some (.inl (z51v, z52v, z53v, z54v)))
def synodlaw11_KvFull.l0 (x0 : Int) (x1 : Int) : Nat → Int → List (List UInt8 × List UInt8) → List (Int × Int × Int × List UInt8) → List ((List UInt8) × (List UInt8)) → List ((Int) × (Int × Int × Int × List UInt8)) → Option (((List (List UInt8 × List UInt8)) × (List (Int × Int × Int × List UInt8)) × (List ((List UInt8) × (List UInt8))) × (List ((Int) × (Int × Int × Int × List UInt8)))) ⊕ (Bool))
  | 0, _, _, _, _, _ => none
  | k + 1, z21v, z22v, z23v, z24v, z25v => if z21v < IntKind.i64.wrap (128 - (Int.tmod (IntKind.i64.wrap ((Int.tmod x0 3) + 3)) 3)) then (if (runeS (IntKind.i32.wrap (IntKind.i64.wrap (65 + (IntKind.i64.wrap (Int.tdiv z21v 16)))))).length + (runeS (IntKind.i32.wrap (IntKind.i64.wrap (97 + (Int.tmod z21v 16))))).length ≤ 9223372036854775807 then ((kv_Store_Do.f z24v z25v (2 : Int) (IntKind.i64.wrap (100 + (min z21v (IntKind.i64.wrap ((IntKind.i64.wrap (32 - (Int.tmod (IntKind.i64.wrap ((Int.tmod x1 3) + 3)) 3))) - 1))))) (IntKind.i64.wrap (z21v + 1)) ((runeS (IntKind.i32.wrap (IntKind.i64.wrap (65 + (IntKind.i64.wrap (Int.tdiv z21v 16)))))) ++ (runeS (IntKind.i32.wrap (IntKind.i64.wrap (97 + (Int.tmod z21v 16)))))) ([118] : List UInt8) ([] : List UInt8)).bind fun s32v => ((synodref11_Store_Do.f k z22v z23v (2 : Int) (IntKind.i64.wrap (100 + (min z21v (IntKind.i64.wrap ((IntKind.i64.wrap (32 - (Int.tmod (IntKind.i64.wrap ((Int.tmod x1 3) + 3)) 3))) - 1))))) (IntKind.i64.wrap (z21v + 1)) ((runeS (IntKind.i32.wrap (IntKind.i64.wrap (65 + (IntKind.i64.wrap (Int.tdiv z21v 16)))))) ++ (runeS (IntKind.i32.wrap (IntKind.i64.wrap (97 + (Int.tmod z21v 16)))))) ([118] : List UInt8) ([] : List UInt8)).bind fun s40v => (if (!(decide (s32v.1 = s40v.1) && (decide (s32v.2.1 = s40v.2.1)))) = true then (some (.inr false)) else (synodlaw11_KvFull.l0 x0 x1 k (IntKind.i64.wrap (z21v + 1)) s40v.2.2.2.1 s40v.2.2.2.2 s32v.2.2.2.1 s32v.2.2.2.2)))) else none) else (some (.inl (z22v, z23v, z24v, z25v)))
def synodlaw11_KvFull.f (k : Nat) (x0 : Int) (x1 : Int) (x2 : List (Ty33)) : Option (Bool) := (synodlaw11_first.f).bind fun s1v => ((synodlaw11_few.f k x2).bind fun s4v => (if ((!s1v) || (!s4v)) = true then (some s1v) else ((kv_New.f).bind fun s13v => (orR (synodlaw11_KvFull.l0 x0 x1 k 0 ([] : List (List UInt8 × List UInt8)) ([] : List (Int × Int × Int × List UInt8)) s13v.1 s13v.2) fun s17v => (orR (synodlaw11_KvFull.l1 x2 k 0 s17v.1 s17v.2.1 s17v.2.2.1 s17v.2.2.2) fun s46v => ((synodlaw11_Same.f k s46v.2.2.1 s46v.2.2.2 s46v.1 s46v.2.1).bind fun s106v => (some s106v)))))))
theorem synodlaw11_KvFull.calls (W : World) (F : HA) (k : Nat) (x0 : Int) (x1 : Int) (a2 : Option Addr) (c2 : Nat) (x2 : List (Ty33)) (h2 : RdV F 6 (V33 tt) a2 x2) (hc2 : x2.length ≤ c2) (hm2 : c2 ≤ maxLen) :
    Fn Try.prog W 6 [.int .i64 x0, .int .i64 x1, .slice a2 x2.length c2] [] F (synodlaw11_KvFull.f k x0 x1 x2) (fun (r : Bool) (y : Unit) => .bool r) (fun r y => []) := by
 unfold synodlaw11_KvFull.f
 refine fn_intro 120 Try.func6 rfl Try.ntmps6 rfl ?_
 refine sim_seq (sim_region ?_)
 refine simL_val (q_asg rfl rfl) rfl rfl rfl (simL_nil (nrm_then (sim_seq (sim_region ?_))))
 refine simL_bind (fun s1v hs3v => ?_)
 refine simL_eff (re_call (vs := []) (cap := []) (A := []) (rst := [F]) rfl rfl rfl rfl rfl rfl Try.call9 (.sel 0 rfl (.nil _)) (synodlaw11_first.calls _ _  ) hs3v) rfl rfl rfl ?_
 intro y2v
 refine simL_val (q_asg rfl rfl) rfl rfl rfl (simL_nil (nrm_then (sim_seq (sim_region ?_))))
 refine simL_val (q_move rfl rfl) rfl rfl rfl ?_
 refine simL_bind (fun s4v hs6v => ?_)
 refine simL_eff (re_call (vs := [.slice a2 x2.length c2]) (cap := []) (A := []) (rst := [F]) rfl rfl rfl rfl rfl rfl Try.call10 (.sel 0 rfl (.nil _)) (synodlaw11_few.calls _ _ k a2 c2 x2 (h2.up (Up.lend 0 rfl) (fun _ _ h => h)) hc2 hm2) hs6v) rfl rfl rfl ?_
 intro y5v
 refine simL_val (q_asg rfl rfl) rfl rfl rfl (simL_nil (nrm_then (sim_seq (sim_seq (sim_region ?_)))))
 refine simL_val (q_move rfl rfl) rfl rfl rfl ?_
 refine simL_val (q_not rfl rfl) rfl rfl rfl ?_
 refine simL_val (q_move rfl rfl) rfl rfl rfl ?_
 refine simL_valc (b := !s1v) (fun hb110v => RQ.sub (E' := [(8, .bool s4v)]) ⟨rfl, trivial⟩ (q_move rfl rfl)) rfl rfl rfl rfl rfl ?_
 refine simL_valc (b := !s1v) (fun hb109v => RQ.sub (E' := [(28, .bool s4v)]) ⟨lk_cv rfl hb109v, trivial⟩ (q_not rfl rfl)) rfl rfl rfl rfl rfl ?_
 refine simL_val (q_or rfl rfl rfl) rfl rfl rfl (simL_nil (nrm_then ?_))
 refine sim_condb rfl (fun h7v => ?_) (fun h8v => ?_)
 refine sim_seq (sim_region ?_)
 refine simL_val (q_move rfl rfl) rfl rfl rfl ?_
 refine simL_val (q_asg rfl rfl) rfl rfl rfl (simL_nil (nrm_then (sim_rtn ?_)))
 refine rtn_then ?_
 exact rtn_fn () rfl rfl rfl (.sel 0 rfl (.nil _))
 refine sim_skip ?_
 refine nrm_then (sim_seq (sim_region ?_))
 refine simL_val (q_move rfl rfl) rfl rfl rfl ?_
 refine simL_val (q_rem rfl rfl rfl (by decide)) rfl rfl rfl ?_
 refine simL_val (q_add rfl rfl rfl) rfl rfl rfl ?_
 refine simL_val (q_rem rfl rfl rfl (by decide)) rfl rfl rfl ?_
 refine simL_val (q_sub rfl rfl rfl) rfl rfl rfl ?_
 refine simL_val (q_asg rfl rfl) rfl rfl rfl (simL_nil (nrm_then (sim_seq (sim_region ?_))))
 refine simL_val (q_move rfl rfl) rfl rfl rfl ?_
 refine simL_val (q_rem rfl rfl rfl (by decide)) rfl rfl rfl ?_
 refine simL_val (q_add rfl rfl rfl) rfl rfl rfl ?_
 refine simL_val (q_rem rfl rfl rfl (by decide)) rfl rfl rfl ?_
 refine simL_val (q_sub rfl rfl rfl) rfl rfl rfl ?_
 refine simL_val (q_asg rfl rfl) rfl rfl rfl (simL_nil (nrm_then (sim_seq (sim_region ?_))))
 refine simL_bind (fun s13v hs15v => ?_)
 refine simL_eff (re_call (vs := []) (cap := []) (A := []) (rst := [F]) rfl rfl rfl rfl rfl rfl Try.call11 (.sel 0 rfl (.nil _)) (kv_New.calls _ _  ) hs15v) rfl rfl rfl ?_
 intro y14v
 refine simL_val (q_asg rfl rfl) rfl rfl rfl (simL_nil (nrm_then (sim_seq (sim_region ?_))))
 refine simL_val (q_build (v := .agg #[.slice none 0 0, .slice none 0 0]) rfl rfl (fun _ => by kernel_rfl)) rfl rfl rfl ?_
 refine simL_eff (re_box rfl rfl rfl) rfl rfl rfl ?_
 intro b16v
 refine simL_val (q_asg rfl rfl) rfl rfl rfl (simL_nil (nrm_then ?_))
 refine sim_cutR (S := (List (List UInt8 × List UInt8)) × (List (Int × Int × Int × List UInt8)) × (List ((List UInt8) × (List UInt8))) × (List ((Int) × (Int × Int × Int × List UInt8)))) (Option Addr × Nat × Option Addr × Nat × Nat × Nat) (fun s y => [(2, .slice a2 x2.length c2), (9, .pointer (some ⟨y14v.1, 0, none⟩)), (10, .pointer (some ⟨b16v, 0, none⟩))]) (fun s y => [obj b16v 47 [.slice y.1 s.1.length y.2.1, .slice y.2.2.1 s.2.1.length y.2.2.2.1], obj y14v.1 63 [.map (some y.2.2.2.2.1), .map (some y.2.2.2.2.2)], RowV 92 2 (V92 tt) y.1 s.1 y.2.1, RowV 86 4 (V86 tt) y.2.2.1 s.2.1 y.2.2.2.1, mapO y.2.2.2.2.1 enc9 enc9 s.2.2.1, mapO y.2.2.2.2.2 enc3 enc42 s.2.2.2, F]) ?_ ?_
 refine sim_seq (sim_region ?_)
 refine simL_val (q_asg rfl rfl) rfl rfl rfl (simL_nil (nrm_then ?_))
 refine sim_block ?_
 refine sim_loop (S := Int × (List (List UInt8 × List UInt8)) × (List (Int × Int × Int × List UInt8)) × (List ((List UInt8) × (List UInt8))) × (List ((Int) × (Int × Int × Int × List UInt8)))) (Option Addr × Nat × Option Addr × Nat × Nat × Nat) (fun k s => synodlaw11_KvFull.l0 x0 x1 k s.1 s.2.1 s.2.2.1 s.2.2.2.1 s.2.2.2.2) (fun s y => [(0, .int .i64 (IntKind.i64.wrap (128 - (Int.tmod (IntKind.i64.wrap ((Int.tmod x0 3) + 3)) 3)))), (1, .int .i64 (IntKind.i64.wrap (32 - (Int.tmod (IntKind.i64.wrap ((Int.tmod x1 3) + 3)) 3)))), (2, .slice a2 x2.length c2), (9, .pointer (some ⟨y14v.1, 0, none⟩)), (10, .pointer (some ⟨b16v, 0, none⟩)), (11, .int .i64 s.1)]) (fun s y => [obj b16v 47 [.slice y.1 s.2.1.length y.2.1, .slice y.2.2.1 s.2.2.1.length y.2.2.2.1], obj y14v.1 63 [.map (some y.2.2.2.2.1), .map (some y.2.2.2.2.2)], RowV 92 2 (V92 tt) y.1 s.2.1 y.2.1, RowV 86 4 (V86 tt) y.2.2.1 s.2.2.1 y.2.2.2.1, mapO y.2.2.2.2.1 enc9 enc9 s.2.2.2.1, mapO y.2.2.2.2.2 enc3 enc42 s.2.2.2.2, F]) (fun _ => by rw [synodlaw11_KvFull.l0]) ?_ k (0, ([] : List (List UInt8 × List UInt8)), ([] : List (Int × Int × Int × List UInt8)), s13v.1, s13v.2) (none, 0, none, 0, y14v.2.1, y14v.2.2) ⟨rfl, rfl, rfl, rfl, rfl, rfl, trivial⟩ (.sel 0 rfl (.sel 0 rfl (.rowV_nil (.rowV_nil (.sel 0 rfl (.sel 0 rfl (.sel 0 rfl (.nil _))))))))
 intro k s19v y20v
 refine sim_eq (by rw [synodlaw11_KvFull.l0]) ?_
 refine sim_seq (sim_seq (sim_region ?_))
 refine simL_val (q_move rfl rfl) rfl rfl rfl ?_
 refine simL_val (q_move rfl rfl) rfl rfl rfl ?_
 refine simL_val (q_lss rfl rfl rfl) rfl rfl rfl (simL_nil (nrm_then ?_))
 refine sim_cond rfl (fun h26v => ?_) (fun h27v => ?_)
 refine sim_skip ?_
 refine nrm_then (sim_seq ?_)
 refine sim_block ?_
 refine sim_seq (sim_region ?_)
 refine simL_val (q_move rfl rfl) rfl rfl rfl ?_
 refine simL_val (q_move rfl rfl) rfl rfl rfl ?_
 refine simL_val (q_sub rfl rfl rfl) rfl rfl rfl ?_
 refine simL_val (q_min rfl rfl rfl) rfl rfl rfl ?_
 refine simL_val (q_add rfl rfl rfl) rfl rfl rfl ?_
 refine simL_val (q_move rfl rfl) rfl rfl rfl ?_
 refine simL_val (q_add rfl rfl rfl) rfl rfl rfl ?_
 refine simL_val (q_move rfl rfl) rfl rfl rfl ?_
 refine simL_val (q_quo rfl rfl rfl (by decide)) rfl rfl rfl ?_
 refine simL_val (q_add rfl rfl rfl) rfl rfl rfl ?_
 refine simL_val (q_conv rfl rfl Try.underlying3 Try.underlying21) rfl rfl rfl ?_
 refine simL_val (q_rune rfl rfl Try.underlying21 Try.underlying9) rfl rfl rfl ?_
 refine simL_val (q_move rfl rfl) rfl rfl rfl ?_
 refine simL_val (q_rem rfl rfl rfl (by decide)) rfl rfl rfl ?_
 refine simL_val (q_add rfl rfl rfl) rfl rfl rfl ?_
 refine simL_val (q_conv rfl rfl Try.underlying3 Try.underlying21) rfl rfl rfl ?_
 refine simL_val (q_rune rfl rfl Try.underlying21 Try.underlying9) rfl rfl rfl ?_
 refine simL_ask (fun hb30v => ?_)
 refine simL_val (q_cat rfl rfl rfl hb30v) rfl rfl rfl ?_
 refine simL_val (q_build (v := .agg #[.int .i64 2, .int .i64 (IntKind.i64.wrap (100 + (min s19v.1 (IntKind.i64.wrap ((IntKind.i64.wrap (32 - (Int.tmod (IntKind.i64.wrap ((Int.tmod x1 3) + 3)) 3))) - 1))))), .int .i64 (IntKind.i64.wrap (s19v.1 + 1)), str ((runeS (IntKind.i32.wrap (IntKind.i64.wrap (65 + (IntKind.i64.wrap (Int.tdiv s19v.1 16)))))) ++ (runeS (IntKind.i32.wrap (IntKind.i64.wrap (97 + (Int.tmod s19v.1 16)))))), str ([118] : List UInt8), str ([] : List UInt8)]) rfl rfl (fun _ => by kernel_rfl)) rfl rfl rfl ?_
 refine simL_eff (re_alloc rfl Try.zeroValue33 rfl) rfl rfl rfl ?_
 intro b31v
 refine simL_do (re_store 0 rfl rfl rfl Try.sizeOf33 rfl rfl (one_of (by rfl)) rfl rfl) rfl rfl ?_
 intro _
 refine simL_ent (H' := [obj b31v 33 [.int .i64 2, .int .i64 (IntKind.i64.wrap (100 + (min s19v.1 (IntKind.i64.wrap ((IntKind.i64.wrap (32 - (Int.tmod (IntKind.i64.wrap ((Int.tmod x1 3) + 3)) 3))) - 1))))), .int .i64 (IntKind.i64.wrap (s19v.1 + 1)), str ((runeS (IntKind.i32.wrap (IntKind.i64.wrap (65 + (IntKind.i64.wrap (Int.tdiv s19v.1 16)))))) ++ (runeS (IntKind.i32.wrap (IntKind.i64.wrap (97 + (Int.tmod s19v.1 16)))))), str ([118] : List UInt8), str ([] : List UInt8)], obj b16v 47 [.slice y20v.1 s19v.2.1.length y20v.2.1, .slice y20v.2.2.1 s19v.2.2.1.length y20v.2.2.2.1], obj y14v.1 63 [.map (some y20v.2.2.2.2.1), .map (some y20v.2.2.2.2.2)], RowV 92 2 (V92 tt) y20v.1 s19v.2.1 y20v.2.1, RowV 86 4 (V86 tt) y20v.2.2.1 s19v.2.2.1 y20v.2.2.2.1, mapO y20v.2.2.2.2.1 enc9 enc9 s19v.2.2.2.1, mapO y20v.2.2.2.2.2 enc3 enc42 s19v.2.2.2.2, F]) (Ent.refl _) ?_
 refine simL_nil (nrm_then (sim_seq (sim_region ?_)))
 refine simL_val (q_move rfl rfl) rfl rfl rfl ?_
 refine simL_val (q_loado 0 rfl rfl Try.isAgg33 Try.sizeOf33 rfl rfl) rfl rfl rfl ?_
 refine simL_bind (fun s32v hs34v => ?_)
 refine simL_eff (re_call (vs := [.pointer (some ⟨y14v.1, 0, none⟩), .agg #[.int .i64 2, .int .i64 (IntKind.i64.wrap (100 + (min s19v.1 (IntKind.i64.wrap ((IntKind.i64.wrap (32 - (Int.tmod (IntKind.i64.wrap ((Int.tmod x1 3) + 3)) 3))) - 1))))), .int .i64 (IntKind.i64.wrap (s19v.1 + 1)), str ((runeS (IntKind.i32.wrap (IntKind.i64.wrap (65 + (IntKind.i64.wrap (Int.tdiv s19v.1 16)))))) ++ (runeS (IntKind.i32.wrap (IntKind.i64.wrap (97 + (Int.tmod s19v.1 16)))))), str ([118] : List UInt8), str ([] : List UInt8)]]) (cap := []) (A := [obj y14v.1 63 [.map (some y20v.2.2.2.2.1), .map (some y20v.2.2.2.2.2)], mapO y20v.2.2.2.2.1 enc9 enc9 s19v.2.2.2.1, mapO y20v.2.2.2.2.2 enc3 enc42 s19v.2.2.2.2]) (rst := [obj b31v 33 [.int .i64 2, .int .i64 (IntKind.i64.wrap (100 + (min s19v.1 (IntKind.i64.wrap ((IntKind.i64.wrap (32 - (Int.tmod (IntKind.i64.wrap ((Int.tmod x1 3) + 3)) 3))) - 1))))), .int .i64 (IntKind.i64.wrap (s19v.1 + 1)), str ((runeS (IntKind.i32.wrap (IntKind.i64.wrap (65 + (IntKind.i64.wrap (Int.tdiv s19v.1 16)))))) ++ (runeS (IntKind.i32.wrap (IntKind.i64.wrap (97 + (Int.tmod s19v.1 16)))))), str ([118] : List UInt8), str ([] : List UInt8)], obj b16v 47 [.slice y20v.1 s19v.2.1.length y20v.2.1, .slice y20v.2.2.1 s19v.2.2.1.length y20v.2.2.2.1], RowV 92 2 (V92 tt) y20v.1 s19v.2.1 y20v.2.1, RowV 86 4 (V86 tt) y20v.2.2.1 s19v.2.2.1 y20v.2.2.2.1, F]) rfl rfl rfl rfl rfl rfl Try.call12 (.sel 2 rfl (.sel 4 rfl (.sel 4 rfl (.sel 0 rfl (.sel 0 rfl (.sel 0 rfl (.sel 0 rfl (.sel 0 rfl (.nil _))))))))) (kv_Store_Do.calls _ _ y14v.1 y20v.2.2.2.2.1 s19v.2.2.2.1 y20v.2.2.2.2.2 s19v.2.2.2.2 (2 : Int) (IntKind.i64.wrap (100 + (min s19v.1 (IntKind.i64.wrap ((IntKind.i64.wrap (32 - (Int.tmod (IntKind.i64.wrap ((Int.tmod x1 3) + 3)) 3))) - 1))))) (IntKind.i64.wrap (s19v.1 + 1)) ((runeS (IntKind.i32.wrap (IntKind.i64.wrap (65 + (IntKind.i64.wrap (Int.tdiv s19v.1 16)))))) ++ (runeS (IntKind.i32.wrap (IntKind.i64.wrap (97 + (Int.tmod s19v.1 16)))))) ([118] : List UInt8) ([] : List UInt8) ) hs34v) rfl rfl rfl ?_
 intro y33v
 refine simL_val (q_move rfl rfl) rfl rfl rfl ?_
 refine simL_val (q_ext rfl rfl rfl) rfl rfl rfl ?_
 refine simL_val (q_ext rfl rfl rfl) rfl rfl rfl ?_
 refine simL_eff (re_alloc rfl Try.zeroValue28 rfl) rfl rfl rfl ?_
 intro b35v
 refine simL_do (re_store 0 rfl rfl rfl Try.sizeOf28 rfl rfl (one_of (by rfl)) rfl rfl) rfl rfl ?_
 intro _
 refine simL_val (q_asg rfl rfl) rfl rfl rfl (simL_nil (nrm_then (sim_seq (sim_region ?_))))
 refine simL_val (q_move rfl rfl) rfl rfl rfl ?_
 refine simL_val (q_loado 4 rfl rfl Try.isAgg33 Try.sizeOf33 rfl rfl) rfl rfl rfl ?_
 refine simL_openV 6 rfl (fun rs36v hl37v => ?_)
 refine simL_openV 7 rfl (fun rs38v hl39v => ?_)
 refine simL_bind (fun s40v hs42v => ?_)
 refine simL_eff (re_call (vs := [.pointer (some ⟨b16v, 0, none⟩), .agg #[.int .i64 2, .int .i64 (IntKind.i64.wrap (100 + (min s19v.1 (IntKind.i64.wrap ((IntKind.i64.wrap (32 - (Int.tmod (IntKind.i64.wrap ((Int.tmod x1 3) + 3)) 3))) - 1))))), .int .i64 (IntKind.i64.wrap (s19v.1 + 1)), str ((runeS (IntKind.i32.wrap (IntKind.i64.wrap (65 + (IntKind.i64.wrap (Int.tdiv s19v.1 16)))))) ++ (runeS (IntKind.i32.wrap (IntKind.i64.wrap (97 + (Int.tmod s19v.1 16)))))), str ([118] : List UInt8), str ([] : List UInt8)]]) (cap := []) (A := [obj b16v 47 [.slice y20v.1 s19v.2.1.length y20v.2.1, .slice y20v.2.2.1 s19v.2.2.1.length y20v.2.2.2.1], RowV 92 2 (V92 tt) y20v.1 s19v.2.1 y20v.2.1, RowV 86 4 (V86 tt) y20v.2.2.1 s19v.2.2.1 y20v.2.2.2.1]) (rst := [obj b35v 28 [.int .i64 s32v.1, str s32v.2.1], obj y14v.1 63 [.map (some y33v.1), .map (some y33v.2)], mapO y33v.1 enc9 enc9 s32v.2.2.2.1, mapO y33v.2 enc3 enc42 s32v.2.2.2.2, obj b31v 33 [.int .i64 2, .int .i64 (IntKind.i64.wrap (100 + (min s19v.1 (IntKind.i64.wrap ((IntKind.i64.wrap (32 - (Int.tmod (IntKind.i64.wrap ((Int.tmod x1 3) + 3)) 3))) - 1))))), .int .i64 (IntKind.i64.wrap (s19v.1 + 1)), str ((runeS (IntKind.i32.wrap (IntKind.i64.wrap (65 + (IntKind.i64.wrap (Int.tdiv s19v.1 16)))))) ++ (runeS (IntKind.i32.wrap (IntKind.i64.wrap (97 + (Int.tmod s19v.1 16)))))), str ([118] : List UInt8), str ([] : List UInt8)], F]) rfl rfl rfl rfl rfl rfl Try.call18 (.sel 5 rfl (.sel' 5 rfl (RowV.mk hl37v) (.sel' 5 rfl (RowV.mk hl39v) (.sel 0 rfl (.sel 0 rfl (.sel 0 rfl (.sel 0 rfl (.sel 0 rfl (.sel 0 rfl (.nil _)))))))))) (synodref11_Store_Do.calls _ _ k b16v y20v.1 y20v.2.1 s19v.2.1 y20v.2.2.1 y20v.2.2.2.1 s19v.2.2.1 (2 : Int) (IntKind.i64.wrap (100 + (min s19v.1 (IntKind.i64.wrap ((IntKind.i64.wrap (32 - (Int.tmod (IntKind.i64.wrap ((Int.tmod x1 3) + 3)) 3))) - 1))))) (IntKind.i64.wrap (s19v.1 + 1)) ((runeS (IntKind.i32.wrap (IntKind.i64.wrap (65 + (IntKind.i64.wrap (Int.tdiv s19v.1 16)))))) ++ (runeS (IntKind.i32.wrap (IntKind.i64.wrap (97 + (Int.tmod s19v.1 16)))))) ([118] : List UInt8) ([] : List UInt8) ) hs42v) rfl rfl rfl ?_
 intro y41v
 refine simL_val (q_move rfl rfl) rfl rfl rfl ?_
 refine simL_val (q_ext rfl rfl rfl) rfl rfl rfl ?_
 refine simL_val (q_ext rfl rfl rfl) rfl rfl rfl ?_
 refine simL_eff (re_alloc rfl Try.zeroValue28 rfl) rfl rfl rfl ?_
 intro b43v
 refine simL_do (re_store 0 rfl rfl rfl Try.sizeOf28 rfl rfl (one_of (by rfl)) rfl rfl) rfl rfl ?_
 intro _
 refine simL_val (q_asg rfl rfl) rfl rfl rfl (simL_nil (nrm_then (sim_seq (sim_region ?_))))
 refine simL_val (q_loado 4 rfl rfl Try.isAgg28 Try.sizeOf28 rfl rfl) rfl rfl rfl ?_
 refine simL_val (q_loado 0 rfl rfl Try.isAgg28 Try.sizeOf28 rfl rfl) rfl rfl rfl ?_
 refine simL_val (q_neagg rfl rfl rfl (by kernel_rfl) (fun d w => eqi_struct Try.underlying28 (by kernel_rfl) (eqf_cons (by rfl) (part_of Try.isAgg3 rfl) (part_of Try.isAgg3 rfl) (eqi_int Try.underlying3) (eqf_last (by rfl) (part_of Try.isAgg9 rfl) (part_of Try.isAgg9 rfl) (eqi_str Try.underlying9))))) rfl rfl rfl ?_
 refine simL_nil (nrm_then ?_)
 refine sim_condb rfl (fun h44v => ?_) (fun h45v => ?_)
 refine sim_seq (sim_region ?_)
 refine simL_val (q_asg rfl rfl) rfl rfl rfl (simL_nil (nrm_then (sim_rtn ?_)))
 refine rtn_block ?_
 refine rtn_then ?_
 refine rtn_loop ?_
 refine rtn_block ?_
 refine rtn_cutR ?_
 exact rtn_fn () rfl rfl rfl (.sel 9 rfl (.nil _))
 refine sim_skip ?_
 refine nrm_block (nrm_then (sim_region ?_))
 refine simL_val (q_move rfl rfl) rfl rfl rfl ?_
 refine simL_val (q_add rfl rfl rfl) rfl rfl rfl ?_
 refine simL_val (q_asg rfl rfl) rfl rfl rfl (simL_nil ?_)
 exact nrm_again (s := (IntKind.i64.wrap (s19v.1 + 1), s40v.2.2.2.1, s40v.2.2.2.2, s32v.2.2.2.1, s32v.2.2.2.2)) (y41v.1, y41v.2.1, y41v.2.2.1, y41v.2.2.2, y33v.1, y33v.2) ⟨rfl, rfl, rfl, rfl, rfl, rfl, trivial⟩ (.sel 1 rfl (.sel 4 rfl (.sel 1 rfl (.sel 1 rfl (.sel 2 rfl (.sel 2 rfl (.sel 3 rfl (.nil _))))))))
 refine sim_exi ?_
 refine exi_then ?_
 refine exi_loop ?_
 refine exi_here ?_
 exact nrm_cutR (s := (s19v.2.1, s19v.2.2.1, s19v.2.2.2.1, s19v.2.2.2.2)) (y20v.1, y20v.2.1, y20v.2.2.1, y20v.2.2.2.1, y20v.2.2.2.2.1, y20v.2.2.2.2.2) ⟨rfl, rfl, rfl, trivial⟩ (.sel 0 rfl (.sel 0 rfl (.sel 0 rfl (.sel 0 rfl (.sel 0 rfl (.sel 0 rfl (.sel 0 rfl (.nil _))))))))
 intro s17v y18v
 refine sim_cutR (S := (List (List UInt8 × List UInt8)) × (List (Int × Int × Int × List UInt8)) × (List ((List UInt8) × (List UInt8))) × (List ((Int) × (Int × Int × Int × List UInt8)))) (Option Addr × Nat × Option Addr × Nat × Nat × Nat) (fun s y => [(9, .pointer (some ⟨y14v.1, 0, none⟩)), (10, .pointer (some ⟨b16v, 0, none⟩))]) (fun s y => [obj b16v 47 [.slice y.1 s.1.length y.2.1, .slice y.2.2.1 s.2.1.length y.2.2.2.1], obj y14v.1 63 [.map (some y.2.2.2.2.1), .map (some y.2.2.2.2.2)], RowV 92 2 (V92 tt) y.1 s.1 y.2.1, RowV 86 4 (V86 tt) y.2.2.1 s.2.1 y.2.2.2.1, mapO y.2.2.2.2.1 enc9 enc9 s.2.2.1, mapO y.2.2.2.2.2 enc3 enc42 s.2.2.2, F]) ?_ ?_
 refine sim_seq (sim_region ?_)
 refine simL_val (q_asg rfl rfl) rfl rfl rfl (simL_nil (nrm_then ?_))
 refine sim_block ?_
 refine sim_loop (S := Int × (List (List UInt8 × List UInt8)) × (List (Int × Int × Int × List UInt8)) × (List ((List UInt8) × (List UInt8))) × (List ((Int) × (Int × Int × Int × List UInt8)))) (Option Addr × Nat × Option Addr × Nat × Nat × Nat) (fun k s => synodlaw11_KvFull.l1 x2 k s.1 s.2.1 s.2.2.1 s.2.2.2.1 s.2.2.2.2) (fun s y => [(2, .slice a2 x2.length c2), (9, .pointer (some ⟨y14v.1, 0, none⟩)), (10, .pointer (some ⟨b16v, 0, none⟩)), (17, .int .i64 s.1)]) (fun s y => [obj b16v 47 [.slice y.1 s.2.1.length y.2.1, .slice y.2.2.1 s.2.2.1.length y.2.2.2.1], obj y14v.1 63 [.map (some y.2.2.2.2.1), .map (some y.2.2.2.2.2)], RowV 92 2 (V92 tt) y.1 s.2.1 y.2.1, RowV 86 4 (V86 tt) y.2.2.1 s.2.2.1 y.2.2.2.1, mapO y.2.2.2.2.1 enc9 enc9 s.2.2.2.1, mapO y.2.2.2.2.2 enc3 enc42 s.2.2.2.2, F]) (fun _ => by rw [synodlaw11_KvFull.l1]) ?_ k (0, s17v.1, s17v.2.1, s17v.2.2.1, s17v.2.2.2) (y18v.1, y18v.2.1, y18v.2.2.1, y18v.2.2.2.1, y18v.2.2.2.2.1, y18v.2.2.2.2.2) ⟨rfl, rfl, rfl, rfl, trivial⟩ (.sel 0 rfl (.sel 0 rfl (.sel 0 rfl (.sel 0 rfl (.sel 0 rfl (.sel 0 rfl (.sel 0 rfl (.nil _))))))))
 intro k s48v y49v
 refine sim_eq (by rw [synodlaw11_KvFull.l1]) ?_
 refine sim_seq (sim_seq (sim_region ?_))
 refine simL_val (q_move rfl rfl) rfl rfl rfl ?_
 refine simL_val (q_move rfl rfl) rfl rfl rfl ?_
 refine simL_val (q_len rfl rfl rfl Try.underlying22) rfl rfl rfl ?_
 refine simL_val (q_lss rfl rfl rfl) rfl rfl rfl (simL_nil (nrm_then ?_))
 refine sim_cond rfl (fun h55v => ?_) (fun h56v => ?_)
 refine sim_skip ?_
 refine nrm_then (sim_seq ?_)
 refine sim_block ?_
 refine sim_seq (sim_region ?_)
 refine simL_val (q_move rfl rfl) rfl rfl rfl ?_
 refine simL_val (q_move rfl rfl) rfl rfl rfl ?_
 refine simL_val (q_move rfl rfl) rfl rfl rfl ?_
 refine simL_ask (fun hi57v => ?_)
 obtain ⟨b58v, b58vo, r61v, ha59v, hV62v, hlr63v, hcell64v⟩ := RdV.pos h2 (Up.refl _) rfl (i := s48v.1.toNat) (by omega) dz33
 obtain rfl := hV62v
 refine simL_val (q_idx rfl rfl rfl ha59v Try.underlying22 Try.sizeOf33 hi57v.1 hi57v.2) rfl rfl rfl ?_
 refine simL_val (q_loads rfl rfl Try.isAgg33 Try.sizeOf33 rfl (fun j v hj => hcell64v 6 rfl j v hj)) rfl rfl rfl ?_
 refine simL_bind (fun s65v hs67v => ?_)
 refine simL_eff (re_call (vs := [.pointer (some ⟨y14v.1, 0, none⟩), .agg #[.int .i64 ((x2.getD s48v.1.toNat dz33).1), .int .i64 ((x2.getD s48v.1.toNat dz33).2.1), .int .i64 ((x2.getD s48v.1.toNat dz33).2.2.1), str ((x2.getD s48v.1.toNat dz33).2.2.2.1), str ((x2.getD s48v.1.toNat dz33).2.2.2.2.1), str ((x2.getD s48v.1.toNat dz33).2.2.2.2.2)]]) (cap := []) (A := [obj y14v.1 63 [.map (some y49v.2.2.2.2.1), .map (some y49v.2.2.2.2.2)], mapO y49v.2.2.2.2.1 enc9 enc9 s48v.2.2.2.1, mapO y49v.2.2.2.2.2 enc3 enc42 s48v.2.2.2.2]) (rst := [obj b16v 47 [.slice y49v.1 s48v.2.1.length y49v.2.1, .slice y49v.2.2.1 s48v.2.2.1.length y49v.2.2.2.1], RowV 92 2 (V92 tt) y49v.1 s48v.2.1 y49v.2.1, RowV 86 4 (V86 tt) y49v.2.2.1 s48v.2.2.1 y49v.2.2.2.1, F]) rfl rfl rfl rfl rfl rfl Try.call12 (.sel 1 rfl (.sel 3 rfl (.sel 3 rfl (.sel 0 rfl (.sel 0 rfl (.sel 0 rfl (.sel 0 rfl (.nil _)))))))) (kv_Store_Do.calls _ _ y14v.1 y49v.2.2.2.2.1 s48v.2.2.2.1 y49v.2.2.2.2.2 s48v.2.2.2.2 ((x2.getD s48v.1.toNat dz33).1) ((x2.getD s48v.1.toNat dz33).2.1) ((x2.getD s48v.1.toNat dz33).2.2.1) ((x2.getD s48v.1.toNat dz33).2.2.2.1) ((x2.getD s48v.1.toNat dz33).2.2.2.2.1) ((x2.getD s48v.1.toNat dz33).2.2.2.2.2) ) hs67v) rfl rfl rfl ?_
 intro y66v
 refine simL_val (q_move rfl rfl) rfl rfl rfl ?_
 refine simL_val (q_ext rfl rfl rfl) rfl rfl rfl ?_
 refine simL_val (q_ext rfl rfl rfl) rfl rfl rfl ?_
 refine simL_eff (re_alloc rfl Try.zeroValue28 rfl) rfl rfl rfl ?_
 intro b68v
 refine simL_do (re_store 0 rfl rfl rfl Try.sizeOf28 rfl rfl (one_of (by rfl)) rfl rfl) rfl rfl ?_
 intro _
 refine simL_val (q_asg rfl rfl) rfl rfl rfl (simL_nil (nrm_then (sim_seq (sim_region ?_))))
 refine simL_val (q_move rfl rfl) rfl rfl rfl ?_
 refine simL_val (q_move rfl rfl) rfl rfl rfl ?_
 refine simL_val (q_move rfl rfl) rfl rfl rfl ?_
 refine simL_ask (fun hi69v => ?_)
 obtain ⟨b70v, b70vo, r73v, ha71v, hV74v, hlr75v, hcell76v⟩ := RdV.pos h2 (Up.refl _) rfl (i := s48v.1.toNat) (by omega) dz33
 obtain rfl := hV74v
 refine simL_val (q_idx rfl rfl rfl ha71v Try.underlying22 Try.sizeOf33 hi69v.1 hi69v.2) rfl rfl rfl ?_
 refine simL_val (q_loads rfl rfl Try.isAgg33 Try.sizeOf33 rfl (fun j v hj => hcell76v 7 rfl j v hj)) rfl rfl rfl ?_
 refine simL_openV 5 rfl (fun rs77v hl78v => ?_)
 refine simL_openV 6 rfl (fun rs79v hl80v => ?_)
 refine simL_bind (fun s81v hs83v => ?_)
 refine simL_eff (re_call (vs := [.pointer (some ⟨b16v, 0, none⟩), .agg #[.int .i64 ((x2.getD s48v.1.toNat dz33).1), .int .i64 ((x2.getD s48v.1.toNat dz33).2.1), .int .i64 ((x2.getD s48v.1.toNat dz33).2.2.1), str ((x2.getD s48v.1.toNat dz33).2.2.2.1), str ((x2.getD s48v.1.toNat dz33).2.2.2.2.1), str ((x2.getD s48v.1.toNat dz33).2.2.2.2.2)]]) (cap := []) (A := [obj b16v 47 [.slice y49v.1 s48v.2.1.length y49v.2.1, .slice y49v.2.2.1 s48v.2.2.1.length y49v.2.2.2.1], RowV 92 2 (V92 tt) y49v.1 s48v.2.1 y49v.2.1, RowV 86 4 (V86 tt) y49v.2.2.1 s48v.2.2.1 y49v.2.2.2.1]) (rst := [obj b68v 28 [.int .i64 s65v.1, str s65v.2.1], obj y14v.1 63 [.map (some y66v.1), .map (some y66v.2)], mapO y66v.1 enc9 enc9 s65v.2.2.2.1, mapO y66v.2 enc3 enc42 s65v.2.2.2.2, F]) rfl rfl rfl rfl rfl rfl Try.call18 (.sel 4 rfl (.sel' 4 rfl (RowV.mk hl78v) (.sel' 4 rfl (RowV.mk hl80v) (.sel 0 rfl (.sel 0 rfl (.sel 0 rfl (.sel 0 rfl (.sel 0 rfl (.nil _))))))))) (synodref11_Store_Do.calls _ _ k b16v y49v.1 y49v.2.1 s48v.2.1 y49v.2.2.1 y49v.2.2.2.1 s48v.2.2.1 ((x2.getD s48v.1.toNat dz33).1) ((x2.getD s48v.1.toNat dz33).2.1) ((x2.getD s48v.1.toNat dz33).2.2.1) ((x2.getD s48v.1.toNat dz33).2.2.2.1) ((x2.getD s48v.1.toNat dz33).2.2.2.2.1) ((x2.getD s48v.1.toNat dz33).2.2.2.2.2) ) hs83v) rfl rfl rfl ?_
 intro y82v
 refine simL_val (q_move rfl rfl) rfl rfl rfl ?_
 refine simL_val (q_ext rfl rfl rfl) rfl rfl rfl ?_
 refine simL_val (q_ext rfl rfl rfl) rfl rfl rfl ?_
 refine simL_eff (re_alloc rfl Try.zeroValue28 rfl) rfl rfl rfl ?_
 intro b84v
 refine simL_do (re_store 0 rfl rfl rfl Try.sizeOf28 rfl rfl (one_of (by rfl)) rfl rfl) rfl rfl ?_
 intro _
 refine simL_val (q_asg rfl rfl) rfl rfl rfl (simL_nil (nrm_then (sim_seq (sim_region ?_))))
 refine simL_val (q_loado 4 rfl rfl Try.isAgg28 Try.sizeOf28 rfl rfl) rfl rfl rfl ?_
 refine simL_val (q_loado 0 rfl rfl Try.isAgg28 Try.sizeOf28 rfl rfl) rfl rfl rfl ?_
 refine simL_val (q_neagg rfl rfl rfl (by kernel_rfl) (fun d w => eqi_struct Try.underlying28 (by kernel_rfl) (eqf_cons (by rfl) (part_of Try.isAgg3 rfl) (part_of Try.isAgg3 rfl) (eqi_int Try.underlying3) (eqf_last (by rfl) (part_of Try.isAgg9 rfl) (part_of Try.isAgg9 rfl) (eqi_str Try.underlying9))))) rfl rfl rfl ?_
 refine simL_val (q_move rfl rfl) rfl rfl rfl ?_
 refine simL_cut' 5 (S := Bool) (Unit) (fun s y => [(2, .slice a2 x2.length c2), (9, .pointer (some ⟨y14v.1, 0, none⟩)), (10, .pointer (some ⟨b16v, 0, none⟩)), (17, .int .i64 s48v.1), (116, .bool s)]) (fun s y => [obj b16v 47 [.slice y82v.1 s81v.2.2.2.1.length y82v.2.1, .slice y82v.2.2.1 s81v.2.2.2.2.length y82v.2.2.2], obj y14v.1 63 [.map (some y66v.1), .map (some y66v.2)], RowV 92 2 (V92 tt) y82v.1 s81v.2.2.2.1 y82v.2.1, RowV 86 4 (V86 tt) y82v.2.2.1 s81v.2.2.2.2 y82v.2.2.2, mapO y66v.1 enc9 enc9 s65v.2.2.2.1, mapO y66v.2 enc3 enc42 s65v.2.2.2.2, F]) ?_ ?_
 refine simL_caseb (fun hb90v => ?_) (fun hb91v => ?_)
 rw [hb90v]
 refine simL_skipd rfl rfl rfl rfl rfl rfl ?_
 refine simL_skipd rfl rfl rfl rfl rfl rfl ?_
 refine simL_skipd rfl rfl rfl rfl rfl rfl ?_
 refine simL_skipd rfl rfl rfl rfl rfl rfl ?_
 refine simL_val (q_pick rfl rfl rfl rfl rfl) rfl rfl rfl (simL_nil ?_)
 exact nrm_cut (s := true) () ⟨rfl, rfl, rfl, rfl, rfl, trivial⟩ (.sel 1 rfl (.sel 4 rfl (.sel 1 rfl (.sel 1 rfl (.sel 2 rfl (.sel 2 rfl (.sel 2 rfl (.nil _))))))))
 rw [hb91v]
 refine simL_valg (q_move rfl rfl) rfl rfl rfl rfl rfl rfl ?_
 refine simL_bind (fun s87v hs89v => ?_)
 refine simL_effg (re_call (vs := [.int .i64 s65v.2.2.1]) (cap := []) (A := []) (rst := [obj b84v 28 [.int .i64 s81v.1, str s81v.2.1], obj b16v 47 [.slice y82v.1 s81v.2.2.2.1.length y82v.2.1, .slice y82v.2.2.1 s81v.2.2.2.2.length y82v.2.2.2], RowV 92 2 (V92 tt) y82v.1 s81v.2.2.2.1 y82v.2.1, RowV 86 4 (V86 tt) y82v.2.2.1 s81v.2.2.2.2 y82v.2.2.2, obj b68v 28 [.int .i64 s65v.1, str s65v.2.1], obj y14v.1 63 [.map (some y66v.1), .map (some y66v.2)], mapO y66v.1 enc9 enc9 s65v.2.2.2.1, mapO y66v.2 enc3 enc42 s65v.2.2.2.2, F]) rfl rfl rfl rfl rfl rfl Try.call13 (.sel 0 rfl (.sel 0 rfl (.sel 0 rfl (.sel 0 rfl (.sel 0 rfl (.sel 0 rfl (.sel 0 rfl (.sel 0 rfl (.sel 0 rfl (.nil _)))))))))) (synodref_Num.calls _ _ s65v.2.2.1 ) hs89v) rfl rfl rfl rfl rfl rfl ?_
 intro y88v
 refine simL_valg (q_move rfl rfl) rfl rfl rfl rfl rfl rfl ?_
 refine simL_valg (q_neq rfl rfl rfl) rfl rfl rfl rfl rfl rfl ?_
 refine simL_val (q_pick rfl rfl rfl rfl rfl) rfl rfl rfl (simL_nil ?_)
 exact nrm_cut (s := !decide (s87v = s81v.2.2.1)) () ⟨rfl, rfl, rfl, rfl, rfl, trivial⟩ (.sel 1 rfl (.sel 4 rfl (.sel 1 rfl (.sel 1 rfl (.sel 2 rfl (.sel 2 rfl (.sel 2 rfl (.nil _))))))))
 intro s85v y86v
 refine simL_nil (nrm_then ?_)
 refine sim_condb rfl (fun h92v => ?_) (fun h93v => ?_)
 refine sim_seq (sim_region ?_)
 refine simL_val (q_asg rfl rfl) rfl rfl rfl (simL_nil (nrm_then (sim_rtn ?_)))
 refine rtn_block ?_
 refine rtn_then ?_
 refine rtn_loop ?_
 refine rtn_block ?_
 refine rtn_cutR ?_
 exact rtn_fn () rfl rfl rfl (.sel 6 rfl (.nil _))
 refine sim_skip ?_
 refine nrm_block (nrm_then (sim_region ?_))
 refine simL_val (q_move rfl rfl) rfl rfl rfl ?_
 refine simL_val (q_add rfl rfl rfl) rfl rfl rfl ?_
 refine simL_val (q_asg rfl rfl) rfl rfl rfl (simL_nil ?_)
 exact nrm_again (s := (IntKind.i64.wrap (s48v.1 + 1), s81v.2.2.2.1, s81v.2.2.2.2, s65v.2.2.2.1, s65v.2.2.2.2)) (y82v.1, y82v.2.1, y82v.2.2.1, y82v.2.2.2, y66v.1, y66v.2) ⟨rfl, rfl, rfl, rfl, trivial⟩ (.sel 0 rfl (.sel 0 rfl (.sel 0 rfl (.sel 0 rfl (.sel 0 rfl (.sel 0 rfl (.sel 0 rfl (.nil _))))))))
 refine sim_exi ?_
 refine exi_then ?_
 refine exi_loop ?_
 refine exi_here ?_
 exact nrm_cutR (s := (s48v.2.1, s48v.2.2.1, s48v.2.2.2.1, s48v.2.2.2.2)) (y49v.1, y49v.2.1, y49v.2.2.1, y49v.2.2.2.1, y49v.2.2.2.2.1, y49v.2.2.2.2.2) ⟨rfl, rfl, trivial⟩ (.sel 0 rfl (.sel 0 rfl (.sel 0 rfl (.sel 0 rfl (.sel 0 rfl (.sel 0 rfl (.sel 0 rfl (.nil _))))))))
 intro s46v y47v
 refine sim_seq (sim_region ?_)
 refine simL_val (q_move rfl rfl) rfl rfl rfl ?_
 refine simL_val (q_move rfl rfl) rfl rfl rfl ?_
 refine simL_openV 2 rfl (fun rs94v hl95v => ?_)
 refine simL_openV 3 rfl (fun rs96v hl97v => ?_)
 refine simL_bind (fun s106v hs108v => ?_)
 refine simL_lend 2 rfl (fun hq98v hq99v hq100v hq101v => ?_)
 refine simL_lend 3 rfl (fun hq102v hq103v hq104v hq105v => ?_)
 refine simL_eff (re_call (vs := [.pointer (some ⟨y14v.1, 0, none⟩), .pointer (some ⟨b16v, 0, none⟩)]) (cap := []) (A := [obj y14v.1 63 [.map (some y47v.2.2.2.2.1), .map (some y47v.2.2.2.2.2)], mapO y47v.2.2.2.2.1 enc9 enc9 s46v.2.2.1, mapO y47v.2.2.2.2.2 enc3 enc42 s46v.2.2.2, obj b16v 47 [.slice y47v.1 s46v.1.length y47v.2.1, .slice y47v.2.2.1 s46v.2.1.length y47v.2.2.2.1]]) (rst := [Row 92 2 y47v.1 s46v.1.length y47v.2.1 rs94v.flatten, Row 86 4 y47v.2.2.1 s46v.2.1.length y47v.2.2.2.1 rs96v.flatten, F]) rfl rfl rfl rfl rfl rfl Try.call21 (.sel 1 rfl (.sel 3 rfl (.sel 3 rfl (.sel 0 rfl (.sel 0 rfl (.sel 0 rfl (.sel 0 rfl (.nil _)))))))) (synodlaw11_Same.calls _ _ k y14v.1 y47v.2.2.2.2.1 s46v.2.2.1 y47v.2.2.2.2.2 s46v.2.2.2 b16v y47v.1 y47v.2.1 s46v.1 y47v.2.2.1 y47v.2.2.2.1 s46v.2.1 ((Rd.asV hl95v hq98v).up (Up.lend 0 rfl) (fun _ _ h => h)) hq99v hq100v ((Rd.asV hl97v hq102v).up (Up.lend 1 rfl) (fun _ _ h => h)) hq103v hq104v) hs108v) rfl rfl rfl ?_
 intro y107v
 refine simL_val (q_asg rfl rfl) rfl rfl rfl (simL_nil (nrm_then (sim_rtn ?_)))
 exact rtn_fn () rfl rfl rfl (.sel 6 rfl (.nil _))
end Go.Proofs.Ytdaedoklkmdhcaa

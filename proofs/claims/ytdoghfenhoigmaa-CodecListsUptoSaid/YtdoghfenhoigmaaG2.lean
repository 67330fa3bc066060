/- Printed by gen.py: pure functions and the proofs that the Go functions simulate them. Conditions: as each theorem says. -/
import Derived.Test.YtdoghfenhoigmaaG1
namespace Go.Proofs.Ytdoghfenhoigmaa
open Go.RowKit
set_option linter.unusedVariables false
set_option maxRecDepth 20000
set_option maxHeartbeats 2000000
def codec_Messages_Put_1.l0 (x1_10 : List (Int × Int × Int × List UInt8)) : Nat → Int → List UInt8 → Int → Option (List UInt8 × Int)
  | 0, _, _, _ => none
  | k + 1, z42v, z43v, z44v => if z42v < (x1_10.length : Int) then (if 0 ≤ z42v ∧ z42v < (x1_10.length : Int) then ((codec_Entries_Put.f k ((x1_10.getD z42v.toNat ((0 : Int), (0 : Int), (0 : Int), ([] : List UInt8))).1) ((x1_10.getD z42v.toNat ((0 : Int), (0 : Int), (0 : Int), ([] : List UInt8))).2.1) ((x1_10.getD z42v.toNat ((0 : Int), (0 : Int), (0 : Int), ([] : List UInt8))).2.2.1) ((x1_10.getD z42v.toNat ((0 : Int), (0 : Int), (0 : Int), ([] : List UInt8))).2.2.2)).bind fun s61v => ((wire_Writer_Bytes.f k z43v z44v s61v.1 (8192 : Int)).bind fun s68v => (codec_Messages_Put_1.l0 x1_10 k (IntKind.i64.wrap (z42v + 1)) s68v.1 s68v.2))) else none) else (some (z43v, z44v))
def codec_Messages_Put_1.f (k : Nat) (x0_0 : List UInt8) (x0_1 : Int) (x1_0 : Int) (x1_1 : Int) (x1_2 : Int) (x1_3 : Int) (x1_4 : Int) (x1_5 : Int) (x1_6 : Int) (x1_7 : Int) (x1_8 : Int) (x1_9 : Bool) (x1_10 : List (Int × Int × Int × List UInt8)) (x1_11 : Int) (x1_12 : Int) (x1_13 : List UInt8) : Option (List UInt8 × Int) := (wire_Writer_Int.f k x0_0 x0_1 x1_0).bind fun s1v => ((wire_Writer_Int.f k s1v.1 s1v.2 x1_1).bind fun s4v => ((wire_Writer_Int.f k s4v.1 s4v.2 x1_2).bind fun s7v => ((wire_Writer_Int.f k s7v.1 s7v.2 x1_3).bind fun s10v => (if x1_0 = (1 : Int) then ((wire_Writer_Int.f k s10v.1 s10v.2 x1_4).bind fun s15v => ((wire_Writer_Int.f k s15v.1 s15v.2 x1_5).bind fun s18v => (some (s18v.1, s18v.2)))) else (if x1_0 = (2 : Int) then ((wire_Writer_Bool.f k s10v.1 s10v.2 x1_9).bind fun s23v => (some (s23v.1, s23v.2))) else (if x1_0 = (3 : Int) then ((wire_Writer_Int.f k s10v.1 s10v.2 x1_4).bind fun s28v => ((wire_Writer_Int.f k s28v.1 s28v.2 x1_5).bind fun s31v => ((wire_Writer_Int.f k s31v.1 s31v.2 x1_6).bind fun s34v => ((wire_Writer_Int.f k s34v.1 s34v.2 (x1_10.length : Int)).bind fun s37v => (codec_Messages_Put_1.l0 x1_10 k 0 s37v.1 s37v.2))))) else (if x1_0 = (4 : Int) then ((wire_Writer_Int.f k s10v.1 s10v.2 x1_4).bind fun s73v => ((wire_Writer_Bool.f k s73v.1 s73v.2 x1_9).bind fun s76v => ((wire_Writer_Int.f k s76v.1 s76v.2 x1_7).bind fun s79v => (some (s79v.1, s79v.2))))) else (if x1_0 = (5 : Int) then ((wire_Writer_Int.f k s10v.1 s10v.2 x1_6).bind fun s84v => ((wire_Writer_Int.f k s84v.1 s84v.2 x1_8).bind fun s87v => (some (s87v.1, s87v.2)))) else (if x1_0 = (6 : Int) then ((wire_Writer_Int.f k s10v.1 s10v.2 x1_8).bind fun s92v => (some (s92v.1, s92v.2))) else (if x1_0 = (7 : Int) then ((codec_Snaps_Put.f k x1_11 x1_12 x1_13).bind fun s97v => ((wire_Writer_Bytes.f k s10v.1 s10v.2 s97v.1 (1048576 : Int)).bind fun s104v => (some (s104v.1, s104v.2)))) else (some (s10v.1, s10v.2))))))))))))
theorem codec_Messages_Put_1.calls (W : World) (F : HA) (k : Nat) (b0 : Nat) (a0_0 : Option Addr) (c0_0 : Nat) (x0_0 : List UInt8) (x0_1 : Int) (b1 : Nat) (x1_0 : Int) (x1_1 : Int) (x1_2 : Int) (x1_3 : Int) (x1_4 : Int) (x1_5 : Int) (x1_6 : Int) (x1_7 : Int) (x1_8 : Int) (x1_9 : Bool) (a1_10 : Option Addr) (c1_10 : Nat) (x1_10 : List (Int × Int × Int × List UInt8)) (x1_11 : Int) (x1_12 : Int) (a1_13 : Option Addr) (c1_13 : Nat) (x1_13 : List UInt8) (h1_10 : RdV F 4 (V61 F) a1_10 x1_10) (hc1_10 : x1_10.length ≤ c1_10) (hm1_10 : c1_10 ≤ maxLen) (h1_13 : Rd F a1_13 (encB x1_13)) (hc1_13 : x1_13.length ≤ c1_13) (hm1_13 : c1_13 ≤ maxLen) :
    Fn Try.prog W 104 [.pointer (some ⟨b0, 0, none⟩), .pointer (some ⟨b1, 0, none⟩)] [obj b0 187 [.slice a0_0 x0_0.length c0_0, .int .i64 x0_1], Row 5 1 a0_0 x0_0.length c0_0 (encB x0_0), obj b1 31 [.int .i64 x1_0, .int .i64 x1_1, .int .i64 x1_2, .int .i64 x1_3, .int .i64 x1_4, .int .i64 x1_5, .int .i64 x1_6, .int .i64 x1_7, .int .i64 x1_8, .bool x1_9, .slice a1_10 x1_10.length c1_10, .int .i64 x1_11, .int .i64 x1_12, .slice a1_13 x1_13.length c1_13]] F (codec_Messages_Put_1.f k x0_0 x0_1 x1_0 x1_1 x1_2 x1_3 x1_4 x1_5 x1_6 x1_7 x1_8 x1_9 x1_10 x1_11 x1_12 x1_13) (fun (r : List UInt8 × Int) (y : Option Addr × Nat) => .tuple #[]) (fun r y => [obj b0 187 [.slice y.1 r.1.length y.2, .int .i64 r.2], Row 5 1 y.1 r.1.length y.2 (encB r.1), obj b1 31 [.int .i64 x1_0, .int .i64 x1_1, .int .i64 x1_2, .int .i64 x1_3, .int .i64 x1_4, .int .i64 x1_5, .int .i64 x1_6, .int .i64 x1_7, .int .i64 x1_8, .bool x1_9, .slice a1_10 x1_10.length c1_10, .int .i64 x1_11, .int .i64 x1_12, .slice a1_13 x1_13.length c1_13]]) := by
 unfold codec_Messages_Put_1.f
 refine fn_intro 121 Try.func104 rfl Try.ntmps104 rfl ?_
 refine sim_seq (sim_region ?_)
 refine simL_val (q_move rfl rfl) rfl rfl rfl ?_
 refine simL_val (q_fa rfl rfl Try.underlying31 rfl rfl Try.sizeOf3 rfl) rfl rfl rfl ?_
 refine simL_val (q_load rfl rfl Try.isAgg3 (.obj 2 rfl rfl)) rfl rfl rfl ?_
 refine simL_bind (fun s1v hs3v => ?_)
 refine simL_eff (re_call (vs := [.pointer (some ⟨b0, 0, none⟩), .int .i64 x1_0]) (cap := []) (A := [obj b0 187 [.slice a0_0 x0_0.length c0_0, .int .i64 x0_1], Row 5 1 a0_0 x0_0.length c0_0 (encB x0_0)]) (rst := [obj b1 31 [.int .i64 x1_0, .int .i64 x1_1, .int .i64 x1_2, .int .i64 x1_3, .int .i64 x1_4, .int .i64 x1_5, .int .i64 x1_6, .int .i64 x1_7, .int .i64 x1_8, .bool x1_9, .slice a1_10 x1_10.length c1_10, .int .i64 x1_11, .int .i64 x1_12, .slice a1_13 x1_13.length c1_13], F]) rfl rfl rfl rfl rfl rfl Try.call78 (.sel 0 rfl (.sel 0 rfl (.sel 0 rfl (.sel 0 rfl (.nil _))))) (wire_Writer_Int.calls _ _ k b0 a0_0 c0_0 x0_0 x0_1 x1_0 ) hs3v) rfl rfl rfl ?_
 intro y2v
 refine simL_nil (nrm_then (sim_seq (sim_region ?_)))
 refine simL_val (q_move rfl rfl) rfl rfl rfl ?_
 refine simL_val (q_fa rfl rfl Try.underlying31 rfl rfl Try.sizeOf3 rfl) rfl rfl rfl ?_
 refine simL_val (q_load rfl rfl Try.isAgg3 (.obj 2 rfl rfl)) rfl rfl rfl ?_
 refine simL_bind (fun s4v hs6v => ?_)
 refine simL_eff (re_call (vs := [.pointer (some ⟨b0, 0, none⟩), .int .i64 x1_1]) (cap := []) (A := [obj b0 187 [.slice y2v.1 s1v.1.length y2v.2, .int .i64 s1v.2], Row 5 1 y2v.1 s1v.1.length y2v.2 (encB s1v.1)]) (rst := [obj b1 31 [.int .i64 x1_0, .int .i64 x1_1, .int .i64 x1_2, .int .i64 x1_3, .int .i64 x1_4, .int .i64 x1_5, .int .i64 x1_6, .int .i64 x1_7, .int .i64 x1_8, .bool x1_9, .slice a1_10 x1_10.length c1_10, .int .i64 x1_11, .int .i64 x1_12, .slice a1_13 x1_13.length c1_13], F]) rfl rfl rfl rfl rfl rfl Try.call78 (.sel 0 rfl (.sel 0 rfl (.sel 0 rfl (.sel 0 rfl (.nil _))))) (wire_Writer_Int.calls _ _ k b0 y2v.1 y2v.2 s1v.1 s1v.2 x1_1 ) hs6v) rfl rfl rfl ?_
 intro y5v
 refine simL_nil (nrm_then (sim_seq (sim_region ?_)))
 refine simL_val (q_move rfl rfl) rfl rfl rfl ?_
 refine simL_val (q_fa rfl rfl Try.underlying31 rfl rfl Try.sizeOf3 rfl) rfl rfl rfl ?_
 refine simL_val (q_load rfl rfl Try.isAgg3 (.obj 2 rfl rfl)) rfl rfl rfl ?_
 refine simL_bind (fun s7v hs9v => ?_)
 refine simL_eff (re_call (vs := [.pointer (some ⟨b0, 0, none⟩), .int .i64 x1_2]) (cap := []) (A := [obj b0 187 [.slice y5v.1 s4v.1.length y5v.2, .int .i64 s4v.2], Row 5 1 y5v.1 s4v.1.length y5v.2 (encB s4v.1)]) (rst := [obj b1 31 [.int .i64 x1_0, .int .i64 x1_1, .int .i64 x1_2, .int .i64 x1_3, .int .i64 x1_4, .int .i64 x1_5, .int .i64 x1_6, .int .i64 x1_7, .int .i64 x1_8, .bool x1_9, .slice a1_10 x1_10.length c1_10, .int .i64 x1_11, .int .i64 x1_12, .slice a1_13 x1_13.length c1_13], F]) rfl rfl rfl rfl rfl rfl Try.call78 (.sel 0 rfl (.sel 0 rfl (.sel 0 rfl (.sel 0 rfl (.nil _))))) (wire_Writer_Int.calls _ _ k b0 y5v.1 y5v.2 s4v.1 s4v.2 x1_2 ) hs9v) rfl rfl rfl ?_
 intro y8v
 refine simL_nil (nrm_then (sim_seq (sim_region ?_)))
 refine simL_val (q_move rfl rfl) rfl rfl rfl ?_
 refine simL_val (q_fa rfl rfl Try.underlying31 rfl rfl Try.sizeOf3 rfl) rfl rfl rfl ?_
 refine simL_val (q_load rfl rfl Try.isAgg3 (.obj 2 rfl rfl)) rfl rfl rfl ?_
 refine simL_bind (fun s10v hs12v => ?_)
 refine simL_eff (re_call (vs := [.pointer (some ⟨b0, 0, none⟩), .int .i64 x1_3]) (cap := []) (A := [obj b0 187 [.slice y8v.1 s7v.1.length y8v.2, .int .i64 s7v.2], Row 5 1 y8v.1 s7v.1.length y8v.2 (encB s7v.1)]) (rst := [obj b1 31 [.int .i64 x1_0, .int .i64 x1_1, .int .i64 x1_2, .int .i64 x1_3, .int .i64 x1_4, .int .i64 x1_5, .int .i64 x1_6, .int .i64 x1_7, .int .i64 x1_8, .bool x1_9, .slice a1_10 x1_10.length c1_10, .int .i64 x1_11, .int .i64 x1_12, .slice a1_13 x1_13.length c1_13], F]) rfl rfl rfl rfl rfl rfl Try.call78 (.sel 0 rfl (.sel 0 rfl (.sel 0 rfl (.sel 0 rfl (.nil _))))) (wire_Writer_Int.calls _ _ k b0 y8v.1 y8v.2 s7v.1 s7v.2 x1_3 ) hs12v) rfl rfl rfl ?_
 intro y11v
 refine simL_nil (nrm_then (sim_seq (sim_region ?_)))
 refine simL_val (q_fa rfl rfl Try.underlying31 rfl rfl Try.sizeOf3 rfl) rfl rfl rfl ?_
 refine simL_val (q_load rfl rfl Try.isAgg3 (.obj 2 rfl rfl)) rfl rfl rfl (simL_nil (nrm_then ?_))
 refine sim_block ?_
 refine sim_seq (sim_region ?_)
 refine simL_val (q_eql rfl rfl rfl) rfl rfl rfl ?_
 refine simL_val (q_asg rfl rfl) rfl rfl rfl (simL_nil (nrm_then ?_))
 refine sim_cond rfl (fun h13v => ?_) (fun h14v => ?_)
 refine sim_seq (sim_region ?_)
 refine simL_val (q_move rfl rfl) rfl rfl rfl ?_
 refine simL_val (q_fa rfl rfl Try.underlying31 rfl rfl Try.sizeOf3 rfl) rfl rfl rfl ?_
 refine simL_val (q_load rfl rfl Try.isAgg3 (.obj 2 rfl rfl)) rfl rfl rfl ?_
 refine simL_bind (fun s15v hs17v => ?_)
 refine simL_eff (re_call (vs := [.pointer (some ⟨b0, 0, none⟩), .int .i64 x1_4]) (cap := []) (A := [obj b0 187 [.slice y11v.1 s10v.1.length y11v.2, .int .i64 s10v.2], Row 5 1 y11v.1 s10v.1.length y11v.2 (encB s10v.1)]) (rst := [obj b1 31 [.int .i64 x1_0, .int .i64 x1_1, .int .i64 x1_2, .int .i64 x1_3, .int .i64 x1_4, .int .i64 x1_5, .int .i64 x1_6, .int .i64 x1_7, .int .i64 x1_8, .bool x1_9, .slice a1_10 x1_10.length c1_10, .int .i64 x1_11, .int .i64 x1_12, .slice a1_13 x1_13.length c1_13], F]) rfl rfl rfl rfl rfl rfl Try.call78 (.sel 0 rfl (.sel 0 rfl (.sel 0 rfl (.sel 0 rfl (.nil _))))) (wire_Writer_Int.calls _ _ k b0 y11v.1 y11v.2 s10v.1 s10v.2 x1_4 ) hs17v) rfl rfl rfl ?_
 intro y16v
 refine simL_nil (nrm_then (sim_region ?_))
 refine simL_val (q_move rfl rfl) rfl rfl rfl ?_
 refine simL_val (q_fa rfl rfl Try.underlying31 rfl rfl Try.sizeOf3 rfl) rfl rfl rfl ?_
 refine simL_val (q_load rfl rfl Try.isAgg3 (.obj 2 rfl rfl)) rfl rfl rfl ?_
 refine simL_bind (fun s18v hs20v => ?_)
 refine simL_eff (re_call (vs := [.pointer (some ⟨b0, 0, none⟩), .int .i64 x1_5]) (cap := []) (A := [obj b0 187 [.slice y16v.1 s15v.1.length y16v.2, .int .i64 s15v.2], Row 5 1 y16v.1 s15v.1.length y16v.2 (encB s15v.1)]) (rst := [obj b1 31 [.int .i64 x1_0, .int .i64 x1_1, .int .i64 x1_2, .int .i64 x1_3, .int .i64 x1_4, .int .i64 x1_5, .int .i64 x1_6, .int .i64 x1_7, .int .i64 x1_8, .bool x1_9, .slice a1_10 x1_10.length c1_10, .int .i64 x1_11, .int .i64 x1_12, .slice a1_13 x1_13.length c1_13], F]) rfl rfl rfl rfl rfl rfl Try.call78 (.sel 0 rfl (.sel 0 rfl (.sel 0 rfl (.sel 0 rfl (.nil _))))) (wire_Writer_Int.calls _ _ k b0 y16v.1 y16v.2 s15v.1 s15v.2 x1_5 ) hs20v) rfl rfl rfl ?_
 intro y19v
 refine simL_nil (nrm_block ?_)
 exact nrm_fn (y19v.1, y19v.2) rfl rfl rfl (.sel 0 rfl (.sel 0 rfl (.sel 0 rfl (.sel 0 rfl (.nil _)))))
 refine sim_seq (sim_region ?_)
 refine simL_val (q_eql rfl rfl rfl) rfl rfl rfl ?_
 refine simL_val (q_asg rfl rfl) rfl rfl rfl (simL_nil (nrm_then ?_))
 refine sim_cond rfl (fun h21v => ?_) (fun h22v => ?_)
 refine sim_region ?_
 refine simL_val (q_move rfl rfl) rfl rfl rfl ?_
 refine simL_val (q_fa rfl rfl Try.underlying31 rfl rfl Try.sizeOf4 rfl) rfl rfl rfl ?_
 refine simL_val (q_load rfl rfl Try.isAgg4 (.obj 2 rfl rfl)) rfl rfl rfl ?_
 refine simL_bind (fun s23v hs25v => ?_)
 refine simL_eff (re_call (vs := [.pointer (some ⟨b0, 0, none⟩), .bool x1_9]) (cap := []) (A := [obj b0 187 [.slice y11v.1 s10v.1.length y11v.2, .int .i64 s10v.2], Row 5 1 y11v.1 s10v.1.length y11v.2 (encB s10v.1)]) (rst := [obj b1 31 [.int .i64 x1_0, .int .i64 x1_1, .int .i64 x1_2, .int .i64 x1_3, .int .i64 x1_4, .int .i64 x1_5, .int .i64 x1_6, .int .i64 x1_7, .int .i64 x1_8, .bool x1_9, .slice a1_10 x1_10.length c1_10, .int .i64 x1_11, .int .i64 x1_12, .slice a1_13 x1_13.length c1_13], F]) rfl rfl rfl rfl rfl rfl Try.call105 (.sel 0 rfl (.sel 0 rfl (.sel 0 rfl (.sel 0 rfl (.nil _))))) (wire_Writer_Bool.calls _ _ k b0 y11v.1 y11v.2 s10v.1 s10v.2 x1_9 ) hs25v) rfl rfl rfl ?_
 intro y24v
 refine simL_nil (nrm_block ?_)
 exact nrm_fn (y24v.1, y24v.2) rfl rfl rfl (.sel 0 rfl (.sel 0 rfl (.sel 0 rfl (.sel 0 rfl (.nil _)))))
 refine sim_seq (sim_region ?_)
 refine simL_val (q_eql rfl rfl rfl) rfl rfl rfl ?_
 refine simL_val (q_asg rfl rfl) rfl rfl rfl (simL_nil (nrm_then ?_))
 refine sim_cond rfl (fun h26v => ?_) (fun h27v => ?_)
 refine sim_seq (sim_region ?_)
 refine simL_val (q_move rfl rfl) rfl rfl rfl ?_
 refine simL_val (q_fa rfl rfl Try.underlying31 rfl rfl Try.sizeOf3 rfl) rfl rfl rfl ?_
 refine simL_val (q_load rfl rfl Try.isAgg3 (.obj 2 rfl rfl)) rfl rfl rfl ?_
 refine simL_bind (fun s28v hs30v => ?_)
 refine simL_eff (re_call (vs := [.pointer (some ⟨b0, 0, none⟩), .int .i64 x1_4]) (cap := []) (A := [obj b0 187 [.slice y11v.1 s10v.1.length y11v.2, .int .i64 s10v.2], Row 5 1 y11v.1 s10v.1.length y11v.2 (encB s10v.1)]) (rst := [obj b1 31 [.int .i64 x1_0, .int .i64 x1_1, .int .i64 x1_2, .int .i64 x1_3, .int .i64 x1_4, .int .i64 x1_5, .int .i64 x1_6, .int .i64 x1_7, .int .i64 x1_8, .bool x1_9, .slice a1_10 x1_10.length c1_10, .int .i64 x1_11, .int .i64 x1_12, .slice a1_13 x1_13.length c1_13], F]) rfl rfl rfl rfl rfl rfl Try.call78 (.sel 0 rfl (.sel 0 rfl (.sel 0 rfl (.sel 0 rfl (.nil _))))) (wire_Writer_Int.calls _ _ k b0 y11v.1 y11v.2 s10v.1 s10v.2 x1_4 ) hs30v) rfl rfl rfl ?_
 intro y29v
 refine simL_nil (nrm_then (sim_seq (sim_region ?_)))
 refine simL_val (q_move rfl rfl) rfl rfl rfl ?_
 refine simL_val (q_fa rfl rfl Try.underlying31 rfl rfl Try.sizeOf3 rfl) rfl rfl rfl ?_
 refine simL_val (q_load rfl rfl Try.isAgg3 (.obj 2 rfl rfl)) rfl rfl rfl ?_
 refine simL_bind (fun s31v hs33v => ?_)
 refine simL_eff (re_call (vs := [.pointer (some ⟨b0, 0, none⟩), .int .i64 x1_5]) (cap := []) (A := [obj b0 187 [.slice y29v.1 s28v.1.length y29v.2, .int .i64 s28v.2], Row 5 1 y29v.1 s28v.1.length y29v.2 (encB s28v.1)]) (rst := [obj b1 31 [.int .i64 x1_0, .int .i64 x1_1, .int .i64 x1_2, .int .i64 x1_3, .int .i64 x1_4, .int .i64 x1_5, .int .i64 x1_6, .int .i64 x1_7, .int .i64 x1_8, .bool x1_9, .slice a1_10 x1_10.length c1_10, .int .i64 x1_11, .int .i64 x1_12, .slice a1_13 x1_13.length c1_13], F]) rfl rfl rfl rfl rfl rfl Try.call78 (.sel 0 rfl (.sel 0 rfl (.sel 0 rfl (.sel 0 rfl (.nil _))))) (wire_Writer_Int.calls _ _ k b0 y29v.1 y29v.2 s28v.1 s28v.2 x1_5 ) hs33v) rfl rfl rfl ?_
 intro y32v
 refine simL_nil (nrm_then (sim_seq (sim_region ?_)))
 refine simL_val (q_move rfl rfl) rfl rfl rfl ?_
 refine simL_val (q_fa rfl rfl Try.underlying31 rfl rfl Try.sizeOf3 rfl) rfl rfl rfl ?_
 refine simL_val (q_load rfl rfl Try.isAgg3 (.obj 2 rfl rfl)) rfl rfl rfl ?_
 refine simL_bind (fun s34v hs36v => ?_)
 refine simL_eff (re_call (vs := [.pointer (some ⟨b0, 0, none⟩), .int .i64 x1_6]) (cap := []) (A := [obj b0 187 [.slice y32v.1 s31v.1.length y32v.2, .int .i64 s31v.2], Row 5 1 y32v.1 s31v.1.length y32v.2 (encB s31v.1)]) (rst := [obj b1 31 [.int .i64 x1_0, .int .i64 x1_1, .int .i64 x1_2, .int .i64 x1_3, .int .i64 x1_4, .int .i64 x1_5, .int .i64 x1_6, .int .i64 x1_7, .int .i64 x1_8, .bool x1_9, .slice a1_10 x1_10.length c1_10, .int .i64 x1_11, .int .i64 x1_12, .slice a1_13 x1_13.length c1_13], F]) rfl rfl rfl rfl rfl rfl Try.call78 (.sel 0 rfl (.sel 0 rfl (.sel 0 rfl (.sel 0 rfl (.nil _))))) (wire_Writer_Int.calls _ _ k b0 y32v.1 y32v.2 s31v.1 s31v.2 x1_6 ) hs36v) rfl rfl rfl ?_
 intro y35v
 refine simL_nil (nrm_then (sim_seq (sim_region ?_)))
 refine simL_val (q_move rfl rfl) rfl rfl rfl ?_
 refine simL_val (q_fa rfl rfl Try.underlying31 rfl rfl Try.sizeOf26 rfl) rfl rfl rfl ?_
 refine simL_val (q_load rfl rfl Try.isAgg26 (.obj 2 rfl rfl)) rfl rfl rfl ?_
 refine simL_val (q_len rfl rfl rfl Try.underlying26) rfl rfl rfl ?_
 refine simL_bind (fun s37v hs39v => ?_)
 refine simL_eff (re_call (vs := [.pointer (some ⟨b0, 0, none⟩), .int .i64 (x1_10.length : Int)]) (cap := []) (A := [obj b0 187 [.slice y35v.1 s34v.1.length y35v.2, .int .i64 s34v.2], Row 5 1 y35v.1 s34v.1.length y35v.2 (encB s34v.1)]) (rst := [obj b1 31 [.int .i64 x1_0, .int .i64 x1_1, .int .i64 x1_2, .int .i64 x1_3, .int .i64 x1_4, .int .i64 x1_5, .int .i64 x1_6, .int .i64 x1_7, .int .i64 x1_8, .bool x1_9, .slice a1_10 x1_10.length c1_10, .int .i64 x1_11, .int .i64 x1_12, .slice a1_13 x1_13.length c1_13], F]) rfl rfl rfl rfl rfl rfl Try.call78 (.sel 0 rfl (.sel 0 rfl (.sel 0 rfl (.sel 0 rfl (.nil _))))) (wire_Writer_Int.calls _ _ k b0 y35v.1 y35v.2 s34v.1 s34v.2 (x1_10.length : Int) ) hs39v) rfl rfl rfl ?_
 intro y38v
 refine simL_nil (nrm_then (sim_seq (sim_region ?_)))
 refine simL_val (q_fa rfl rfl Try.underlying31 rfl rfl Try.sizeOf26 rfl) rfl rfl rfl ?_
 refine simL_val (q_load rfl rfl Try.isAgg26 (.obj 2 rfl rfl)) rfl rfl rfl ?_
 refine simL_val (q_len rfl rfl rfl Try.underlying26) rfl rfl rfl ?_
 refine simL_val (q_move rfl rfl) rfl rfl rfl (simL_nil (nrm_then ?_))
 refine sim_block ?_
 refine sim_loop (S := Int × List UInt8 × Int) (Option Addr × Nat) (fun k s => codec_Messages_Put_1.l0 x1_10 k s.1 s.2.1 s.2.2) (fun s y => [(0, .pointer (some ⟨b0, 0, none⟩)), (63, .slice a1_10 x1_10.length c1_10), (64, .int .i64 (x1_10.length : Int)), (65, .int .i64 s.1)]) (fun s y => [obj b0 187 [.slice y.1 s.2.1.length y.2, .int .i64 s.2.2], obj b1 31 [.int .i64 x1_0, .int .i64 x1_1, .int .i64 x1_2, .int .i64 x1_3, .int .i64 x1_4, .int .i64 x1_5, .int .i64 x1_6, .int .i64 x1_7, .int .i64 x1_8, .bool x1_9, .slice a1_10 x1_10.length c1_10, .int .i64 x1_11, .int .i64 x1_12, .slice a1_13 x1_13.length c1_13], Row 5 1 y.1 s.2.1.length y.2 (encB s.2.1), F]) (fun _ => by rw [codec_Messages_Put_1.l0]) ?_ k (0, s37v.1, s37v.2) (y38v.1, y38v.2) ⟨rfl, rfl, rfl, rfl, trivial⟩ (.sel 0 rfl (.sel 1 rfl (.sel 0 rfl (.sel 0 rfl (.nil _)))))
 intro k s40v y41v
 refine sim_eq (by rw [codec_Messages_Put_1.l0]) ?_
 refine sim_seq (sim_region ?_)
 refine simL_val (q_lss rfl rfl rfl) rfl rfl rfl (simL_nil (nrm_then (sim_seq ?_)))
 refine sim_cond rfl (fun h45v => ?_) (fun h46v => ?_)
 refine sim_skip ?_
 refine nrm_then (sim_seq ?_)
 refine sim_block ?_
 refine sim_seq (sim_region ?_)
 refine simL_ask (fun hi47v => ?_)
 obtain ⟨b48v, b48vo, r51v, ha49v, hV52v, hlr53v, hcell54v⟩ := RdV.pos h1_10 (Up.refl _) rfl (i := s40v.1.toNat) (by omega) ((0 : Int), (0 : Int), (0 : Int), ([] : List UInt8))
 obtain ⟨a55v, c56v, rfl, ⟨he57v, hc58v, hm59v⟩⟩ := hV52v
 refine simL_val (q_idx rfl rfl rfl ha49v Try.underlying26 Try.sizeOf61 hi47v.1 hi47v.2) rfl rfl rfl ?_
 refine simL_val (q_loads rfl rfl Try.isAgg61 Try.sizeOf61 rfl (fun j v hj => hcell54v 3 rfl j v hj)) rfl rfl rfl ?_
 refine simL_eff (re_alloc rfl Try.zeroValue61 rfl) rfl rfl rfl ?_
 intro b60v
 refine simL_do (re_store 0 rfl rfl rfl Try.sizeOf61 rfl rfl (one_of (by rfl)) rfl rfl) rfl rfl ?_
 intro _
 refine simL_nil (nrm_then (sim_seq (sim_region ?_)))
 refine simL_val (q_build (v := .agg #[]) rfl rfl (fun _ => by kernel_rfl)) rfl rfl rfl ?_
 refine simL_val (q_loado 0 rfl rfl Try.isAgg61 Try.sizeOf61 rfl rfl) rfl rfl rfl ?_
 refine simL_bind (fun s61v hs63v => ?_)
 refine simL_eff (re_call (vs := [.agg #[], .agg #[.int .i64 ((x1_10.getD s40v.1.toNat ((0 : Int), (0 : Int), (0 : Int), ([] : List UInt8))).1), .int .i64 ((x1_10.getD s40v.1.toNat ((0 : Int), (0 : Int), (0 : Int), ([] : List UInt8))).2.1), .int .i64 ((x1_10.getD s40v.1.toNat ((0 : Int), (0 : Int), (0 : Int), ([] : List UInt8))).2.2.1), .slice a55v (((x1_10.getD s40v.1.toNat ((0 : Int), (0 : Int), (0 : Int), ([] : List UInt8))).2.2.2).length) c56v]]) (cap := []) (A := []) (rst := [obj b60v 61 [.int .i64 ((x1_10.getD s40v.1.toNat ((0 : Int), (0 : Int), (0 : Int), ([] : List UInt8))).1), .int .i64 ((x1_10.getD s40v.1.toNat ((0 : Int), (0 : Int), (0 : Int), ([] : List UInt8))).2.1), .int .i64 ((x1_10.getD s40v.1.toNat ((0 : Int), (0 : Int), (0 : Int), ([] : List UInt8))).2.2.1), .slice a55v (((x1_10.getD s40v.1.toNat ((0 : Int), (0 : Int), (0 : Int), ([] : List UInt8))).2.2.2).length) c56v], obj b0 187 [.slice y41v.1 s40v.2.1.length y41v.2, .int .i64 s40v.2.2], obj b1 31 [.int .i64 x1_0, .int .i64 x1_1, .int .i64 x1_2, .int .i64 x1_3, .int .i64 x1_4, .int .i64 x1_5, .int .i64 x1_6, .int .i64 x1_7, .int .i64 x1_8, .bool x1_9, .slice a1_10 x1_10.length c1_10, .int .i64 x1_11, .int .i64 x1_12, .slice a1_13 x1_13.length c1_13], Row 5 1 y41v.1 s40v.2.1.length y41v.2 (encB s40v.2.1), F]) rfl rfl rfl rfl rfl rfl Try.call32 (.sel 0 rfl (.sel 0 rfl (.sel 0 rfl (.sel 0 rfl (.sel 0 rfl (.nil _)))))) (codec_Entries_Put.calls _ _ k ((x1_10.getD s40v.1.toNat ((0 : Int), (0 : Int), (0 : Int), ([] : List UInt8))).1) ((x1_10.getD s40v.1.toNat ((0 : Int), (0 : Int), (0 : Int), ([] : List UInt8))).2.1) ((x1_10.getD s40v.1.toNat ((0 : Int), (0 : Int), (0 : Int), ([] : List UInt8))).2.2.1) a55v c56v ((x1_10.getD s40v.1.toNat ((0 : Int), (0 : Int), (0 : Int), ([] : List UInt8))).2.2.2) (he57v.lend 4 rfl) hc58v hm59v) hs63v) rfl rfl rfl ?_
 intro y62v
 refine simL_val (q_move rfl rfl) rfl rfl rfl ?_
 refine simL_val (q_ext rfl rfl rfl) rfl rfl rfl ?_
 refine simL_val (q_ext rfl rfl rfl) rfl rfl rfl ?_
 refine simL_val (q_asg rfl rfl) rfl rfl rfl ?_
 refine simL_val (q_asg rfl rfl) rfl rfl rfl (simL_nil (nrm_then (sim_region ?_)))
 refine simL_val (q_move rfl rfl) rfl rfl rfl ?_
 refine simL_val (q_move rfl rfl) rfl rfl rfl ?_
 refine simL_bind (fun s68v hs70v => ?_)
 refine simL_lend 0 rfl (fun hq64v hq65v hq66v hq67v => ?_)
 refine simL_eff (re_call (vs := [.pointer (some ⟨b0, 0, none⟩), .slice y62v.1 s61v.1.length y62v.2, .int .i64 8192]) (cap := []) (A := [obj b0 187 [.slice y41v.1 s40v.2.1.length y41v.2, .int .i64 s40v.2.2], Row 5 1 y41v.1 s40v.2.1.length y41v.2 (encB s40v.2.1)]) (rst := [Row 5 1 y62v.1 s61v.1.length y62v.2 (encB s61v.1), obj b60v 61 [.int .i64 ((x1_10.getD s40v.1.toNat ((0 : Int), (0 : Int), (0 : Int), ([] : List UInt8))).1), .int .i64 ((x1_10.getD s40v.1.toNat ((0 : Int), (0 : Int), (0 : Int), ([] : List UInt8))).2.1), .int .i64 ((x1_10.getD s40v.1.toNat ((0 : Int), (0 : Int), (0 : Int), ([] : List UInt8))).2.2.1), .slice a55v (((x1_10.getD s40v.1.toNat ((0 : Int), (0 : Int), (0 : Int), ([] : List UInt8))).2.2.2).length) c56v], obj b1 31 [.int .i64 x1_0, .int .i64 x1_1, .int .i64 x1_2, .int .i64 x1_3, .int .i64 x1_4, .int .i64 x1_5, .int .i64 x1_6, .int .i64 x1_7, .int .i64 x1_8, .bool x1_9, .slice a1_10 x1_10.length c1_10, .int .i64 x1_11, .int .i64 x1_12, .slice a1_13 x1_13.length c1_13], F]) rfl rfl rfl rfl rfl rfl Try.call88 (.sel 2 rfl (.sel 3 rfl (.sel 0 rfl (.sel 0 rfl (.sel 0 rfl (.sel 0 rfl (.nil _))))))) (wire_Writer_Bytes.calls _ _ k b0 y41v.1 y41v.2 s40v.2.1 s40v.2.2 y62v.1 y62v.2 s61v.1 (8192 : Int) (hq64v.lend 0 rfl) hq65v hq66v) hs70v) rfl rfl rfl ?_
 intro y69v
 refine simL_nil (nrm_block (nrm_then (sim_region ?_)))
 refine simL_val (q_add rfl rfl rfl) rfl rfl rfl ?_
 refine simL_val (q_move rfl rfl) rfl rfl rfl (simL_nil ?_)
 exact nrm_again (s := (IntKind.i64.wrap (s40v.1 + 1), s68v.1, s68v.2)) (y69v.1, y69v.2) ⟨rfl, rfl, rfl, rfl, trivial⟩ (.sel 0 rfl (.sel 3 rfl (.sel 0 rfl (.sel 2 rfl (.nil _)))))
 refine sim_exi ?_
 refine exi_then ?_
 refine exi_loop ?_
 refine exi_here ?_
 refine nrm_block ?_
 exact nrm_fn (y41v.1, y41v.2) rfl rfl rfl (.sel 0 rfl (.sel 1 rfl (.sel 0 rfl (.sel 0 rfl (.nil _)))))
 refine sim_seq (sim_region ?_)
 refine simL_val (q_eql rfl rfl rfl) rfl rfl rfl ?_
 refine simL_val (q_asg rfl rfl) rfl rfl rfl (simL_nil (nrm_then ?_))
 refine sim_cond rfl (fun h71v => ?_) (fun h72v => ?_)
 refine sim_seq (sim_region ?_)
 refine simL_val (q_move rfl rfl) rfl rfl rfl ?_
 refine simL_val (q_fa rfl rfl Try.underlying31 rfl rfl Try.sizeOf3 rfl) rfl rfl rfl ?_
 refine simL_val (q_load rfl rfl Try.isAgg3 (.obj 2 rfl rfl)) rfl rfl rfl ?_
 refine simL_bind (fun s73v hs75v => ?_)
 refine simL_eff (re_call (vs := [.pointer (some ⟨b0, 0, none⟩), .int .i64 x1_4]) (cap := []) (A := [obj b0 187 [.slice y11v.1 s10v.1.length y11v.2, .int .i64 s10v.2], Row 5 1 y11v.1 s10v.1.length y11v.2 (encB s10v.1)]) (rst := [obj b1 31 [.int .i64 x1_0, .int .i64 x1_1, .int .i64 x1_2, .int .i64 x1_3, .int .i64 x1_4, .int .i64 x1_5, .int .i64 x1_6, .int .i64 x1_7, .int .i64 x1_8, .bool x1_9, .slice a1_10 x1_10.length c1_10, .int .i64 x1_11, .int .i64 x1_12, .slice a1_13 x1_13.length c1_13], F]) rfl rfl rfl rfl rfl rfl Try.call78 (.sel 0 rfl (.sel 0 rfl (.sel 0 rfl (.sel 0 rfl (.nil _))))) (wire_Writer_Int.calls _ _ k b0 y11v.1 y11v.2 s10v.1 s10v.2 x1_4 ) hs75v) rfl rfl rfl ?_
 intro y74v
 refine simL_nil (nrm_then (sim_seq (sim_region ?_)))
 refine simL_val (q_move rfl rfl) rfl rfl rfl ?_
 refine simL_val (q_fa rfl rfl Try.underlying31 rfl rfl Try.sizeOf4 rfl) rfl rfl rfl ?_
 refine simL_val (q_load rfl rfl Try.isAgg4 (.obj 2 rfl rfl)) rfl rfl rfl ?_
 refine simL_bind (fun s76v hs78v => ?_)
 refine simL_eff (re_call (vs := [.pointer (some ⟨b0, 0, none⟩), .bool x1_9]) (cap := []) (A := [obj b0 187 [.slice y74v.1 s73v.1.length y74v.2, .int .i64 s73v.2], Row 5 1 y74v.1 s73v.1.length y74v.2 (encB s73v.1)]) (rst := [obj b1 31 [.int .i64 x1_0, .int .i64 x1_1, .int .i64 x1_2, .int .i64 x1_3, .int .i64 x1_4, .int .i64 x1_5, .int .i64 x1_6, .int .i64 x1_7, .int .i64 x1_8, .bool x1_9, .slice a1_10 x1_10.length c1_10, .int .i64 x1_11, .int .i64 x1_12, .slice a1_13 x1_13.length c1_13], F]) rfl rfl rfl rfl rfl rfl Try.call105 (.sel 0 rfl (.sel 0 rfl (.sel 0 rfl (.sel 0 rfl (.nil _))))) (wire_Writer_Bool.calls _ _ k b0 y74v.1 y74v.2 s73v.1 s73v.2 x1_9 ) hs78v) rfl rfl rfl ?_
 intro y77v
 refine simL_nil (nrm_then (sim_region ?_))
 refine simL_val (q_move rfl rfl) rfl rfl rfl ?_
 refine simL_val (q_fa rfl rfl Try.underlying31 rfl rfl Try.sizeOf3 rfl) rfl rfl rfl ?_
 refine simL_val (q_load rfl rfl Try.isAgg3 (.obj 2 rfl rfl)) rfl rfl rfl ?_
 refine simL_bind (fun s79v hs81v => ?_)
 refine simL_eff (re_call (vs := [.pointer (some ⟨b0, 0, none⟩), .int .i64 x1_7]) (cap := []) (A := [obj b0 187 [.slice y77v.1 s76v.1.length y77v.2, .int .i64 s76v.2], Row 5 1 y77v.1 s76v.1.length y77v.2 (encB s76v.1)]) (rst := [obj b1 31 [.int .i64 x1_0, .int .i64 x1_1, .int .i64 x1_2, .int .i64 x1_3, .int .i64 x1_4, .int .i64 x1_5, .int .i64 x1_6, .int .i64 x1_7, .int .i64 x1_8, .bool x1_9, .slice a1_10 x1_10.length c1_10, .int .i64 x1_11, .int .i64 x1_12, .slice a1_13 x1_13.length c1_13], F]) rfl rfl rfl rfl rfl rfl Try.call78 (.sel 0 rfl (.sel 0 rfl (.sel 0 rfl (.sel 0 rfl (.nil _))))) (wire_Writer_Int.calls _ _ k b0 y77v.1 y77v.2 s76v.1 s76v.2 x1_7 ) hs81v) rfl rfl rfl ?_
 intro y80v
 refine simL_nil (nrm_block ?_)
 exact nrm_fn (y80v.1, y80v.2) rfl rfl rfl (.sel 0 rfl (.sel 0 rfl (.sel 0 rfl (.sel 0 rfl (.nil _)))))
 refine sim_seq (sim_region ?_)
 refine simL_val (q_eql rfl rfl rfl) rfl rfl rfl ?_
 refine simL_val (q_asg rfl rfl) rfl rfl rfl (simL_nil (nrm_then ?_))
 refine sim_cond rfl (fun h82v => ?_) (fun h83v => ?_)
 refine sim_seq (sim_region ?_)
 refine simL_val (q_move rfl rfl) rfl rfl rfl ?_
 refine simL_val (q_fa rfl rfl Try.underlying31 rfl rfl Try.sizeOf3 rfl) rfl rfl rfl ?_
 refine simL_val (q_load rfl rfl Try.isAgg3 (.obj 2 rfl rfl)) rfl rfl rfl ?_
 refine simL_bind (fun s84v hs86v => ?_)
 refine simL_eff (re_call (vs := [.pointer (some ⟨b0, 0, none⟩), .int .i64 x1_6]) (cap := []) (A := [obj b0 187 [.slice y11v.1 s10v.1.length y11v.2, .int .i64 s10v.2], Row 5 1 y11v.1 s10v.1.length y11v.2 (encB s10v.1)]) (rst := [obj b1 31 [.int .i64 x1_0, .int .i64 x1_1, .int .i64 x1_2, .int .i64 x1_3, .int .i64 x1_4, .int .i64 x1_5, .int .i64 x1_6, .int .i64 x1_7, .int .i64 x1_8, .bool x1_9, .slice a1_10 x1_10.length c1_10, .int .i64 x1_11, .int .i64 x1_12, .slice a1_13 x1_13.length c1_13], F]) rfl rfl rfl rfl rfl rfl Try.call78 (.sel 0 rfl (.sel 0 rfl (.sel 0 rfl (.sel 0 rfl (.nil _))))) (wire_Writer_Int.calls _ _ k b0 y11v.1 y11v.2 s10v.1 s10v.2 x1_6 ) hs86v) rfl rfl rfl ?_
 intro y85v
 refine simL_nil (nrm_then (sim_region ?_))
 refine simL_val (q_move rfl rfl) rfl rfl rfl ?_
 refine simL_val (q_fa rfl rfl Try.underlying31 rfl rfl Try.sizeOf3 rfl) rfl rfl rfl ?_
 refine simL_val (q_load rfl rfl Try.isAgg3 (.obj 2 rfl rfl)) rfl rfl rfl ?_
 refine simL_bind (fun s87v hs89v => ?_)
 refine simL_eff (re_call (vs := [.pointer (some ⟨b0, 0, none⟩), .int .i64 x1_8]) (cap := []) (A := [obj b0 187 [.slice y85v.1 s84v.1.length y85v.2, .int .i64 s84v.2], Row 5 1 y85v.1 s84v.1.length y85v.2 (encB s84v.1)]) (rst := [obj b1 31 [.int .i64 x1_0, .int .i64 x1_1, .int .i64 x1_2, .int .i64 x1_3, .int .i64 x1_4, .int .i64 x1_5, .int .i64 x1_6, .int .i64 x1_7, .int .i64 x1_8, .bool x1_9, .slice a1_10 x1_10.length c1_10, .int .i64 x1_11, .int .i64 x1_12, .slice a1_13 x1_13.length c1_13], F]) rfl rfl rfl rfl rfl rfl Try.call78 (.sel 0 rfl (.sel 0 rfl (.sel 0 rfl (.sel 0 rfl (.nil _))))) (wire_Writer_Int.calls _ _ k b0 y85v.1 y85v.2 s84v.1 s84v.2 x1_8 ) hs89v) rfl rfl rfl ?_
 intro y88v
 refine simL_nil (nrm_block ?_)
 exact nrm_fn (y88v.1, y88v.2) rfl rfl rfl (.sel 0 rfl (.sel 0 rfl (.sel 0 rfl (.sel 0 rfl (.nil _)))))
 refine sim_seq (sim_region ?_)
 refine simL_val (q_eql rfl rfl rfl) rfl rfl rfl ?_
 refine simL_val (q_asg rfl rfl) rfl rfl rfl (simL_nil (nrm_then ?_))
 refine sim_cond rfl (fun h90v => ?_) (fun h91v => ?_)
 refine sim_region ?_
 refine simL_val (q_move rfl rfl) rfl rfl rfl ?_
 refine simL_val (q_fa rfl rfl Try.underlying31 rfl rfl Try.sizeOf3 rfl) rfl rfl rfl ?_
 refine simL_val (q_load rfl rfl Try.isAgg3 (.obj 2 rfl rfl)) rfl rfl rfl ?_
 refine simL_bind (fun s92v hs94v => ?_)
 refine simL_eff (re_call (vs := [.pointer (some ⟨b0, 0, none⟩), .int .i64 x1_8]) (cap := []) (A := [obj b0 187 [.slice y11v.1 s10v.1.length y11v.2, .int .i64 s10v.2], Row 5 1 y11v.1 s10v.1.length y11v.2 (encB s10v.1)]) (rst := [obj b1 31 [.int .i64 x1_0, .int .i64 x1_1, .int .i64 x1_2, .int .i64 x1_3, .int .i64 x1_4, .int .i64 x1_5, .int .i64 x1_6, .int .i64 x1_7, .int .i64 x1_8, .bool x1_9, .slice a1_10 x1_10.length c1_10, .int .i64 x1_11, .int .i64 x1_12, .slice a1_13 x1_13.length c1_13], F]) rfl rfl rfl rfl rfl rfl Try.call78 (.sel 0 rfl (.sel 0 rfl (.sel 0 rfl (.sel 0 rfl (.nil _))))) (wire_Writer_Int.calls _ _ k b0 y11v.1 y11v.2 s10v.1 s10v.2 x1_8 ) hs94v) rfl rfl rfl ?_
 intro y93v
 refine simL_nil (nrm_block ?_)
 exact nrm_fn (y93v.1, y93v.2) rfl rfl rfl (.sel 0 rfl (.sel 0 rfl (.sel 0 rfl (.sel 0 rfl (.nil _)))))
 refine sim_seq (sim_region ?_)
 refine simL_val (q_eql rfl rfl rfl) rfl rfl rfl ?_
 refine simL_val (q_asg rfl rfl) rfl rfl rfl (simL_nil (nrm_then ?_))
 refine sim_cond rfl (fun h95v => ?_) (fun h96v => ?_)
 refine sim_seq (sim_region ?_)
 refine simL_val (q_build (v := .agg #[]) rfl rfl (fun _ => by kernel_rfl)) rfl rfl rfl ?_
 refine simL_val (q_fa rfl rfl Try.underlying31 rfl rfl Try.sizeOf29 rfl) rfl rfl rfl ?_
 refine simL_val (q_loads (vs := [.int .i64 x1_11, .int .i64 x1_12, .slice a1_13 x1_13.length c1_13]) rfl rfl Try.isAgg29 Try.sizeOf29 rfl (cells_obj 2 rfl (cells_lit rfl))) rfl rfl rfl ?_
 refine simL_bind (fun s97v hs99v => ?_)
 refine simL_eff (re_call (vs := [.agg #[], .agg #[.int .i64 x1_11, .int .i64 x1_12, .slice a1_13 x1_13.length c1_13]]) (cap := []) (A := []) (rst := [obj b0 187 [.slice y11v.1 s10v.1.length y11v.2, .int .i64 s10v.2], Row 5 1 y11v.1 s10v.1.length y11v.2 (encB s10v.1), obj b1 31 [.int .i64 x1_0, .int .i64 x1_1, .int .i64 x1_2, .int .i64 x1_3, .int .i64 x1_4, .int .i64 x1_5, .int .i64 x1_6, .int .i64 x1_7, .int .i64 x1_8, .bool x1_9, .slice a1_10 x1_10.length c1_10, .int .i64 x1_11, .int .i64 x1_12, .slice a1_13 x1_13.length c1_13], F]) rfl rfl rfl rfl rfl rfl Try.call39 (.sel 0 rfl (.sel 0 rfl (.sel 0 rfl (.sel 0 rfl (.nil _))))) (codec_Snaps_Put.calls _ _ k x1_11 x1_12 a1_13 c1_13 x1_13 (h1_13.lend 3 rfl) hc1_13 hm1_13) hs99v) rfl rfl rfl ?_
 intro y98v
 refine simL_val (q_move rfl rfl) rfl rfl rfl ?_
 refine simL_val (q_ext rfl rfl rfl) rfl rfl rfl ?_
 refine simL_val (q_ext rfl rfl rfl) rfl rfl rfl ?_
 refine simL_val (q_asg rfl rfl) rfl rfl rfl ?_
 refine simL_val (q_asg rfl rfl) rfl rfl rfl (simL_nil (nrm_then (sim_region ?_)))
 refine simL_val (q_move rfl rfl) rfl rfl rfl ?_
 refine simL_val (q_move rfl rfl) rfl rfl rfl ?_
 refine simL_bind (fun s104v hs106v => ?_)
 refine simL_lend 0 rfl (fun hq100v hq101v hq102v hq103v => ?_)
 refine simL_eff (re_call (vs := [.pointer (some ⟨b0, 0, none⟩), .slice y98v.1 s97v.1.length y98v.2, .int .i64 1048576]) (cap := []) (A := [obj b0 187 [.slice y11v.1 s10v.1.length y11v.2, .int .i64 s10v.2], Row 5 1 y11v.1 s10v.1.length y11v.2 (encB s10v.1)]) (rst := [Row 5 1 y98v.1 s97v.1.length y98v.2 (encB s97v.1), obj b1 31 [.int .i64 x1_0, .int .i64 x1_1, .int .i64 x1_2, .int .i64 x1_3, .int .i64 x1_4, .int .i64 x1_5, .int .i64 x1_6, .int .i64 x1_7, .int .i64 x1_8, .bool x1_9, .slice a1_10 x1_10.length c1_10, .int .i64 x1_11, .int .i64 x1_12, .slice a1_13 x1_13.length c1_13], F]) rfl rfl rfl rfl rfl rfl Try.call88 (.sel 1 rfl (.sel 1 rfl (.sel 0 rfl (.sel 0 rfl (.sel 0 rfl (.nil _)))))) (wire_Writer_Bytes.calls _ _ k b0 y11v.1 y11v.2 s10v.1 s10v.2 y98v.1 y98v.2 s97v.1 (1048576 : Int) (hq100v.lend 0 rfl) hq101v hq102v) hs106v) rfl rfl rfl ?_
 intro y105v
 refine simL_nil (nrm_block ?_)
 exact nrm_fn (y105v.1, y105v.2) rfl rfl rfl (.sel 0 rfl (.sel 0 rfl (.sel 1 rfl (.sel 1 rfl (.nil _)))))
 refine sim_skip ?_
 refine nrm_block ?_
 exact nrm_fn (y11v.1, y11v.2) rfl rfl rfl (.sel 0 rfl (.sel 0 rfl (.sel 0 rfl (.sel 0 rfl (.nil _)))))

def codec_text_codec_Messages_Put_1.f (k : Nat) (x0 : Int) (xp0_0 : Int) (xp0_1 : Int) (xp0_2 : Int) (xp0_3 : Int) (xp0_4 : Int) (xp0_5 : Int) (xp0_6 : Int) (xp0_7 : Int) (xp0_8 : Int) (xp0_9 : Bool) (xp0_10 : List (Int × Int × Int × List UInt8)) (xp0_11 : Int) (xp0_12 : Int) (xp0_13 : List UInt8) : Option (List UInt8 × Int) := if x0 = (0 : Int) then ((wire_NewWriter.f).bind fun s3v => ((codec_Messages_Put_1.f k s3v.1 s3v.2 xp0_0 xp0_1 xp0_2 xp0_3 xp0_4 xp0_5 xp0_6 xp0_7 xp0_8 xp0_9 xp0_10 xp0_11 xp0_12 xp0_13).bind fun s6v => ((wire_Writer_Done.f s6v.1 s6v.2).bind fun s13v => (some (s13v.1, s13v.2))))) else (some (([] : List UInt8), x0))
theorem codec_text_codec_Messages_Put_1.calls (W : World) (F : HA) (k : Nat) (x0 : Int) (bp0 : Nat) (xp0_0 : Int) (xp0_1 : Int) (xp0_2 : Int) (xp0_3 : Int) (xp0_4 : Int) (xp0_5 : Int) (xp0_6 : Int) (xp0_7 : Int) (xp0_8 : Int) (xp0_9 : Bool) (ap0_10 : Option Addr) (cp0_10 : Nat) (xp0_10 : List (Int × Int × Int × List UInt8)) (xp0_11 : Int) (xp0_12 : Int) (ap0_13 : Option Addr) (cp0_13 : Nat) (xp0_13 : List UInt8) (hp0_10 : RdV F 4 (V61 F) ap0_10 xp0_10) (hcp0_10 : xp0_10.length ≤ cp0_10) (hmp0_10 : cp0_10 ≤ maxLen) (hp0_13 : Rd F ap0_13 (encB xp0_13)) (hcp0_13 : xp0_13.length ≤ cp0_13) (hmp0_13 : cp0_13 ≤ maxLen) :
    Fn Try.prog W 76 [.int .i64 x0, .func (.func 104) #[] #[.pointer (some ⟨bp0, 0, none⟩)]] [obj bp0 31 [.int .i64 xp0_0, .int .i64 xp0_1, .int .i64 xp0_2, .int .i64 xp0_3, .int .i64 xp0_4, .int .i64 xp0_5, .int .i64 xp0_6, .int .i64 xp0_7, .int .i64 xp0_8, .bool xp0_9, .slice ap0_10 xp0_10.length cp0_10, .int .i64 xp0_11, .int .i64 xp0_12, .slice ap0_13 xp0_13.length cp0_13]] F (codec_text_codec_Messages_Put_1.f k x0 xp0_0 xp0_1 xp0_2 xp0_3 xp0_4 xp0_5 xp0_6 xp0_7 xp0_8 xp0_9 xp0_10 xp0_11 xp0_12 xp0_13) (fun (r : List UInt8 × Int) (y : Option Addr × Nat) => .tuple #[.slice y.1 r.1.length y.2, .int .i64 r.2]) (fun r y => [Row 5 1 y.1 r.1.length y.2 (encB r.1), obj bp0 31 [.int .i64 xp0_0, .int .i64 xp0_1, .int .i64 xp0_2, .int .i64 xp0_3, .int .i64 xp0_4, .int .i64 xp0_5, .int .i64 xp0_6, .int .i64 xp0_7, .int .i64 xp0_8, .bool xp0_9, .slice ap0_10 xp0_10.length cp0_10, .int .i64 xp0_11, .int .i64 xp0_12, .slice ap0_13 xp0_13.length cp0_13]]) := by
 unfold codec_text_codec_Messages_Put_1.f
 refine fn_intro 18 Try.func76 rfl Try.ntmps76 rfl ?_
 refine sim_seq (sim_region ?_)
 refine simL_val (q_asg rfl rfl) rfl rfl rfl ?_
 refine simL_val (q_asg rfl rfl) rfl rfl rfl (simL_nil (nrm_then (sim_seq (sim_seq (sim_region ?_)))))
 refine simL_val (q_move rfl rfl) rfl rfl rfl ?_
 refine simL_val (q_neq rfl rfl rfl) rfl rfl rfl (simL_nil (nrm_then ?_))
 refine sim_condn rfl (fun h1v => ?_) (fun h2v => ?_)
 refine sim_skip ?_
 refine nrm_then (sim_seq (sim_region ?_))
 refine simL_bind (fun s3v hs5v => ?_)
 refine simL_eff (re_call (vs := []) (cap := []) (A := []) (rst := [obj bp0 31 [.int .i64 xp0_0, .int .i64 xp0_1, .int .i64 xp0_2, .int .i64 xp0_3, .int .i64 xp0_4, .int .i64 xp0_5, .int .i64 xp0_6, .int .i64 xp0_7, .int .i64 xp0_8, .bool xp0_9, .slice ap0_10 xp0_10.length cp0_10, .int .i64 xp0_11, .int .i64 xp0_12, .slice ap0_13 xp0_13.length cp0_13], F]) rfl rfl rfl rfl rfl rfl Try.call119 (.sel 0 rfl (.sel 0 rfl (.nil _))) (wire_NewWriter.calls _ _  ) hs5v) rfl rfl rfl ?_
 intro y4v
 refine simL_val (q_asg rfl rfl) rfl rfl rfl (simL_nil (nrm_then (sim_seq (sim_region ?_))))
 refine simL_val (q_move rfl rfl) rfl rfl rfl ?_
 refine simL_val (q_move rfl rfl) rfl rfl rfl ?_
 refine simL_bind (fun s6v hs8v => ?_)
 refine simL_eff (re_call (vs := [.pointer (some ⟨y4v.1, 0, none⟩)]) (cap := [.pointer (some ⟨bp0, 0, none⟩)]) (A := [obj y4v.1 187 [.slice y4v.2.1 s3v.1.length y4v.2.2, .int .i64 s3v.2], Row 5 1 y4v.2.1 s3v.1.length y4v.2.2 (encB s3v.1), obj bp0 31 [.int .i64 xp0_0, .int .i64 xp0_1, .int .i64 xp0_2, .int .i64 xp0_3, .int .i64 xp0_4, .int .i64 xp0_5, .int .i64 xp0_6, .int .i64 xp0_7, .int .i64 xp0_8, .bool xp0_9, .slice ap0_10 xp0_10.length cp0_10, .int .i64 xp0_11, .int .i64 xp0_12, .slice ap0_13 xp0_13.length cp0_13]]) (rst := [F]) rfl rfl rfl rfl rfl rfl Try.call104 (.sel 0 rfl (.sel 0 rfl (.sel 0 rfl (.sel 0 rfl (.nil _))))) (codec_Messages_Put_1.calls _ _ k y4v.1 y4v.2.1 y4v.2.2 s3v.1 s3v.2 bp0 xp0_0 xp0_1 xp0_2 xp0_3 xp0_4 xp0_5 xp0_6 xp0_7 xp0_8 xp0_9 ap0_10 cp0_10 xp0_10 xp0_11 xp0_12 ap0_13 cp0_13 xp0_13 (hp0_10.up (Up.lend 0 rfl) (V61.up (Up.lend 0 rfl))) hcp0_10 hmp0_10 (hp0_13.lend 0 rfl) hcp0_13 hmp0_13) hs8v) rfl rfl rfl ?_
 intro y7v
 refine simL_nil (nrm_then (sim_seq (sim_region ?_)))
 refine simL_val (q_move rfl rfl) rfl rfl rfl ?_
 refine simL_bind (fun s13v hs15v => ?_)
 refine simL_lend 1 rfl (fun hq9v hq10v hq11v hq12v => ?_)
 refine simL_eff (re_call (vs := [.pointer (some ⟨y4v.1, 0, none⟩)]) (cap := []) (A := [obj y4v.1 187 [.slice y7v.1 s6v.1.length y7v.2, .int .i64 s6v.2]]) (rst := [Row 5 1 y7v.1 s6v.1.length y7v.2 (encB s6v.1), obj bp0 31 [.int .i64 xp0_0, .int .i64 xp0_1, .int .i64 xp0_2, .int .i64 xp0_3, .int .i64 xp0_4, .int .i64 xp0_5, .int .i64 xp0_6, .int .i64 xp0_7, .int .i64 xp0_8, .bool xp0_9, .slice ap0_10 xp0_10.length cp0_10, .int .i64 xp0_11, .int .i64 xp0_12, .slice ap0_13 xp0_13.length cp0_13], F]) rfl rfl rfl rfl rfl rfl Try.call120 (.sel 0 rfl (.sel 0 rfl (.sel 0 rfl (.sel 0 rfl (.nil _))))) (wire_Writer_Done.calls _ _ y4v.1 y7v.1 y7v.2 s6v.1 s6v.2 (hq9v.lend 0 rfl) hq10v hq11v) hs15v) rfl rfl rfl ?_
 intro y14v
 refine simL_val (q_ext rfl rfl rfl) rfl rfl rfl ?_
 refine simL_val (q_ext rfl rfl rfl) rfl rfl rfl ?_
 refine simL_val (q_asg rfl rfl) rfl rfl rfl ?_
 refine simL_val (q_asg rfl rfl) rfl rfl rfl (simL_nil (nrm_then (sim_rtn ?_)))
 exact rtn_fn (y14v.1, y14v.2) rfl rfl rfl (.sel 0 rfl (.sel 2 rfl (.sel 2 rfl (.nil _))))
 refine sim_seq (sim_region ?_)
 refine simL_val (q_move rfl rfl) rfl rfl rfl ?_
 refine simL_val (q_asg rfl rfl) rfl rfl rfl ?_
 refine simL_val (q_asg rfl rfl) rfl rfl rfl (simL_nil (nrm_then (sim_rtn ?_)))
 refine rtn_then ?_
 exact rtn_fn (none, 0) rfl rfl rfl (.row_nil (.sel 0 rfl (.sel 0 rfl (.nil _))))

def codec_Messages_Put.f (k : Nat) (x1_0 : Int) (x1_1 : Int) (x1_2 : Int) (x1_3 : Int) (x1_4 : Int) (x1_5 : Int) (x1_6 : Int) (x1_7 : Int) (x1_8 : Int) (x1_9 : Bool) (x1_10 : List (Int × Int × Int × List UInt8)) (x1_11 : Int) (x1_12 : Int) (x1_13 : List UInt8) : Option (List UInt8 × Int) := (codec_Messages_Check.f k x1_0 x1_1 x1_2 x1_3 x1_4 x1_5 x1_6 x1_7 x1_8 x1_9 x1_10 x1_11 x1_12 x1_13).bind fun s3v => ((codec_text_codec_Messages_Put_1.f k s3v x1_0 x1_1 x1_2 x1_3 x1_4 x1_5 x1_6 x1_7 x1_8 x1_9 x1_10 x1_11 x1_12 x1_13).bind fun s6v => (some (s6v.1, s6v.2)))
theorem codec_Messages_Put.calls (W : World) (F : HA) (k : Nat) (x1_0 : Int) (x1_1 : Int) (x1_2 : Int) (x1_3 : Int) (x1_4 : Int) (x1_5 : Int) (x1_6 : Int) (x1_7 : Int) (x1_8 : Int) (x1_9 : Bool) (a1_10 : Option Addr) (c1_10 : Nat) (x1_10 : List (Int × Int × Int × List UInt8)) (x1_11 : Int) (x1_12 : Int) (a1_13 : Option Addr) (c1_13 : Nat) (x1_13 : List UInt8) (h1_10 : RdV F 4 (V61 F) a1_10 x1_10) (hc1_10 : x1_10.length ≤ c1_10) (hm1_10 : c1_10 ≤ maxLen) (h1_13 : Rd F a1_13 (encB x1_13)) (hc1_13 : x1_13.length ≤ c1_13) (hm1_13 : c1_13 ≤ maxLen) :
    Fn Try.prog W 57 [.agg #[], .agg #[.int .i64 x1_0, .int .i64 x1_1, .int .i64 x1_2, .int .i64 x1_3, .int .i64 x1_4, .int .i64 x1_5, .int .i64 x1_6, .int .i64 x1_7, .int .i64 x1_8, .bool x1_9, .slice a1_10 x1_10.length c1_10, .int .i64 x1_11, .int .i64 x1_12, .slice a1_13 x1_13.length c1_13]] [] F (codec_Messages_Put.f k x1_0 x1_1 x1_2 x1_3 x1_4 x1_5 x1_6 x1_7 x1_8 x1_9 x1_10 x1_11 x1_12 x1_13) (fun (r : List UInt8 × Int) (y : Option Addr × Nat) => .tuple #[.slice y.1 r.1.length y.2, .int .i64 r.2]) (fun r y => [Row 5 1 y.1 r.1.length y.2 (encB r.1)]) := by
 unfold codec_Messages_Put.f
 refine fn_intro 13 Try.func57 rfl Try.ntmps57 rfl ?_
 refine sim_seq (sim_region ?_)
 refine simL_eff (re_box rfl rfl rfl) rfl rfl rfl ?_
 intro b1v
 refine simL_eff (re_box rfl rfl rfl) rfl rfl rfl ?_
 intro b2v
 refine simL_val (q_asg rfl rfl) rfl rfl rfl ?_
 refine simL_val (q_asg rfl rfl) rfl rfl rfl (simL_nil (nrm_then (sim_seq (sim_region ?_))))
 refine simL_val (q_loado 1 rfl rfl Try.isAgg44 Try.sizeOf44 rfl rfl) rfl rfl rfl ?_
 refine simL_val (q_loado 0 rfl rfl Try.isAgg31 Try.sizeOf31 rfl rfl) rfl rfl rfl ?_
 refine simL_bind (fun s3v hs5v => ?_)
 refine simL_eff (re_call (vs := [.agg #[], .agg #[.int .i64 x1_0, .int .i64 x1_1, .int .i64 x1_2, .int .i64 x1_3, .int .i64 x1_4, .int .i64 x1_5, .int .i64 x1_6, .int .i64 x1_7, .int .i64 x1_8, .bool x1_9, .slice a1_10 x1_10.length c1_10, .int .i64 x1_11, .int .i64 x1_12, .slice a1_13 x1_13.length c1_13]]) (cap := []) (A := []) (rst := [obj b2v 31 [.int .i64 x1_0, .int .i64 x1_1, .int .i64 x1_2, .int .i64 x1_3, .int .i64 x1_4, .int .i64 x1_5, .int .i64 x1_6, .int .i64 x1_7, .int .i64 x1_8, .bool x1_9, .slice a1_10 x1_10.length c1_10, .int .i64 x1_11, .int .i64 x1_12, .slice a1_13 x1_13.length c1_13], obj b1v 44 [], F]) rfl rfl rfl rfl rfl rfl Try.call59 (.sel 0 rfl (.sel 0 rfl (.sel 0 rfl (.nil _)))) (codec_Messages_Check.calls _ _ k x1_0 x1_1 x1_2 x1_3 x1_4 x1_5 x1_6 x1_7 x1_8 x1_9 a1_10 c1_10 x1_10 x1_11 x1_12 a1_13 c1_13 x1_13 (h1_10.up (Up.lend 2 rfl) (V61.up (Up.lend 2 rfl))) hc1_10 hm1_10 (h1_13.lend 2 rfl) hc1_13 hm1_13) hs5v) rfl rfl rfl ?_
 intro y4v
 refine simL_val (q_mkfn rfl rfl rfl) rfl rfl rfl ?_
 refine simL_bind (fun s6v hs8v => ?_)
 refine simL_eff (re_call (vs := [.int .i64 s3v, .func (.func 104) #[] #[.pointer (some ⟨b2v, 0, none⟩)]]) (cap := []) (A := [obj b2v 31 [.int .i64 x1_0, .int .i64 x1_1, .int .i64 x1_2, .int .i64 x1_3, .int .i64 x1_4, .int .i64 x1_5, .int .i64 x1_6, .int .i64 x1_7, .int .i64 x1_8, .bool x1_9, .slice a1_10 x1_10.length c1_10, .int .i64 x1_11, .int .i64 x1_12, .slice a1_13 x1_13.length c1_13]]) (rst := [obj b1v 44 [], F]) rfl rfl rfl rfl rfl rfl Try.call76 (.sel 0 rfl (.sel 0 rfl (.sel 0 rfl (.nil _)))) (codec_text_codec_Messages_Put_1.calls _ _ k s3v b2v x1_0 x1_1 x1_2 x1_3 x1_4 x1_5 x1_6 x1_7 x1_8 x1_9 a1_10 c1_10 x1_10 x1_11 x1_12 a1_13 c1_13 x1_13 (h1_10.up (Up.lend 1 rfl) (V61.up (Up.lend 1 rfl))) hc1_10 hm1_10 (h1_13.lend 1 rfl) hc1_13 hm1_13) hs8v) rfl rfl rfl ?_
 intro y7v
 refine simL_val (q_ext rfl rfl rfl) rfl rfl rfl ?_
 refine simL_val (q_ext rfl rfl rfl) rfl rfl rfl ?_
 refine simL_val (q_asg rfl rfl) rfl rfl rfl ?_
 refine simL_val (q_asg rfl rfl) rfl rfl rfl (simL_nil (nrm_then (sim_rtn ?_)))
 exact rtn_fn (y7v.1, y7v.2) rfl rfl rfl (.sel 0 rfl (.sel 2 rfl (.nil _)))

def synodref_SameBytes.l0 (x0 : List UInt8) (x1 : List UInt8) : Nat → Int → Option ((Unit) ⊕ (Bool))
  | 0, _ => none
  | k + 1, z7v => if z7v < (x0.length : Int) then (if 0 ≤ z7v ∧ z7v < (x0.length : Int) then (if 0 ≤ z7v ∧ z7v < (x1.length : Int) then (if ((x0.getD z7v.toNat 0).toNat : Int) = ((x1.getD z7v.toNat 0).toNat : Int) then (synodref_SameBytes.l0 x0 x1 k (IntKind.i64.wrap (z7v + 1))) else (some (.inr false))) else none) else none) else (some (.inl ()))
def synodref_SameBytes.f (k : Nat) (x0 : List UInt8) (x1 : List UInt8) : Option (Bool) := if (x0.length : Int) = (x1.length : Int) then (orR (synodref_SameBytes.l0 x0 x1 k 0) fun s3v => (some true)) else (some false)
theorem synodref_SameBytes.calls (W : World) (F : HA) (k : Nat) (a0 : Option Addr) (c0 : Nat) (x0 : List UInt8) (a1 : Option Addr) (c1 : Nat) (x1 : List UInt8) (h0 : Rd F a0 (encB x0)) (hc0 : x0.length ≤ c0) (hm0 : c0 ≤ maxLen) (h1 : Rd F a1 (encB x1)) (hc1 : x1.length ≤ c1) (hm1 : c1 ≤ maxLen) :
    Fn Try.prog W 25 [.slice a0 x0.length c0, .slice a1 x1.length c1] [] F (synodref_SameBytes.f k x0 x1) (fun (r : Bool) (y : Unit) => .bool r) (fun r y => []) := by
 unfold synodref_SameBytes.f
 refine fn_intro 26 Try.func25 rfl Try.ntmps25 rfl ?_
 refine sim_seq (sim_region ?_)
 refine simL_val (q_asg rfl rfl) rfl rfl rfl (simL_nil (nrm_then (sim_seq (sim_seq (sim_region ?_)))))
 refine simL_val (q_move rfl rfl) rfl rfl rfl ?_
 refine simL_val (q_len rfl rfl rfl Try.underlying27) rfl rfl rfl ?_
 refine simL_val (q_move rfl rfl) rfl rfl rfl ?_
 refine simL_val (q_len rfl rfl rfl Try.underlying27) rfl rfl rfl ?_
 refine simL_val (q_neq rfl rfl rfl) rfl rfl rfl (simL_nil (nrm_then ?_))
 refine sim_condn rfl (fun h1v => ?_) (fun h2v => ?_)
 refine sim_skip ?_
 refine nrm_then ?_
 refine sim_cutR (S := Unit) (Unit) (fun s y => []) (fun s y => [F]) ?_ ?_
 refine sim_seq (sim_region ?_)
 refine simL_val (q_asg rfl rfl) rfl rfl rfl (simL_nil (nrm_then ?_))
 refine sim_block ?_
 refine sim_loop (S := Int) (Unit) (fun k s => synodref_SameBytes.l0 x0 x1 k s) (fun s y => [(0, .slice a0 x0.length c0), (1, .slice a1 x1.length c1), (5, .int .i64 s)]) (fun s y => [F]) (fun _ => by rw [synodref_SameBytes.l0]) ?_ k 0 () ⟨rfl, rfl, rfl, trivial⟩ (.sel 0 rfl (.nil _))
 intro k s5v y6v
 refine sim_eq (by rw [synodref_SameBytes.l0]) ?_
 refine sim_seq (sim_seq (sim_region ?_))
 refine simL_val (q_move rfl rfl) rfl rfl rfl ?_
 refine simL_val (q_move rfl rfl) rfl rfl rfl ?_
 refine simL_val (q_len rfl rfl rfl Try.underlying27) rfl rfl rfl ?_
 refine simL_val (q_lss rfl rfl rfl) rfl rfl rfl (simL_nil (nrm_then ?_))
 refine sim_cond rfl (fun h8v => ?_) (fun h9v => ?_)
 refine sim_skip ?_
 refine nrm_then (sim_seq ?_)
 refine sim_block ?_
 refine sim_seq ?_
 refine sim_ask (fun hi10v => ?_)
 obtain ⟨b11v, b11vo, ha12v⟩ := h0.pos (encB_ne (j := s5v.toNat) (by omega))
 refine sim_ask (fun hi14v => ?_)
 obtain ⟨b15v, b15vo, ha16v⟩ := h1.pos (encB_ne (j := s5v.toNat) (by omega))
 refine sim_draw (Γ := Unit) () [[], [], [0, 1], [0, 1, 2], [], [], [4, 5], [4, 5, 6], [0, 1, 2, 3, 4, 5, 6, 7]] [] [0, 1, 2, 3, 4, 5, 6, 7, 8] (fun i => [[0], [0], [0], [0], [0], [0], [0], [0], [0]].getD i []) (fun i => [[], [], [], [], [], [], [], [], []].getD i []) (fun γ i => [.slice a0 x0.length c0, .int .i64 s5v, .pointer (some ⟨b11v, b11vo + s5v.toNat, none⟩), .int .u8 ((x0.getD s5v.toNat 0).toNat : Int), .slice a1 x1.length c1, .int .i64 s5v, .pointer (some ⟨b15v, b15vo + s5v.toNat, none⟩), .int .u8 ((x1.getD s5v.toNat 0).toNat : Int), .bool (!decide (((x0.getD s5v.toNat 0).toNat : Int) = ((x1.getD s5v.toNat 0).toNat : Int)))].getD i undef) (fun j γ => [[F]].getD j []) (fun γ => [(0, .slice a0 x0.length c0), (1, .slice a1 x1.length c1), (5, .int .i64 s5v), (25, .bool (!decide (((x0.getD s5v.toNat 0).toNat : Int) = ((x1.getD s5v.toNat 0).toNat : Int))))]) mixed (by decide) (by decide) (by decide) (by decide) (by decide) (by decide) (by decide) 26 rfl (by decide) (by decide) (by decide) (Ent.refl _) ?_ ?_ (fun _ => ⟨rfl, rfl, rfl, rfl, trivial⟩) ?_
 exact (All.cons (fun γ => (All.cons (QOb.plain [(0, .slice a0 x0.length c0)] rfl rfl (.o rfl (by decide) .nil) (q_move rfl rfl) rfl) All.nil)) (All.cons (fun γ => (All.cons (QOb.plain [(5, .int .i64 s5v)] rfl rfl (.o rfl (by decide) .nil) (q_move rfl rfl) rfl) All.nil)) (All.cons (fun γ => (All.cons (QOb.plain [(17, .slice a0 x0.length c0), (18, .int .i64 s5v)] rfl rfl (.w 0 rfl rfl rfl (.w 1 rfl rfl rfl .nil)) (q_idx1 rfl rfl rfl ha12v Try.underlying27 Try.sizeOf5 hi10v.1 hi10v.2) rfl) All.nil)) (All.cons (fun γ => (All.cons (QOb.plain [(19, .pointer (some ⟨b11v, b11vo + s5v.toNat, none⟩))] rfl rfl (.w 2 rfl rfl rfl .nil) (q_load rfl rfl Try.isAgg5 (h0.cell 0 rfl ha12v (encB_get (by omega)))) rfl) All.nil)) (All.cons (fun γ => (All.cons (QOb.plain [(1, .slice a1 x1.length c1)] rfl rfl (.o rfl (by decide) .nil) (q_move rfl rfl) rfl) All.nil)) (All.cons (fun γ => (All.cons (QOb.plain [(5, .int .i64 s5v)] rfl rfl (.o rfl (by decide) .nil) (q_move rfl rfl) rfl) All.nil)) (All.cons (fun γ => (All.cons (QOb.plain [(21, .slice a1 x1.length c1), (22, .int .i64 s5v)] rfl rfl (.w 4 rfl rfl rfl (.w 5 rfl rfl rfl .nil)) (q_idx1 rfl rfl rfl ha16v Try.underlying27 Try.sizeOf5 hi14v.1 hi14v.2) rfl) All.nil)) (All.cons (fun γ => (All.cons (QOb.plain [(23, .pointer (some ⟨b15v, b15vo + s5v.toNat, none⟩))] rfl rfl (.w 6 rfl rfl rfl .nil) (q_load rfl rfl Try.isAgg5 (h1.cell 0 rfl ha16v (encB_get (by omega)))) rfl) All.nil)) (All.cons (fun γ => (All.cons (QOb.plain [(20, .int .u8 ((x0.getD s5v.toNat 0).toNat : Int)), (24, .int .u8 ((x1.getD s5v.toNat 0).toNat : Int))] rfl rfl (.w 3 rfl rfl rfl (.w 7 rfl rfl rfl .nil)) (q_neq rfl rfl rfl) rfl) All.nil)) All.nil)))))))))
 exact All.nil
 intro g18v
 refine nrm_then ?_
 refine sim_condn rfl (fun h19v => ?_) (fun h20v => ?_)
 refine sim_skip ?_
 refine nrm_block (nrm_then (sim_region ?_))
 refine simL_val (q_move rfl rfl) rfl rfl rfl ?_
 refine simL_val (q_add rfl rfl rfl) rfl rfl rfl ?_
 refine simL_val (q_asg rfl rfl) rfl rfl rfl (simL_nil ?_)
 exact nrm_again (s := IntKind.i64.wrap (s5v + 1)) () ⟨rfl, rfl, rfl, trivial⟩ (.sel 0 rfl (.nil _))
 refine sim_seq (sim_region ?_)
 refine simL_val (q_asg rfl rfl) rfl rfl rfl (simL_nil (nrm_then (sim_rtn ?_)))
 refine rtn_block ?_
 refine rtn_then ?_
 refine rtn_loop ?_
 refine rtn_block ?_
 refine rtn_cutR ?_
 exact rtn_fn () rfl rfl rfl (.sel 0 rfl (.nil _))
 refine sim_exi ?_
 refine exi_then ?_
 refine exi_loop ?_
 refine exi_here ?_
 exact nrm_cutR (s := ()) () trivial (.sel 0 rfl (.nil _))
 intro s3v y4v
 refine sim_seq (sim_region ?_)
 refine simL_val (q_asg rfl rfl) rfl rfl rfl (simL_nil (nrm_then (sim_rtn ?_)))
 exact rtn_fn () rfl rfl rfl (.sel 0 rfl (.nil _))
 refine sim_seq (sim_region ?_)
 refine simL_val (q_asg rfl rfl) rfl rfl rfl (simL_nil (nrm_then (sim_rtn ?_)))
 refine rtn_then ?_
 exact rtn_fn () rfl rfl rfl (.sel 0 rfl (.nil _))

def synodref_Num.f (x0 : Int) : Option (Int) := some x0
theorem synodref_Num.calls (W : World) (F : HA) (x0 : Int)  :
    Fn Try.prog W 26 [.int .i64 x0] [] F (synodref_Num.f x0) (fun (r : Int) (y : Unit) => .int .i64 r) (fun r y => []) := by
 unfold synodref_Num.f
 refine fn_intro 4 Try.func26 rfl Try.ntmps26 rfl ?_
 refine sim_seq (sim_region ?_)
 refine simL_val (q_asg rfl rfl) rfl rfl rfl (simL_nil (nrm_then (sim_seq (sim_region ?_))))
 refine simL_val (q_move rfl rfl) rfl rfl rfl ?_
 refine simL_val (q_asg rfl rfl) rfl rfl rfl (simL_nil (nrm_then (sim_rtn ?_)))
 exact rtn_fn () rfl rfl rfl (.sel 0 rfl (.nil _))
def synodref_Num.v (x0 : Int) : Int := (synodref_Num.f x0).getD 0
theorem synodref_Num.tot (x0 : Int) : synodref_Num.f x0 = some (synodref_Num.v x0) := by
  have h : ∃ r, synodref_Num.f x0 = some r := by
    unfold synodref_Num.f
    repeat' (first | exact ⟨_, rfl⟩ | split | simp only [Option.bind_some])
  obtain ⟨r, h⟩ := h
  unfold synodref_Num.v
  rw [h]; rfl

def synodlaw3_first.f (k : Nat)  : Option (Bool) := (codec_Entries_Put.f k (3 : Int) (300 : Int) (1 : Int) ([97, 98] : List UInt8)).bind fun s7v => ((codec_States_Put.f k (5 : Int) (2 : Int) (9 : Int)).bind fun s10v => ((codec_States_Check.f (0 : Int) (1 : Int) (0 : Int)).bind fun s13v => ((codec_Messages_Put.f k (1 : Int) (1 : Int) (2 : Int) (4 : Int) (7 : Int) (3 : Int) (0 : Int) (0 : Int) (0 : Int) false ([] : List (Int × Int × Int × List UInt8)) (0 : Int) (0 : Int) ([] : List UInt8)).bind fun s16v => ((synodref_SameBytes.f k s7v.1 ([3, 172, 2, 1, 2, 97, 98] : List UInt8)).bind fun s29v => ((if s29v = true then ((synodref_SameBytes.f k s10v.1 ([5, 2, 9] : List UInt8)).bind fun s44v => (some s44v)) else (some false)).bind fun s32v => ((if s32v = true then ((synodref_SameBytes.f k s16v.1 ([1, 1, 2, 4, 7, 3] : List UInt8)).bind fun s61v => (some s61v)) else (some false)).bind fun s49v => ((if s49v = true then ((synodref_Num.f s7v.2).bind fun s68v => (some (decide (s68v = (0 : Int))))) else (some false)).bind fun s66v => ((if s66v = true then ((synodref_Num.f s10v.2).bind fun s75v => (some (decide (s75v = (0 : Int))))) else (some false)).bind fun s73v => ((if s73v = true then ((synodref_Num.f s13v).bind fun s82v => (some (decide (s82v = (4 : Int))))) else (some false)).bind fun s80v => ((if s80v = true then ((synodref_Num.f s16v.2).bind fun s89v => (some (decide (s89v = (0 : Int))))) else (some false)).bind fun s87v => (some s87v)))))))))))
theorem synodlaw3_first.calls (W : World) (F : HA) (k : Nat)   :
    Fn Try.prog W 14 [] [] F (synodlaw3_first.f k ) (fun (r : Bool) (y : Unit) => .bool r) (fun r y => []) := by
 unfold synodlaw3_first.f
 refine fn_intro 66 Try.func14 rfl Try.ntmps14 rfl ?_
 refine sim_seq (sim_region ?_)
 refine simL_val (q_asg rfl rfl) rfl rfl rfl (simL_nil (nrm_then (sim_seq (sim_region ?_))))
 refine simL_val (q_build (v := .agg #[]) rfl rfl (fun _ => by kernel_rfl)) rfl rfl rfl ?_
 refine simL_eff (re_litb (cs := [.int .u8 97, .int .u8 98]) ([97, 98] : List UInt8) rfl rfl Try.underlying27 elt5 rfl (by kernel_rfl) rfl rfl rfl) rfl rfl rfl ?_
 intro b1v
 refine simL_eff (re_mark 0 rfl rfl Try.underlying27 Try.underlying5 rfl rfl) rfl rfl rfl ?_
 intro _
 refine simL_val (q_build (v := .agg #[.int .i64 3, .int .i64 300, .int .i64 1, .slice (some ⟨b1v, 0, none⟩) (([97, 98] : List UInt8).length) 2]) rfl rfl (fun _ => by kernel_rfl)) rfl rfl rfl ?_
 refine simL_bind (fun s7v hs9v => ?_)
 refine simL_lend 0 rfl (fun hq3v hq4v hq5v hq6v => ?_)
 refine simL_eff (re_call (vs := [.agg #[], .agg #[.int .i64 3, .int .i64 300, .int .i64 1, .slice (some ⟨b1v, 0, none⟩) (([97, 98] : List UInt8).length) 2]]) (cap := []) (A := []) (rst := [Row 5 1 (some ⟨b1v, 0, none⟩) ([97, 98] : List UInt8).length 2 (encB ([97, 98] : List UInt8)), F]) rfl rfl rfl rfl rfl rfl Try.call32 (.sel 0 rfl (.sel 0 rfl (.nil _))) (codec_Entries_Put.calls _ _ k (3 : Int) (300 : Int) (1 : Int) (some ⟨b1v, 0, none⟩) 2 ([97, 98] : List UInt8) (hq3v.lend 0 rfl) hq4v hq5v) hs9v) rfl rfl rfl ?_
 intro y8v
 refine simL_val (q_move rfl rfl) rfl rfl rfl ?_
 refine simL_val (q_ext rfl rfl rfl) rfl rfl rfl ?_
 refine simL_val (q_ext rfl rfl rfl) rfl rfl rfl ?_
 refine simL_val (q_asg rfl rfl) rfl rfl rfl ?_
 refine simL_val (q_asg rfl rfl) rfl rfl rfl (simL_nil (nrm_then (sim_seq (sim_region ?_))))
 refine simL_val (q_build (v := .agg #[]) rfl rfl (fun _ => by kernel_rfl)) rfl rfl rfl ?_
 refine simL_val (q_build (v := .agg #[.int .i64 5, .int .i64 2, .int .i64 9]) rfl rfl (fun _ => by kernel_rfl)) rfl rfl rfl ?_
 refine simL_bind (fun s10v hs12v => ?_)
 refine simL_eff (re_call (vs := [.agg #[], .agg #[.int .i64 5, .int .i64 2, .int .i64 9]]) (cap := []) (A := []) (rst := [Row 5 1 y8v.1 s7v.1.length y8v.2 (encB s7v.1), Row 5 1 (some ⟨b1v, 0, none⟩) ([97, 98] : List UInt8).length 2 (encB ([97, 98] : List UInt8)), F]) rfl rfl rfl rfl rfl rfl Try.call23 (.sel 0 rfl (.sel 0 rfl (.sel 0 rfl (.nil _)))) (codec_States_Put.calls _ _ k (5 : Int) (2 : Int) (9 : Int) ) hs12v) rfl rfl rfl ?_
 intro y11v
 refine simL_val (q_move rfl rfl) rfl rfl rfl ?_
 refine simL_val (q_ext rfl rfl rfl) rfl rfl rfl ?_
 refine simL_val (q_ext rfl rfl rfl) rfl rfl rfl ?_
 refine simL_val (q_asg rfl rfl) rfl rfl rfl ?_
 refine simL_val (q_asg rfl rfl) rfl rfl rfl (simL_nil (nrm_then (sim_seq (sim_region ?_))))
 refine simL_val (q_build (v := .agg #[]) rfl rfl (fun _ => by kernel_rfl)) rfl rfl rfl ?_
 refine simL_val (q_build (v := .agg #[.int .i64 0, .int .i64 1, .int .i64 0]) rfl rfl (fun _ => by kernel_rfl)) rfl rfl rfl ?_
 refine simL_bind (fun s13v hs15v => ?_)
 refine simL_eff (re_call (vs := [.agg #[], .agg #[.int .i64 0, .int .i64 1, .int .i64 0]]) (cap := []) (A := []) (rst := [Row 5 1 y11v.1 s10v.1.length y11v.2 (encB s10v.1), Row 5 1 y8v.1 s7v.1.length y8v.2 (encB s7v.1), Row 5 1 (some ⟨b1v, 0, none⟩) ([97, 98] : List UInt8).length 2 (encB ([97, 98] : List UInt8)), F]) rfl rfl rfl rfl rfl rfl Try.call27 (.sel 0 rfl (.sel 0 rfl (.sel 0 rfl (.sel 0 rfl (.nil _))))) (codec_States_Check.calls _ _ (0 : Int) (1 : Int) (0 : Int) ) hs15v) rfl rfl rfl ?_
 intro y14v
 refine simL_val (q_asg rfl rfl) rfl rfl rfl (simL_nil (nrm_then (sim_seq (sim_region ?_))))
 refine simL_val (q_build (v := .agg #[]) rfl rfl (fun _ => by kernel_rfl)) rfl rfl rfl ?_
 refine simL_val (q_build (v := .agg #[.int .i64 1, .int .i64 1, .int .i64 2, .int .i64 4, .int .i64 7, .int .i64 3, .int .i64 0, .int .i64 0, .int .i64 0, .bool false, .slice none 0 0, .int .i64 0, .int .i64 0, .slice none 0 0]) rfl rfl (fun _ => by kernel_rfl)) rfl rfl rfl ?_
 refine simL_bind (fun s16v hs18v => ?_)
 refine simL_eff (re_call (vs := [.agg #[], .agg #[.int .i64 1, .int .i64 1, .int .i64 2, .int .i64 4, .int .i64 7, .int .i64 3, .int .i64 0, .int .i64 0, .int .i64 0, .bool false, .slice none 0 0, .int .i64 0, .int .i64 0, .slice none 0 0]]) (cap := []) (A := []) (rst := [Row 5 1 y11v.1 s10v.1.length y11v.2 (encB s10v.1), Row 5 1 y8v.1 s7v.1.length y8v.2 (encB s7v.1), Row 5 1 (some ⟨b1v, 0, none⟩) ([97, 98] : List UInt8).length 2 (encB ([97, 98] : List UInt8)), F]) rfl rfl rfl rfl rfl rfl Try.call57 (.sel 0 rfl (.sel 0 rfl (.sel 0 rfl (.sel 0 rfl (.nil _))))) (codec_Messages_Put.calls _ _ k (1 : Int) (1 : Int) (2 : Int) (4 : Int) (7 : Int) (3 : Int) (0 : Int) (0 : Int) (0 : Int) false none 0 ([] : List (Int × Int × Int × List UInt8)) (0 : Int) (0 : Int) none 0 ([] : List UInt8) RdV.nil (Nat.le_refl _) (Nat.zero_le _) (Rd.nil _ _) (Nat.le_refl _) (Nat.zero_le _)) hs18v) rfl rfl rfl ?_
 intro y17v
 refine simL_val (q_move rfl rfl) rfl rfl rfl ?_
 refine simL_val (q_ext rfl rfl rfl) rfl rfl rfl ?_
 refine simL_val (q_ext rfl rfl rfl) rfl rfl rfl ?_
 refine simL_val (q_asg rfl rfl) rfl rfl rfl ?_
 refine simL_val (q_asg rfl rfl) rfl rfl rfl (simL_nil (nrm_then (sim_seq (sim_region ?_))))
 refine simL_val (q_move rfl rfl) rfl rfl rfl ?_
 refine simL_eff (re_litb (cs := [.int .u8 3, .int .u8 172, .int .u8 2, .int .u8 1, .int .u8 2, .int .u8 97, .int .u8 98]) ([3, 172, 2, 1, 2, 97, 98] : List UInt8) rfl rfl Try.underlying27 elt5 rfl (by kernel_rfl) rfl rfl rfl) rfl rfl rfl ?_
 intro b19v
 refine simL_bind (fun s29v hs31v => ?_)
 refine simL_lend 3 rfl (fun hq21v hq22v hq23v hq24v => ?_)
 refine simL_lend 0 rfl (fun hq25v hq26v hq27v hq28v => ?_)
 refine simL_eff (re_call (vs := [.slice y8v.1 s7v.1.length y8v.2, .slice (some ⟨b19v, 0, none⟩) (([3, 172, 2, 1, 2, 97, 98] : List UInt8).length) 7]) (cap := []) (A := []) (rst := [Row 5 1 (some ⟨b19v, 0, none⟩) ([3, 172, 2, 1, 2, 97, 98] : List UInt8).length 7 (encB ([3, 172, 2, 1, 2, 97, 98] : List UInt8)), Row 5 1 y17v.1 s16v.1.length y17v.2 (encB s16v.1), Row 5 1 y11v.1 s10v.1.length y11v.2 (encB s10v.1), Row 5 1 y8v.1 s7v.1.length y8v.2 (encB s7v.1), Row 5 1 (some ⟨b1v, 0, none⟩) ([97, 98] : List UInt8).length 2 (encB ([97, 98] : List UInt8)), F]) rfl rfl rfl rfl rfl rfl Try.call25 (.sel 0 rfl (.sel 0 rfl (.sel 0 rfl (.sel 0 rfl (.sel 0 rfl (.sel 0 rfl (.nil _))))))) (synodref_SameBytes.calls _ _ k y8v.1 y8v.2 s7v.1 (some ⟨b19v, 0, none⟩) 7 ([3, 172, 2, 1, 2, 97, 98] : List UInt8) (hq21v.lend 3 rfl) hq22v hq23v (hq25v.lend 0 rfl) hq26v hq27v) hs31v) rfl rfl rfl ?_
 intro y30v
 refine simL_val (q_move rfl rfl) rfl rfl rfl ?_
 refine simL_cut' 4 (S := Bool) (Unit) (fun s y => [(2, .int .i64 s7v.2), (4, .int .i64 s10v.2), (5, .int .i64 s13v), (6, .slice y17v.1 s16v.1.length y17v.2), (7, .int .i64 s16v.2), (39, .bool s)]) (fun s y => [Row 5 1 y17v.1 s16v.1.length y17v.2 (encB s16v.1), F]) ?_ ?_
 refine simL_caseb (fun hb47v => ?_) (fun hb48v => ?_)
 rw [hb47v]
 refine simL_valg (q_move rfl rfl) rfl rfl rfl rfl rfl rfl ?_
 refine simL_effg (re_litb (cs := [.int .u8 5, .int .u8 2, .int .u8 9]) ([5, 2, 9] : List UInt8) rfl rfl Try.underlying27 elt5 rfl (by kernel_rfl) rfl rfl rfl) rfl rfl rfl rfl rfl rfl ?_
 intro b34v
 refine simL_bind (fun s44v hs46v => ?_)
 refine simL_lend 3 rfl (fun hq36v hq37v hq38v hq39v => ?_)
 refine simL_lend 0 rfl (fun hq40v hq41v hq42v hq43v => ?_)
 refine simL_effg (re_call (vs := [.slice y11v.1 s10v.1.length y11v.2, .slice (some ⟨b34v, 0, none⟩) (([5, 2, 9] : List UInt8).length) 3]) (cap := []) (A := []) (rst := [Row 5 1 (some ⟨b34v, 0, none⟩) ([5, 2, 9] : List UInt8).length 3 (encB ([5, 2, 9] : List UInt8)), Row 5 1 (some ⟨b19v, 0, none⟩) ([3, 172, 2, 1, 2, 97, 98] : List UInt8).length 7 (encB ([3, 172, 2, 1, 2, 97, 98] : List UInt8)), Row 5 1 y17v.1 s16v.1.length y17v.2 (encB s16v.1), Row 5 1 y11v.1 s10v.1.length y11v.2 (encB s10v.1), Row 5 1 y8v.1 s7v.1.length y8v.2 (encB s7v.1), Row 5 1 (some ⟨b1v, 0, none⟩) ([97, 98] : List UInt8).length 2 (encB ([97, 98] : List UInt8)), F]) rfl rfl rfl rfl rfl rfl Try.call25 (.sel 0 rfl (.sel 0 rfl (.sel 0 rfl (.sel 0 rfl (.sel 0 rfl (.sel 0 rfl (.sel 0 rfl (.nil _)))))))) (synodref_SameBytes.calls _ _ k y11v.1 y11v.2 s10v.1 (some ⟨b34v, 0, none⟩) 3 ([5, 2, 9] : List UInt8) (hq36v.lend 3 rfl) hq37v hq38v (hq40v.lend 0 rfl) hq41v hq42v) hs46v) rfl rfl rfl rfl rfl rfl ?_
 intro y45v
 refine simL_val (q_pick rfl rfl rfl rfl rfl) rfl rfl rfl (simL_nil ?_)
 exact nrm_cut (s := s44v) () ⟨rfl, rfl, rfl, rfl, rfl, rfl, trivial⟩ (.sel 2 rfl (.sel 5 rfl (.nil _)))
 rw [hb48v]
 refine simL_skipd rfl rfl rfl rfl rfl rfl ?_
 refine simL_skipd rfl rfl rfl rfl rfl rfl ?_
 refine simL_skipd rfl rfl rfl rfl rfl rfl ?_
 refine simL_val (q_pick rfl rfl rfl rfl rfl) rfl rfl rfl (simL_nil ?_)
 exact nrm_cut (s := false) () ⟨rfl, rfl, rfl, rfl, rfl, rfl, trivial⟩ (.sel 1 rfl (.sel 4 rfl (.nil _)))
 intro s32v y33v
 refine simL_val (q_move rfl rfl) rfl rfl rfl ?_
 refine simL_cut' 4 (S := Bool) (Unit) (fun s y => [(2, .int .i64 s7v.2), (4, .int .i64 s10v.2), (5, .int .i64 s13v), (7, .int .i64 s16v.2), (44, .bool s)]) (fun s y => [F]) ?_ ?_
 refine simL_caseb (fun hb64v => ?_) (fun hb65v => ?_)
 rw [hb64v]
 refine simL_valg (q_move rfl rfl) rfl rfl rfl rfl rfl rfl ?_
 refine simL_effg (re_litb (cs := [.int .u8 1, .int .u8 1, .int .u8 2, .int .u8 4, .int .u8 7, .int .u8 3]) ([1, 1, 2, 4, 7, 3] : List UInt8) rfl rfl Try.underlying27 elt5 rfl (by kernel_rfl) rfl rfl rfl) rfl rfl rfl rfl rfl rfl ?_
 intro b51v
 refine simL_bind (fun s61v hs63v => ?_)
 refine simL_lend 1 rfl (fun hq53v hq54v hq55v hq56v => ?_)
 refine simL_lend 0 rfl (fun hq57v hq58v hq59v hq60v => ?_)
 refine simL_effg (re_call (vs := [.slice y17v.1 s16v.1.length y17v.2, .slice (some ⟨b51v, 0, none⟩) (([1, 1, 2, 4, 7, 3] : List UInt8).length) 6]) (cap := []) (A := []) (rst := [Row 5 1 (some ⟨b51v, 0, none⟩) ([1, 1, 2, 4, 7, 3] : List UInt8).length 6 (encB ([1, 1, 2, 4, 7, 3] : List UInt8)), Row 5 1 y17v.1 s16v.1.length y17v.2 (encB s16v.1), F]) rfl rfl rfl rfl rfl rfl Try.call25 (.sel 0 rfl (.sel 0 rfl (.sel 0 rfl (.nil _)))) (synodref_SameBytes.calls _ _ k y17v.1 y17v.2 s16v.1 (some ⟨b51v, 0, none⟩) 6 ([1, 1, 2, 4, 7, 3] : List UInt8) (hq53v.lend 1 rfl) hq54v hq55v (hq57v.lend 0 rfl) hq58v hq59v) hs63v) rfl rfl rfl rfl rfl rfl ?_
 intro y62v
 refine simL_val (q_pick rfl rfl rfl rfl rfl) rfl rfl rfl (simL_nil ?_)
 exact nrm_cut (s := s61v) () ⟨rfl, rfl, rfl, rfl, rfl, trivial⟩ (.sel 2 rfl (.nil _))
 rw [hb65v]
 refine simL_skipd rfl rfl rfl rfl rfl rfl ?_
 refine simL_skipd rfl rfl rfl rfl rfl rfl ?_
 refine simL_skipd rfl rfl rfl rfl rfl rfl ?_
 refine simL_val (q_pick rfl rfl rfl rfl rfl) rfl rfl rfl (simL_nil ?_)
 exact nrm_cut (s := false) () ⟨rfl, rfl, rfl, rfl, rfl, trivial⟩ (.sel 1 rfl (.nil _))
 intro s49v y50v
 refine simL_val (q_asg rfl rfl) rfl rfl rfl (simL_nil (nrm_then (sim_seq (sim_region ?_))))
 refine simL_val (q_move rfl rfl) rfl rfl rfl ?_
 refine simL_val (q_move rfl rfl) rfl rfl rfl ?_
 refine simL_cut' 4 (S := Bool) (Unit) (fun s y => [(4, .int .i64 s10v.2), (5, .int .i64 s13v), (7, .int .i64 s16v.2), (50, .bool s)]) (fun s y => [F]) ?_ ?_
 refine simL_caseb (fun hb71v => ?_) (fun hb72v => ?_)
 rw [hb71v]
 refine simL_valg (q_move rfl rfl) rfl rfl rfl rfl rfl rfl ?_
 refine simL_bind (fun s68v hs70v => ?_)
 refine simL_effg (re_call (vs := [.int .i64 s7v.2]) (cap := []) (A := []) (rst := [F]) rfl rfl rfl rfl rfl rfl Try.call26 (.sel 0 rfl (.nil _)) (synodref_Num.calls _ _ s7v.2 ) hs70v) rfl rfl rfl rfl rfl rfl ?_
 intro y69v
 refine simL_valg (q_eql rfl rfl rfl) rfl rfl rfl rfl rfl rfl ?_
 refine simL_val (q_pick rfl rfl rfl rfl rfl) rfl rfl rfl (simL_nil ?_)
 exact nrm_cut (s := decide (s68v = (0 : Int))) () ⟨rfl, rfl, rfl, rfl, trivial⟩ (.sel 0 rfl (.nil _))
 rw [hb72v]
 refine simL_skipd rfl rfl rfl rfl rfl rfl ?_
 refine simL_skipd rfl rfl rfl rfl rfl rfl ?_
 refine simL_skipd rfl rfl rfl rfl rfl rfl ?_
 refine simL_val (q_pick rfl rfl rfl rfl rfl) rfl rfl rfl (simL_nil ?_)
 exact nrm_cut (s := false) () ⟨rfl, rfl, rfl, rfl, trivial⟩ (.sel 0 rfl (.nil _))
 intro s66v y67v
 refine simL_val (q_move rfl rfl) rfl rfl rfl ?_
 refine simL_cut' 4 (S := Bool) (Unit) (fun s y => [(5, .int .i64 s13v), (7, .int .i64 s16v.2), (55, .bool s)]) (fun s y => [F]) ?_ ?_
 refine simL_caseb (fun hb78v => ?_) (fun hb79v => ?_)
 rw [hb78v]
 refine simL_valg (q_move rfl rfl) rfl rfl rfl rfl rfl rfl ?_
 refine simL_bind (fun s75v hs77v => ?_)
 refine simL_effg (re_call (vs := [.int .i64 s10v.2]) (cap := []) (A := []) (rst := [F]) rfl rfl rfl rfl rfl rfl Try.call26 (.sel 0 rfl (.nil _)) (synodref_Num.calls _ _ s10v.2 ) hs77v) rfl rfl rfl rfl rfl rfl ?_
 intro y76v
 refine simL_valg (q_eql rfl rfl rfl) rfl rfl rfl rfl rfl rfl ?_
 refine simL_val (q_pick rfl rfl rfl rfl rfl) rfl rfl rfl (simL_nil ?_)
 exact nrm_cut (s := decide (s75v = (0 : Int))) () ⟨rfl, rfl, rfl, trivial⟩ (.sel 0 rfl (.nil _))
 rw [hb79v]
 refine simL_skipd rfl rfl rfl rfl rfl rfl ?_
 refine simL_skipd rfl rfl rfl rfl rfl rfl ?_
 refine simL_skipd rfl rfl rfl rfl rfl rfl ?_
 refine simL_val (q_pick rfl rfl rfl rfl rfl) rfl rfl rfl (simL_nil ?_)
 exact nrm_cut (s := false) () ⟨rfl, rfl, rfl, trivial⟩ (.sel 0 rfl (.nil _))
 intro s73v y74v
 refine simL_val (q_move rfl rfl) rfl rfl rfl ?_
 refine simL_cut' 4 (S := Bool) (Unit) (fun s y => [(7, .int .i64 s16v.2), (60, .bool s)]) (fun s y => [F]) ?_ ?_
 refine simL_caseb (fun hb85v => ?_) (fun hb86v => ?_)
 rw [hb85v]
 refine simL_valg (q_move rfl rfl) rfl rfl rfl rfl rfl rfl ?_
 refine simL_bind (fun s82v hs84v => ?_)
 refine simL_effg (re_call (vs := [.int .i64 s13v]) (cap := []) (A := []) (rst := [F]) rfl rfl rfl rfl rfl rfl Try.call26 (.sel 0 rfl (.nil _)) (synodref_Num.calls _ _ s13v ) hs84v) rfl rfl rfl rfl rfl rfl ?_
 intro y83v
 refine simL_valg (q_eql rfl rfl rfl) rfl rfl rfl rfl rfl rfl ?_
 refine simL_val (q_pick rfl rfl rfl rfl rfl) rfl rfl rfl (simL_nil ?_)
 exact nrm_cut (s := decide (s82v = (4 : Int))) () ⟨rfl, rfl, trivial⟩ (.sel 0 rfl (.nil _))
 rw [hb86v]
 refine simL_skipd rfl rfl rfl rfl rfl rfl ?_
 refine simL_skipd rfl rfl rfl rfl rfl rfl ?_
 refine simL_skipd rfl rfl rfl rfl rfl rfl ?_
 refine simL_val (q_pick rfl rfl rfl rfl rfl) rfl rfl rfl (simL_nil ?_)
 exact nrm_cut (s := false) () ⟨rfl, rfl, trivial⟩ (.sel 0 rfl (.nil _))
 intro s80v y81v
 refine simL_val (q_move rfl rfl) rfl rfl rfl ?_
 refine simL_cut' 4 (S := Bool) (Unit) (fun s y => [(65, .bool s)]) (fun s y => [F]) ?_ ?_
 refine simL_caseb (fun hb92v => ?_) (fun hb93v => ?_)
 rw [hb92v]
 refine simL_valg (q_move rfl rfl) rfl rfl rfl rfl rfl rfl ?_
 refine simL_bind (fun s89v hs91v => ?_)
 refine simL_effg (re_call (vs := [.int .i64 s16v.2]) (cap := []) (A := []) (rst := [F]) rfl rfl rfl rfl rfl rfl Try.call26 (.sel 0 rfl (.nil _)) (synodref_Num.calls _ _ s16v.2 ) hs91v) rfl rfl rfl rfl rfl rfl ?_
 intro y90v
 refine simL_valg (q_eql rfl rfl rfl) rfl rfl rfl rfl rfl rfl ?_
 refine simL_val (q_pick rfl rfl rfl rfl rfl) rfl rfl rfl (simL_nil ?_)
 exact nrm_cut (s := decide (s89v = (0 : Int))) () ⟨rfl, trivial⟩ (.sel 0 rfl (.nil _))
 rw [hb93v]
 refine simL_skipd rfl rfl rfl rfl rfl rfl ?_
 refine simL_skipd rfl rfl rfl rfl rfl rfl ?_
 refine simL_skipd rfl rfl rfl rfl rfl rfl ?_
 refine simL_val (q_pick rfl rfl rfl rfl rfl) rfl rfl rfl (simL_nil ?_)
 exact nrm_cut (s := false) () ⟨rfl, trivial⟩ (.sel 0 rfl (.nil _))
 intro s87v y88v
 refine simL_val (q_asg rfl rfl) rfl rfl rfl (simL_nil (nrm_then (sim_rtn ?_)))
 exact rtn_fn () rfl rfl rfl (.sel 0 rfl (.nil _))

def synodref3_within.f (x0 : Int) (x1 : Int) (x2 : Int) : Option (Bool) := some ((decide (x1 ≤ x0)) && (decide (x0 ≤ x2)))
theorem synodref3_within.calls (W : World) (F : HA) (x0 : Int) (x1 : Int) (x2 : Int)  :
    Fn Try.prog W 69 [.int .i64 x0, .int .i64 x1, .int .i64 x2] [] F (synodref3_within.f x0 x1 x2) (fun (r : Bool) (y : Unit) => .bool r) (fun r y => []) := by
 unfold synodref3_within.f
 refine fn_intro 15 Try.func69 rfl Try.ntmps69 rfl ?_
 refine sim_seq (sim_region ?_)
 refine simL_val (q_asg rfl rfl) rfl rfl rfl (simL_nil (nrm_then (sim_seq (sim_region ?_))))
 refine simL_val (q_move rfl rfl) rfl rfl rfl ?_
 refine simL_val (q_move rfl rfl) rfl rfl rfl ?_
 refine simL_val (q_geq rfl rfl rfl) rfl rfl rfl ?_
 refine simL_val (q_move rfl rfl) rfl rfl rfl ?_
 refine simL_valc (b := decide (x1 ≤ x0)) (fun hb3v => RQ.sub (E' := [(0, .int .i64 x0)]) ⟨rfl, trivial⟩ (q_move rfl rfl)) rfl rfl rfl rfl rfl ?_
 refine simL_valc (b := decide (x1 ≤ x0)) (fun hb2v => RQ.sub (E' := [(2, .int .i64 x2)]) ⟨rfl, trivial⟩ (q_move rfl rfl)) rfl rfl rfl rfl rfl ?_
 refine simL_valc (b := decide (x1 ≤ x0)) (fun hb1v => RQ.sub (E' := [(11, .int .i64 x0), (12, .int .i64 x2)]) ⟨lk_cv rfl hb1v, lk_cv rfl hb1v, trivial⟩ (q_leq rfl rfl rfl)) rfl rfl rfl rfl rfl ?_
 refine simL_val (q_and rfl rfl rfl) rfl rfl rfl ?_
 refine simL_val (q_asg rfl rfl) rfl rfl rfl (simL_nil (nrm_then (sim_rtn ?_)))
 exact rtn_fn () rfl rfl rfl (.sel 0 rfl (.nil _))
def synodref3_within.v (x0 : Int) (x1 : Int) (x2 : Int) : Bool := (synodref3_within.f x0 x1 x2).getD false
theorem synodref3_within.tot (x0 : Int) (x1 : Int) (x2 : Int) : synodref3_within.f x0 x1 x2 = some (synodref3_within.v x0 x1 x2) := by
  have h : ∃ r, synodref3_within.f x0 x1 x2 = some r := by
    unfold synodref3_within.f
    repeat' (first | exact ⟨_, rfl⟩ | split | simp only [Option.bind_some])
  obtain ⟨r, h⟩ := h
  unfold synodref3_within.v
  rw [h]; rfl

def synodref3_CheckEntry.f (x0_0 : Int) (x0_1 : Int) (x0_2 : Int) (x0_3 : List UInt8) : Option (Int) := (synodref3_within.f x0_0 (1 : Int) (4611686018427387904 : Int)).bind fun s2v => ((if (!s2v) = true then (some true) else ((synodref3_within.f x0_1 (1 : Int) (4611686018427387904 : Int)).bind fun s7v => (some (!s7v)))).bind fun s5v => (if s5v = true then (some 1) else (if ((!decide (x0_2 = (0 : Int))) && (!decide (x0_2 = (1 : Int)))) = true then (some 6) else (if (4096 : Int) < (x0_3.length : Int) then (some 3) else (if ((decide (x0_2 = (0 : Int))) && (decide ((0 : Int) < (x0_3.length : Int)))) = true then (some 4) else (some 0))))))
theorem synodref3_CheckEntry.calls (W : World) (F : HA) (x0_0 : Int) (x0_1 : Int) (x0_2 : Int) (a0_3 : Option Addr) (c0_3 : Nat) (x0_3 : List UInt8) (h0_3 : Rd F a0_3 (encB x0_3)) (hc0_3 : x0_3.length ≤ c0_3) (hm0_3 : c0_3 ≤ maxLen) :
    Fn Try.prog W 35 [.agg #[.int .i64 x0_0, .int .i64 x0_1, .int .i64 x0_2, .slice a0_3 x0_3.length c0_3]] [] F (synodref3_CheckEntry.f x0_0 x0_1 x0_2 x0_3) (fun (r : Int) (y : Unit) => .int .i64 r) (fun r y => []) := by
 unfold synodref3_CheckEntry.f
 refine fn_intro 34 Try.func35 rfl Try.ntmps35 rfl ?_
 refine sim_seq (sim_region ?_)
 refine simL_eff (re_box rfl rfl rfl) rfl rfl rfl ?_
 intro b1v
 refine simL_val (q_asg rfl rfl) rfl rfl rfl (simL_nil (nrm_then (sim_seq (sim_seq (sim_region ?_)))))
 refine simL_val (q_fa rfl rfl Try.underlying61 rfl rfl Try.sizeOf3 rfl) rfl rfl rfl ?_
 refine simL_val (q_load rfl rfl Try.isAgg3 (.obj 0 rfl rfl)) rfl rfl rfl ?_
 refine simL_bind (fun s2v hs4v => ?_)
 refine simL_eff (re_call (vs := [.int .i64 x0_0, .int .i64 1, .int .i64 4611686018427387904]) (cap := []) (A := []) (rst := [obj b1v 61 [.int .i64 x0_0, .int .i64 x0_1, .int .i64 x0_2, .slice a0_3 x0_3.length c0_3], F]) rfl rfl rfl rfl rfl rfl Try.call69 (.sel 0 rfl (.sel 0 rfl (.nil _))) (synodref3_within.calls _ _ x0_0 (1 : Int) (4611686018427387904 : Int) ) hs4v) rfl rfl rfl ?_
 intro y3v
 refine simL_val (q_not rfl rfl) rfl rfl rfl ?_
 refine simL_val (q_move rfl rfl) rfl rfl rfl ?_
 refine simL_cut' 5 (S := Bool) (Unit) (fun s y => [(1, .pointer (some ⟨b1v, 0, none⟩)), (12, .bool s)]) (fun s y => [obj b1v 61 [.int .i64 x0_0, .int .i64 x0_1, .int .i64 x0_2, .slice a0_3 x0_3.length c0_3], F]) ?_ ?_
 refine simL_caseb (fun hb10v => ?_) (fun hb11v => ?_)
 rw [hb10v]
 refine simL_skipd rfl rfl rfl rfl rfl rfl ?_
 refine simL_skipd rfl rfl rfl rfl rfl rfl ?_
 refine simL_skipd rfl rfl rfl rfl rfl rfl ?_
 refine simL_skipd rfl rfl rfl rfl rfl rfl ?_
 refine simL_val (q_pick rfl rfl rfl rfl rfl) rfl rfl rfl (simL_nil ?_)
 exact nrm_cut (s := true) () ⟨rfl, rfl, trivial⟩ (.sel 0 rfl (.sel 0 rfl (.nil _)))
 rw [hb11v]
 refine simL_valg (q_fa rfl rfl Try.underlying61 rfl rfl Try.sizeOf3 rfl) rfl rfl rfl rfl rfl rfl ?_
 refine simL_valg (q_load rfl rfl Try.isAgg3 (.obj 0 rfl rfl)) rfl rfl rfl rfl rfl rfl ?_
 refine simL_bind (fun s7v hs9v => ?_)
 refine simL_effg (re_call (vs := [.int .i64 x0_1, .int .i64 1, .int .i64 4611686018427387904]) (cap := []) (A := []) (rst := [obj b1v 61 [.int .i64 x0_0, .int .i64 x0_1, .int .i64 x0_2, .slice a0_3 x0_3.length c0_3], F]) rfl rfl rfl rfl rfl rfl Try.call69 (.sel 0 rfl (.sel 0 rfl (.nil _))) (synodref3_within.calls _ _ x0_1 (1 : Int) (4611686018427387904 : Int) ) hs9v) rfl rfl rfl rfl rfl rfl ?_
 intro y8v
 refine simL_valg (q_not rfl rfl) rfl rfl rfl rfl rfl rfl ?_
 refine simL_val (q_pick rfl rfl rfl rfl rfl) rfl rfl rfl (simL_nil ?_)
 exact nrm_cut (s := !s7v) () ⟨rfl, rfl, trivial⟩ (.sel 0 rfl (.sel 0 rfl (.nil _)))
 intro s5v y6v
 refine simL_nil (nrm_then ?_)
 refine sim_condb rfl (fun h12v => ?_) (fun h13v => ?_)
 refine sim_seq (sim_region ?_)
 refine simL_val (q_asg rfl rfl) rfl rfl rfl (simL_nil (nrm_then (sim_rtn ?_)))
 refine rtn_then ?_
 exact rtn_fn () rfl rfl rfl (.sel 1 rfl (.nil _))
 refine sim_skip ?_
 refine nrm_then (sim_seq (sim_seq (sim_region ?_)))
 refine simL_val (q_fa rfl rfl Try.underlying61 rfl rfl Try.sizeOf3 rfl) rfl rfl rfl ?_
 refine simL_val (q_load rfl rfl Try.isAgg3 (.obj 0 rfl rfl)) rfl rfl rfl ?_
 refine simL_val (q_neq rfl rfl rfl) rfl rfl rfl ?_
 refine simL_val (q_move rfl rfl) rfl rfl rfl ?_
 refine simL_valc (b := !decide (x0_2 = (0 : Int))) (fun hb26v => RQ.sub (E' := [(1, .pointer (some ⟨b1v, 0, none⟩))]) ⟨rfl, trivial⟩ (q_fa rfl rfl Try.underlying61 rfl rfl Try.sizeOf3 rfl)) rfl rfl rfl rfl rfl ?_
 refine simL_valc (b := !decide (x0_2 = (0 : Int))) (fun hb25v => RQ.sub (E' := [(17, .pointer (some ⟨b1v, 2, none⟩))]) ⟨lk_cv rfl hb25v, trivial⟩ (q_load rfl rfl Try.isAgg3 (.obj 0 rfl rfl))) rfl rfl rfl rfl rfl ?_
 refine simL_valc (b := !decide (x0_2 = (0 : Int))) (fun hb24v => RQ.sub (E' := [(18, .int .i64 x0_2)]) ⟨lk_cv rfl hb24v, trivial⟩ (q_neq rfl rfl rfl)) rfl rfl rfl rfl rfl ?_
 refine simL_val (q_and rfl rfl rfl) rfl rfl rfl (simL_nil (nrm_then ?_))
 refine sim_condb rfl (fun h14v => ?_) (fun h15v => ?_)
 refine sim_seq (sim_region ?_)
 refine simL_val (q_asg rfl rfl) rfl rfl rfl (simL_nil (nrm_then (sim_rtn ?_)))
 refine rtn_then ?_
 exact rtn_fn () rfl rfl rfl (.sel 1 rfl (.nil _))
 refine sim_skip ?_
 refine nrm_then (sim_seq (sim_seq (sim_region ?_)))
 refine simL_val (q_fa rfl rfl Try.underlying61 rfl rfl Try.sizeOf27 rfl) rfl rfl rfl ?_
 refine simL_val (q_load rfl rfl Try.isAgg27 (.obj 0 rfl rfl)) rfl rfl rfl ?_
 refine simL_val (q_len rfl rfl rfl Try.underlying27) rfl rfl rfl ?_
 refine simL_val (q_gtr rfl rfl rfl) rfl rfl rfl (simL_nil (nrm_then ?_))
 refine sim_cond rfl (fun h16v => ?_) (fun h17v => ?_)
 refine sim_seq (sim_region ?_)
 refine simL_val (q_asg rfl rfl) rfl rfl rfl (simL_nil (nrm_then (sim_rtn ?_)))
 refine rtn_then ?_
 exact rtn_fn () rfl rfl rfl (.sel 1 rfl (.nil _))
 refine sim_skip ?_
 refine nrm_then (sim_seq (sim_seq (sim_region ?_)))
 refine simL_val (q_fa rfl rfl Try.underlying61 rfl rfl Try.sizeOf3 rfl) rfl rfl rfl ?_
 refine simL_val (q_load rfl rfl Try.isAgg3 (.obj 0 rfl rfl)) rfl rfl rfl ?_
 refine simL_val (q_eql rfl rfl rfl) rfl rfl rfl ?_
 refine simL_val (q_move rfl rfl) rfl rfl rfl ?_
 refine simL_valc (b := decide (x0_2 = (0 : Int))) (fun hb23v => RQ.sub (E' := [(1, .pointer (some ⟨b1v, 0, none⟩))]) ⟨rfl, trivial⟩ (q_fa rfl rfl Try.underlying61 rfl rfl Try.sizeOf27 rfl)) rfl rfl rfl rfl rfl ?_
 refine simL_valc (b := decide (x0_2 = (0 : Int))) (fun hb22v => RQ.sub (E' := [(29, .pointer (some ⟨b1v, 3, none⟩))]) ⟨lk_cv rfl hb22v, trivial⟩ (q_load rfl rfl Try.isAgg27 (.obj 0 rfl rfl))) rfl rfl rfl rfl rfl ?_
 refine simL_valc (b := decide (x0_2 = (0 : Int))) (fun hb21v => RQ.sub (E' := [(30, .slice a0_3 x0_3.length c0_3)]) ⟨lk_cv rfl hb21v, trivial⟩ (q_len rfl rfl rfl Try.underlying27)) rfl rfl rfl rfl rfl ?_
 refine simL_valc (b := decide (x0_2 = (0 : Int))) (fun hb20v => RQ.sub (E' := [(31, .int .i64 (x0_3.length : Int))]) ⟨lk_cv rfl hb20v, trivial⟩ (q_gtr rfl rfl rfl)) rfl rfl rfl rfl rfl ?_
 refine simL_val (q_and rfl rfl rfl) rfl rfl rfl (simL_nil (nrm_then ?_))
 refine sim_condb rfl (fun h18v => ?_) (fun h19v => ?_)
 refine sim_seq (sim_region ?_)
 refine simL_val (q_asg rfl rfl) rfl rfl rfl (simL_nil (nrm_then (sim_rtn ?_)))
 refine rtn_then ?_
 exact rtn_fn () rfl rfl rfl (.sel 1 rfl (.nil _))
 refine sim_skip ?_
 refine nrm_then (sim_seq (sim_region ?_))
 refine simL_val (q_asg rfl rfl) rfl rfl rfl (simL_nil (nrm_then (sim_rtn ?_)))
 exact rtn_fn () rfl rfl rfl (.sel 1 rfl (.nil _))
def synodref3_CheckEntry.v (x0_0 : Int) (x0_1 : Int) (x0_2 : Int) (x0_3 : List UInt8) : Int := (synodref3_CheckEntry.f x0_0 x0_1 x0_2 x0_3).getD 0
theorem synodref3_CheckEntry.tot (x0_0 : Int) (x0_1 : Int) (x0_2 : Int) (x0_3 : List UInt8) : synodref3_CheckEntry.f x0_0 x0_1 x0_2 x0_3 = some (synodref3_CheckEntry.v x0_0 x0_1 x0_2 x0_3) := by
  have h : ∃ r, synodref3_CheckEntry.f x0_0 x0_1 x0_2 x0_3 = some r := by
    unfold synodref3_CheckEntry.f
    repeat' (first | exact ⟨_, rfl⟩ | split | simp only [Option.bind_some, synodref3_within.tot])
  obtain ⟨r, h⟩ := h
  unfold synodref3_CheckEntry.v
  rw [h]; rfl

def synodref1_Size.l0 : Nat → Int → Int → Option (Int)
  | 0, _, _ => none
  | k + 1, z7v, z8v => if (128 : Int) ≤ z7v then (synodref1_Size.l0 k (IntKind.i64.wrap (Int.tdiv z7v 128)) (IntKind.i64.wrap (z8v + 1))) else (some z8v)
def synodref1_Size.f (k : Nat) (x0 : Int) : Option (Int) := if ((decide (x0 < (0 : Int))) || (decide ((4611686018427387904 : Int) < x0))) = true then (some 0) else ((synodref1_Size.l0 k x0 1).bind fun s3v => (some s3v))
theorem synodref1_Size.calls (W : World) (F : HA) (k : Nat) (x0 : Int)  :
    Fn Try.prog W 137 [.int .i64 x0] [] F (synodref1_Size.f k x0) (fun (r : Int) (y : Unit) => .int .i64 r) (fun r y => []) := by
 unfold synodref1_Size.f
 refine fn_intro 17 Try.func137 rfl Try.ntmps137 rfl ?_
 refine sim_seq (sim_region ?_)
 refine simL_val (q_asg rfl rfl) rfl rfl rfl (simL_nil (nrm_then (sim_seq (sim_seq (sim_region ?_)))))
 refine simL_val (q_move rfl rfl) rfl rfl rfl ?_
 refine simL_val (q_lss rfl rfl rfl) rfl rfl rfl ?_
 refine simL_val (q_move rfl rfl) rfl rfl rfl ?_
 refine simL_valc (b := decide (x0 < (0 : Int))) (fun hb13v => RQ.sub (E' := [(0, .int .i64 x0)]) ⟨rfl, trivial⟩ (q_move rfl rfl)) rfl rfl rfl rfl rfl ?_
 refine simL_valc (b := decide (x0 < (0 : Int))) (fun hb12v => RQ.sub (E' := [(7, .int .i64 x0)]) ⟨lk_cv rfl hb12v, trivial⟩ (q_gtr rfl rfl rfl)) rfl rfl rfl rfl rfl ?_
 refine simL_val (q_or rfl rfl rfl) rfl rfl rfl (simL_nil (nrm_then ?_))
 refine sim_condb rfl (fun h1v => ?_) (fun h2v => ?_)
 refine sim_seq (sim_region ?_)
 refine simL_val (q_asg rfl rfl) rfl rfl rfl (simL_nil (nrm_then (sim_rtn ?_)))
 refine rtn_then ?_
 exact rtn_fn () rfl rfl rfl (.sel 0 rfl (.nil _))
 refine sim_skip ?_
 refine nrm_then (sim_seq (sim_region ?_))
 refine simL_val (q_asg rfl rfl) rfl rfl rfl (simL_nil (nrm_then ?_))
 refine sim_cut (S := Int) (Unit) (fun s y => [(3, .int .i64 s)]) (fun s y => [F]) ?_ ?_
 refine sim_block ?_
 refine sim_loop (S := Int × Int) (Unit) (fun k s => synodref1_Size.l0 k s.1 s.2) (fun s y => [(0, .int .i64 s.1), (3, .int .i64 s.2)]) (fun s y => [F]) (fun _ => by rw [synodref1_Size.l0]) ?_ k (x0, 1) () ⟨rfl, rfl, trivial⟩ (.sel 0 rfl (.nil _))
 intro k s5v y6v
 refine sim_eq (by rw [synodref1_Size.l0]) ?_
 refine sim_seq (sim_seq (sim_region ?_))
 refine simL_val (q_move rfl rfl) rfl rfl rfl ?_
 refine simL_val (q_geq rfl rfl rfl) rfl rfl rfl (simL_nil (nrm_then ?_))
 refine sim_cond rfl (fun h9v => ?_) (fun h10v => ?_)
 refine sim_skip ?_
 refine nrm_then ?_
 refine sim_block ?_
 refine sim_seq (sim_region ?_)
 refine simL_val (q_move rfl rfl) rfl rfl rfl ?_
 refine simL_val (q_quo rfl rfl rfl (by decide)) rfl rfl rfl ?_
 refine simL_val (q_asg rfl rfl) rfl rfl rfl (simL_nil (nrm_then (sim_region ?_)))
 refine simL_val (q_move rfl rfl) rfl rfl rfl ?_
 refine simL_val (q_add rfl rfl rfl) rfl rfl rfl ?_
 refine simL_val (q_asg rfl rfl) rfl rfl rfl (simL_nil (nrm_block ?_))
 exact nrm_again (s := (IntKind.i64.wrap (Int.tdiv s5v.1 128), IntKind.i64.wrap (s5v.2 + 1))) () ⟨rfl, rfl, trivial⟩ (.sel 0 rfl (.nil _))
 refine sim_exi ?_
 refine exi_then ?_
 refine exi_loop ?_
 refine exi_here ?_
 exact nrm_cut (s := s5v.2) () ⟨rfl, trivial⟩ (.sel 0 rfl (.nil _))
 intro s3v y4v
 refine sim_seq (sim_region ?_)
 refine simL_val (q_move rfl rfl) rfl rfl rfl ?_
 refine simL_val (q_asg rfl rfl) rfl rfl rfl (simL_nil (nrm_then (sim_rtn ?_)))
 exact rtn_fn () rfl rfl rfl (.sel 0 rfl (.nil _))

def synodref1_PutInt.l0 : Nat → Int → List UInt8 → Option (Int × List UInt8)
  | 0, _, _ => none
  | k + 1, z10v, z11v => if (128 : Int) ≤ z10v then (if 0 ≤ IntKind.u8.wrap (IntKind.i64.wrap ((Int.tmod z10v 128) + 128)) ∧ IntKind.u8.wrap (IntKind.i64.wrap ((Int.tmod z10v 128) + 128)) < 256 then (if (z11v.length + ([(byte (IntKind.u8.wrap (IntKind.i64.wrap ((Int.tmod z10v 128) + 128))))] : List UInt8).length) * 1 ≤ 140737488355328 then (synodref1_PutInt.l0 k (IntKind.i64.wrap (Int.tdiv z10v 128)) (z11v ++ ([(byte (IntKind.u8.wrap (IntKind.i64.wrap ((Int.tmod z10v 128) + 128))))] : List UInt8))) else none) else none) else (some (z10v, z11v))
def synodref1_PutInt.f (k : Nat) (x0 : Int) : Option (List UInt8 × Int) := (synodref1_Size.f k x0).bind fun s1v => (if s1v = (0 : Int) then (some (([] : List UInt8), 1)) else ((synodref1_PutInt.l0 k x0 ([] : List UInt8)).bind fun s6v => (if 0 ≤ IntKind.u8.wrap s6v.1 ∧ IntKind.u8.wrap s6v.1 < 256 then (if (s6v.2.length + ([(byte (IntKind.u8.wrap s6v.1))] : List UInt8).length) * 1 ≤ 140737488355328 then (some (s6v.2 ++ ([(byte (IntKind.u8.wrap s6v.1))] : List UInt8), 0)) else none) else none)))
theorem synodref1_PutInt.calls (W : World) (F : HA) (k : Nat) (x0 : Int)  :
    Fn Try.prog W 127 [.int .i64 x0] [] F (synodref1_PutInt.f k x0) (fun (r : List UInt8 × Int) (y : Option Addr × Nat) => .tuple #[.slice y.1 r.1.length y.2, .int .i64 r.2]) (fun r y => [Row 5 1 y.1 r.1.length y.2 (encB r.1)]) := by
 unfold synodref1_PutInt.f
 refine fn_intro 24 Try.func127 rfl Try.ntmps127 rfl ?_
 refine sim_seq (sim_region ?_)
 refine simL_val (q_asg rfl rfl) rfl rfl rfl ?_
 refine simL_val (q_asg rfl rfl) rfl rfl rfl (simL_nil (nrm_then (sim_seq (sim_seq (sim_region ?_)))))
 refine simL_val (q_move rfl rfl) rfl rfl rfl ?_
 refine simL_bind (fun s1v hs3v => ?_)
 refine simL_eff (re_call (vs := [.int .i64 x0]) (cap := []) (A := []) (rst := [F]) rfl rfl rfl rfl rfl rfl Try.call137 (.sel 0 rfl (.nil _)) (synodref1_Size.calls _ _ k x0 ) hs3v) rfl rfl rfl ?_
 intro y2v
 refine simL_val (q_eql rfl rfl rfl) rfl rfl rfl (simL_nil (nrm_then ?_))
 refine sim_cond rfl (fun h4v => ?_) (fun h5v => ?_)
 refine sim_seq (sim_region ?_)
 refine simL_val (q_asg rfl rfl) rfl rfl rfl ?_
 refine simL_val (q_asg rfl rfl) rfl rfl rfl (simL_nil (nrm_then (sim_rtn ?_)))
 refine rtn_then ?_
 exact rtn_fn (none, 0) rfl rfl rfl (.row_nil (.sel 0 rfl (.nil _)))
 refine sim_skip ?_
 refine nrm_then (sim_seq (sim_region ?_))
 refine simL_val (q_asg rfl rfl) rfl rfl rfl (simL_nil (nrm_then ?_))
 refine sim_cut (S := Int × List UInt8) (Option Addr × Nat) (fun s y => [(0, .int .i64 s.1), (4, .slice y.1 s.2.length y.2)]) (fun s y => [Row 5 1 y.1 s.2.length y.2 (encB s.2), F]) ?_ ?_
 refine sim_block ?_
 refine sim_loop (S := Int × List UInt8) (Option Addr × Nat) (fun k s => synodref1_PutInt.l0 k s.1 s.2) (fun s y => [(0, .int .i64 s.1), (4, .slice y.1 s.2.length y.2)]) (fun s y => [Row 5 1 y.1 s.2.length y.2 (encB s.2), F]) (fun _ => by rw [synodref1_PutInt.l0]) ?_ k (x0, ([] : List UInt8)) (none, 0) ⟨rfl, rfl, trivial⟩ (.row_nil (.sel 0 rfl (.nil _)))
 intro k s8v y9v
 refine sim_eq (by rw [synodref1_PutInt.l0]) ?_
 refine sim_seq (sim_seq (sim_region ?_))
 refine simL_val (q_move rfl rfl) rfl rfl rfl ?_
 refine simL_val (q_geq rfl rfl rfl) rfl rfl rfl (simL_nil (nrm_then ?_))
 refine sim_cond rfl (fun h12v => ?_) (fun h13v => ?_)
 refine sim_skip ?_
 refine nrm_then ?_
 refine sim_block ?_
 refine sim_seq (sim_region ?_)
 refine simL_val (q_move rfl rfl) rfl rfl rfl ?_
 refine simL_val (q_move rfl rfl) rfl rfl rfl ?_
 refine simL_val (q_rem rfl rfl rfl (by decide)) rfl rfl rfl ?_
 refine simL_val (q_add rfl rfl rfl) rfl rfl rfl ?_
 refine simL_val (q_conv rfl rfl Try.underlying3 Try.underlying5) rfl rfl rfl ?_
 refine simL_ask (fun hb16v => ?_)
 refine simL_eff (re_litb (cs := [.int .u8 (IntKind.u8.wrap (IntKind.i64.wrap ((Int.tmod s8v.1 128) + 128)))]) ([(byte (IntKind.u8.wrap (IntKind.i64.wrap ((Int.tmod s8v.1 128) + 128))))] : List UInt8) rfl rfl Try.underlying27 elt5 rfl (by kernel_rfl) rfl rfl (byte_lit1 hb16v)) rfl rfl rfl ?_
 intro b15v
 refine simL_ask (fun hb18v => ?_)
 refine simL_eff (re_appendb 1 rfl rfl rfl Try.underlying27 elt5 rfl (Rds.row 0 rfl) hb18v) rfl rfl rfl ?_
 intro y17v
 refine simL_val (q_asg rfl rfl) rfl rfl rfl (simL_nil (nrm_then (sim_region ?_)))
 refine simL_val (q_move rfl rfl) rfl rfl rfl ?_
 refine simL_val (q_quo rfl rfl rfl (by decide)) rfl rfl rfl ?_
 refine simL_val (q_asg rfl rfl) rfl rfl rfl (simL_nil (nrm_block ?_))
 exact nrm_again (s := (IntKind.i64.wrap (Int.tdiv s8v.1 128), s8v.2 ++ ([(byte (IntKind.u8.wrap (IntKind.i64.wrap ((Int.tmod s8v.1 128) + 128))))] : List UInt8))) (y17v.1, y17v.2) ⟨rfl, rfl, trivial⟩ (.sel 1 rfl (.sel 1 rfl (.nil _)))
 refine sim_exi ?_
 refine exi_then ?_
 refine exi_loop ?_
 refine exi_here ?_
 exact nrm_cut (s := (s8v.1, s8v.2)) (y9v.1, y9v.2) ⟨rfl, rfl, trivial⟩ (.sel 0 rfl (.sel 0 rfl (.nil _)))
 intro s6v y7v
 refine sim_seq (sim_region ?_)
 refine simL_val (q_move rfl rfl) rfl rfl rfl ?_
 refine simL_val (q_move rfl rfl) rfl rfl rfl ?_
 refine simL_val (q_conv rfl rfl Try.underlying3 Try.underlying5) rfl rfl rfl ?_
 refine simL_ask (fun hb21v => ?_)
 refine simL_eff (re_litb (cs := [.int .u8 (IntKind.u8.wrap s6v.1)]) ([(byte (IntKind.u8.wrap s6v.1))] : List UInt8) rfl rfl Try.underlying27 elt5 rfl (by kernel_rfl) rfl rfl (byte_lit1 hb21v)) rfl rfl rfl ?_
 intro b20v
 refine simL_ask (fun hb23v => ?_)
 refine simL_eff (re_appendb 1 rfl rfl rfl Try.underlying27 elt5 rfl (Rds.row 0 rfl) hb23v) rfl rfl rfl ?_
 intro y22v
 refine simL_val (q_asg rfl rfl) rfl rfl rfl ?_
 refine simL_val (q_asg rfl rfl) rfl rfl rfl (simL_nil (nrm_then (sim_rtn ?_)))
 exact rtn_fn (y22v.1, y22v.2) rfl rfl rfl (.sel 1 rfl (.sel 1 rfl (.nil _)))

def synodref1_Writer_Int.f (k : Nat) (x0_0 : List UInt8) (x0_1 : Int) (x1 : Int) : Option (List UInt8 × Int) := if x0_1 = (0 : Int) then ((synodref1_PutInt.f k x1).bind fun s3v => (if (x0_0.length + s3v.1.length) * 1 ≤ 140737488355328 then (some (x0_0 ++ s3v.1, s3v.2)) else none)) else (some (x0_0, x0_1))
theorem synodref1_Writer_Int.calls (W : World) (F : HA) (k : Nat) (b0 : Nat) (a0_0 : Option Addr) (c0_0 : Nat) (x0_0 : List UInt8) (x0_1 : Int) (x1 : Int)  :
    Fn Try.prog W 79 [.pointer (some ⟨b0, 0, none⟩), .int .i64 x1] [obj b0 143 [.slice a0_0 x0_0.length c0_0, .int .i64 x0_1], Row 5 1 a0_0 x0_0.length c0_0 (encB x0_0)] F (synodref1_Writer_Int.f k x0_0 x0_1 x1) (fun (r : List UInt8 × Int) (y : Option Addr × Nat) => .tuple #[]) (fun r y => [obj b0 143 [.slice y.1 r.1.length y.2, .int .i64 r.2], Row 5 1 y.1 r.1.length y.2 (encB r.1)]) := by
 unfold synodref1_Writer_Int.f
 refine fn_intro 29 Try.func79 rfl Try.ntmps79 rfl ?_
 refine sim_seq (sim_seq (sim_region ?_))
 refine simL_val (q_move rfl rfl) rfl rfl rfl ?_
 refine simL_val (q_nil rfl rfl) rfl rfl rfl ?_
 refine simL_val (q_fa rfl rfl Try.underlying143 rfl rfl Try.sizeOf3 rfl) rfl rfl rfl ?_
 refine simL_val (q_load rfl rfl Try.isAgg3 (.obj 0 rfl rfl)) rfl rfl rfl ?_
 refine simL_val (q_neq rfl rfl rfl) rfl rfl rfl (simL_nil (nrm_then ?_))
 refine sim_condn rfl (fun h1v => ?_) (fun h2v => ?_)
 refine sim_skip ?_
 refine nrm_then (sim_seq (sim_region ?_))
 refine simL_val (q_move rfl rfl) rfl rfl rfl ?_
 refine simL_bind (fun s3v hs5v => ?_)
 refine simL_eff (re_call (vs := [.int .i64 x1]) (cap := []) (A := []) (rst := [obj b0 143 [.slice a0_0 x0_0.length c0_0, .int .i64 x0_1], Row 5 1 a0_0 x0_0.length c0_0 (encB x0_0), F]) rfl rfl rfl rfl rfl rfl Try.call127 (.sel 0 rfl (.sel 0 rfl (.sel 0 rfl (.nil _)))) (synodref1_PutInt.calls _ _ k x1 ) hs5v) rfl rfl rfl ?_
 intro y4v
 refine simL_val (q_move rfl rfl) rfl rfl rfl ?_
 refine simL_val (q_ext rfl rfl rfl) rfl rfl rfl ?_
 refine simL_val (q_ext rfl rfl rfl) rfl rfl rfl ?_
 refine simL_val (q_asg rfl rfl) rfl rfl rfl ?_
 refine simL_val (q_asg rfl rfl) rfl rfl rfl (simL_nil (nrm_then (sim_seq (sim_region ?_))))
 refine simL_val (q_move rfl rfl) rfl rfl rfl ?_
 refine simL_val (q_move rfl rfl) rfl rfl rfl ?_
 refine simL_val (q_nil rfl rfl) rfl rfl rfl ?_
 refine simL_val (q_fa rfl rfl Try.underlying143 rfl rfl Try.sizeOf3 rfl) rfl rfl rfl ?_
 refine simL_do (re_store 1 rfl rfl rfl Try.sizeOf3 rfl rfl (one_of (by rfl)) rfl rfl) rfl rfl ?_
 intro _
 refine simL_nil (nrm_then (sim_region ?_))
 refine simL_val (q_move rfl rfl) rfl rfl rfl ?_
 refine simL_val (q_move rfl rfl) rfl rfl rfl ?_
 refine simL_val (q_nil rfl rfl) rfl rfl rfl ?_
 refine simL_val (q_fa rfl rfl Try.underlying143 rfl rfl Try.sizeOf27 rfl) rfl rfl rfl ?_
 refine simL_val (q_load rfl rfl Try.isAgg27 (.obj 1 rfl rfl)) rfl rfl rfl ?_
 refine simL_val (q_move rfl rfl) rfl rfl rfl ?_
 refine simL_ask (fun hb7v => ?_)
 refine simL_eff (re_appendb 2 rfl rfl rfl Try.underlying27 elt5 rfl (Rds.row 0 rfl) hb7v) rfl rfl rfl ?_
 intro y6v
 refine simL_val (q_nil rfl rfl) rfl rfl rfl ?_
 refine simL_val (q_fa rfl rfl Try.underlying143 rfl rfl Try.sizeOf27 rfl) rfl rfl rfl ?_
 refine simL_do (re_store 1 rfl rfl rfl Try.sizeOf27 rfl rfl (one_of (by rfl)) rfl rfl) rfl rfl ?_
 intro _
 refine simL_nil ?_
 exact nrm_fn (y6v.1, y6v.2) rfl rfl rfl (.sel 1 rfl (.sel 1 rfl (.sel 1 rfl (.nil _))))
 refine sim_rtn ?_
 refine rtn_then ?_
 exact rtn_fn (a0_0, c0_0) rfl rfl rfl (.sel 0 rfl (.sel 0 rfl (.sel 0 rfl (.nil _))))

def synodref1_Writer_Bytes.f (k : Nat) (x0_0 : List UInt8) (x0_1 : Int) (x1 : List UInt8) (x2 : Int) : Option (List UInt8 × Int) := if x0_1 = (0 : Int) then (if max x2 (0 : Int) < (x1.length : Int) then (some (x0_0, 3)) else ((synodref1_Writer_Int.f k x0_0 x0_1 (x1.length : Int)).bind fun s5v => (if (s5v.1.length + x1.length) * 1 ≤ 140737488355328 then (some (s5v.1 ++ x1, s5v.2)) else none))) else (some (x0_0, x0_1))
theorem synodref1_Writer_Bytes.calls (W : World) (F : HA) (k : Nat) (b0 : Nat) (a0_0 : Option Addr) (c0_0 : Nat) (x0_0 : List UInt8) (x0_1 : Int) (a1 : Option Addr) (c1 : Nat) (x1 : List UInt8) (x2 : Int) (h1 : Rd F a1 (encB x1)) (hc1 : x1.length ≤ c1) (hm1 : c1 ≤ maxLen) :
    Fn Try.prog W 89 [.pointer (some ⟨b0, 0, none⟩), .slice a1 x1.length c1, .int .i64 x2] [obj b0 143 [.slice a0_0 x0_0.length c0_0, .int .i64 x0_1], Row 5 1 a0_0 x0_0.length c0_0 (encB x0_0)] F (synodref1_Writer_Bytes.f k x0_0 x0_1 x1 x2) (fun (r : List UInt8 × Int) (y : Option Addr × Nat) => .tuple #[]) (fun r y => [obj b0 143 [.slice y.1 r.1.length y.2, .int .i64 r.2], Row 5 1 y.1 r.1.length y.2 (encB r.1)]) := by
 unfold synodref1_Writer_Bytes.f
 refine fn_intro 32 Try.func89 rfl Try.ntmps89 rfl ?_
 refine sim_seq (sim_seq (sim_region ?_))
 refine simL_val (q_move rfl rfl) rfl rfl rfl ?_
 refine simL_val (q_nil rfl rfl) rfl rfl rfl ?_
 refine simL_val (q_fa rfl rfl Try.underlying143 rfl rfl Try.sizeOf3 rfl) rfl rfl rfl ?_
 refine simL_val (q_load rfl rfl Try.isAgg3 (.obj 0 rfl rfl)) rfl rfl rfl ?_
 refine simL_val (q_neq rfl rfl rfl) rfl rfl rfl (simL_nil (nrm_then ?_))
 refine sim_condn rfl (fun h1v => ?_) (fun h2v => ?_)
 refine sim_skip ?_
 refine nrm_then (sim_seq (sim_seq (sim_region ?_)))
 refine simL_val (q_move rfl rfl) rfl rfl rfl ?_
 refine simL_val (q_len rfl rfl rfl Try.underlying27) rfl rfl rfl ?_
 refine simL_val (q_move rfl rfl) rfl rfl rfl ?_
 refine simL_val (q_max rfl rfl rfl) rfl rfl rfl ?_
 refine simL_val (q_gtr rfl rfl rfl) rfl rfl rfl (simL_nil (nrm_then ?_))
 refine sim_cond rfl (fun h3v => ?_) (fun h4v => ?_)
 refine sim_seq (sim_region ?_)
 refine simL_val (q_move rfl rfl) rfl rfl rfl ?_
 refine simL_val (q_nil rfl rfl) rfl rfl rfl ?_
 refine simL_val (q_fa rfl rfl Try.underlying143 rfl rfl Try.sizeOf3 rfl) rfl rfl rfl ?_
 refine simL_do (re_store 0 rfl rfl rfl Try.sizeOf3 rfl rfl (one_of (by rfl)) rfl rfl) rfl rfl ?_
 intro _
 refine simL_nil (nrm_then (sim_rtn ?_))
 refine rtn_then ?_
 exact rtn_fn (a0_0, c0_0) rfl rfl rfl (.sel 0 rfl (.sel 0 rfl (.sel 0 rfl (.nil _))))
 refine sim_skip ?_
 refine nrm_then (sim_seq (sim_region ?_))
 refine simL_val (q_move rfl rfl) rfl rfl rfl ?_
 refine simL_val (q_move rfl rfl) rfl rfl rfl ?_
 refine simL_val (q_len rfl rfl rfl Try.underlying27) rfl rfl rfl ?_
 refine simL_bind (fun s5v hs7v => ?_)
 refine simL_eff (re_call (vs := [.pointer (some ⟨b0, 0, none⟩), .int .i64 (x1.length : Int)]) (cap := []) (A := [obj b0 143 [.slice a0_0 x0_0.length c0_0, .int .i64 x0_1], Row 5 1 a0_0 x0_0.length c0_0 (encB x0_0)]) (rst := [F]) rfl rfl rfl rfl rfl rfl Try.call79 (.sel 0 rfl (.sel 0 rfl (.sel 0 rfl (.nil _)))) (synodref1_Writer_Int.calls _ _ k b0 a0_0 c0_0 x0_0 x0_1 (x1.length : Int) ) hs7v) rfl rfl rfl ?_
 intro y6v
 refine simL_nil (nrm_then (sim_region ?_))
 refine simL_val (q_move rfl rfl) rfl rfl rfl ?_
 refine simL_val (q_move rfl rfl) rfl rfl rfl ?_
 refine simL_val (q_nil rfl rfl) rfl rfl rfl ?_
 refine simL_val (q_fa rfl rfl Try.underlying143 rfl rfl Try.sizeOf27 rfl) rfl rfl rfl ?_
 refine simL_val (q_load rfl rfl Try.isAgg27 (.obj 0 rfl rfl)) rfl rfl rfl ?_
 refine simL_val (q_move rfl rfl) rfl rfl rfl ?_
 refine simL_ask (fun hb9v => ?_)
 refine simL_eff (re_appendb 1 rfl rfl rfl Try.underlying27 elt5 rfl (h1.rds 1 rfl) hb9v) rfl rfl rfl ?_
 intro y8v
 refine simL_val (q_nil rfl rfl) rfl rfl rfl ?_
 refine simL_val (q_fa rfl rfl Try.underlying143 rfl rfl Try.sizeOf27 rfl) rfl rfl rfl ?_
 refine simL_do (re_store 0 rfl rfl rfl Try.sizeOf27 rfl rfl (one_of (by rfl)) rfl rfl) rfl rfl ?_
 intro _
 refine simL_nil ?_
 exact nrm_fn (y8v.1, y8v.2) rfl rfl rfl (.sel 0 rfl (.sel 0 rfl (.sel 0 rfl (.nil _))))
 refine sim_rtn ?_
 refine rtn_then ?_
 exact rtn_fn (a0_0, c0_0) rfl rfl rfl (.sel 0 rfl (.sel 0 rfl (.sel 0 rfl (.nil _))))

def synodref1_Writer_Done.f (x0_0 : List UInt8) (x0_1 : Int) : Option (List UInt8 × Int) := if x0_1 = (0 : Int) then (some (x0_0, 0)) else (some (([] : List UInt8), x0_1))
theorem synodref1_Writer_Done.calls (W : World) (F : HA) (G : HA) (hG : Up G F) (b0 : Nat) (a0_0 : Option Addr) (c0_0 : Nat) (x0_0 : List UInt8) (x0_1 : Int) (h0_0 : Rd G a0_0 (encB x0_0)) (hc0_0 : x0_0.length ≤ c0_0) (hm0_0 : c0_0 ≤ maxLen) :
    Fn Try.prog W 80 [.pointer (some ⟨b0, 0, none⟩)] [obj b0 143 [.slice a0_0 x0_0.length c0_0, .int .i64 x0_1]] F (synodref1_Writer_Done.f x0_0 x0_1) (fun (r : List UInt8 × Int) (y : Option Addr × Nat) => .tuple #[.slice y.1 r.1.length y.2, .int .i64 r.2]) (fun r y => [pr (Rd (G) y.1 (encB r.1) ∧ r.1.length ≤ y.2 ∧ y.2 ≤ maxLen), obj b0 143 [.slice a0_0 x0_0.length c0_0, .int .i64 x0_1]]) := by
 unfold synodref1_Writer_Done.f
 refine fn_intro 17 Try.func80 rfl Try.ntmps80 rfl ?_
 refine sim_seq (sim_region ?_)
 refine simL_val (q_asg rfl rfl) rfl rfl rfl ?_
 refine simL_val (q_asg rfl rfl) rfl rfl rfl (simL_nil (nrm_then (sim_seq (sim_seq (sim_region ?_)))))
 refine simL_val (q_move rfl rfl) rfl rfl rfl ?_
 refine simL_val (q_nil rfl rfl) rfl rfl rfl ?_
 refine simL_val (q_fa rfl rfl Try.underlying143 rfl rfl Try.sizeOf3 rfl) rfl rfl rfl ?_
 refine simL_val (q_load rfl rfl Try.isAgg3 (.obj 0 rfl rfl)) rfl rfl rfl ?_
 refine simL_val (q_neq rfl rfl rfl) rfl rfl rfl (simL_nil (nrm_then ?_))
 refine sim_condn rfl (fun h1v => ?_) (fun h2v => ?_)
 refine sim_skip ?_
 refine nrm_then (sim_seq (sim_region ?_))
 refine simL_val (q_move rfl rfl) rfl rfl rfl ?_
 refine simL_val (q_nil rfl rfl) rfl rfl rfl ?_
 refine simL_val (q_fa rfl rfl Try.underlying143 rfl rfl Try.sizeOf27 rfl) rfl rfl rfl ?_
 refine simL_val (q_load rfl rfl Try.isAgg27 (.obj 0 rfl rfl)) rfl rfl rfl ?_
 refine simL_val (q_asg rfl rfl) rfl rfl rfl ?_
 refine simL_val (q_asg rfl rfl) rfl rfl rfl (simL_nil (nrm_then (sim_rtn ?_)))
 exact rtn_fn (a0_0, c0_0) rfl rfl rfl (.pr_in ⟨h0_0, hc0_0, hm0_0⟩ (.sel 0 rfl (.sel 0 rfl (.nil _))))
 refine sim_seq ?_
 refine sim_draw (Γ := Unit) () [[], [0], [0, 1], [0, 1, 2], [], [0, 1, 2, 3, 4]] [] [0, 1, 2, 3, 4, 5] (fun i => [[0], [0], [0], [0], [0], [0]].getD i []) (fun i => [[], [], [], [], [], []].getD i []) (fun γ i => [.pointer (some ⟨b0, 0, none⟩), .pointer (some ⟨b0, 0, none⟩), .pointer (some ⟨b0, 1, none⟩), .int .i64 x0_1, .slice none 0 0, .int .i64 x0_1].getD i undef) (fun j γ => [[obj b0 143 [.slice a0_0 x0_0.length c0_0, .int .i64 x0_1], F]].getD j []) (fun γ => [(2, .slice none 0 0), (3, .int .i64 x0_1)]) mixed (by decide) (by decide) (by decide) (by decide) (by decide) (by decide) (by decide) 17 rfl (by decide) (by decide) (by decide) (Ent.refl _) ?_ ?_ (fun _ => ⟨rfl, rfl, trivial⟩) ?_
 exact (All.cons (fun γ => (All.cons (QOb.plain [(0, .pointer (some ⟨b0, 0, none⟩))] rfl rfl (.o rfl (by decide) .nil) (q_move rfl rfl) rfl) All.nil)) (All.cons (fun γ => (All.cons (QOb.plain [(9, .pointer (some ⟨b0, 0, none⟩))] rfl rfl (.w 0 rfl rfl rfl .nil) (q_nil rfl rfl) rfl) All.nil)) (All.cons (fun γ => (All.cons (QOb.plain [(10, .pointer (some ⟨b0, 0, none⟩))] rfl rfl (.w 1 rfl rfl rfl .nil) (q_fa rfl rfl Try.underlying143 rfl rfl Try.sizeOf3 rfl) rfl) All.nil)) (All.cons (fun γ => (All.cons (QOb.plain [(11, .pointer (some ⟨b0, 1, none⟩))] rfl rfl (.w 2 rfl rfl rfl .nil) (q_load rfl rfl Try.isAgg3 (.obj 0 rfl rfl)) rfl) All.nil)) (All.cons (fun γ => (All.cons (QOb.plain [] rfl rfl .nil (q_asg rfl rfl) rfl) All.nil)) (All.cons (fun γ => (All.cons (QOb.plain [(12, .int .i64 x0_1)] rfl rfl (.w 3 rfl rfl rfl .nil) (q_asg rfl rfl) rfl) All.nil)) All.nil))))))
 exact All.nil
 intro g3v
 refine nrm_then (sim_rtn ?_)
 refine rtn_then ?_
 exact rtn_fn (none, 0) rfl rfl rfl (.pr_in ⟨Rd.nil _ _, Nat.le_refl _, Nat.zero_le _⟩ (.sel 0 rfl (.sel 0 rfl (.nil _))))
def synodref1_Writer_Done.v (x0_0 : List UInt8) (x0_1 : Int) : List UInt8 × Int := (synodref1_Writer_Done.f x0_0 x0_1).getD ([], 0)
theorem synodref1_Writer_Done.tot (x0_0 : List UInt8) (x0_1 : Int) : synodref1_Writer_Done.f x0_0 x0_1 = some (synodref1_Writer_Done.v x0_0 x0_1) := by
  have h : ∃ r, synodref1_Writer_Done.f x0_0 x0_1 = some r := by
    unfold synodref1_Writer_Done.f
    repeat' (first | exact ⟨_, rfl⟩ | split | simp only [Option.bind_some])
  obtain ⟨r, h⟩ := h
  unfold synodref1_Writer_Done.v
  rw [h]; rfl

def synodref1_Writer_Done_s_c0.f (xp0_0 : List UInt8) (xp0_1 : Int) : Option (List UInt8 × Int) := if xp0_1 = (0 : Int) then (some (xp0_0, 0)) else (some (([] : List UInt8), xp0_1))
theorem synodref1_Writer_Done_s_c0.calls (W : World) (F : HA) (G : HA) (hG : Up G F) (bp0 : Nat) (ap0_0 : Option Addr) (cp0_0 : Nat) (xp0_0 : List UInt8) (xp0_1 : Int) (hp0_0 : Rd G ap0_0 (encB xp0_0)) (hcp0_0 : xp0_0.length ≤ cp0_0) (hmp0_0 : cp0_0 ≤ maxLen) :
    Fn Try.prog W 80 [.pointer (some ⟨bp0, 0, none⟩)] [obj bp0 143 [.slice ap0_0 xp0_0.length cp0_0, .int .i64 xp0_1]] F (synodref1_Writer_Done_s_c0.f xp0_0 xp0_1) (fun (r : List UInt8 × Int) (y : Option Addr × Nat) => .tuple #[.slice y.1 r.1.length y.2, .int .i64 r.2]) (fun r y => [pr (Rd (G) y.1 (encB r.1) ∧ r.1.length ≤ y.2 ∧ y.2 ≤ maxLen), obj bp0 143 [.slice ap0_0 xp0_0.length cp0_0, .int .i64 xp0_1]]) := by
 unfold synodref1_Writer_Done_s_c0.f
 refine fn_intro 17 Try.func80 rfl Try.ntmps80 rfl ?_
 refine sim_seq (sim_region ?_)
 refine simL_val (q_asg rfl rfl) rfl rfl rfl ?_
 refine simL_val (q_asg rfl rfl) rfl rfl rfl (simL_nil (nrm_then (sim_seq (sim_seq (sim_region ?_)))))
 refine simL_val (q_move rfl rfl) rfl rfl rfl ?_
 refine simL_val (q_nil rfl rfl) rfl rfl rfl ?_
 refine simL_val (q_fa rfl rfl Try.underlying143 rfl rfl Try.sizeOf3 rfl) rfl rfl rfl ?_
 refine simL_val (q_load rfl rfl Try.isAgg3 (.obj 0 rfl rfl)) rfl rfl rfl ?_
 refine simL_val (q_neq rfl rfl rfl) rfl rfl rfl (simL_nil (nrm_then ?_))
 refine sim_condn rfl (fun h1v => ?_) (fun h2v => ?_)
 refine sim_skip ?_
 refine nrm_then (sim_seq (sim_region ?_))
 refine simL_val (q_move rfl rfl) rfl rfl rfl ?_
 refine simL_val (q_nil rfl rfl) rfl rfl rfl ?_
 refine simL_val (q_fa rfl rfl Try.underlying143 rfl rfl Try.sizeOf27 rfl) rfl rfl rfl ?_
 refine simL_val (q_load rfl rfl Try.isAgg27 (.obj 0 rfl rfl)) rfl rfl rfl ?_
 refine simL_val (q_asg rfl rfl) rfl rfl rfl ?_
 refine simL_val (q_asg rfl rfl) rfl rfl rfl (simL_nil (nrm_then (sim_rtn ?_)))
 exact rtn_fn (ap0_0, cp0_0) rfl rfl rfl (.pr_in ⟨hp0_0, hcp0_0, hmp0_0⟩ (.sel 0 rfl (.sel 0 rfl (.nil _))))
 refine sim_seq ?_
 refine sim_draw (Γ := Unit) () [[], [0], [0, 1], [0, 1, 2], [], [0, 1, 2, 3, 4]] [] [0, 1, 2, 3, 4, 5] (fun i => [[0], [0], [0], [0], [0], [0]].getD i []) (fun i => [[], [], [], [], [], []].getD i []) (fun γ i => [.pointer (some ⟨bp0, 0, none⟩), .pointer (some ⟨bp0, 0, none⟩), .pointer (some ⟨bp0, 1, none⟩), .int .i64 xp0_1, .slice none 0 0, .int .i64 xp0_1].getD i undef) (fun j γ => [[obj bp0 143 [.slice ap0_0 xp0_0.length cp0_0, .int .i64 xp0_1], F]].getD j []) (fun γ => [(2, .slice none 0 0), (3, .int .i64 xp0_1)]) mixed (by decide) (by decide) (by decide) (by decide) (by decide) (by decide) (by decide) 17 rfl (by decide) (by decide) (by decide) (Ent.refl _) ?_ ?_ (fun _ => ⟨rfl, rfl, trivial⟩) ?_
 exact (All.cons (fun γ => (All.cons (QOb.plain [(0, .pointer (some ⟨bp0, 0, none⟩))] rfl rfl (.o rfl (by decide) .nil) (q_move rfl rfl) rfl) All.nil)) (All.cons (fun γ => (All.cons (QOb.plain [(9, .pointer (some ⟨bp0, 0, none⟩))] rfl rfl (.w 0 rfl rfl rfl .nil) (q_nil rfl rfl) rfl) All.nil)) (All.cons (fun γ => (All.cons (QOb.plain [(10, .pointer (some ⟨bp0, 0, none⟩))] rfl rfl (.w 1 rfl rfl rfl .nil) (q_fa rfl rfl Try.underlying143 rfl rfl Try.sizeOf3 rfl) rfl) All.nil)) (All.cons (fun γ => (All.cons (QOb.plain [(11, .pointer (some ⟨bp0, 1, none⟩))] rfl rfl (.w 2 rfl rfl rfl .nil) (q_load rfl rfl Try.isAgg3 (.obj 0 rfl rfl)) rfl) All.nil)) (All.cons (fun γ => (All.cons (QOb.plain [] rfl rfl .nil (q_asg rfl rfl) rfl) All.nil)) (All.cons (fun γ => (All.cons (QOb.plain [(12, .int .i64 xp0_1)] rfl rfl (.w 3 rfl rfl rfl .nil) (q_asg rfl rfl) rfl) All.nil)) All.nil))))))
 exact All.nil
 intro g3v
 refine nrm_then (sim_rtn ?_)
 refine rtn_then ?_
 exact rtn_fn (none, 0) rfl rfl rfl (.pr_in ⟨Rd.nil _ _, Nat.le_refl _, Nat.zero_le _⟩ (.sel 0 rfl (.sel 0 rfl (.nil _))))
def synodref1_Writer_Done_s_c0.v (xp0_0 : List UInt8) (xp0_1 : Int) : List UInt8 × Int := (synodref1_Writer_Done_s_c0.f xp0_0 xp0_1).getD ([], 0)
theorem synodref1_Writer_Done_s_c0.tot (xp0_0 : List UInt8) (xp0_1 : Int) : synodref1_Writer_Done_s_c0.f xp0_0 xp0_1 = some (synodref1_Writer_Done_s_c0.v xp0_0 xp0_1) := by
  have h : ∃ r, synodref1_Writer_Done_s_c0.f xp0_0 xp0_1 = some r := by
    unfold synodref1_Writer_Done_s_c0.f
    repeat' (first | exact ⟨_, rfl⟩ | split | simp only [Option.bind_some])
  obtain ⟨r, h⟩ := h
  unfold synodref1_Writer_Done_s_c0.v
  rw [h]; rfl

def synodref1_Writer_Done_s_c0p0.f (xp0_0 : List UInt8) (xp0_1 : Int) : Option (List UInt8 × Int) := if xp0_1 = (0 : Int) then (some (xp0_0, 0)) else (some (([] : List UInt8), xp0_1))
theorem synodref1_Writer_Done_s_c0p0.calls (W : World) (F : HA) (bp0 : Nat) (ap0_0 : Option Addr) (cp0_0 : Nat) (xp0_0 : List UInt8) (xp0_1 : Int)  :
    Fn Try.prog W 80 [.pointer (some ⟨bp0, 0, none⟩)] [obj bp0 143 [.slice ap0_0 xp0_0.length cp0_0, .int .i64 xp0_1], Row 5 1 ap0_0 xp0_0.length cp0_0 (encB xp0_0)] F (synodref1_Writer_Done_s_c0p0.f xp0_0 xp0_1) (fun (r : List UInt8 × Int) (y : Option Addr × Nat) => .tuple #[.slice y.1 r.1.length y.2, .int .i64 r.2]) (fun r y => [Row 5 1 y.1 r.1.length y.2 (encB r.1)]) := by
 unfold synodref1_Writer_Done_s_c0p0.f
 refine fn_intro 17 Try.func80 rfl Try.ntmps80 rfl ?_
 refine sim_seq (sim_region ?_)
 refine simL_val (q_asg rfl rfl) rfl rfl rfl ?_
 refine simL_val (q_asg rfl rfl) rfl rfl rfl (simL_nil (nrm_then (sim_seq (sim_seq (sim_region ?_)))))
 refine simL_val (q_move rfl rfl) rfl rfl rfl ?_
 refine simL_val (q_nil rfl rfl) rfl rfl rfl ?_
 refine simL_val (q_fa rfl rfl Try.underlying143 rfl rfl Try.sizeOf3 rfl) rfl rfl rfl ?_
 refine simL_val (q_load rfl rfl Try.isAgg3 (.obj 0 rfl rfl)) rfl rfl rfl ?_
 refine simL_val (q_neq rfl rfl rfl) rfl rfl rfl (simL_nil (nrm_then ?_))
 refine sim_condn rfl (fun h1v => ?_) (fun h2v => ?_)
 refine sim_skip ?_
 refine nrm_then (sim_seq (sim_region ?_))
 refine simL_val (q_move rfl rfl) rfl rfl rfl ?_
 refine simL_val (q_nil rfl rfl) rfl rfl rfl ?_
 refine simL_val (q_fa rfl rfl Try.underlying143 rfl rfl Try.sizeOf27 rfl) rfl rfl rfl ?_
 refine simL_val (q_load rfl rfl Try.isAgg27 (.obj 0 rfl rfl)) rfl rfl rfl ?_
 refine simL_val (q_asg rfl rfl) rfl rfl rfl ?_
 refine simL_val (q_asg rfl rfl) rfl rfl rfl (simL_nil (nrm_then (sim_rtn ?_)))
 exact rtn_fn (ap0_0, cp0_0) rfl rfl rfl (.sel 1 rfl (.sel 1 rfl (.nil _)))
 refine sim_seq ?_
 refine sim_draw (Γ := Unit) () [[], [0], [0, 1], [0, 1, 2], [], [0, 1, 2, 3, 4]] [] [0, 1, 2, 3, 4, 5] (fun i => [[0], [0], [0], [0], [0], [0]].getD i []) (fun i => [[], [], [], [], [], []].getD i []) (fun γ i => [.pointer (some ⟨bp0, 0, none⟩), .pointer (some ⟨bp0, 0, none⟩), .pointer (some ⟨bp0, 1, none⟩), .int .i64 xp0_1, .slice none 0 0, .int .i64 xp0_1].getD i undef) (fun j γ => [[obj bp0 143 [.slice ap0_0 xp0_0.length cp0_0, .int .i64 xp0_1], Row 5 1 ap0_0 xp0_0.length cp0_0 (encB xp0_0), F]].getD j []) (fun γ => [(2, .slice none 0 0), (3, .int .i64 xp0_1)]) mixed (by decide) (by decide) (by decide) (by decide) (by decide) (by decide) (by decide) 17 rfl (by decide) (by decide) (by decide) (Ent.refl _) ?_ ?_ (fun _ => ⟨rfl, rfl, trivial⟩) ?_
 exact (All.cons (fun γ => (All.cons (QOb.plain [(0, .pointer (some ⟨bp0, 0, none⟩))] rfl rfl (.o rfl (by decide) .nil) (q_move rfl rfl) rfl) All.nil)) (All.cons (fun γ => (All.cons (QOb.plain [(9, .pointer (some ⟨bp0, 0, none⟩))] rfl rfl (.w 0 rfl rfl rfl .nil) (q_nil rfl rfl) rfl) All.nil)) (All.cons (fun γ => (All.cons (QOb.plain [(10, .pointer (some ⟨bp0, 0, none⟩))] rfl rfl (.w 1 rfl rfl rfl .nil) (q_fa rfl rfl Try.underlying143 rfl rfl Try.sizeOf3 rfl) rfl) All.nil)) (All.cons (fun γ => (All.cons (QOb.plain [(11, .pointer (some ⟨bp0, 1, none⟩))] rfl rfl (.w 2 rfl rfl rfl .nil) (q_load rfl rfl Try.isAgg3 (.obj 0 rfl rfl)) rfl) All.nil)) (All.cons (fun γ => (All.cons (QOb.plain [] rfl rfl .nil (q_asg rfl rfl) rfl) All.nil)) (All.cons (fun γ => (All.cons (QOb.plain [(12, .int .i64 xp0_1)] rfl rfl (.w 3 rfl rfl rfl .nil) (q_asg rfl rfl) rfl) All.nil)) All.nil))))))
 exact All.nil
 intro g3v
 refine nrm_then (sim_rtn ?_)
 refine rtn_then ?_
 exact rtn_fn (none, 0) rfl rfl rfl (.row_nil (.sel 2 rfl (.nil _)))
def synodref1_Writer_Done_s_c0p0.v (xp0_0 : List UInt8) (xp0_1 : Int) : List UInt8 × Int := (synodref1_Writer_Done_s_c0p0.f xp0_0 xp0_1).getD ([], 0)
theorem synodref1_Writer_Done_s_c0p0.tot (xp0_0 : List UInt8) (xp0_1 : Int) : synodref1_Writer_Done_s_c0p0.f xp0_0 xp0_1 = some (synodref1_Writer_Done_s_c0p0.v xp0_0 xp0_1) := by
  have h : ∃ r, synodref1_Writer_Done_s_c0p0.f xp0_0 xp0_1 = some r := by
    unfold synodref1_Writer_Done_s_c0p0.f
    repeat' (first | exact ⟨_, rfl⟩ | split | simp only [Option.bind_some])
  obtain ⟨r, h⟩ := h
  unfold synodref1_Writer_Done_s_c0p0.v
  rw [h]; rfl

def synodref3_PutEntry.f (k : Nat) (x0_0 : Int) (x0_1 : Int) (x0_2 : Int) (x0_3 : List UInt8) : Option (List UInt8 × Int) := (synodref3_CheckEntry.f x0_0 x0_1 x0_2 x0_3).bind fun s2v => (if s2v = (0 : Int) then ((synodref1_Writer_Int.f k ([] : List UInt8) (0 : Int) x0_0).bind fun s8v => ((synodref1_Writer_Int.f k s8v.1 s8v.2 x0_1).bind fun s11v => ((synodref1_Writer_Int.f k s11v.1 s11v.2 x0_2).bind fun s14v => ((synodref1_Writer_Bytes.f k s14v.1 s14v.2 x0_3 (4096 : Int)).bind fun s17v => ((synodref1_Writer_Done_s_c0p0.f s17v.1 s17v.2).bind fun s20v => (some (s20v.1, s20v.2))))))) else (some (([] : List UInt8), s2v)))
theorem synodref3_PutEntry.calls (W : World) (F : HA) (k : Nat) (x0_0 : Int) (x0_1 : Int) (x0_2 : Int) (a0_3 : Option Addr) (c0_3 : Nat) (x0_3 : List UInt8) (h0_3 : Rd F a0_3 (encB x0_3)) (hc0_3 : x0_3.length ≤ c0_3) (hm0_3 : c0_3 ≤ maxLen) :
    Fn Try.prog W 33 [.agg #[.int .i64 x0_0, .int .i64 x0_1, .int .i64 x0_2, .slice a0_3 x0_3.length c0_3]] [] F (synodref3_PutEntry.f k x0_0 x0_1 x0_2 x0_3) (fun (r : List UInt8 × Int) (y : Option Addr × Nat) => .tuple #[.slice y.1 r.1.length y.2, .int .i64 r.2]) (fun r y => [Row 5 1 y.1 r.1.length y.2 (encB r.1)]) := by
 unfold synodref3_PutEntry.f
 refine fn_intro 33 Try.func33 rfl Try.ntmps33 rfl ?_
 refine sim_seq (sim_region ?_)
 refine simL_eff (re_box rfl rfl rfl) rfl rfl rfl ?_
 intro b1v
 refine simL_val (q_asg rfl rfl) rfl rfl rfl ?_
 refine simL_val (q_asg rfl rfl) rfl rfl rfl (simL_nil (nrm_then (sim_seq (sim_region ?_))))
 refine simL_val (q_loado 0 rfl rfl Try.isAgg61 Try.sizeOf61 rfl rfl) rfl rfl rfl ?_
 refine simL_bind (fun s2v hs4v => ?_)
 refine simL_eff (re_call (vs := [.agg #[.int .i64 x0_0, .int .i64 x0_1, .int .i64 x0_2, .slice a0_3 x0_3.length c0_3]]) (cap := []) (A := []) (rst := [obj b1v 61 [.int .i64 x0_0, .int .i64 x0_1, .int .i64 x0_2, .slice a0_3 x0_3.length c0_3], F]) rfl rfl rfl rfl rfl rfl Try.call35 (.sel 0 rfl (.sel 0 rfl (.nil _))) (synodref3_CheckEntry.calls _ _ x0_0 x0_1 x0_2 a0_3 c0_3 x0_3 (h0_3.lend 1 rfl) hc0_3 hm0_3) hs4v) rfl rfl rfl ?_
 intro y3v
 refine simL_val (q_asg rfl rfl) rfl rfl rfl (simL_nil (nrm_then (sim_seq (sim_seq (sim_region ?_)))))
 refine simL_val (q_move rfl rfl) rfl rfl rfl ?_
 refine simL_val (q_neq rfl rfl rfl) rfl rfl rfl (simL_nil (nrm_then ?_))
 refine sim_condn rfl (fun h5v => ?_) (fun h6v => ?_)
 refine sim_skip ?_
 refine nrm_then (sim_seq (sim_region ?_))
 refine simL_val (q_build (v := .agg #[.slice none 0 0, .int .i64 0]) rfl rfl (fun _ => by kernel_rfl)) rfl rfl rfl ?_
 refine simL_eff (re_box rfl rfl rfl) rfl rfl rfl ?_
 intro b7v
 refine simL_val (q_asg rfl rfl) rfl rfl rfl (simL_nil (nrm_then (sim_seq (sim_region ?_))))
 refine simL_val (q_move rfl rfl) rfl rfl rfl ?_
 refine simL_val (q_fa rfl rfl Try.underlying61 rfl rfl Try.sizeOf3 rfl) rfl rfl rfl ?_
 refine simL_val (q_load rfl rfl Try.isAgg3 (.obj 1 rfl rfl)) rfl rfl rfl ?_
 refine simL_bind (fun s8v hs10v => ?_)
 refine simL_eff (re_call (vs := [.pointer (some ⟨b7v, 0, none⟩), .int .i64 x0_0]) (cap := []) (A := [obj b7v 143 [.slice none 0 0, .int .i64 0], Row 5 1 none ([] : List UInt8).length 0 (encB ([] : List UInt8))]) (rst := [obj b1v 61 [.int .i64 x0_0, .int .i64 x0_1, .int .i64 x0_2, .slice a0_3 x0_3.length c0_3], F]) rfl rfl rfl rfl rfl rfl Try.call79 (.sel 0 rfl (.row_nil (.sel 0 rfl (.sel 0 rfl (.nil _))))) (synodref1_Writer_Int.calls _ _ k b7v none 0 ([] : List UInt8) (0 : Int) x0_0 ) hs10v) rfl rfl rfl ?_
 intro y9v
 refine simL_nil (nrm_then (sim_seq (sim_region ?_)))
 refine simL_val (q_move rfl rfl) rfl rfl rfl ?_
 refine simL_val (q_fa rfl rfl Try.underlying61 rfl rfl Try.sizeOf3 rfl) rfl rfl rfl ?_
 refine simL_val (q_load rfl rfl Try.isAgg3 (.obj 2 rfl rfl)) rfl rfl rfl ?_
 refine simL_bind (fun s11v hs13v => ?_)
 refine simL_eff (re_call (vs := [.pointer (some ⟨b7v, 0, none⟩), .int .i64 x0_1]) (cap := []) (A := [obj b7v 143 [.slice y9v.1 s8v.1.length y9v.2, .int .i64 s8v.2], Row 5 1 y9v.1 s8v.1.length y9v.2 (encB s8v.1)]) (rst := [obj b1v 61 [.int .i64 x0_0, .int .i64 x0_1, .int .i64 x0_2, .slice a0_3 x0_3.length c0_3], F]) rfl rfl rfl rfl rfl rfl Try.call79 (.sel 0 rfl (.sel 0 rfl (.sel 0 rfl (.sel 0 rfl (.nil _))))) (synodref1_Writer_Int.calls _ _ k b7v y9v.1 y9v.2 s8v.1 s8v.2 x0_1 ) hs13v) rfl rfl rfl ?_
 intro y12v
 refine simL_nil (nrm_then (sim_seq (sim_region ?_)))
 refine simL_val (q_move rfl rfl) rfl rfl rfl ?_
 refine simL_val (q_fa rfl rfl Try.underlying61 rfl rfl Try.sizeOf3 rfl) rfl rfl rfl ?_
 refine simL_val (q_load rfl rfl Try.isAgg3 (.obj 2 rfl rfl)) rfl rfl rfl ?_
 refine simL_bind (fun s14v hs16v => ?_)
 refine simL_eff (re_call (vs := [.pointer (some ⟨b7v, 0, none⟩), .int .i64 x0_2]) (cap := []) (A := [obj b7v 143 [.slice y12v.1 s11v.1.length y12v.2, .int .i64 s11v.2], Row 5 1 y12v.1 s11v.1.length y12v.2 (encB s11v.1)]) (rst := [obj b1v 61 [.int .i64 x0_0, .int .i64 x0_1, .int .i64 x0_2, .slice a0_3 x0_3.length c0_3], F]) rfl rfl rfl rfl rfl rfl Try.call79 (.sel 0 rfl (.sel 0 rfl (.sel 0 rfl (.sel 0 rfl (.nil _))))) (synodref1_Writer_Int.calls _ _ k b7v y12v.1 y12v.2 s11v.1 s11v.2 x0_2 ) hs16v) rfl rfl rfl ?_
 intro y15v
 refine simL_nil (nrm_then (sim_seq (sim_region ?_)))
 refine simL_val (q_move rfl rfl) rfl rfl rfl ?_
 refine simL_val (q_fa rfl rfl Try.underlying61 rfl rfl Try.sizeOf27 rfl) rfl rfl rfl ?_
 refine simL_val (q_load rfl rfl Try.isAgg27 (.obj 2 rfl rfl)) rfl rfl rfl ?_
 refine simL_bind (fun s17v hs19v => ?_)
 refine simL_eff (re_call (vs := [.pointer (some ⟨b7v, 0, none⟩), .slice a0_3 x0_3.length c0_3, .int .i64 4096]) (cap := []) (A := [obj b7v 143 [.slice y15v.1 s14v.1.length y15v.2, .int .i64 s14v.2], Row 5 1 y15v.1 s14v.1.length y15v.2 (encB s14v.1)]) (rst := [obj b1v 61 [.int .i64 x0_0, .int .i64 x0_1, .int .i64 x0_2, .slice a0_3 x0_3.length c0_3], F]) rfl rfl rfl rfl rfl rfl Try.call89 (.sel 0 rfl (.sel 0 rfl (.sel 0 rfl (.sel 0 rfl (.nil _))))) (synodref1_Writer_Bytes.calls _ _ k b7v y15v.1 y15v.2 s14v.1 s14v.2 a0_3 c0_3 x0_3 (4096 : Int) (h0_3.lend 1 rfl) hc0_3 hm0_3) hs19v) rfl rfl rfl ?_
 intro y18v
 refine simL_nil (nrm_then (sim_seq (sim_region ?_)))
 refine simL_val (q_move rfl rfl) rfl rfl rfl ?_
 refine simL_bind (fun s20v hs22v => ?_)
 refine simL_eff (re_call (vs := [.pointer (some ⟨b7v, 0, none⟩)]) (cap := []) (A := [obj b7v 143 [.slice y18v.1 s17v.1.length y18v.2, .int .i64 s17v.2], Row 5 1 y18v.1 s17v.1.length y18v.2 (encB s17v.1)]) (rst := [obj b1v 61 [.int .i64 x0_0, .int .i64 x0_1, .int .i64 x0_2, .slice a0_3 x0_3.length c0_3], F]) rfl rfl rfl rfl rfl rfl Try.call80 (.sel 0 rfl (.sel 0 rfl (.sel 0 rfl (.sel 0 rfl (.nil _))))) (synodref1_Writer_Done_s_c0p0.calls _ _ b7v y18v.1 y18v.2 s17v.1 s17v.2 ) hs22v) rfl rfl rfl ?_
 intro y21v
 refine simL_val (q_ext rfl rfl rfl) rfl rfl rfl ?_
 refine simL_val (q_ext rfl rfl rfl) rfl rfl rfl ?_
 refine simL_val (q_asg rfl rfl) rfl rfl rfl ?_
 refine simL_val (q_asg rfl rfl) rfl rfl rfl (simL_nil (nrm_then (sim_rtn ?_)))
 exact rtn_fn (y21v.1, y21v.2) rfl rfl rfl (.sel 0 rfl (.sel 1 rfl (.nil _)))
 refine sim_seq (sim_region ?_)
 refine simL_val (q_move rfl rfl) rfl rfl rfl ?_
 refine simL_val (q_asg rfl rfl) rfl rfl rfl ?_
 refine simL_val (q_asg rfl rfl) rfl rfl rfl (simL_nil (nrm_then (sim_rtn ?_)))
 refine rtn_then ?_
 exact rtn_fn (none, 0) rfl rfl rfl (.row_nil (.sel 1 rfl (.nil _)))

def synodlaw3_texts.l0 (x0 : List (Int × Int × Int × List UInt8)) : Nat → List (List UInt8) → List Int → Int → Option (List (List UInt8) × List Int)
  | 0, _, _, _ => none
  | k + 1, z5v, z6v, z7v => if z7v < (x0.length : Int) then (if 0 ≤ z7v ∧ z7v < (x0.length : Int) then ((synodref3_PutEntry.f k ((x0.getD z7v.toNat ((0 : Int), (0 : Int), (0 : Int), ([] : List UInt8))).1) ((x0.getD z7v.toNat ((0 : Int), (0 : Int), (0 : Int), ([] : List UInt8))).2.1) ((x0.getD z7v.toNat ((0 : Int), (0 : Int), (0 : Int), ([] : List UInt8))).2.2.1) ((x0.getD z7v.toNat ((0 : Int), (0 : Int), (0 : Int), ([] : List UInt8))).2.2.2)).bind fun s23v => (if (z5v.length + ([s23v.1] : List (List UInt8)).length) * 24 ≤ 140737488355328 then (if (z6v.length + ([s23v.2] : List Int).length) * 8 ≤ 140737488355328 then (synodlaw3_texts.l0 x0 k (z5v ++ ([s23v.1] : List (List UInt8))) (z6v ++ ([s23v.2] : List Int)) (IntKind.i64.wrap (z7v + 1))) else none) else none)) else none) else (some (z5v, z6v))
def synodlaw3_texts.f (k : Nat) (x0 : List (Int × Int × Int × List UInt8)) : Option (List (List UInt8) × List Int) := (synodlaw3_texts.l0 x0 k ([] : List (List UInt8)) ([] : List Int) 0).bind fun s1v => (some (s1v.1, s1v.2))
theorem synodlaw3_texts.calls (W : World) (F : HA) (k : Nat) (a0 : Option Addr) (c0 : Nat) (x0 : List (Int × Int × Int × List UInt8)) (h0 : RdV F 4 (V61 F) a0 x0) (hc0 : x0.length ≤ c0) (hm0 : c0 ≤ maxLen) :
    Fn Try.prog W 64 [.slice a0 x0.length c0] [] F (synodlaw3_texts.f k x0) (fun (r : List (List UInt8) × List Int) (y : Option Addr × Nat × HA × Option Addr × Nat) => .tuple #[.slice y.1 r.1.length y.2.1, .slice y.2.2.2.1 r.2.length y.2.2.2.2]) (fun r y => [RowV 27 1 (V27 (y.2.2.1)) y.1 r.1 y.2.1, y.2.2.1, RowV 3 1 (V3 F) y.2.2.2.1 r.2 y.2.2.2.2]) := by
 unfold synodlaw3_texts.f
 refine fn_intro 33 Try.func64 rfl Try.ntmps64 rfl ?_
 refine sim_seq (sim_region ?_)
 refine simL_val (q_asg rfl rfl) rfl rfl rfl ?_
 refine simL_val (q_asg rfl rfl) rfl rfl rfl (simL_nil (nrm_then (sim_seq (sim_region ?_))))
 refine simL_val (q_asg rfl rfl) rfl rfl rfl (simL_nil (nrm_then (sim_seq (sim_region ?_))))
 refine simL_val (q_asg rfl rfl) rfl rfl rfl (simL_nil (nrm_then ?_))
 refine sim_cut (S := List (List UInt8) × List Int) (HA × Option Addr × Nat × Option Addr × Nat) (fun s y => [(4, .slice y.2.1 s.1.length y.2.2.1), (5, .slice y.2.2.2.1 s.2.length y.2.2.2.2)]) (fun s y => [RowV 27 1 (V27 (y.1)) y.2.1 s.1 y.2.2.1, RowV 3 1 (V3 F) y.2.2.2.1 s.2 y.2.2.2.2, y.1, F]) ?_ ?_
 refine sim_seq (sim_region ?_)
 refine simL_val (q_asg rfl rfl) rfl rfl rfl (simL_nil (nrm_then ?_))
 refine sim_block ?_
 refine sim_loop (S := List (List UInt8) × List Int × Int) (HA × Option Addr × Nat × Option Addr × Nat) (fun k s => synodlaw3_texts.l0 x0 k s.1 s.2.1 s.2.2) (fun s y => [(0, .slice a0 x0.length c0), (4, .slice y.2.1 s.1.length y.2.2.1), (5, .slice y.2.2.2.1 s.2.1.length y.2.2.2.2), (6, .int .i64 s.2.2)]) (fun s y => [RowV 27 1 (V27 (y.1)) y.2.1 s.1 y.2.2.1, RowV 3 1 (V3 F) y.2.2.2.1 s.2.1 y.2.2.2.2, y.1, F]) (fun _ => by rw [synodlaw3_texts.l0]) ?_ k (([] : List (List UInt8)), ([] : List Int), 0) (tt, none, 0, none, 0) ⟨rfl, rfl, rfl, rfl, trivial⟩ (.rowV_nil (.rowV_nil (.tt_in (.sel 0 rfl (.nil _)))))
 intro k s3v y4v
 refine sim_eq (by rw [synodlaw3_texts.l0]) ?_
 refine sim_seq (sim_seq (sim_region ?_))
 refine simL_val (q_move rfl rfl) rfl rfl rfl ?_
 refine simL_val (q_move rfl rfl) rfl rfl rfl ?_
 refine simL_val (q_len rfl rfl rfl Try.underlying26) rfl rfl rfl ?_
 refine simL_val (q_lss rfl rfl rfl) rfl rfl rfl (simL_nil (nrm_then ?_))
 refine sim_cond rfl (fun h8v => ?_) (fun h9v => ?_)
 refine sim_skip ?_
 refine nrm_then (sim_seq ?_)
 refine sim_block ?_
 refine sim_seq (sim_region ?_)
 refine simL_val (q_move rfl rfl) rfl rfl rfl ?_
 refine simL_val (q_move rfl rfl) rfl rfl rfl ?_
 refine simL_ask (fun hi10v => ?_)
 obtain ⟨b11v, b11vo, r14v, ha12v, hV15v, hlr16v, hcell17v⟩ := RdV.pos h0 (Up.refl _) rfl (i := s3v.2.2.toNat) (by omega) ((0 : Int), (0 : Int), (0 : Int), ([] : List UInt8))
 obtain ⟨a18v, c19v, rfl, ⟨he20v, hc21v, hm22v⟩⟩ := hV15v
 refine simL_val (q_idx rfl rfl rfl ha12v Try.underlying26 Try.sizeOf61 hi10v.1 hi10v.2) rfl rfl rfl ?_
 refine simL_val (q_loads rfl rfl Try.isAgg61 Try.sizeOf61 rfl (fun j v hj => hcell17v 3 rfl j v hj)) rfl rfl rfl ?_
 refine simL_bind (fun s23v hs25v => ?_)
 refine simL_eff (re_call (vs := [.agg #[.int .i64 ((x0.getD s3v.2.2.toNat ((0 : Int), (0 : Int), (0 : Int), ([] : List UInt8))).1), .int .i64 ((x0.getD s3v.2.2.toNat ((0 : Int), (0 : Int), (0 : Int), ([] : List UInt8))).2.1), .int .i64 ((x0.getD s3v.2.2.toNat ((0 : Int), (0 : Int), (0 : Int), ([] : List UInt8))).2.2.1), .slice a18v (((x0.getD s3v.2.2.toNat ((0 : Int), (0 : Int), (0 : Int), ([] : List UInt8))).2.2.2).length) c19v]]) (cap := []) (A := []) (rst := [RowV 27 1 (V27 (y4v.1)) y4v.2.1 s3v.1 y4v.2.2.1, RowV 3 1 (V3 F) y4v.2.2.2.1 s3v.2.1 y4v.2.2.2.2, y4v.1, F]) rfl rfl rfl rfl rfl rfl Try.call33 (.sel 0 rfl (.sel 0 rfl (.sel 0 rfl (.sel 0 rfl (.nil _))))) (synodref3_PutEntry.calls _ _ k ((x0.getD s3v.2.2.toNat ((0 : Int), (0 : Int), (0 : Int), ([] : List UInt8))).1) ((x0.getD s3v.2.2.toNat ((0 : Int), (0 : Int), (0 : Int), ([] : List UInt8))).2.1) ((x0.getD s3v.2.2.toNat ((0 : Int), (0 : Int), (0 : Int), ([] : List UInt8))).2.2.1) a18v c19v ((x0.getD s3v.2.2.toNat ((0 : Int), (0 : Int), (0 : Int), ([] : List UInt8))).2.2.2) (he20v.lend 3 rfl) hc21v hm22v) hs25v) rfl rfl rfl ?_
 intro y24v
 refine simL_val (q_move rfl rfl) rfl rfl rfl ?_
 refine simL_val (q_ext rfl rfl rfl) rfl rfl rfl ?_
 refine simL_val (q_ext rfl rfl rfl) rfl rfl rfl ?_
 refine simL_val (q_asg rfl rfl) rfl rfl rfl ?_
 refine simL_val (q_asg rfl rfl) rfl rfl rfl (simL_nil (nrm_then (sim_seq (sim_region ?_))))
 refine simL_val (q_move rfl rfl) rfl rfl rfl ?_
 refine simL_val (q_move rfl rfl) rfl rfl rfl ?_
 refine simL_lend 0 rfl (fun hq27v hq28v hq29v hq30v => ?_)
 have hlb31v : ListV 1 (V27 (Row 5 1 y24v.1 s23v.1.length y24v.2 (encB s23v.1))) ([s23v.1] : List (List UInt8)) [[.slice y24v.1 s23v.1.length y24v.2]] := ⟨⟨rfl, one_of (by rfl), ⟨y24v.1, y24v.2, rfl, ⟨hq27v, hq28v, hq29v⟩⟩⟩, trivial⟩
 refine simL_eff (re_litV (V := (V27 (Row 5 1 y24v.1 s23v.1.length y24v.2 (encB s23v.1)))) (xs := ([s23v.1] : List (List UInt8))) [[.slice y24v.1 s23v.1.length y24v.2]] rfl rfl Try.underlying114 elt27 rfl (by kernel_rfl) rfl hlb31v rfl rfl) rfl rfl rfl ?_
 intro b31v
 refine simL_openV 2 rfl (fun rs36v hl37v => ?_)
 refine simL_ent (H' := [stars [Row 5 1 y24v.1 s23v.1.length y24v.2 (encB s23v.1), y4v.1], Row 27 1 (some ⟨b31v, 0, none⟩) ([s23v.1] : List (List UInt8)).length 1 [[.slice y24v.1 s23v.1.length y24v.2]].flatten, Row 27 1 y4v.2.1 s3v.1.length y4v.2.2.1 rs36v.flatten, RowV 3 1 (V3 F) y4v.2.2.2.1 s3v.2.1 y4v.2.2.2.2, F]) (Ent.trans (m := [Row 5 1 y24v.1 s23v.1.length y24v.2 (encB s23v.1), y4v.1, Row 27 1 (some ⟨b31v, 0, none⟩) ([s23v.1] : List (List UInt8)).length 1 [[.slice y24v.1 s23v.1.length y24v.2]].flatten, Row 27 1 y4v.2.1 s3v.1.length y4v.2.2.1 rs36v.flatten, RowV 3 1 (V3 F) y4v.2.2.2.1 s3v.2.1 y4v.2.2.2.2, F]) (.sel 1 rfl (.sel 3 rfl (.sel 0 rfl (.sel 0 rfl (.sel 0 rfl (.sel 0 rfl (.nil _))))))) (ent_pack [Row 5 1 y24v.1 s23v.1.length y24v.2 (encB s23v.1), y4v.1] _)) ?_
 refine simL_ask (fun hb39v => ?_)
 refine simL_eff (re_appendV 2 rfl rfl rfl Try.underlying114 elt27 rfl (hl37v.mono (V27.up (Up.lend (l := [Row 5 1 y24v.1 s23v.1.length y24v.2 (encB s23v.1), y4v.1]) 1 rfl))) (RdsV.row (hlb31v.mono (V27.up (Up.lend (l := [Row 5 1 y24v.1 s23v.1.length y24v.2 (encB s23v.1), y4v.1]) 0 rfl))) 1 rfl) hb39v) rfl rfl rfl ?_
 intro y38v
 refine simL_val (q_asg rfl rfl) rfl rfl rfl (simL_nil (nrm_then (sim_region ?_)))
 refine simL_val (q_move rfl rfl) rfl rfl rfl ?_
 refine simL_val (q_move rfl rfl) rfl rfl rfl ?_
 have hlb41v : ListV 1 (V3 F) ([s23v.2] : List Int) [[.int .i64 s23v.2]] := ⟨⟨rfl, one_of (by rfl), rfl⟩, trivial⟩
 refine simL_eff (re_litV (V := (V3 F)) (xs := ([s23v.2] : List Int)) [[.int .i64 s23v.2]] rfl rfl Try.underlying115 elt3 rfl (by kernel_rfl) rfl hlb41v rfl rfl) rfl rfl rfl ?_
 intro b41v
 refine simL_openV 4 rfl (fun rs46v hl47v => ?_)
 refine simL_ask (fun hb45v => ?_)
 refine simL_eff (re_appendV 4 rfl rfl rfl Try.underlying115 elt3 rfl hl47v (RdsV.row hlb41v 0 rfl) hb45v) rfl rfl rfl ?_
 intro y44v
 refine simL_val (q_asg rfl rfl) rfl rfl rfl (simL_nil (nrm_block (nrm_then (sim_region ?_))))
 refine simL_val (q_move rfl rfl) rfl rfl rfl ?_
 refine simL_val (q_add rfl rfl rfl) rfl rfl rfl ?_
 refine simL_val (q_asg rfl rfl) rfl rfl rfl (simL_nil ?_)
 exact nrm_again (s := (s3v.1 ++ ([s23v.1] : List (List UInt8)), s3v.2.1 ++ ([s23v.2] : List Int), IntKind.i64.wrap (s3v.2.2 + 1))) (stars [Row 5 1 y24v.1 s23v.1.length y24v.2 (encB s23v.1), y4v.1], y38v.1, y38v.2, y44v.1, y44v.2) ⟨rfl, rfl, rfl, rfl, trivial⟩ (.sel 3 rfl (.sel 3 rfl (.sel 1 rfl (.sel 2 rfl (.nil _)))))
 refine sim_exi ?_
 refine exi_then ?_
 refine exi_loop ?_
 refine exi_here ?_
 exact nrm_cut (s := (s3v.1, s3v.2.1)) (y4v.1, y4v.2.1, y4v.2.2.1, y4v.2.2.2.1, y4v.2.2.2.2) ⟨rfl, rfl, trivial⟩ (.sel 0 rfl (.sel 0 rfl (.sel 0 rfl (.sel 0 rfl (.nil _)))))
 intro s1v y2v
 refine sim_seq (sim_region ?_)
 refine simL_val (q_move rfl rfl) rfl rfl rfl ?_
 refine simL_val (q_move rfl rfl) rfl rfl rfl ?_
 refine simL_val (q_asg rfl rfl) rfl rfl rfl ?_
 refine simL_val (q_asg rfl rfl) rfl rfl rfl (simL_nil (nrm_then (sim_rtn ?_)))
 exact rtn_fn (y2v.2.1, y2v.2.2.1, y2v.1, y2v.2.2.2.1, y2v.2.2.2.2) rfl rfl rfl (.sel 0 rfl (.sel 1 rfl (.sel 0 rfl (.sel 0 rfl (.nil _)))))

def synodref3_PutTexts.l1 (x0 : List (List UInt8)) : Nat → Int → List UInt8 → Int → Option (List UInt8 × Int)
  | 0, _, _, _ => none
  | k + 1, z37v, z38v, z39v => if z37v < (x0.length : Int) then (if 0 ≤ z37v ∧ z37v < (x0.length : Int) then ((synodref1_Writer_Bytes.f k z38v z39v (x0.getD z37v.toNat ([] : List UInt8)) (1048576 : Int)).bind fun s55v => (synodref3_PutTexts.l1 x0 k (IntKind.i64.wrap (z37v + 1)) s55v.1 s55v.2)) else none) else (some (z38v, z39v))
def synodref3_PutTexts.l0 (x0 : List (List UInt8)) (x1 : List Int) : Nat → Int → Option ((Unit) ⊕ (List UInt8 × Int))
  | 0, _ => none
  | k + 1, z7v => if z7v < (x0.length : Int) then (if 0 ≤ z7v ∧ z7v < (x1.length : Int) then (if (x1.getD z7v.toNat (0 : Int)) = (0 : Int) then (synodref3_PutTexts.l0 x0 x1 k (IntKind.i64.wrap (z7v + 1))) else (if 0 ≤ z7v ∧ z7v < (x1.length : Int) then (some (.inr (([] : List UInt8), (x1.getD z7v.toNat (0 : Int))))) else none)) else none) else (some (.inl ()))
def synodref3_PutTexts.f (k : Nat) (x0 : List (List UInt8)) (x1 : List Int) (x2 : Int) : Option (List UInt8 × Int) := if x2 < (x0.length : Int) then (some (([] : List UInt8), 3)) else (orR (synodref3_PutTexts.l0 x0 x1 k 0) fun s3v => ((synodref1_Writer_Int.f k ([] : List UInt8) (0 : Int) (x0.length : Int)).bind fun s30v => ((synodref3_PutTexts.l1 x0 k 0 s30v.1 s30v.2).bind fun s33v => ((synodref1_Writer_Done_s_c0p0.f s33v.1 s33v.2).bind fun s58v => (some (s58v.1, s58v.2))))))
theorem synodref3_PutTexts.calls (W : World) (F : HA) (k : Nat) (a0 : Option Addr) (c0 : Nat) (x0 : List (List UInt8)) (a1 : Option Addr) (c1 : Nat) (x1 : List Int) (x2 : Int) (h0 : RdV F 1 (V27 F) a0 x0) (hc0 : x0.length ≤ c0) (hm0 : c0 ≤ maxLen) (h1 : RdV F 1 (V3 F) a1 x1) (hc1 : x1.length ≤ c1) (hm1 : c1 ≤ maxLen) :
    Fn Try.prog W 65 [.slice a0 x0.length c0, .slice a1 x1.length c1, .int .i64 x2] [] F (synodref3_PutTexts.f k x0 x1 x2) (fun (r : List UInt8 × Int) (y : Option Addr × Nat) => .tuple #[.slice y.1 r.1.length y.2, .int .i64 r.2]) (fun r y => [Row 5 1 y.1 r.1.length y.2 (encB r.1)]) := by
 unfold synodref3_PutTexts.f
 refine fn_intro 52 Try.func65 rfl Try.ntmps65 rfl ?_
 refine sim_seq (sim_region ?_)
 refine simL_val (q_asg rfl rfl) rfl rfl rfl ?_
 refine simL_val (q_asg rfl rfl) rfl rfl rfl (simL_nil (nrm_then (sim_seq (sim_seq (sim_region ?_)))))
 refine simL_val (q_move rfl rfl) rfl rfl rfl ?_
 refine simL_val (q_len rfl rfl rfl Try.underlying114) rfl rfl rfl ?_
 refine simL_val (q_move rfl rfl) rfl rfl rfl ?_
 refine simL_val (q_gtr rfl rfl rfl) rfl rfl rfl (simL_nil (nrm_then ?_))
 refine sim_cond rfl (fun h1v => ?_) (fun h2v => ?_)
 refine sim_seq (sim_region ?_)
 refine simL_val (q_asg rfl rfl) rfl rfl rfl ?_
 refine simL_val (q_asg rfl rfl) rfl rfl rfl (simL_nil (nrm_then (sim_rtn ?_)))
 refine rtn_then ?_
 exact rtn_fn (none, 0) rfl rfl rfl (.row_nil (.sel 0 rfl (.nil _)))
 refine sim_skip ?_
 refine nrm_then ?_
 refine sim_cutR (S := Unit) (Unit) (fun s y => [(0, .slice a0 x0.length c0)]) (fun s y => [F]) ?_ ?_
 refine sim_seq (sim_region ?_)
 refine simL_val (q_asg rfl rfl) rfl rfl rfl (simL_nil (nrm_then ?_))
 refine sim_block ?_
 refine sim_loop (S := Int) (Unit) (fun k s => synodref3_PutTexts.l0 x0 x1 k s) (fun s y => [(0, .slice a0 x0.length c0), (1, .slice a1 x1.length c1), (8, .int .i64 s)]) (fun s y => [F]) (fun _ => by rw [synodref3_PutTexts.l0]) ?_ k 0 () ⟨rfl, rfl, rfl, trivial⟩ (.sel 0 rfl (.nil _))
 intro k s5v y6v
 refine sim_eq (by rw [synodref3_PutTexts.l0]) ?_
 refine sim_seq (sim_seq (sim_region ?_))
 refine simL_val (q_move rfl rfl) rfl rfl rfl ?_
 refine simL_val (q_move rfl rfl) rfl rfl rfl ?_
 refine simL_val (q_len rfl rfl rfl Try.underlying114) rfl rfl rfl ?_
 refine simL_val (q_lss rfl rfl rfl) rfl rfl rfl (simL_nil (nrm_then ?_))
 refine sim_cond rfl (fun h8v => ?_) (fun h9v => ?_)
 refine sim_skip ?_
 refine nrm_then (sim_seq ?_)
 refine sim_block ?_
 refine sim_seq (sim_region ?_)
 refine simL_val (q_move rfl rfl) rfl rfl rfl ?_
 refine simL_val (q_move rfl rfl) rfl rfl rfl ?_
 refine simL_ask (fun hi10v => ?_)
 obtain ⟨b11v, b11vo, r14v, ha12v, hV15v, hlr16v, hcell17v⟩ := RdV.pos h1 (Up.refl _) rfl (i := s5v.toNat) (by omega) (0 : Int)
 obtain rfl := hV15v
 refine simL_val (q_idx rfl rfl rfl ha12v Try.underlying115 Try.sizeOf3 hi10v.1 hi10v.2) rfl rfl rfl ?_
 refine simL_val (q_load rfl rfl Try.isAgg3 (hcell17v 0 rfl 0 _ rfl)) rfl rfl rfl ?_
 refine simL_val (q_neq rfl rfl rfl) rfl rfl rfl (simL_nil (nrm_then ?_))
 refine sim_condn rfl (fun h18v => ?_) (fun h19v => ?_)
 refine sim_skip ?_
 refine nrm_block (nrm_then (sim_region ?_))
 refine simL_val (q_move rfl rfl) rfl rfl rfl ?_
 refine simL_val (q_add rfl rfl rfl) rfl rfl rfl ?_
 refine simL_val (q_asg rfl rfl) rfl rfl rfl (simL_nil ?_)
 exact nrm_again (s := IntKind.i64.wrap (s5v + 1)) () ⟨rfl, rfl, rfl, trivial⟩ (.sel 0 rfl (.nil _))
 refine sim_seq ?_
 refine sim_ask (fun hi20v => ?_)
 obtain ⟨b21v, b21vo, r24v, ha22v, hV25v, hlr26v, hcell27v⟩ := RdV.pos h1 (Up.refl _) rfl (i := s5v.toNat) (by omega) (0 : Int)
 obtain rfl := hV25v
 refine sim_draw (Γ := Unit) () [[], [], [0, 1], [0, 1, 2], [], [0, 1, 2, 3, 4]] [] [0, 1, 2, 3, 4, 5] (fun i => [[0], [0], [0], [0], [0], [0]].getD i []) (fun i => [[], [], [], [], [], []].getD i []) (fun γ i => [.slice a1 x1.length c1, .int .i64 s5v, .pointer (some ⟨b21v, b21vo + s5v.toNat * 1, none⟩), .int .i64 (x1.getD s5v.toNat (0 : Int)), .slice none 0 0, .int .i64 (x1.getD s5v.toNat (0 : Int))].getD i undef) (fun j γ => [[F]].getD j []) (fun γ => [(6, .slice none 0 0), (7, .int .i64 (x1.getD s5v.toNat (0 : Int)))]) mixed (by decide) (by decide) (by decide) (by decide) (by decide) (by decide) (by decide) 52 rfl (by decide) (by decide) (by decide) (Ent.refl _) ?_ ?_ (fun _ => ⟨rfl, rfl, trivial⟩) ?_
 exact (All.cons (fun γ => (All.cons (QOb.plain [(1, .slice a1 x1.length c1)] rfl rfl (.o rfl (by decide) .nil) (q_move rfl rfl) rfl) All.nil)) (All.cons (fun γ => (All.cons (QOb.plain [(8, .int .i64 s5v)] rfl rfl (.o rfl (by decide) .nil) (q_move rfl rfl) rfl) All.nil)) (All.cons (fun γ => (All.cons (QOb.plain [(26, .slice a1 x1.length c1), (27, .int .i64 s5v)] rfl rfl (.w 0 rfl rfl rfl (.w 1 rfl rfl rfl .nil)) (q_idx rfl rfl rfl ha22v Try.underlying115 Try.sizeOf3 hi20v.1 hi20v.2) rfl) All.nil)) (All.cons (fun γ => (All.cons (QOb.plain [(28, .pointer (some ⟨b21v, b21vo + s5v.toNat * 1, none⟩))] rfl rfl (.w 2 rfl rfl rfl .nil) (q_load rfl rfl Try.isAgg3 (hcell27v 0 rfl 0 _ rfl)) rfl) All.nil)) (All.cons (fun γ => (All.cons (QOb.plain [] rfl rfl .nil (q_asg rfl rfl) rfl) All.nil)) (All.cons (fun γ => (All.cons (QOb.plain [(29, .int .i64 (x1.getD s5v.toNat (0 : Int)))] rfl rfl (.w 3 rfl rfl rfl .nil) (q_asg rfl rfl) rfl) All.nil)) All.nil))))))
 exact All.nil
 intro g28v
 refine nrm_then (sim_rtn ?_)
 refine rtn_block ?_
 refine rtn_then ?_
 refine rtn_loop ?_
 refine rtn_block ?_
 refine rtn_cutR ?_
 exact rtn_fn (none, 0) rfl rfl rfl (.row_nil (.sel 0 rfl (.nil _)))
 refine sim_exi ?_
 refine exi_then ?_
 refine exi_loop ?_
 refine exi_here ?_
 exact nrm_cutR (s := ()) () ⟨rfl, trivial⟩ (.sel 0 rfl (.nil _))
 intro s3v y4v
 refine sim_seq (sim_region ?_)
 refine simL_val (q_build (v := .agg #[.slice none 0 0, .int .i64 0]) rfl rfl (fun _ => by kernel_rfl)) rfl rfl rfl ?_
 refine simL_eff (re_box rfl rfl rfl) rfl rfl rfl ?_
 intro b29v
 refine simL_val (q_asg rfl rfl) rfl rfl rfl (simL_nil (nrm_then (sim_seq (sim_region ?_))))
 refine simL_val (q_move rfl rfl) rfl rfl rfl ?_
 refine simL_val (q_move rfl rfl) rfl rfl rfl ?_
 refine simL_val (q_len rfl rfl rfl Try.underlying114) rfl rfl rfl ?_
 refine simL_bind (fun s30v hs32v => ?_)
 refine simL_eff (re_call (vs := [.pointer (some ⟨b29v, 0, none⟩), .int .i64 (x0.length : Int)]) (cap := []) (A := [obj b29v 143 [.slice none 0 0, .int .i64 0], Row 5 1 none ([] : List UInt8).length 0 (encB ([] : List UInt8))]) (rst := [F]) rfl rfl rfl rfl rfl rfl Try.call79 (.sel 0 rfl (.row_nil (.sel 0 rfl (.nil _)))) (synodref1_Writer_Int.calls _ _ k b29v none 0 ([] : List UInt8) (0 : Int) (x0.length : Int) ) hs32v) rfl rfl rfl ?_
 intro y31v
 refine simL_nil (nrm_then ?_)
 refine sim_cut (S := List UInt8 × Int) (Option Addr × Nat) (fun s y => [(9, .pointer (some ⟨b29v, 0, none⟩))]) (fun s y => [obj b29v 143 [.slice y.1 s.1.length y.2, .int .i64 s.2], Row 5 1 y.1 s.1.length y.2 (encB s.1), F]) ?_ ?_
 refine sim_seq (sim_region ?_)
 refine simL_val (q_asg rfl rfl) rfl rfl rfl (simL_nil (nrm_then ?_))
 refine sim_block ?_
 refine sim_loop (S := Int × List UInt8 × Int) (Option Addr × Nat) (fun k s => synodref3_PutTexts.l1 x0 k s.1 s.2.1 s.2.2) (fun s y => [(0, .slice a0 x0.length c0), (9, .pointer (some ⟨b29v, 0, none⟩)), (10, .int .i64 s.1)]) (fun s y => [obj b29v 143 [.slice y.1 s.2.1.length y.2, .int .i64 s.2.2], Row 5 1 y.1 s.2.1.length y.2 (encB s.2.1), F]) (fun _ => by rw [synodref3_PutTexts.l1]) ?_ k (0, s30v.1, s30v.2) (y31v.1, y31v.2) ⟨rfl, rfl, rfl, trivial⟩ (.sel 0 rfl (.sel 0 rfl (.sel 0 rfl (.nil _))))
 intro k s35v y36v
 refine sim_eq (by rw [synodref3_PutTexts.l1]) ?_
 refine sim_seq (sim_seq (sim_region ?_))
 refine simL_val (q_move rfl rfl) rfl rfl rfl ?_
 refine simL_val (q_move rfl rfl) rfl rfl rfl ?_
 refine simL_val (q_len rfl rfl rfl Try.underlying114) rfl rfl rfl ?_
 refine simL_val (q_lss rfl rfl rfl) rfl rfl rfl (simL_nil (nrm_then ?_))
 refine sim_cond rfl (fun h40v => ?_) (fun h41v => ?_)
 refine sim_skip ?_
 refine nrm_then (sim_seq ?_)
 refine sim_block ?_
 refine sim_region ?_
 refine simL_val (q_move rfl rfl) rfl rfl rfl ?_
 refine simL_val (q_move rfl rfl) rfl rfl rfl ?_
 refine simL_val (q_move rfl rfl) rfl rfl rfl ?_
 refine simL_ask (fun hi42v => ?_)
 obtain ⟨b43v, b43vo, r46v, ha44v, hV47v, hlr48v, hcell49v⟩ := RdV.pos h0 (Up.refl _) rfl (i := s35v.1.toNat) (by omega) ([] : List UInt8)
 obtain ⟨a50v, c51v, rfl, ⟨he52v, hc53v, hm54v⟩⟩ := hV47v
 refine simL_val (q_idx rfl rfl rfl ha44v Try.underlying114 Try.sizeOf27 hi42v.1 hi42v.2) rfl rfl rfl ?_
 refine simL_val (q_load rfl rfl Try.isAgg27 (hcell49v 2 rfl 0 _ rfl)) rfl rfl rfl ?_
 refine simL_bind (fun s55v hs57v => ?_)
 refine simL_eff (re_call (vs := [.pointer (some ⟨b29v, 0, none⟩), .slice a50v ((x0.getD s35v.1.toNat ([] : List UInt8)).length) c51v, .int .i64 1048576]) (cap := []) (A := [obj b29v 143 [.slice y36v.1 s35v.2.1.length y36v.2, .int .i64 s35v.2.2], Row 5 1 y36v.1 s35v.2.1.length y36v.2 (encB s35v.2.1)]) (rst := [F]) rfl rfl rfl rfl rfl rfl Try.call89 (.sel 0 rfl (.sel 0 rfl (.sel 0 rfl (.nil _)))) (synodref1_Writer_Bytes.calls _ _ k b29v y36v.1 y36v.2 s35v.2.1 s35v.2.2 a50v c51v (x0.getD s35v.1.toNat ([] : List UInt8)) (1048576 : Int) (he52v.lend 0 rfl) hc53v hm54v) hs57v) rfl rfl rfl ?_
 intro y56v
 refine simL_nil (nrm_block (nrm_then (sim_region ?_)))
 refine simL_val (q_move rfl rfl) rfl rfl rfl ?_
 refine simL_val (q_add rfl rfl rfl) rfl rfl rfl ?_
 refine simL_val (q_asg rfl rfl) rfl rfl rfl (simL_nil ?_)
 exact nrm_again (s := (IntKind.i64.wrap (s35v.1 + 1), s55v.1, s55v.2)) (y56v.1, y56v.2) ⟨rfl, rfl, rfl, trivial⟩ (.sel 0 rfl (.sel 0 rfl (.sel 0 rfl (.nil _))))
 refine sim_exi ?_
 refine exi_then ?_
 refine exi_loop ?_
 refine exi_here ?_
 exact nrm_cut (s := (s35v.2.1, s35v.2.2)) (y36v.1, y36v.2) ⟨rfl, trivial⟩ (.sel 0 rfl (.sel 0 rfl (.sel 0 rfl (.nil _))))
 intro s33v y34v
 refine sim_seq (sim_region ?_)
 refine simL_val (q_move rfl rfl) rfl rfl rfl ?_
 refine simL_bind (fun s58v hs60v => ?_)
 refine simL_eff (re_call (vs := [.pointer (some ⟨b29v, 0, none⟩)]) (cap := []) (A := [obj b29v 143 [.slice y34v.1 s33v.1.length y34v.2, .int .i64 s33v.2], Row 5 1 y34v.1 s33v.1.length y34v.2 (encB s33v.1)]) (rst := [F]) rfl rfl rfl rfl rfl rfl Try.call80 (.sel 0 rfl (.sel 0 rfl (.sel 0 rfl (.nil _)))) (synodref1_Writer_Done_s_c0p0.calls _ _ b29v y34v.1 y34v.2 s33v.1 s33v.2 ) hs60v) rfl rfl rfl ?_
 intro y59v
 refine simL_val (q_ext rfl rfl rfl) rfl rfl rfl ?_
 refine simL_val (q_ext rfl rfl rfl) rfl rfl rfl ?_
 refine simL_val (q_asg rfl rfl) rfl rfl rfl ?_
 refine simL_val (q_asg rfl rfl) rfl rfl rfl (simL_nil (nrm_then (sim_rtn ?_)))
 exact rtn_fn (y59v.1, y59v.2) rfl rfl rfl (.sel 0 rfl (.sel 0 rfl (.nil _)))

def wire_NewReader.f (x0 : List UInt8) : Option (List UInt8 × Int × Int) := (wire_fresh.f x0).bind fun s1v => (some (s1v, 0, 0))
theorem wire_NewReader.calls (W : World) (F : HA) (a0 : Option Addr) (c0 : Nat) (x0 : List UInt8) (h0 : Rd F a0 (encB x0)) (hc0 : x0.length ≤ c0) (hm0 : c0 ≤ maxLen) :
    Fn Try.prog W 82 [.slice a0 x0.length c0] [] F (wire_NewReader.f x0) (fun (r : List UInt8 × Int × Int) (y : Nat × Option Addr × Nat) => .pointer (some ⟨y.1, 0, none⟩)) (fun r y => [obj y.1 194 [.slice y.2.1 r.1.length y.2.2, .int .i64 r.2.1, .int .i64 r.2.2], Row 5 1 y.2.1 r.1.length y.2.2 (encB r.1)]) := by
 unfold wire_NewReader.f
 refine fn_intro 7 Try.func82 rfl Try.ntmps82 rfl ?_
 refine sim_seq (sim_region ?_)
 refine simL_val (q_asg rfl rfl) rfl rfl rfl (simL_nil (nrm_then (sim_seq (sim_region ?_))))
 refine simL_val (q_move rfl rfl) rfl rfl rfl ?_
 refine simL_bind (fun s1v hs3v => ?_)
 refine simL_eff (re_call (vs := [.slice a0 x0.length c0]) (cap := []) (A := []) (rst := [F]) rfl rfl rfl rfl rfl rfl Try.call128 (.sel 0 rfl (.nil _)) (wire_fresh.calls _ _ a0 c0 x0 (h0.lend 0 rfl) hc0 hm0) hs3v) rfl rfl rfl ?_
 intro y2v
 refine simL_val (q_build (v := .agg #[.slice y2v.1 s1v.length y2v.2, .int .i64 0, .int .i64 0]) rfl rfl (fun _ => by kernel_rfl)) rfl rfl rfl ?_
 refine simL_eff (re_box rfl rfl rfl) rfl rfl rfl ?_
 intro b4v
 refine simL_val (q_asg rfl rfl) rfl rfl rfl (simL_nil (nrm_then (sim_rtn ?_)))
 exact rtn_fn (b4v, y2v.1, y2v.2) rfl rfl rfl (.sel 0 rfl (.sel 0 rfl (.sel 0 rfl (.nil _))))

def wire_Int.l0 (x0 : List UInt8) (x1 : Int) : Nat → Int → Int → Option ((Unit) ⊕ (Int × Int × Int))
  | 0, _, _ => none
  | k + 1, z7v, z8v => if z8v < (9 : Int) then (if IntKind.i64.wrap ((x0.length : Int) - x1) ≤ z8v then (some (.inr (0, 0, 2))) else (if 0 ≤ IntKind.i64.wrap (x1 + z8v) ∧ IntKind.i64.wrap (x1 + z8v) < (x0.length : Int) then (if 0 ≤ IntKind.i64.wrap (7 * z8v) then (if (128 : Int) ≤ ((x0.getD (IntKind.i64.wrap (x1 + z8v)).toNat 0).toNat : Int) then (wire_Int.l0 x0 x1 k (bitsV .or .i64 z7v (IntKind.i64.wrap ((IntKind.i64.wrap (bitsV .and .u8 ((x0.getD (IntKind.i64.wrap (x1 + z8v)).toNat 0).toNat : Int) 127)) * 2 ^ (min (IntKind.i64.wrap (7 * z8v)).toNat IntKind.i64.bits)))) (IntKind.i64.wrap (z8v + 1))) else (if ((decide (((x0.getD (IntKind.i64.wrap (x1 + z8v)).toNat 0).toNat : Int) = (0 : Int))) && (decide ((0 : Int) < z8v))) = true then (some (.inr (0, 0, 4))) else (if (4611686018427387904 : Int) < bitsV .or .i64 z7v (IntKind.i64.wrap ((IntKind.i64.wrap (bitsV .and .u8 ((x0.getD (IntKind.i64.wrap (x1 + z8v)).toNat 0).toNat : Int) 127)) * 2 ^ (min (IntKind.i64.wrap (7 * z8v)).toNat IntKind.i64.bits))) then (some (.inr (0, 0, 1))) else (some (.inr (bitsV .or .i64 z7v (IntKind.i64.wrap ((IntKind.i64.wrap (bitsV .and .u8 ((x0.getD (IntKind.i64.wrap (x1 + z8v)).toNat 0).toNat : Int) 127)) * 2 ^ (min (IntKind.i64.wrap (7 * z8v)).toNat IntKind.i64.bits))), IntKind.i64.wrap (z8v + 1), 0)))))) else none) else none)) else (some (.inl ()))
def wire_Int.f (k : Nat) (x0 : List UInt8) (x1 : Int) : Option (Int × Int × Int) := if ((decide (x1 < (0 : Int))) || (decide ((x0.length : Int) ≤ x1))) = true then (some (0, 0, 2)) else (orR (wire_Int.l0 x0 x1 k 0 0) fun s3v => (some (0, 0, 4)))
theorem wire_Int.calls (W : World) (F : HA) (k : Nat) (a0 : Option Addr) (c0 : Nat) (x0 : List UInt8) (x1 : Int) (h0 : Rd F a0 (encB x0)) (hc0 : x0.length ≤ c0) (hm0 : c0 ≤ maxLen) :
    Fn Try.prog W 138 [.slice a0 x0.length c0, .int .i64 x1] [] F (wire_Int.f k x0 x1) (fun (r : Int × Int × Int) (y : Unit) => .tuple #[.int .i64 r.1, .int .i64 r.2.1, .int .i64 r.2.2]) (fun r y => []) := by
 unfold wire_Int.f
 refine fn_intro 55 Try.func138 rfl Try.ntmps138 rfl ?_
 refine sim_seq (sim_region ?_)
 refine simL_val (q_asg rfl rfl) rfl rfl rfl ?_
 refine simL_val (q_asg rfl rfl) rfl rfl rfl ?_
 refine simL_val (q_asg rfl rfl) rfl rfl rfl (simL_nil (nrm_then (sim_seq (sim_seq (sim_region ?_)))))
 refine simL_val (q_move rfl rfl) rfl rfl rfl ?_
 refine simL_val (q_lss rfl rfl rfl) rfl rfl rfl ?_
 refine simL_val (q_move rfl rfl) rfl rfl rfl ?_
 refine simL_valc (b := decide (x1 < (0 : Int))) (fun hb29v => RQ.sub (E' := [(1, .int .i64 x1)]) ⟨rfl, trivial⟩ (q_move rfl rfl)) rfl rfl rfl rfl rfl ?_
 refine simL_valc (b := decide (x1 < (0 : Int))) (fun hb28v => RQ.sub (E' := [(0, .slice a0 x0.length c0)]) ⟨rfl, trivial⟩ (q_move rfl rfl)) rfl rfl rfl rfl rfl ?_
 refine simL_valc (b := decide (x1 < (0 : Int))) (fun hb27v => RQ.sub (E' := [(14, .slice a0 x0.length c0)]) ⟨lk_cv rfl hb27v, trivial⟩ (q_len rfl rfl rfl Try.underlying27)) rfl rfl rfl rfl rfl ?_
 refine simL_valc (b := decide (x1 < (0 : Int))) (fun hb26v => RQ.sub (E' := [(13, .int .i64 x1), (15, .int .i64 (x0.length : Int))]) ⟨lk_cv rfl hb26v, lk_cv rfl hb26v, trivial⟩ (q_geq rfl rfl rfl)) rfl rfl rfl rfl rfl ?_
 refine simL_val (q_or rfl rfl rfl) rfl rfl rfl (simL_nil (nrm_then ?_))
 refine sim_condb rfl (fun h1v => ?_) (fun h2v => ?_)
 refine sim_seq (sim_region ?_)
 refine simL_val (q_asg rfl rfl) rfl rfl rfl ?_
 refine simL_val (q_asg rfl rfl) rfl rfl rfl ?_
 refine simL_val (q_asg rfl rfl) rfl rfl rfl (simL_nil (nrm_then (sim_rtn ?_)))
 refine rtn_then ?_
 exact rtn_fn () rfl rfl rfl (.sel 0 rfl (.nil _))
 refine sim_skip ?_
 refine nrm_then (sim_seq (sim_region ?_))
 refine simL_val (q_asg rfl rfl) rfl rfl rfl (simL_nil (nrm_then ?_))
 refine sim_cutR (S := Unit) (Unit) (fun s y => []) (fun s y => [F]) ?_ ?_
 refine sim_seq (sim_region ?_)
 refine simL_val (q_asg rfl rfl) rfl rfl rfl (simL_nil (nrm_then ?_))
 refine sim_block ?_
 refine sim_loop (S := Int × Int) (Unit) (fun k s => wire_Int.l0 x0 x1 k s.1 s.2) (fun s y => [(0, .slice a0 x0.length c0), (1, .int .i64 x1), (7, .int .i64 s.1), (8, .int .i64 s.2)]) (fun s y => [F]) (fun _ => by rw [wire_Int.l0]) ?_ k (0, 0) () ⟨rfl, rfl, rfl, rfl, trivial⟩ (.sel 0 rfl (.nil _))
 intro k s5v y6v
 refine sim_eq (by rw [wire_Int.l0]) ?_
 refine sim_seq (sim_seq (sim_region ?_))
 refine simL_val (q_move rfl rfl) rfl rfl rfl ?_
 refine simL_val (q_lss rfl rfl rfl) rfl rfl rfl (simL_nil (nrm_then ?_))
 refine sim_cond rfl (fun h9v => ?_) (fun h10v => ?_)
 refine sim_skip ?_
 refine nrm_then (sim_seq ?_)
 refine sim_block ?_
 refine sim_seq (sim_seq (sim_region ?_))
 refine simL_val (q_move rfl rfl) rfl rfl rfl ?_
 refine simL_val (q_move rfl rfl) rfl rfl rfl ?_
 refine simL_val (q_len rfl rfl rfl Try.underlying27) rfl rfl rfl ?_
 refine simL_val (q_move rfl rfl) rfl rfl rfl ?_
 refine simL_val (q_sub rfl rfl rfl) rfl rfl rfl ?_
 refine simL_val (q_geq rfl rfl rfl) rfl rfl rfl (simL_nil (nrm_then ?_))
 refine sim_cond rfl (fun h11v => ?_) (fun h12v => ?_)
 refine sim_seq (sim_region ?_)
 refine simL_val (q_asg rfl rfl) rfl rfl rfl ?_
 refine simL_val (q_asg rfl rfl) rfl rfl rfl ?_
 refine simL_val (q_asg rfl rfl) rfl rfl rfl (simL_nil (nrm_then (sim_rtn ?_)))
 refine rtn_then ?_
 refine rtn_block ?_
 refine rtn_then ?_
 refine rtn_loop ?_
 refine rtn_block ?_
 refine rtn_cutR ?_
 exact rtn_fn () rfl rfl rfl (.sel 0 rfl (.nil _))
 refine sim_skip ?_
 refine nrm_then (sim_seq (sim_region ?_))
 refine simL_val (q_move rfl rfl) rfl rfl rfl ?_
 refine simL_val (q_move rfl rfl) rfl rfl rfl ?_
 refine simL_val (q_move rfl rfl) rfl rfl rfl ?_
 refine simL_val (q_add rfl rfl rfl) rfl rfl rfl ?_
 refine simL_ask (fun hi13v => ?_)
 obtain ⟨b14v, b14vo, ha15v⟩ := h0.pos (encB_ne (j := (IntKind.i64.wrap (x1 + s5v.2)).toNat) (by omega))
 refine simL_val (q_idx1 rfl rfl rfl ha15v Try.underlying27 Try.sizeOf5 hi13v.1 hi13v.2) rfl rfl rfl ?_
 refine simL_val (q_load rfl rfl Try.isAgg5 (h0.cell 0 rfl ha15v (encB_get (by omega)))) rfl rfl rfl ?_
 refine simL_val (q_asg rfl rfl) rfl rfl rfl (simL_nil (nrm_then (sim_seq (sim_region ?_))))
 refine simL_val (q_move rfl rfl) rfl rfl rfl ?_
 refine simL_val (q_move rfl rfl) rfl rfl rfl ?_
 refine simL_val (q_and_ rfl rfl rfl) rfl rfl rfl ?_
 refine simL_val (q_conv rfl rfl Try.underlying5 Try.underlying3) rfl rfl rfl ?_
 refine simL_val (q_move rfl rfl) rfl rfl rfl ?_
 refine simL_val (q_mul rfl rfl rfl) rfl rfl rfl ?_
 refine simL_ask (fun hb17v => ?_)
 refine simL_val (q_shl rfl rfl rfl hb17v) rfl rfl rfl ?_
 refine simL_val (q_or_ rfl rfl rfl) rfl rfl rfl ?_
 refine simL_val (q_asg rfl rfl) rfl rfl rfl (simL_nil (nrm_then (sim_seq (sim_seq (sim_region ?_)))))
 refine simL_val (q_move rfl rfl) rfl rfl rfl ?_
 refine simL_val (q_geq rfl rfl rfl) rfl rfl rfl (simL_nil (nrm_then ?_))
 refine sim_cond rfl (fun h18v => ?_) (fun h19v => ?_)
 refine sim_exi ?_
 refine exi_then ?_
 refine exi_here ?_
 refine nrm_then (sim_region ?_)
 refine simL_val (q_move rfl rfl) rfl rfl rfl ?_
 refine simL_val (q_add rfl rfl rfl) rfl rfl rfl ?_
 refine simL_val (q_asg rfl rfl) rfl rfl rfl (simL_nil ?_)
 exact nrm_again (s := (bitsV .or .i64 s5v.1 (IntKind.i64.wrap ((IntKind.i64.wrap (bitsV .and .u8 ((x0.getD (IntKind.i64.wrap (x1 + s5v.2)).toNat 0).toNat : Int) 127)) * 2 ^ (min (IntKind.i64.wrap (7 * s5v.2)).toNat IntKind.i64.bits))), IntKind.i64.wrap (s5v.2 + 1))) () ⟨rfl, rfl, rfl, rfl, trivial⟩ (.sel 0 rfl (.nil _))
 refine sim_skip ?_
 refine nrm_then (sim_seq (sim_seq (sim_region ?_)))
 refine simL_val (q_move rfl rfl) rfl rfl rfl ?_
 refine simL_val (q_eql rfl rfl rfl) rfl rfl rfl ?_
 refine simL_val (q_move rfl rfl) rfl rfl rfl ?_
 refine simL_valc (b := decide (((x0.getD (IntKind.i64.wrap (x1 + s5v.2)).toNat 0).toNat : Int) = (0 : Int))) (fun hb25v => RQ.sub (E' := [(8, .int .i64 s5v.2)]) ⟨rfl, trivial⟩ (q_move rfl rfl)) rfl rfl rfl rfl rfl ?_
 refine simL_valc (b := decide (((x0.getD (IntKind.i64.wrap (x1 + s5v.2)).toNat 0).toNat : Int) = (0 : Int))) (fun hb24v => RQ.sub (E' := [(47, .int .i64 s5v.2)]) ⟨lk_cv rfl hb24v, trivial⟩ (q_gtr rfl rfl rfl)) rfl rfl rfl rfl rfl ?_
 refine simL_val (q_and rfl rfl rfl) rfl rfl rfl (simL_nil (nrm_then ?_))
 refine sim_condb rfl (fun h20v => ?_) (fun h21v => ?_)
 refine sim_seq (sim_region ?_)
 refine simL_val (q_asg rfl rfl) rfl rfl rfl ?_
 refine simL_val (q_asg rfl rfl) rfl rfl rfl ?_
 refine simL_val (q_asg rfl rfl) rfl rfl rfl (simL_nil (nrm_then (sim_rtn ?_)))
 refine rtn_then ?_
 refine rtn_block ?_
 refine rtn_then ?_
 refine rtn_loop ?_
 refine rtn_block ?_
 refine rtn_cutR ?_
 exact rtn_fn () rfl rfl rfl (.sel 0 rfl (.nil _))
 refine sim_skip ?_
 refine nrm_then (sim_seq (sim_seq (sim_region ?_)))
 refine simL_val (q_move rfl rfl) rfl rfl rfl ?_
 refine simL_val (q_gtr rfl rfl rfl) rfl rfl rfl (simL_nil (nrm_then ?_))
 refine sim_cond rfl (fun h22v => ?_) (fun h23v => ?_)
 refine sim_seq (sim_region ?_)
 refine simL_val (q_asg rfl rfl) rfl rfl rfl ?_
 refine simL_val (q_asg rfl rfl) rfl rfl rfl ?_
 refine simL_val (q_asg rfl rfl) rfl rfl rfl (simL_nil (nrm_then (sim_rtn ?_)))
 refine rtn_then ?_
 refine rtn_block ?_
 refine rtn_then ?_
 refine rtn_loop ?_
 refine rtn_block ?_
 refine rtn_cutR ?_
 exact rtn_fn () rfl rfl rfl (.sel 0 rfl (.nil _))
 refine sim_skip ?_
 refine nrm_then (sim_seq (sim_region ?_))
 refine simL_val (q_move rfl rfl) rfl rfl rfl ?_
 refine simL_val (q_move rfl rfl) rfl rfl rfl ?_
 refine simL_val (q_add rfl rfl rfl) rfl rfl rfl ?_
 refine simL_val (q_asg rfl rfl) rfl rfl rfl ?_
 refine simL_val (q_asg rfl rfl) rfl rfl rfl ?_
 refine simL_val (q_asg rfl rfl) rfl rfl rfl (simL_nil (nrm_then (sim_rtn ?_)))
 refine rtn_block ?_
 refine rtn_then ?_
 refine rtn_loop ?_
 refine rtn_block ?_
 refine rtn_cutR ?_
 exact rtn_fn () rfl rfl rfl (.sel 0 rfl (.nil _))
 refine sim_exi ?_
 refine exi_then ?_
 refine exi_loop ?_
 refine exi_here ?_
 exact nrm_cutR (s := ()) () trivial (.sel 0 rfl (.nil _))
 intro s3v y4v
 refine sim_seq (sim_region ?_)
 refine simL_val (q_asg rfl rfl) rfl rfl rfl ?_
 refine simL_val (q_asg rfl rfl) rfl rfl rfl ?_
 refine simL_val (q_asg rfl rfl) rfl rfl rfl (simL_nil (nrm_then (sim_rtn ?_)))
 exact rtn_fn () rfl rfl rfl (.sel 0 rfl (.nil _))

def wire_Reader_look.f (k : Nat) (x0_0 : List UInt8) (x0_1 : Int) (x0_2 : Int) : Option (Int × Int × Bool × Int × Int) := if x0_2 = (0 : Int) then ((wire_Int.f k x0_0 x0_1).bind fun s3v => (some (s3v.1, s3v.2.1, decide (s3v.2.2 = (0 : Int)), x0_1, s3v.2.2))) else (some (0, 0, false, x0_1, x0_2))
theorem wire_Reader_look.calls (W : World) (F : HA) (k : Nat) (b0 : Nat) (a0_0 : Option Addr) (c0_0 : Nat) (x0_0 : List UInt8) (x0_1 : Int) (x0_2 : Int) (h0_0 : Rd F a0_0 (encB x0_0)) (hc0_0 : x0_0.length ≤ c0_0) (hm0_0 : c0_0 ≤ maxLen) :
    Fn Try.prog W 129 [.pointer (some ⟨b0, 0, none⟩)] [obj b0 194 [.slice a0_0 x0_0.length c0_0, .int .i64 x0_1, .int .i64 x0_2]] F (wire_Reader_look.f k x0_0 x0_1 x0_2) (fun (r : Int × Int × Bool × Int × Int) (y : Unit) => .tuple #[.int .i64 r.1, .int .i64 r.2.1, .bool r.2.2.1]) (fun r y => [obj b0 194 [.slice a0_0 x0_0.length c0_0, .int .i64 r.2.2.2.1, .int .i64 r.2.2.2.2]]) := by
 unfold wire_Reader_look.f
 refine fn_intro 34 Try.func129 rfl Try.ntmps129 rfl ?_
 refine sim_seq (sim_region ?_)
 refine simL_val (q_asg rfl rfl) rfl rfl rfl ?_
 refine simL_val (q_asg rfl rfl) rfl rfl rfl ?_
 refine simL_val (q_asg rfl rfl) rfl rfl rfl (simL_nil (nrm_then (sim_seq (sim_seq (sim_region ?_)))))
 refine simL_val (q_move rfl rfl) rfl rfl rfl ?_
 refine simL_val (q_nil rfl rfl) rfl rfl rfl ?_
 refine simL_val (q_fa rfl rfl Try.underlying194 rfl rfl Try.sizeOf46 rfl) rfl rfl rfl ?_
 refine simL_val (q_load rfl rfl Try.isAgg46 (.obj 0 rfl rfl)) rfl rfl rfl ?_
 refine simL_val (q_neq rfl rfl rfl) rfl rfl rfl (simL_nil (nrm_then ?_))
 refine sim_condn rfl (fun h1v => ?_) (fun h2v => ?_)
 refine sim_skip ?_
 refine nrm_then (sim_seq ?_)
 refine sim_bind (fun s3v hs5v => ?_)
 refine sim_draw (Γ := Unit) () [[], [0], [0, 1], [0, 1, 2], [], [4], [4, 5], [4, 5, 6], [0, 1, 2, 3, 4, 5, 6, 7], [0, 1, 2, 3, 4, 5, 6, 7, 8], [0, 1, 2, 3, 4, 5, 6, 7, 8, 9], [0, 1, 2, 3, 4, 5, 6, 7, 8, 9], [0, 1, 2, 3, 4, 5, 6, 7, 8, 9], [0, 1, 2, 3, 4, 5, 6, 7, 8, 9, 10], [0, 1, 2, 3, 4, 5, 6, 7, 8, 9, 10, 11, 13], [0, 1, 2, 3, 4, 5, 6, 7, 8, 9, 10, 11, 12, 13, 14]] [8] [0, 1, 2, 3, 4, 5, 6, 7, 9, 10, 11, 12, 13, 14, 15] (fun i => [[0], [0], [0], [0], [0], [0], [0], [0], [], [1], [1], [1], [1], [1], [1], [1]].getD i []) (fun i => [[], [], [], [], [], [], [], [], [0, 1, 2, 3, 4, 5, 6, 7], [], [], [], [], [], [], []].getD i []) (fun γ i => [.pointer (some ⟨b0, 0, none⟩), .pointer (some ⟨b0, 0, none⟩), .pointer (some ⟨b0, 0, none⟩), .slice a0_0 x0_0.length c0_0, .pointer (some ⟨b0, 0, none⟩), .pointer (some ⟨b0, 0, none⟩), .pointer (some ⟨b0, 1, none⟩), .int .i64 x0_1, .tuple #[.int .i64 s3v.1, .int .i64 s3v.2.1, .int .i64 s3v.2.2], .tuple #[.int .i64 s3v.1, .int .i64 s3v.2.1, .int .i64 s3v.2.2], .int .i64 s3v.1, .int .i64 s3v.2.1, .int .i64 s3v.2.2, .int .i64 s3v.1, .int .i64 s3v.2.1, .int .i64 s3v.2.2].getD i undef) (fun j γ => [[obj b0 194 [.slice a0_0 x0_0.length c0_0, .int .i64 x0_1, .int .i64 x0_2], F], [obj b0 194 [.slice a0_0 x0_0.length c0_0, .int .i64 x0_1, .int .i64 x0_2], F]].getD j []) (fun γ => [(0, .pointer (some ⟨b0, 0, none⟩)), (5, .int .i64 s3v.1), (6, .int .i64 s3v.2.1), (7, .int .i64 s3v.2.2)]) mixed (by decide) (by decide) (by decide) (by decide) (by decide) (by decide) (by decide) 34 rfl (by decide) (by decide) (by decide) (Ent.refl _) ?_ ?_ (fun _ => ⟨rfl, rfl, rfl, rfl, trivial⟩) ?_
 exact (All.cons (fun γ => (All.cons (QOb.plain [(0, .pointer (some ⟨b0, 0, none⟩))] rfl rfl (.o rfl (by decide) .nil) (q_move rfl rfl) rfl) All.nil)) (All.cons (fun γ => (All.cons (QOb.plain [(14, .pointer (some ⟨b0, 0, none⟩))] rfl rfl (.w 0 rfl rfl rfl .nil) (q_nil rfl rfl) rfl) All.nil)) (All.cons (fun γ => (All.cons (QOb.plain [(15, .pointer (some ⟨b0, 0, none⟩))] rfl rfl (.w 1 rfl rfl rfl .nil) (q_fa rfl rfl Try.underlying194 rfl rfl Try.sizeOf27 rfl) rfl) All.nil)) (All.cons (fun γ => (All.cons (QOb.plain [(16, .pointer (some ⟨b0, 0, none⟩))] rfl rfl (.w 2 rfl rfl rfl .nil) (q_load rfl rfl Try.isAgg27 (.obj 0 rfl rfl)) rfl) All.nil)) (All.cons (fun γ => (All.cons (QOb.plain [(0, .pointer (some ⟨b0, 0, none⟩))] rfl rfl (.o rfl (by decide) .nil) (q_move rfl rfl) rfl) All.nil)) (All.cons (fun γ => (All.cons (QOb.plain [(18, .pointer (some ⟨b0, 0, none⟩))] rfl rfl (.w 4 rfl rfl rfl .nil) (q_nil rfl rfl) rfl) All.nil)) (All.cons (fun γ => (All.cons (QOb.plain [(19, .pointer (some ⟨b0, 0, none⟩))] rfl rfl (.w 5 rfl rfl rfl .nil) (q_fa rfl rfl Try.underlying194 rfl rfl Try.sizeOf3 rfl) rfl) All.nil)) (All.cons (fun γ => (All.cons (QOb.plain [(20, .pointer (some ⟨b0, 1, none⟩))] rfl rfl (.w 6 rfl rfl rfl .nil) (q_load rfl rfl Try.isAgg3 (.obj 0 rfl rfl)) rfl) All.nil)) (All.cons (fun γ => (All.cons (QOb.plain [(22, .tuple #[.int .i64 s3v.1, .int .i64 s3v.2.1, .int .i64 s3v.2.2])] rfl rfl (.w 8 rfl rfl rfl .nil) (q_move rfl rfl) rfl) All.nil)) (All.cons (fun γ => (All.cons (QOb.plain [(13, .tuple #[.int .i64 s3v.1, .int .i64 s3v.2.1, .int .i64 s3v.2.2])] rfl rfl (.w 9 rfl rfl rfl .nil) (q_ext rfl rfl rfl) rfl) All.nil)) (All.cons (fun γ => (All.cons (QOb.plain [(13, .tuple #[.int .i64 s3v.1, .int .i64 s3v.2.1, .int .i64 s3v.2.2])] rfl rfl (.w 9 rfl rfl rfl .nil) (q_ext rfl rfl rfl) rfl) All.nil)) (All.cons (fun γ => (All.cons (QOb.plain [(13, .tuple #[.int .i64 s3v.1, .int .i64 s3v.2.1, .int .i64 s3v.2.2])] rfl rfl (.w 9 rfl rfl rfl .nil) (q_ext rfl rfl rfl) rfl) All.nil)) (All.cons (fun γ => (All.cons (QOb.plain [(23, .int .i64 s3v.1)] rfl rfl (.w 10 rfl rfl rfl .nil) (q_asg rfl rfl) rfl) All.nil)) (All.cons (fun γ => (All.cons (QOb.plain [(24, .int .i64 s3v.2.1)] rfl rfl (.w 11 rfl rfl rfl .nil) (q_asg rfl rfl) rfl) All.nil)) (All.cons (fun γ => (All.cons (QOb.plain [(25, .int .i64 s3v.2.2)] rfl rfl (.w 12 rfl rfl rfl .nil) (q_asg rfl rfl) rfl) All.nil)) All.nil)))))))))))))))
 exact (All.cons (fun γ => EOb.mk (Z := Unit) [(17, .slice a0_0 x0_0.length c0_0), (21, .int .i64 x0_1)] (fun z => ()) rfl rfl (.w 3 rfl rfl rfl (.w 7 rfl rfl rfl .nil)) (re_call (vs := [.slice a0_0 x0_0.length c0_0, .int .i64 x0_1]) (cap := []) (A := []) (rst := [obj b0 194 [.slice a0_0 x0_0.length c0_0, .int .i64 x0_1, .int .i64 x0_2], F]) rfl rfl rfl rfl rfl rfl Try.call138 (.sel 0 rfl (.sel 0 rfl (.nil _))) (wire_Int.calls _ _ k a0_0 c0_0 x0_0 x0_1 (h0_0.lend 1 rfl) hc0_0 hm0_0) hs5v) (fun _ => ⟨rfl, rfl, rfl, rfl, rfl, rfl, rfl, rfl, trivial⟩) (fun _ => .inr rfl) (fun z => Ent.refl _)) All.nil)
 intro g6v
 refine nrm_then (sim_seq (sim_region ?_))
 refine simL_val (q_move rfl rfl) rfl rfl rfl ?_
 refine simL_val (q_move rfl rfl) rfl rfl rfl ?_
 refine simL_val (q_nil rfl rfl) rfl rfl rfl ?_
 refine simL_val (q_fa rfl rfl Try.underlying194 rfl rfl Try.sizeOf46 rfl) rfl rfl rfl ?_
 refine simL_do (re_store 0 rfl rfl rfl Try.sizeOf46 rfl rfl (one_of (by rfl)) rfl rfl) rfl rfl ?_
 intro _
 refine simL_nil (nrm_then (sim_seq (sim_region ?_)))
 refine simL_val (q_move rfl rfl) rfl rfl rfl ?_
 refine simL_val (q_move rfl rfl) rfl rfl rfl ?_
 refine simL_val (q_move rfl rfl) rfl rfl rfl ?_
 refine simL_val (q_eql rfl rfl rfl) rfl rfl rfl ?_
 refine simL_val (q_asg rfl rfl) rfl rfl rfl ?_
 refine simL_val (q_asg rfl rfl) rfl rfl rfl ?_
 refine simL_val (q_asg rfl rfl) rfl rfl rfl (simL_nil (nrm_then (sim_rtn ?_)))
 exact rtn_fn () rfl rfl rfl (.sel 0 rfl (.sel 0 rfl (.nil _)))
 refine sim_seq (sim_region ?_)
 refine simL_val (q_asg rfl rfl) rfl rfl rfl ?_
 refine simL_val (q_asg rfl rfl) rfl rfl rfl ?_
 refine simL_val (q_asg rfl rfl) rfl rfl rfl (simL_nil (nrm_then (sim_rtn ?_)))
 refine rtn_then ?_
 exact rtn_fn () rfl rfl rfl (.sel 0 rfl (.sel 0 rfl (.nil _)))

def wire_Reader_Int.f (k : Nat) (x0_0 : List UInt8) (x0_1 : Int) (x0_2 : Int) : Option (Int × Int × Int) := (wire_Reader_look.f k x0_0 x0_1 x0_2).bind fun s1v => (if (!s1v.2.2.1) = true then (some (0, s1v.2.2.2.1, s1v.2.2.2.2)) else (some (s1v.1, IntKind.i64.wrap (s1v.2.2.2.1 + s1v.2.1), s1v.2.2.2.2)))
theorem wire_Reader_Int.calls (W : World) (F : HA) (k : Nat) (b0 : Nat) (a0_0 : Option Addr) (c0_0 : Nat) (x0_0 : List UInt8) (x0_1 : Int) (x0_2 : Int) (h0_0 : Rd F a0_0 (encB x0_0)) (hc0_0 : x0_0.length ≤ c0_0) (hm0_0 : c0_0 ≤ maxLen) :
    Fn Try.prog W 83 [.pointer (some ⟨b0, 0, none⟩)] [obj b0 194 [.slice a0_0 x0_0.length c0_0, .int .i64 x0_1, .int .i64 x0_2]] F (wire_Reader_Int.f k x0_0 x0_1 x0_2) (fun (r : Int × Int × Int) (y : Unit) => .int .i64 r.1) (fun r y => [obj b0 194 [.slice a0_0 x0_0.length c0_0, .int .i64 r.2.1, .int .i64 r.2.2]]) := by
 unfold wire_Reader_Int.f
 refine fn_intro 23 Try.func83 rfl Try.ntmps83 rfl ?_
 refine sim_seq (sim_region ?_)
 refine simL_val (q_asg rfl rfl) rfl rfl rfl (simL_nil (nrm_then (sim_seq (sim_region ?_))))
 refine simL_val (q_move rfl rfl) rfl rfl rfl ?_
 refine simL_bind (fun s1v hs3v => ?_)
 refine simL_eff (re_call (vs := [.pointer (some ⟨b0, 0, none⟩)]) (cap := []) (A := [obj b0 194 [.slice a0_0 x0_0.length c0_0, .int .i64 x0_1, .int .i64 x0_2]]) (rst := [F]) rfl rfl rfl rfl rfl rfl Try.call129 (.sel 0 rfl (.sel 0 rfl (.nil _))) (wire_Reader_look.calls _ _ k b0 a0_0 c0_0 x0_0 x0_1 x0_2 (h0_0.lend 0 rfl) hc0_0 hm0_0) hs3v) rfl rfl rfl ?_
 intro y2v
 refine simL_val (q_move rfl rfl) rfl rfl rfl ?_
 refine simL_val (q_ext rfl rfl rfl) rfl rfl rfl ?_
 refine simL_val (q_ext rfl rfl rfl) rfl rfl rfl ?_
 refine simL_val (q_ext rfl rfl rfl) rfl rfl rfl ?_
 refine simL_val (q_asg rfl rfl) rfl rfl rfl ?_
 refine simL_val (q_asg rfl rfl) rfl rfl rfl ?_
 refine simL_val (q_asg rfl rfl) rfl rfl rfl (simL_nil (nrm_then (sim_seq (sim_seq (sim_region ?_)))))
 refine simL_val (q_move rfl rfl) rfl rfl rfl ?_
 refine simL_val (q_not rfl rfl) rfl rfl rfl (simL_nil (nrm_then ?_))
 refine sim_condb rfl (fun h4v => ?_) (fun h5v => ?_)
 refine sim_seq (sim_region ?_)
 refine simL_val (q_asg rfl rfl) rfl rfl rfl (simL_nil (nrm_then (sim_rtn ?_)))
 refine rtn_then ?_
 exact rtn_fn () rfl rfl rfl (.sel 0 rfl (.sel 0 rfl (.nil _)))
 refine sim_skip ?_
 refine nrm_then (sim_seq (sim_region ?_))
 refine simL_val (q_move rfl rfl) rfl rfl rfl ?_
 refine simL_val (q_nil rfl rfl) rfl rfl rfl ?_
 refine simL_val (q_fa rfl rfl Try.underlying194 rfl rfl Try.sizeOf3 rfl) rfl rfl rfl ?_
 refine simL_val (q_load rfl rfl Try.isAgg3 (.obj 0 rfl rfl)) rfl rfl rfl ?_
 refine simL_val (q_move rfl rfl) rfl rfl rfl ?_
 refine simL_val (q_add rfl rfl rfl) rfl rfl rfl ?_
 refine simL_val (q_nil rfl rfl) rfl rfl rfl ?_
 refine simL_val (q_fa rfl rfl Try.underlying194 rfl rfl Try.sizeOf3 rfl) rfl rfl rfl ?_
 refine simL_do (re_store 0 rfl rfl rfl Try.sizeOf3 rfl rfl (one_of (by rfl)) rfl rfl) rfl rfl ?_
 intro _
 refine simL_nil (nrm_then (sim_seq (sim_region ?_)))
 refine simL_val (q_move rfl rfl) rfl rfl rfl ?_
 refine simL_val (q_asg rfl rfl) rfl rfl rfl (simL_nil (nrm_then (sim_rtn ?_)))
 exact rtn_fn () rfl rfl rfl (.sel 0 rfl (.sel 0 rfl (.nil _)))

def wire_Reader_At.f (x0_0 : List UInt8) (x0_1 : Int) (x0_2 : Int) : Option (Int) := some x0_1
theorem wire_Reader_At.calls (W : World) (F : HA) (b0 : Nat) (a0_0 : Option Addr) (c0_0 : Nat) (x0_0 : List UInt8) (x0_1 : Int) (x0_2 : Int) (h0_0 : Rd F a0_0 (encB x0_0)) (hc0_0 : x0_0.length ≤ c0_0) (hm0_0 : c0_0 ≤ maxLen) :
    Fn Try.prog W 132 [.pointer (some ⟨b0, 0, none⟩)] [obj b0 194 [.slice a0_0 x0_0.length c0_0, .int .i64 x0_1, .int .i64 x0_2]] F (wire_Reader_At.f x0_0 x0_1 x0_2) (fun (r : Int) (y : Unit) => .int .i64 r) (fun r y => [obj b0 194 [.slice a0_0 x0_0.length c0_0, .int .i64 x0_1, .int .i64 x0_2]]) := by
 unfold wire_Reader_At.f
 refine fn_intro 7 Try.func132 rfl Try.ntmps132 rfl ?_
 refine sim_seq (sim_region ?_)
 refine simL_val (q_asg rfl rfl) rfl rfl rfl (simL_nil (nrm_then (sim_seq (sim_region ?_))))
 refine simL_val (q_move rfl rfl) rfl rfl rfl ?_
 refine simL_val (q_nil rfl rfl) rfl rfl rfl ?_
 refine simL_val (q_fa rfl rfl Try.underlying194 rfl rfl Try.sizeOf3 rfl) rfl rfl rfl ?_
 refine simL_val (q_load rfl rfl Try.isAgg3 (.obj 0 rfl rfl)) rfl rfl rfl ?_
 refine simL_val (q_asg rfl rfl) rfl rfl rfl (simL_nil (nrm_then (sim_rtn ?_)))
 exact rtn_fn () rfl rfl rfl (.sel 0 rfl (.sel 0 rfl (.nil _)))
def wire_Reader_At.v (x0_0 : List UInt8) (x0_1 : Int) (x0_2 : Int) : Int := (wire_Reader_At.f x0_0 x0_1 x0_2).getD 0
theorem wire_Reader_At.tot (x0_0 : List UInt8) (x0_1 : Int) (x0_2 : Int) : wire_Reader_At.f x0_0 x0_1 x0_2 = some (wire_Reader_At.v x0_0 x0_1 x0_2) := by
  have h : ∃ r, wire_Reader_At.f x0_0 x0_1 x0_2 = some r := by
    unfold wire_Reader_At.f
    repeat' (first | exact ⟨_, rfl⟩ | split | simp only [Option.bind_some])
  obtain ⟨r, h⟩ := h
  unfold wire_Reader_At.v
  rw [h]; rfl

def wire_Reader_Bytes.f (k : Nat) (x0_0 : List UInt8) (x0_1 : Int) (x0_2 : Int) (x1 : Int) : Option (List UInt8 × Int × Int) := (wire_Reader_look.f k x0_0 x0_1 x0_2).bind fun s1v => (if (!s1v.2.2.1) = true then (some (([] : List UInt8), s1v.2.2.2.1, s1v.2.2.2.2)) else (if max x1 (0 : Int) < s1v.1 then (some (([] : List UInt8), s1v.2.2.2.1, 3)) else (if IntKind.i64.wrap ((IntKind.i64.wrap ((x0_0.length : Int) - s1v.2.2.2.1)) - s1v.2.1) < s1v.1 then (some (([] : List UInt8), s1v.2.2.2.1, 2)) else (if 0 ≤ IntKind.i64.wrap (s1v.2.2.2.1 + s1v.2.1) ∧ IntKind.i64.wrap (s1v.2.2.2.1 + s1v.2.1) ≤ IntKind.i64.wrap ((IntKind.i64.wrap (s1v.2.2.2.1 + s1v.2.1)) + s1v.1) ∧ IntKind.i64.wrap ((IntKind.i64.wrap (s1v.2.2.2.1 + s1v.2.1)) + s1v.1) ≤ (x0_0.length : Int) then ((wire_fresh.f (cut x0_0 (IntKind.i64.wrap (s1v.2.2.2.1 + s1v.2.1)) (IntKind.i64.wrap ((IntKind.i64.wrap (s1v.2.2.2.1 + s1v.2.1)) + s1v.1)))).bind fun s18v => (some (s18v, IntKind.i64.wrap ((IntKind.i64.wrap (s1v.2.2.2.1 + s1v.2.1)) + s1v.1), s1v.2.2.2.2))) else none))))
theorem wire_Reader_Bytes.calls (W : World) (F : HA) (k : Nat) (b0 : Nat) (a0_0 : Option Addr) (c0_0 : Nat) (x0_0 : List UInt8) (x0_1 : Int) (x0_2 : Int) (x1 : Int) (h0_0 : Rd F a0_0 (encB x0_0)) (hc0_0 : x0_0.length ≤ c0_0) (hm0_0 : c0_0 ≤ maxLen) :
    Fn Try.prog W 90 [.pointer (some ⟨b0, 0, none⟩), .int .i64 x1] [obj b0 194 [.slice a0_0 x0_0.length c0_0, .int .i64 x0_1, .int .i64 x0_2]] F (wire_Reader_Bytes.f k x0_0 x0_1 x0_2 x1) (fun (r : List UInt8 × Int × Int) (y : Option Addr × Nat) => .slice y.1 r.1.length y.2) (fun r y => [Row 5 1 y.1 r.1.length y.2 (encB r.1), obj b0 194 [.slice a0_0 x0_0.length c0_0, .int .i64 r.2.1, .int .i64 r.2.2]]) := by
 unfold wire_Reader_Bytes.f
 refine fn_intro 67 Try.func90 rfl Try.ntmps90 rfl ?_
 refine sim_seq (sim_region ?_)
 refine simL_val (q_asg rfl rfl) rfl rfl rfl (simL_nil (nrm_then (sim_seq (sim_region ?_))))
 refine simL_val (q_move rfl rfl) rfl rfl rfl ?_
 refine simL_bind (fun s1v hs3v => ?_)
 refine simL_eff (re_call (vs := [.pointer (some ⟨b0, 0, none⟩)]) (cap := []) (A := [obj b0 194 [.slice a0_0 x0_0.length c0_0, .int .i64 x0_1, .int .i64 x0_2]]) (rst := [F]) rfl rfl rfl rfl rfl rfl Try.call129 (.sel 0 rfl (.sel 0 rfl (.nil _))) (wire_Reader_look.calls _ _ k b0 a0_0 c0_0 x0_0 x0_1 x0_2 (h0_0.lend 0 rfl) hc0_0 hm0_0) hs3v) rfl rfl rfl ?_
 intro y2v
 refine simL_val (q_move rfl rfl) rfl rfl rfl ?_
 refine simL_val (q_ext rfl rfl rfl) rfl rfl rfl ?_
 refine simL_val (q_ext rfl rfl rfl) rfl rfl rfl ?_
 refine simL_val (q_ext rfl rfl rfl) rfl rfl rfl ?_
 refine simL_val (q_asg rfl rfl) rfl rfl rfl ?_
 refine simL_val (q_asg rfl rfl) rfl rfl rfl ?_
 refine simL_val (q_asg rfl rfl) rfl rfl rfl (simL_nil (nrm_then (sim_seq ?_)))
 refine sim_block ?_
 refine sim_seq (sim_region ?_)
 refine simL_val (q_move rfl rfl) rfl rfl rfl ?_
 refine simL_val (q_not rfl rfl) rfl rfl rfl ?_
 refine simL_val (q_asg rfl rfl) rfl rfl rfl (simL_nil (nrm_then ?_))
 refine sim_condb rfl (fun h4v => ?_) (fun h5v => ?_)
 refine sim_seq (sim_region ?_)
 refine simL_val (q_asg rfl rfl) rfl rfl rfl (simL_nil (nrm_then (sim_rtn ?_)))
 refine rtn_block ?_
 refine rtn_then ?_
 exact rtn_fn (none, 0) rfl rfl rfl (.row_nil (.sel 0 rfl (.sel 0 rfl (.nil _))))
 refine sim_seq (sim_region ?_)
 refine simL_val (q_move rfl rfl) rfl rfl rfl ?_
 refine simL_val (q_move rfl rfl) rfl rfl rfl ?_
 refine simL_val (q_max rfl rfl rfl) rfl rfl rfl ?_
 refine simL_val (q_gtr rfl rfl rfl) rfl rfl rfl ?_
 refine simL_val (q_asg rfl rfl) rfl rfl rfl (simL_nil (nrm_then ?_))
 refine sim_cond rfl (fun h6v => ?_) (fun h7v => ?_)
 refine sim_seq (sim_region ?_)
 refine simL_val (q_move rfl rfl) rfl rfl rfl ?_
 refine simL_val (q_nil rfl rfl) rfl rfl rfl ?_
 refine simL_val (q_fa rfl rfl Try.underlying194 rfl rfl Try.sizeOf46 rfl) rfl rfl rfl ?_
 refine simL_do (re_store 0 rfl rfl rfl Try.sizeOf46 rfl rfl (one_of (by rfl)) rfl rfl) rfl rfl ?_
 intro _
 refine simL_nil (nrm_then (sim_seq (sim_region ?_)))
 refine simL_val (q_asg rfl rfl) rfl rfl rfl (simL_nil (nrm_then (sim_rtn ?_)))
 refine rtn_block ?_
 refine rtn_then ?_
 exact rtn_fn (none, 0) rfl rfl rfl (.row_nil (.sel 0 rfl (.sel 0 rfl (.nil _))))
 refine sim_seq ?_
 refine sim_draw (Γ := Unit) () [[], [], [1], [1, 2], [1, 2, 3], [1, 2, 3, 4], [], [6], [6, 7], [6, 7, 8], [1, 2, 3, 4, 5, 6, 7, 8, 9], [], [1, 2, 3, 4, 5, 6, 7, 8, 9, 10, 11], [0, 1, 2, 3, 4, 5, 6, 7, 8, 9, 10, 11, 12], [0, 1, 2, 3, 4, 5, 6, 7, 8, 9, 10, 11, 12, 13]] [] [0, 1, 2, 3, 4, 5, 6, 7, 8, 9, 10, 11, 12, 13, 14] (fun i => [[0], [0], [0], [0], [0], [0], [0], [0], [0], [0], [0], [0], [0], [0], [0]].getD i []) (fun i => [[], [], [], [], [], [], [], [], [], [], [], [], [], [], []].getD i []) (fun γ i => [.int .i64 s1v.1, .pointer (some ⟨b0, 0, none⟩), .pointer (some ⟨b0, 0, none⟩), .pointer (some ⟨b0, 0, none⟩), .slice a0_0 x0_0.length c0_0, .int .i64 (x0_0.length : Int), .pointer (some ⟨b0, 0, none⟩), .pointer (some ⟨b0, 0, none⟩), .pointer (some ⟨b0, 1, none⟩), .int .i64 s1v.2.2.2.1, .int .i64 (IntKind.i64.wrap ((x0_0.length : Int) - s1v.2.2.2.1)), .int .i64 s1v.2.1, .int .i64 (IntKind.i64.wrap ((IntKind.i64.wrap ((x0_0.length : Int) - s1v.2.2.2.1)) - s1v.2.1)), .bool (decide (IntKind.i64.wrap ((IntKind.i64.wrap ((x0_0.length : Int) - s1v.2.2.2.1)) - s1v.2.1) < s1v.1)), .bool (decide (IntKind.i64.wrap ((IntKind.i64.wrap ((x0_0.length : Int) - s1v.2.2.2.1)) - s1v.2.1) < s1v.1))].getD i undef) (fun j γ => [[obj b0 194 [.slice a0_0 x0_0.length c0_0, .int .i64 s1v.2.2.2.1, .int .i64 s1v.2.2.2.2], F]].getD j []) (fun γ => [(0, .pointer (some ⟨b0, 0, none⟩)), (5, .int .i64 s1v.1), (6, .int .i64 s1v.2.1), (26, .bool (decide (IntKind.i64.wrap ((IntKind.i64.wrap ((x0_0.length : Int) - s1v.2.2.2.1)) - s1v.2.1) < s1v.1)))]) mixed (by decide) (by decide) (by decide) (by decide) (by decide) (by decide) (by decide) 67 rfl (by decide) (by decide) (by decide) (Ent.refl _) ?_ ?_ (fun _ => ⟨rfl, rfl, rfl, rfl, trivial⟩) ?_
 exact (All.cons (fun γ => (All.cons (QOb.plain [(5, .int .i64 s1v.1)] rfl rfl (.o rfl (by decide) .nil) (q_move rfl rfl) rfl) All.nil)) (All.cons (fun γ => (All.cons (QOb.plain [(0, .pointer (some ⟨b0, 0, none⟩))] rfl rfl (.o rfl (by decide) .nil) (q_move rfl rfl) rfl) All.nil)) (All.cons (fun γ => (All.cons (QOb.plain [(28, .pointer (some ⟨b0, 0, none⟩))] rfl rfl (.w 1 rfl rfl rfl .nil) (q_nil rfl rfl) rfl) All.nil)) (All.cons (fun γ => (All.cons (QOb.plain [(29, .pointer (some ⟨b0, 0, none⟩))] rfl rfl (.w 2 rfl rfl rfl .nil) (q_fa rfl rfl Try.underlying194 rfl rfl Try.sizeOf27 rfl) rfl) All.nil)) (All.cons (fun γ => (All.cons (QOb.plain [(30, .pointer (some ⟨b0, 0, none⟩))] rfl rfl (.w 3 rfl rfl rfl .nil) (q_load rfl rfl Try.isAgg27 (.obj 0 rfl rfl)) rfl) All.nil)) (All.cons (fun γ => (All.cons (QOb.plain [(31, .slice a0_0 x0_0.length c0_0)] rfl rfl (.w 4 rfl rfl rfl .nil) (q_len rfl rfl rfl Try.underlying27) rfl) All.nil)) (All.cons (fun γ => (All.cons (QOb.plain [(0, .pointer (some ⟨b0, 0, none⟩))] rfl rfl (.o rfl (by decide) .nil) (q_move rfl rfl) rfl) All.nil)) (All.cons (fun γ => (All.cons (QOb.plain [(33, .pointer (some ⟨b0, 0, none⟩))] rfl rfl (.w 6 rfl rfl rfl .nil) (q_nil rfl rfl) rfl) All.nil)) (All.cons (fun γ => (All.cons (QOb.plain [(34, .pointer (some ⟨b0, 0, none⟩))] rfl rfl (.w 7 rfl rfl rfl .nil) (q_fa rfl rfl Try.underlying194 rfl rfl Try.sizeOf3 rfl) rfl) All.nil)) (All.cons (fun γ => (All.cons (QOb.plain [(35, .pointer (some ⟨b0, 1, none⟩))] rfl rfl (.w 8 rfl rfl rfl .nil) (q_load rfl rfl Try.isAgg3 (.obj 0 rfl rfl)) rfl) All.nil)) (All.cons (fun γ => (All.cons (QOb.plain [(32, .int .i64 (x0_0.length : Int)), (36, .int .i64 s1v.2.2.2.1)] rfl rfl (.w 5 rfl rfl rfl (.w 9 rfl rfl rfl .nil)) (q_sub rfl rfl rfl) rfl) All.nil)) (All.cons (fun γ => (All.cons (QOb.plain [(6, .int .i64 s1v.2.1)] rfl rfl (.o rfl (by decide) .nil) (q_move rfl rfl) rfl) All.nil)) (All.cons (fun γ => (All.cons (QOb.plain [(37, .int .i64 (IntKind.i64.wrap ((x0_0.length : Int) - s1v.2.2.2.1))), (38, .int .i64 s1v.2.1)] rfl rfl (.w 10 rfl rfl rfl (.w 11 rfl rfl rfl .nil)) (q_sub rfl rfl rfl) rfl) All.nil)) (All.cons (fun γ => (All.cons (QOb.plain [(27, .int .i64 s1v.1), (39, .int .i64 (IntKind.i64.wrap ((IntKind.i64.wrap ((x0_0.length : Int) - s1v.2.2.2.1)) - s1v.2.1)))] rfl rfl (.w 0 rfl rfl rfl (.w 12 rfl rfl rfl .nil)) (q_gtr rfl rfl rfl) rfl) All.nil)) (All.cons (fun γ => (All.cons (QOb.plain [(40, .bool (decide (IntKind.i64.wrap ((IntKind.i64.wrap ((x0_0.length : Int) - s1v.2.2.2.1)) - s1v.2.1) < s1v.1)))] rfl rfl (.w 13 rfl rfl rfl .nil) (q_asg rfl rfl) rfl) All.nil)) All.nil)))))))))))))))
 exact All.nil
 intro g8v
 refine nrm_then ?_
 refine sim_cond rfl (fun h9v => ?_) (fun h10v => ?_)
 refine sim_seq (sim_region ?_)
 refine simL_val (q_move rfl rfl) rfl rfl rfl ?_
 refine simL_val (q_nil rfl rfl) rfl rfl rfl ?_
 refine simL_val (q_fa rfl rfl Try.underlying194 rfl rfl Try.sizeOf46 rfl) rfl rfl rfl ?_
 refine simL_do (re_store 0 rfl rfl rfl Try.sizeOf46 rfl rfl (one_of (by rfl)) rfl rfl) rfl rfl ?_
 intro _
 refine simL_nil (nrm_then (sim_seq (sim_region ?_)))
 refine simL_val (q_asg rfl rfl) rfl rfl rfl (simL_nil (nrm_then (sim_rtn ?_)))
 refine rtn_block ?_
 refine rtn_then ?_
 exact rtn_fn (none, 0) rfl rfl rfl (.row_nil (.sel 0 rfl (.sel 0 rfl (.nil _))))
 refine sim_skip ?_
 refine nrm_block (nrm_then (sim_seq (sim_region ?_)))
 refine simL_val (q_move rfl rfl) rfl rfl rfl ?_
 refine simL_val (q_nil rfl rfl) rfl rfl rfl ?_
 refine simL_val (q_fa rfl rfl Try.underlying194 rfl rfl Try.sizeOf3 rfl) rfl rfl rfl ?_
 refine simL_val (q_load rfl rfl Try.isAgg3 (.obj 0 rfl rfl)) rfl rfl rfl ?_
 refine simL_val (q_move rfl rfl) rfl rfl rfl ?_
 refine simL_val (q_add rfl rfl rfl) rfl rfl rfl ?_
 refine simL_val (q_asg rfl rfl) rfl rfl rfl (simL_nil (nrm_then (sim_seq (sim_region ?_))))
 refine simL_val (q_move rfl rfl) rfl rfl rfl ?_
 refine simL_val (q_move rfl rfl) rfl rfl rfl ?_
 refine simL_val (q_move rfl rfl) rfl rfl rfl ?_
 refine simL_val (q_add rfl rfl rfl) rfl rfl rfl ?_
 refine simL_val (q_nil rfl rfl) rfl rfl rfl ?_
 refine simL_val (q_fa rfl rfl Try.underlying194 rfl rfl Try.sizeOf3 rfl) rfl rfl rfl ?_
 refine simL_do (re_store 0 rfl rfl rfl Try.sizeOf3 rfl rfl (one_of (by rfl)) rfl rfl) rfl rfl ?_
 intro _
 refine simL_nil (nrm_then (sim_seq ?_))
 refine sim_ask (fun hb11v => ?_)
 obtain ⟨a12v, c13v, hS14v, hr15v, hc16v, hm17v⟩ := slice_pre (lo := IntKind.i64.wrap (s1v.2.2.2.1 + s1v.2.1)) (hi := IntKind.i64.wrap ((IntKind.i64.wrap (s1v.2.2.2.1 + s1v.2.1)) + s1v.1)) h0_0 hc0_0 hb11v
 refine sim_bind (fun s18v hs20v => ?_)
 refine sim_draw (Γ := (Option Addr × Nat)) (none, 0) [[], [0], [0, 1], [0, 1, 2], [], [], [5], [5, 6], [5, 6, 7], [0, 1, 2, 3, 4, 5, 6, 7, 8], [0, 1, 2, 3, 4, 5, 6, 7, 8, 9], [0, 1, 2, 3, 4, 5, 6, 7, 8, 9, 10]] [10] [0, 1, 2, 3, 4, 5, 6, 7, 8, 9, 11] (fun i => [[0], [0], [0], [0], [0], [0], [0], [0], [0], [0], [], [1]].getD i []) (fun i => [[], [], [], [], [], [], [], [], [], [], [0, 1, 2, 3, 4, 5, 6, 7, 8, 9], []].getD i []) (fun γ i => [.pointer (some ⟨b0, 0, none⟩), .pointer (some ⟨b0, 0, none⟩), .pointer (some ⟨b0, 0, none⟩), .slice a0_0 x0_0.length c0_0, .int .i64 (IntKind.i64.wrap (s1v.2.2.2.1 + s1v.2.1)), .pointer (some ⟨b0, 0, none⟩), .pointer (some ⟨b0, 0, none⟩), .pointer (some ⟨b0, 1, none⟩), .int .i64 (IntKind.i64.wrap ((IntKind.i64.wrap (s1v.2.2.2.1 + s1v.2.1)) + s1v.1)), .slice a12v ((cut x0_0 (IntKind.i64.wrap (s1v.2.2.2.1 + s1v.2.1)) (IntKind.i64.wrap ((IntKind.i64.wrap (s1v.2.2.2.1 + s1v.2.1)) + s1v.1))).length) c13v, .slice γ.1 s18v.length γ.2, .slice γ.1 s18v.length γ.2].getD i undef) (fun j γ => [[obj b0 194 [.slice a0_0 x0_0.length c0_0, .int .i64 (IntKind.i64.wrap ((IntKind.i64.wrap (s1v.2.2.2.1 + s1v.2.1)) + s1v.1)), .int .i64 s1v.2.2.2.2], F], [Row 5 1 γ.1 s18v.length γ.2 (encB s18v), obj b0 194 [.slice a0_0 x0_0.length c0_0, .int .i64 (IntKind.i64.wrap ((IntKind.i64.wrap (s1v.2.2.2.1 + s1v.2.1)) + s1v.1)), .int .i64 s1v.2.2.2.2], F]].getD j []) (fun γ => [(4, .slice γ.1 s18v.length γ.2)]) mixed (by decide) (by decide) (by decide) (by decide) (by decide) (by decide) (by decide) 67 rfl (by decide) (by decide) (by decide) (Ent.refl _) ?_ ?_ (fun _ => ⟨rfl, trivial⟩) ?_
 exact (All.cons (fun γ => (All.cons (QOb.plain [(0, .pointer (some ⟨b0, 0, none⟩))] rfl rfl (.o rfl (by decide) .nil) (q_move rfl rfl) rfl) All.nil)) (All.cons (fun γ => (All.cons (QOb.plain [(56, .pointer (some ⟨b0, 0, none⟩))] rfl rfl (.w 0 rfl rfl rfl .nil) (q_nil rfl rfl) rfl) All.nil)) (All.cons (fun γ => (All.cons (QOb.plain [(57, .pointer (some ⟨b0, 0, none⟩))] rfl rfl (.w 1 rfl rfl rfl .nil) (q_fa rfl rfl Try.underlying194 rfl rfl Try.sizeOf27 rfl) rfl) All.nil)) (All.cons (fun γ => (All.cons (QOb.plain [(58, .pointer (some ⟨b0, 0, none⟩))] rfl rfl (.w 2 rfl rfl rfl .nil) (q_load rfl rfl Try.isAgg27 (.obj 0 rfl rfl)) rfl) All.nil)) (All.cons (fun γ => (All.cons (QOb.plain [(8, .int .i64 (IntKind.i64.wrap (s1v.2.2.2.1 + s1v.2.1)))] rfl rfl (.o rfl (by decide) .nil) (q_move rfl rfl) rfl) All.nil)) (All.cons (fun γ => (All.cons (QOb.plain [(0, .pointer (some ⟨b0, 0, none⟩))] rfl rfl (.o rfl (by decide) .nil) (q_move rfl rfl) rfl) All.nil)) (All.cons (fun γ => (All.cons (QOb.plain [(61, .pointer (some ⟨b0, 0, none⟩))] rfl rfl (.w 5 rfl rfl rfl .nil) (q_nil rfl rfl) rfl) All.nil)) (All.cons (fun γ => (All.cons (QOb.plain [(62, .pointer (some ⟨b0, 0, none⟩))] rfl rfl (.w 6 rfl rfl rfl .nil) (q_fa rfl rfl Try.underlying194 rfl rfl Try.sizeOf3 rfl) rfl) All.nil)) (All.cons (fun γ => (All.cons (QOb.plain [(63, .pointer (some ⟨b0, 1, none⟩))] rfl rfl (.w 7 rfl rfl rfl .nil) (q_load rfl rfl Try.isAgg3 (.obj 0 rfl rfl)) rfl) All.nil)) (All.cons (fun γ => (All.cons (QOb.plain [(59, .slice a0_0 x0_0.length c0_0), (60, .int .i64 (IntKind.i64.wrap (s1v.2.2.2.1 + s1v.2.1))), (64, .int .i64 (IntKind.i64.wrap ((IntKind.i64.wrap (s1v.2.2.2.1 + s1v.2.1)) + s1v.1)))] rfl rfl (.w 3 rfl rfl rfl (.w 4 rfl rfl rfl (.w 8 rfl rfl rfl .nil))) (q_sub_ro (l := x0_0) (lo' := IntKind.i64.wrap (s1v.2.2.2.1 + s1v.2.1)) (hi' := IntKind.i64.wrap ((IntKind.i64.wrap (s1v.2.2.2.1 + s1v.2.1)) + s1v.1)) rfl rfl rfl rfl Try.underlying27 Try.sizeOf5 (.inr ⟨_, rfl⟩) (.inr ⟨_, rfl⟩) hb11v hc0_0 hS14v) rfl) All.nil)) (All.cons (fun γ => (All.cons (QOb.plain [(66, .slice γ.1 s18v.length γ.2)] rfl rfl (.w 10 rfl rfl rfl .nil) (q_asg rfl rfl) rfl) All.nil)) All.nil)))))))))))
 exact (All.cons (fun γ => EOb.mk (Z := Option Addr × Nat) [(65, .slice a12v ((cut x0_0 (IntKind.i64.wrap (s1v.2.2.2.1 + s1v.2.1)) (IntKind.i64.wrap ((IntKind.i64.wrap (s1v.2.2.2.1 + s1v.2.1)) + s1v.1))).length) c13v)] (fun z => z) rfl rfl (.w 9 rfl rfl rfl .nil) (re_call (vs := [.slice a12v ((cut x0_0 (IntKind.i64.wrap (s1v.2.2.2.1 + s1v.2.1)) (IntKind.i64.wrap ((IntKind.i64.wrap (s1v.2.2.2.1 + s1v.2.1)) + s1v.1))).length) c13v]) (cap := []) (A := []) (rst := [obj b0 194 [.slice a0_0 x0_0.length c0_0, .int .i64 (IntKind.i64.wrap ((IntKind.i64.wrap (s1v.2.2.2.1 + s1v.2.1)) + s1v.1)), .int .i64 s1v.2.2.2.2], F]) rfl rfl rfl rfl rfl rfl Try.call128 (.sel 0 rfl (.sel 0 rfl (.nil _))) (wire_fresh.calls _ _ a12v c13v (cut x0_0 (IntKind.i64.wrap (s1v.2.2.2.1 + s1v.2.1)) (IntKind.i64.wrap ((IntKind.i64.wrap (s1v.2.2.2.1 + s1v.2.1)) + s1v.1))) (hr15v.lend 1 rfl) hc16v (Nat.le_trans hm17v hm0_0)) hs20v) (fun _ => ⟨rfl, rfl, rfl, rfl, rfl, rfl, rfl, rfl, rfl, rfl, trivial⟩) (fun _ => .inr rfl) (fun z => Ent.refl _)) All.nil)
 intro g21v
 refine nrm_then (sim_rtn ?_)
 exact rtn_fn (g21v.1, g21v.2) rfl rfl rfl (.sel 0 rfl (.sel 0 rfl (.sel 0 rfl (.nil _))))

def wire_Reader_Left.f (x0_0 : List UInt8) (x0_1 : Int) (x0_2 : Int) : Option (Int) := some (IntKind.i64.wrap ((x0_0.length : Int) - x0_1))
theorem wire_Reader_Left.calls (W : World) (F : HA) (b0 : Nat) (a0_0 : Option Addr) (c0_0 : Nat) (x0_0 : List UInt8) (x0_1 : Int) (x0_2 : Int) (h0_0 : Rd F a0_0 (encB x0_0)) (hc0_0 : x0_0.length ≤ c0_0) (hm0_0 : c0_0 ≤ maxLen) :
    Fn Try.prog W 135 [.pointer (some ⟨b0, 0, none⟩)] [obj b0 194 [.slice a0_0 x0_0.length c0_0, .int .i64 x0_1, .int .i64 x0_2]] F (wire_Reader_Left.f x0_0 x0_1 x0_2) (fun (r : Int) (y : Unit) => .int .i64 r) (fun r y => [obj b0 194 [.slice a0_0 x0_0.length c0_0, .int .i64 x0_1, .int .i64 x0_2]]) := by
 unfold wire_Reader_Left.f
 refine fn_intro 13 Try.func135 rfl Try.ntmps135 rfl ?_
 refine sim_seq (sim_region ?_)
 refine simL_val (q_asg rfl rfl) rfl rfl rfl (simL_nil (nrm_then (sim_seq ?_)))
 refine sim_draw (Γ := Unit) () [[], [0], [0, 1], [0, 1, 2], [0, 1, 2, 3], [], [5], [5, 6], [5, 6, 7], [0, 1, 2, 3, 4, 5, 6, 7, 8], [0, 1, 2, 3, 4, 5, 6, 7, 8, 9]] [] [0, 1, 2, 3, 4, 5, 6, 7, 8, 9, 10] (fun i => [[0], [0], [0], [0], [0], [0], [0], [0], [0], [0], [0]].getD i []) (fun i => [[], [], [], [], [], [], [], [], [], [], []].getD i []) (fun γ i => [.pointer (some ⟨b0, 0, none⟩), .pointer (some ⟨b0, 0, none⟩), .pointer (some ⟨b0, 0, none⟩), .slice a0_0 x0_0.length c0_0, .int .i64 (x0_0.length : Int), .pointer (some ⟨b0, 0, none⟩), .pointer (some ⟨b0, 0, none⟩), .pointer (some ⟨b0, 1, none⟩), .int .i64 x0_1, .int .i64 (IntKind.i64.wrap ((x0_0.length : Int) - x0_1)), .int .i64 (IntKind.i64.wrap ((x0_0.length : Int) - x0_1))].getD i undef) (fun j γ => [[obj b0 194 [.slice a0_0 x0_0.length c0_0, .int .i64 x0_1, .int .i64 x0_2], F]].getD j []) (fun γ => [(2, .int .i64 (IntKind.i64.wrap ((x0_0.length : Int) - x0_1)))]) mixed (by decide) (by decide) (by decide) (by decide) (by decide) (by decide) (by decide) 13 rfl (by decide) (by decide) (by decide) (Ent.refl _) ?_ ?_ (fun _ => ⟨rfl, trivial⟩) ?_
 exact (All.cons (fun γ => (All.cons (QOb.plain [(0, .pointer (some ⟨b0, 0, none⟩))] rfl rfl (.o rfl (by decide) .nil) (q_move rfl rfl) rfl) All.nil)) (All.cons (fun γ => (All.cons (QOb.plain [(3, .pointer (some ⟨b0, 0, none⟩))] rfl rfl (.w 0 rfl rfl rfl .nil) (q_nil rfl rfl) rfl) All.nil)) (All.cons (fun γ => (All.cons (QOb.plain [(4, .pointer (some ⟨b0, 0, none⟩))] rfl rfl (.w 1 rfl rfl rfl .nil) (q_fa rfl rfl Try.underlying194 rfl rfl Try.sizeOf27 rfl) rfl) All.nil)) (All.cons (fun γ => (All.cons (QOb.plain [(5, .pointer (some ⟨b0, 0, none⟩))] rfl rfl (.w 2 rfl rfl rfl .nil) (q_load rfl rfl Try.isAgg27 (.obj 0 rfl rfl)) rfl) All.nil)) (All.cons (fun γ => (All.cons (QOb.plain [(6, .slice a0_0 x0_0.length c0_0)] rfl rfl (.w 3 rfl rfl rfl .nil) (q_len rfl rfl rfl Try.underlying27) rfl) All.nil)) (All.cons (fun γ => (All.cons (QOb.plain [(0, .pointer (some ⟨b0, 0, none⟩))] rfl rfl (.o rfl (by decide) .nil) (q_move rfl rfl) rfl) All.nil)) (All.cons (fun γ => (All.cons (QOb.plain [(8, .pointer (some ⟨b0, 0, none⟩))] rfl rfl (.w 5 rfl rfl rfl .nil) (q_nil rfl rfl) rfl) All.nil)) (All.cons (fun γ => (All.cons (QOb.plain [(9, .pointer (some ⟨b0, 0, none⟩))] rfl rfl (.w 6 rfl rfl rfl .nil) (q_fa rfl rfl Try.underlying194 rfl rfl Try.sizeOf3 rfl) rfl) All.nil)) (All.cons (fun γ => (All.cons (QOb.plain [(10, .pointer (some ⟨b0, 1, none⟩))] rfl rfl (.w 7 rfl rfl rfl .nil) (q_load rfl rfl Try.isAgg3 (.obj 0 rfl rfl)) rfl) All.nil)) (All.cons (fun γ => (All.cons (QOb.plain [(7, .int .i64 (x0_0.length : Int)), (11, .int .i64 x0_1)] rfl rfl (.w 4 rfl rfl rfl (.w 8 rfl rfl rfl .nil)) (q_sub rfl rfl rfl) rfl) All.nil)) (All.cons (fun γ => (All.cons (QOb.plain [(12, .int .i64 (IntKind.i64.wrap ((x0_0.length : Int) - x0_1)))] rfl rfl (.w 9 rfl rfl rfl .nil) (q_asg rfl rfl) rfl) All.nil)) All.nil)))))))))))
 exact All.nil
 intro g1v
 refine nrm_then (sim_rtn ?_)
 exact rtn_fn () rfl rfl rfl (.sel 0 rfl (.sel 0 rfl (.nil _)))
def wire_Reader_Left.v (x0_0 : List UInt8) (x0_1 : Int) (x0_2 : Int) : Int := (wire_Reader_Left.f x0_0 x0_1 x0_2).getD 0
theorem wire_Reader_Left.tot (x0_0 : List UInt8) (x0_1 : Int) (x0_2 : Int) : wire_Reader_Left.f x0_0 x0_1 x0_2 = some (wire_Reader_Left.v x0_0 x0_1 x0_2) := by
  have h : ∃ r, wire_Reader_Left.f x0_0 x0_1 x0_2 = some r := by
    unfold wire_Reader_Left.f
    repeat' (first | exact ⟨_, rfl⟩ | split | simp only [Option.bind_some])
  obtain ⟨r, h⟩ := h
  unfold wire_Reader_Left.v
  rw [h]; rfl

def wire_Reader_Done.f (x0_0 : List UInt8) (x0_1 : Int) (x0_2 : Int) : Option (Int) := (if x0_2 = (0 : Int) then ((wire_Reader_Left.f x0_0 x0_1 x0_2).bind fun s3v => (some (decide ((0 : Int) < s3v)))) else (some false)).bind fun s1v => (if s1v = true then (some 3) else (some x0_2))
theorem wire_Reader_Done.calls (W : World) (F : HA) (b0 : Nat) (a0_0 : Option Addr) (c0_0 : Nat) (x0_0 : List UInt8) (x0_1 : Int) (x0_2 : Int) (h0_0 : Rd F a0_0 (encB x0_0)) (hc0_0 : x0_0.length ≤ c0_0) (hm0_0 : c0_0 ≤ maxLen) :
    Fn Try.prog W 124 [.pointer (some ⟨b0, 0, none⟩)] [obj b0 194 [.slice a0_0 x0_0.length c0_0, .int .i64 x0_1, .int .i64 x0_2]] F (wire_Reader_Done.f x0_0 x0_1 x0_2) (fun (r : Int) (y : Unit) => .int .i64 r) (fun r y => [obj b0 194 [.slice a0_0 x0_0.length c0_0, .int .i64 x0_1, .int .i64 x0_2]]) := by
 unfold wire_Reader_Done.f
 refine fn_intro 17 Try.func124 rfl Try.ntmps124 rfl ?_
 refine sim_seq (sim_region ?_)
 refine simL_val (q_asg rfl rfl) rfl rfl rfl (simL_nil (nrm_then (sim_seq (sim_seq (sim_region ?_)))))
 refine simL_val (q_move rfl rfl) rfl rfl rfl ?_
 refine simL_val (q_nil rfl rfl) rfl rfl rfl ?_
 refine simL_val (q_fa rfl rfl Try.underlying194 rfl rfl Try.sizeOf46 rfl) rfl rfl rfl ?_
 refine simL_val (q_load rfl rfl Try.isAgg46 (.obj 0 rfl rfl)) rfl rfl rfl ?_
 refine simL_val (q_eql rfl rfl rfl) rfl rfl rfl ?_
 refine simL_val (q_move rfl rfl) rfl rfl rfl ?_
 refine simL_cut' 4 (S := Bool) (Unit) (fun s y => [(0, .pointer (some ⟨b0, 0, none⟩)), (12, .bool s)]) (fun s y => [obj b0 194 [.slice a0_0 x0_0.length c0_0, .int .i64 x0_1, .int .i64 x0_2], F]) ?_ ?_
 refine simL_casep (fun hb6v => ?_) (fun hb7v => ?_)
 rw [hb6v]
 refine simL_valg (q_move rfl rfl) rfl rfl rfl rfl rfl rfl ?_
 refine simL_bind (fun s3v hs5v => ?_)
 refine simL_effg (re_call (vs := [.pointer (some ⟨b0, 0, none⟩)]) (cap := []) (A := [obj b0 194 [.slice a0_0 x0_0.length c0_0, .int .i64 x0_1, .int .i64 x0_2]]) (rst := [F]) rfl rfl rfl rfl rfl rfl Try.call135 (.sel 0 rfl (.sel 0 rfl (.nil _))) (wire_Reader_Left.calls _ _ b0 a0_0 c0_0 x0_0 x0_1 x0_2 (h0_0.lend 0 rfl) hc0_0 hm0_0) hs5v) rfl rfl rfl rfl rfl rfl ?_
 intro y4v
 refine simL_valg (q_gtr rfl rfl rfl) rfl rfl rfl rfl rfl rfl ?_
 refine simL_val (q_pick rfl rfl rfl rfl rfl) rfl rfl rfl (simL_nil ?_)
 exact nrm_cut (s := decide ((0 : Int) < s3v)) () ⟨rfl, rfl, trivial⟩ (.sel 0 rfl (.sel 0 rfl (.nil _)))
 rw [hb7v]
 refine simL_skipd rfl rfl rfl rfl rfl rfl ?_
 refine simL_skipd rfl rfl rfl rfl rfl rfl ?_
 refine simL_skipd rfl rfl rfl rfl rfl rfl ?_
 refine simL_val (q_pick rfl rfl rfl rfl rfl) rfl rfl rfl (simL_nil ?_)
 exact nrm_cut (s := false) () ⟨rfl, rfl, trivial⟩ (.sel 0 rfl (.sel 0 rfl (.nil _)))
 intro s1v y2v
 refine simL_nil (nrm_then ?_)
 refine sim_condb rfl (fun h8v => ?_) (fun h9v => ?_)
 refine sim_seq (sim_region ?_)
 refine simL_val (q_asg rfl rfl) rfl rfl rfl (simL_nil (nrm_then (sim_rtn ?_)))
 refine rtn_then ?_
 exact rtn_fn () rfl rfl rfl (.sel 0 rfl (.sel 0 rfl (.nil _)))
 refine sim_skip ?_
 refine nrm_then (sim_seq (sim_region ?_))
 refine simL_val (q_move rfl rfl) rfl rfl rfl ?_
 refine simL_val (q_nil rfl rfl) rfl rfl rfl ?_
 refine simL_val (q_fa rfl rfl Try.underlying194 rfl rfl Try.sizeOf46 rfl) rfl rfl rfl ?_
 refine simL_val (q_load rfl rfl Try.isAgg46 (.obj 0 rfl rfl)) rfl rfl rfl ?_
 refine simL_val (q_asg rfl rfl) rfl rfl rfl (simL_nil (nrm_then (sim_rtn ?_)))
 exact rtn_fn () rfl rfl rfl (.sel 0 rfl (.sel 0 rfl (.nil _)))
def wire_Reader_Done.v (x0_0 : List UInt8) (x0_1 : Int) (x0_2 : Int) : Int := (wire_Reader_Done.f x0_0 x0_1 x0_2).getD 0
theorem wire_Reader_Done.tot (x0_0 : List UInt8) (x0_1 : Int) (x0_2 : Int) : wire_Reader_Done.f x0_0 x0_1 x0_2 = some (wire_Reader_Done.v x0_0 x0_1 x0_2) := by
  have h : ∃ r, wire_Reader_Done.f x0_0 x0_1 x0_2 = some r := by
    unfold wire_Reader_Done.f
    repeat' (first | exact ⟨_, rfl⟩ | split | simp only [Option.bind_some, wire_Reader_Left.tot])
  obtain ⟨r, h⟩ := h
  unfold wire_Reader_Done.v
  rw [h]; rfl
end Go.Proofs.Ytdoghfenhoigmaa

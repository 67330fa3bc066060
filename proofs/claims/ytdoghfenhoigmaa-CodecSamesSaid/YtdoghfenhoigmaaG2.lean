/- Printed by gen.py: pure functions and the proofs that the Go functions simulate them. Conditions: as each theorem says. -/
import Derived.Test.YtdoghfenhoigmaaG1
namespace Go.Proofs.Ytdoghfenhoigmaa
open Go.RowKit
set_option linter.unusedVariables false
set_option maxRecDepth 20000
set_option maxHeartbeats 2000000
def codec_Messages_Put_1.l0 (x1_10 : List (Int × Int × Int × List UInt8)) : Nat → Int → List UInt8 → Int → Option (List UInt8 × Int)
  | 0, _, _, _ => none
  | k + 1, z42v, z43v, z44v => if z42v < (x1_10.length : Int) then (if 0 ≤ z42v ∧ z42v < (x1_10.length : Int) then ((codec_Entries_Put.f k ((x1_10.getD z42v.toNat ((0 : Int), (0 : Int), (0 : Int), ([] : List UInt8))).1) ((x1_10.getD z42v.toNat ((0 : Int), (0 : Int), (0 : Int), ([] : List UInt8))).2.1) ((x1_10.getD z42v.toNat ((0 : Int), (0 : Int), (0 : Int), ([] : List UInt8))).2.2.1) ((x1_10.getD z42v.toNat ((0 : Int), (0 : Int), (0 : Int), ([] : List UInt8))).2.2.2)).bind fun s61v => ((wire_Writer_Bytes.f k z43v z44v s61v.1 (8192 : Int)).bind fun s68v => (codec_Messages_Put_1.l0 x1_10 k (IntKind.i64.wrap (z42v + 1)) s68v.1 s68v.2))) else none) else (some (z43v, z44v))
def codec_Messages_Put_1.f (k : Nat) (x0_0 : List UInt8) (x0_1 : Int) (x1_0 : Int) (x1_1 : Int) (x1_2 : Int) (x1_3 : Int) (x1_4 : Int) (x1_5 : Int) (x1_6 : Int) (x1_7 : Int) (x1_8 : Int) (x1_9 : Bool) (x1_10 : List (Int × Int × Int × List UInt8)) (x1_11 : Int) (x1_12 : Int) (x1_13 : List UInt8) : Option (List UInt8 × Int) := (wire_Writer_Int.f k x0_0 x0_1 x1_0).bind fun s1v => ((wire_Writer_Int.f k s1v.1 s1v.2 x1_1).bind fun s4v => ((wire_Writer_Int.f k s4v.1 s4v.2 x1_2).bind fun s7v => ((wire_Writer_Int.f k s7v.1 s7v.2 x1_3).bind fun s10v => (if x1_0 = (1 : Int) then ((wire_Writer_Int.f k s10v.1 s10v.2 x1_4).bind fun s15v => ((wire_Writer_Int.f k s15v.1 s15v.2 x1_5).bind fun s18v => (some (s18v.1, s18v.2)))) else (if x1_0 = (2 : Int) then ((wire_Writer_Bool.f k s10v.1 s10v.2 x1_9).bind fun s23v => (some (s23v.1, s23v.2))) else (if x1_0 = (3 : Int) then ((wire_Writer_Int.f k s10v.1 s10v.2 x1_4).bind fun s28v => ((wire_Writer_Int.f k s28v.1 s28v.2 x1_5).bind fun s31v => ((wire_Writer_Int.f k s31v.1 s31v.2 x1_6).bind fun s34v => ((wire_Writer_Int.f k s34v.1 s34v.2 (x1_10.length : Int)).bind fun s37v => (codec_Messages_Put_1.l0 x1_10 k 0 s37v.1 s37v.2))))) else (if x1_0 = (4 : Int) then ((wire_Writer_Int.f k s10v.1 s10v.2 x1_4).bind fun s73v => ((wire_Writer_Bool.f k s73v.1 s73v.2 x1_9).bind fun s76v => ((wire_Writer_Int.f k s76v.1 s76v.2 x1_7).bind fun s79v => (some (s79v.1, s79v.2))))) else (if x1_0 = (5 : Int) then ((wire_Writer_Int.f k s10v.1 s10v.2 x1_6).bind fun s84v => ((wire_Writer_Int.f k s84v.1 s84v.2 x1_8).bind fun s87v => (some (s87v.1, s87v.2)))) else (if x1_0 = (6 : Int) then ((wire_Writer_Int.f k s10v.1 s10v.2 x1_8).bind fun s92v => (some (s92v.1, s92v.2))) else (if x1_0 = (7 : Int) then ((codec_Snaps_Put.f k x1_11 x1_12 x1_13).bind fun s97v => ((wire_Writer_Bytes.f k s10v.1 s10v.2 s97v.1 (1048576 : Int)).bind fun s104v => (some (s104v.1, s104v.2)))) else (some (s10v.1, s10v.2))))))))))))
theorem codec_Messages_Put_1.calls (W : World) (F : HA) (k : Nat) (b0 : Nat) (a0_0 : Option Addr) (c0_0 : Nat) (x0_0 : List UInt8) (x0_1 : Int) (b1 : Nat) (x1_0 : Int) (x1_1 : Int) (x1_2 : Int) (x1_3 : Int) (x1_4 : Int) (x1_5 : Int) (x1_6 : Int) (x1_7 : Int) (x1_8 : Int) (x1_9 : Bool) (a1_10 : Option Addr) (c1_10 : Nat) (x1_10 : List (Int × Int × Int × List UInt8)) (x1_11 : Int) (x1_12 : Int) (a1_13 : Option Addr) (c1_13 : Nat) (x1_13 : List UInt8) (h1_10 : RdV F 4 (V61 F) a1_10 x1_10) (hc1_10 : x1_10.length ≤ c1_10) (hm1_10 : c1_10 ≤ maxLen) (h1_13 : Rd F a1_13 (encB x1_13)) (hc1_13 : x1_13.length ≤ c1_13) (hm1_13 : c1_13 ≤ maxLen) :
    Fn Try.prog W 104 [.pointer (some ⟨b0, 0, none⟩), .pointer (some ⟨b1, 0, none⟩)] [obj b0 187 [.slice a0_0 x0_0.length c0_0, .int .i64 x0_1], Row 5 1 a0_0 x0_0.length c0_0 (encB x0_0), obj b1 31 [.int .i64 x1_0, .int .i64 x1_1, .int .i64 x1_2, .int .i64 x1_3, .int .i64 x1_4, .int .i64 x1_5, .int .i64 x1_6, .int .i64 x1_7, .int .i64 x1_8, .bool x1_9, .slice a1_10 x1_10.length c1_10, .int .i64 x1_11, .int .i64 x1_12, .slice a1_13 x1_13.length c1_13]] F (codec_Messages_Put_1.f k x0_0 x0_1 x1_0 x1_1 x1_2 x1_3 x1_4 x1_5 x1_6 x1_7 x1_8 x1_9 x1_10 x1_11 x1_12 x1_13) (fun (r : List UInt8 × Int) (y : Option Addr × Nat) => .tuple #[]) (fun r y => [obj b0 187 [.slice y.1 r.1.length y.2, .int .i64 r.2], Row 5 1 y.1 r.1.length y.2 (encB r.1), obj b1 31 [.int .i64 x1_0, .int .i64 x1_1, .int .i64 x1_2, .int .i64 x1_3, .int .i64 x1_4, .int .i64 x1_5, .int .i64 x1_6, .int .i64 x1_7, .int .i64 x1_8, .bool x1_9, .slice a1_10 x1_10.length c1_10, .int .i64 x1_11, .int .i64 x1_12, .slice a1_13 x1_13.length c1_13]]) := by
 unfold codec_Messages_Put_1.f
 refine fn_intro 121 Try.func104 rfl Try.ntmps104 rfl ?_
 refine sim_seq (sim_region ?_)
 refine simL_val (q_move rfl rfl) rfl rfl rfl ?_
 refine simL_val (q_fa rfl rfl Try.underlying31 rfl rfl Try.sizeOf3 rfl) rfl rfl rfl ?_
 refine simL_val (q_load rfl rfl Try.isAgg3 (.obj 2 rfl rfl)) rfl rfl rfl ?_
 refine simL_bind (fun s1v hs3v => ?_)
 refine simL_eff (re_call (vs := [.pointer (some ⟨b0, 0, none⟩), .int .i64 x1_0]) (cap := []) (A := [obj b0 187 [.slice a0_0 x0_0.length c0_0, .int .i64 x0_1], Row 5 1 a0_0 x0_0.length c0_0 (encB x0_0)]) (rst := [obj b1 31 [.int .i64 x1_0, .int .i64 x1_1, .int .i64 x1_2, .int .i64 x1_3, .int .i64 x1_4, .int .i64 x1_5, .int .i64 x1_6, .int .i64 x1_7, .int .i64 x1_8, .bool x1_9, .slice a1_10 x1_10.length c1_10, .int .i64 x1_11, .int .i64 x1_12, .slice a1_13 x1_13.length c1_13], F]) rfl rfl rfl rfl rfl rfl Try.call78 (.sel 0 rfl (.sel 0 rfl (.sel 0 rfl (.sel 0 rfl (.nil _))))) (wire_Writer_Int.calls _ _ k b0 a0_0 c0_0 x0_0 x0_1 x1_0 ) hs3v) rfl rfl rfl ?_
 intro y2v
 refine simL_nil (nrm_then (sim_seq (sim_region ?_)))
 refine simL_val (q_move rfl rfl) rfl rfl rfl ?_
 refine simL_val (q_fa rfl rfl Try.underlying31 rfl rfl Try.sizeOf3 rfl) rfl rfl rfl ?_
 refine simL_val (q_load rfl rfl Try.isAgg3 (.obj 2 rfl rfl)) rfl rfl rfl ?_
 refine simL_bind (fun s4v hs6v => ?_)
 refine simL_eff (re_call (vs := [.pointer (some ⟨b0, 0, none⟩), .int .i64 x1_1]) (cap := []) (A := [obj b0 187 [.slice y2v.1 s1v.1.length y2v.2, .int .i64 s1v.2], Row 5 1 y2v.1 s1v.1.length y2v.2 (encB s1v.1)]) (rst := [obj b1 31 [.int .i64 x1_0, .int .i64 x1_1, .int .i64 x1_2, .int .i64 x1_3, .int .i64 x1_4, .int .i64 x1_5, .int .i64 x1_6, .int .i64 x1_7, .int .i64 x1_8, .bool x1_9, .slice a1_10 x1_10.length c1_10, .int .i64 x1_11, .int .i64 x1_12, .slice a1_13 x1_13.length c1_13], F]) rfl rfl rfl rfl rfl rfl Try.call78 (.sel 0 rfl (.sel 0 rfl (.sel 0 rfl (.sel 0 rfl (.nil _))))) (wire_Writer_Int.calls _ _ k b0 y2v.1 y2v.2 s1v.1 s1v.2 x1_1 ) hs6v) rfl rfl rfl ?_
 intro y5v
 refine simL_nil (nrm_then (sim_seq (sim_region ?_)))
 refine simL_val (q_move rfl rfl) rfl rfl rfl ?_
 refine simL_val (q_fa rfl rfl Try.underlying31 rfl rfl Try.sizeOf3 rfl) rfl rfl rfl ?_
 refine simL_val (q_load rfl rfl Try.isAgg3 (.obj 2 rfl rfl)) rfl rfl rfl ?_
 refine simL_bind (fun s7v hs9v => ?_)
 refine simL_eff (re_call (vs := [.pointer (some ⟨b0, 0, none⟩), .int .i64 x1_2]) (cap := []) (A := [obj b0 187 [.slice y5v.1 s4v.1.length y5v.2, .int .i64 s4v.2], Row 5 1 y5v.1 s4v.1.length y5v.2 (encB s4v.1)]) (rst := [obj b1 31 [.int .i64 x1_0, .int .i64 x1_1, .int .i64 x1_2, .int .i64 x1_3, .int .i64 x1_4, .int .i64 x1_5, .int .i64 x1_6, .int .i64 x1_7, .int .i64 x1_8, .bool x1_9, .slice a1_10 x1_10.length c1_10, .int .i64 x1_11, .int .i64 x1_12, .slice a1_13 x1_13.length c1_13], F]) rfl rfl rfl rfl rfl rfl Try.call78 (.sel 0 rfl (.sel 0 rfl (.sel 0 rfl (.sel 0 rfl (.nil _))))) (wire_Writer_Int.calls _ _ k b0 y5v.1 y5v.2 s4v.1 s4v.2 x1_2 ) hs9v) rfl rfl rfl ?_
 intro y8v
 refine simL_nil (nrm_then (sim_seq (sim_region ?_)))
 refine simL_val (q_move rfl rfl) rfl rfl rfl ?_
 refine simL_val (q_fa rfl rfl Try.underlying31 rfl rfl Try.sizeOf3 rfl) rfl rfl rfl ?_
 refine simL_val (q_load rfl rfl Try.isAgg3 (.obj 2 rfl rfl)) rfl rfl rfl ?_
 refine simL_bind (fun s10v hs12v => ?_)
 refine simL_eff (re_call (vs := [.pointer (some ⟨b0, 0, none⟩), .int .i64 x1_3]) (cap := []) (A := [obj b0 187 [.slice y8v.1 s7v.1.length y8v.2, .int .i64 s7v.2], Row 5 1 y8v.1 s7v.1.length y8v.2 (encB s7v.1)]) (rst := [obj b1 31 [.int .i64 x1_0, .int .i64 x1_1, .int .i64 x1_2, .int .i64 x1_3, .int .i64 x1_4, .int .i64 x1_5, .int .i64 x1_6, .int .i64 x1_7, .int .i64 x1_8, .bool x1_9, .slice a1_10 x1_10.length c1_10, .int .i64 x1_11, .int .i64 x1_12, .slice a1_13 x1_13.length c1_13], F]) rfl rfl rfl rfl rfl rfl Try.call78 (.sel 0 rfl (.sel 0 rfl (.sel 0 rfl (.sel 0 rfl (.nil _))))) (wire_Writer_Int.calls _ _ k b0 y8v.1 y8v.2 s7v.1 s7v.2 x1_3 ) hs12v) rfl rfl rfl ?_
 intro y11v
 refine simL_nil (nrm_then (sim_seq (sim_region ?_)))
 refine simL_val (q_fa rfl rfl Try.underlying31 rfl rfl Try.sizeOf3 rfl) rfl rfl rfl ?_
 refine simL_val (q_load rfl rfl Try.isAgg3 (.obj 2 rfl rfl)) rfl rfl rfl (simL_nil (nrm_then ?_))
 refine sim_block ?_
 refine sim_seq (sim_region ?_)
 refine simL_val (q_eql rfl rfl rfl) rfl rfl rfl ?_
 refine simL_val (q_asg rfl rfl) rfl rfl rfl (simL_nil (nrm_then ?_))
 refine sim_cond rfl (fun h13v => ?_) (fun h14v => ?_)
 refine sim_seq (sim_region ?_)
 refine simL_val (q_move rfl rfl) rfl rfl rfl ?_
 refine simL_val (q_fa rfl rfl Try.underlying31 rfl rfl Try.sizeOf3 rfl) rfl rfl rfl ?_
 refine simL_val (q_load rfl rfl Try.isAgg3 (.obj 2 rfl rfl)) rfl rfl rfl ?_
 refine simL_bind (fun s15v hs17v => ?_)
 refine simL_eff (re_call (vs := [.pointer (some ⟨b0, 0, none⟩), .int .i64 x1_4]) (cap := []) (A := [obj b0 187 [.slice y11v.1 s10v.1.length y11v.2, .int .i64 s10v.2], Row 5 1 y11v.1 s10v.1.length y11v.2 (encB s10v.1)]) (rst := [obj b1 31 [.int .i64 x1_0, .int .i64 x1_1, .int .i64 x1_2, .int .i64 x1_3, .int .i64 x1_4, .int .i64 x1_5, .int .i64 x1_6, .int .i64 x1_7, .int .i64 x1_8, .bool x1_9, .slice a1_10 x1_10.length c1_10, .int .i64 x1_11, .int .i64 x1_12, .slice a1_13 x1_13.length c1_13], F]) rfl rfl rfl rfl rfl rfl Try.call78 (.sel 0 rfl (.sel 0 rfl (.sel 0 rfl (.sel 0 rfl (.nil _))))) (wire_Writer_Int.calls _ _ k b0 y11v.1 y11v.2 s10v.1 s10v.2 x1_4 ) hs17v) rfl rfl rfl ?_
 intro y16v
 refine simL_nil (nrm_then (sim_region ?_))
 refine simL_val (q_move rfl rfl) rfl rfl rfl ?_
 refine simL_val (q_fa rfl rfl Try.underlying31 rfl rfl Try.sizeOf3 rfl) rfl rfl rfl ?_
 refine simL_val (q_load rfl rfl Try.isAgg3 (.obj 2 rfl rfl)) rfl rfl rfl ?_
 refine simL_bind (fun s18v hs20v => ?_)
 refine simL_eff (re_call (vs := [.pointer (some ⟨b0, 0, none⟩), .int .i64 x1_5]) (cap := []) (A := [obj b0 187 [.slice y16v.1 s15v.1.length y16v.2, .int .i64 s15v.2], Row 5 1 y16v.1 s15v.1.length y16v.2 (encB s15v.1)]) (rst := [obj b1 31 [.int .i64 x1_0, .int .i64 x1_1, .int .i64 x1_2, .int .i64 x1_3, .int .i64 x1_4, .int .i64 x1_5, .int .i64 x1_6, .int .i64 x1_7, .int .i64 x1_8, .bool x1_9, .slice a1_10 x1_10.length c1_10, .int .i64 x1_11, .int .i64 x1_12, .slice a1_13 x1_13.length c1_13], F]) rfl rfl rfl rfl rfl rfl Try.call78 (.sel 0 rfl (.sel 0 rfl (.sel 0 rfl (.sel 0 rfl (.nil _))))) (wire_Writer_Int.calls _ _ k b0 y16v.1 y16v.2 s15v.1 s15v.2 x1_5 ) hs20v) rfl rfl rfl ?_
 intro y19v
 refine simL_nil (nrm_block ?_)
 exact nrm_fn (y19v.1, y19v.2) rfl rfl rfl (.sel 0 rfl (.sel 0 rfl (.sel 0 rfl (.sel 0 rfl (.nil _)))))
 refine sim_seq (sim_region ?_)
 refine simL_val (q_eql rfl rfl rfl) rfl rfl rfl ?_
 refine simL_val (q_asg rfl rfl) rfl rfl rfl (simL_nil (nrm_then ?_))
 refine sim_cond rfl (fun h21v => ?_) (fun h22v => ?_)
 refine sim_region ?_
 refine simL_val (q_move rfl rfl) rfl rfl rfl ?_
 refine simL_val (q_fa rfl rfl Try.underlying31 rfl rfl Try.sizeOf4 rfl) rfl rfl rfl ?_
 refine simL_val (q_load rfl rfl Try.isAgg4 (.obj 2 rfl rfl)) rfl rfl rfl ?_
 refine simL_bind (fun s23v hs25v => ?_)
 refine simL_eff (re_call (vs := [.pointer (some ⟨b0, 0, none⟩), .bool x1_9]) (cap := []) (A := [obj b0 187 [.slice y11v.1 s10v.1.length y11v.2, .int .i64 s10v.2], Row 5 1 y11v.1 s10v.1.length y11v.2 (encB s10v.1)]) (rst := [obj b1 31 [.int .i64 x1_0, .int .i64 x1_1, .int .i64 x1_2, .int .i64 x1_3, .int .i64 x1_4, .int .i64 x1_5, .int .i64 x1_6, .int .i64 x1_7, .int .i64 x1_8, .bool x1_9, .slice a1_10 x1_10.length c1_10, .int .i64 x1_11, .int .i64 x1_12, .slice a1_13 x1_13.length c1_13], F]) rfl rfl rfl rfl rfl rfl Try.call105 (.sel 0 rfl (.sel 0 rfl (.sel 0 rfl (.sel 0 rfl (.nil _))))) (wire_Writer_Bool.calls _ _ k b0 y11v.1 y11v.2 s10v.1 s10v.2 x1_9 ) hs25v) rfl rfl rfl ?_
 intro y24v
 refine simL_nil (nrm_block ?_)
 exact nrm_fn (y24v.1, y24v.2) rfl rfl rfl (.sel 0 rfl (.sel 0 rfl (.sel 0 rfl (.sel 0 rfl (.nil _)))))
 refine sim_seq (sim_region ?_)
 refine simL_val (q_eql rfl rfl rfl) rfl rfl rfl ?_
 refine simL_val (q_asg rfl rfl) rfl rfl rfl (simL_nil (nrm_then ?_))
 refine sim_cond rfl (fun h26v => ?_) (fun h27v => ?_)
 refine sim_seq (sim_region ?_)
 refine simL_val (q_move rfl rfl) rfl rfl rfl ?_
 refine simL_val (q_fa rfl rfl Try.underlying31 rfl rfl Try.sizeOf3 rfl) rfl rfl rfl ?_
 refine simL_val (q_load rfl rfl Try.isAgg3 (.obj 2 rfl rfl)) rfl rfl rfl ?_
 refine simL_bind (fun s28v hs30v => ?_)
 refine simL_eff (re_call (vs := [.pointer (some ⟨b0, 0, none⟩), .int .i64 x1_4]) (cap := []) (A := [obj b0 187 [.slice y11v.1 s10v.1.length y11v.2, .int .i64 s10v.2], Row 5 1 y11v.1 s10v.1.length y11v.2 (encB s10v.1)]) (rst := [obj b1 31 [.int .i64 x1_0, .int .i64 x1_1, .int .i64 x1_2, .int .i64 x1_3, .int .i64 x1_4, .int .i64 x1_5, .int .i64 x1_6, .int .i64 x1_7, .int .i64 x1_8, .bool x1_9, .slice a1_10 x1_10.length c1_10, .int .i64 x1_11, .int .i64 x1_12, .slice a1_13 x1_13.length c1_13], F]) rfl rfl rfl rfl rfl rfl Try.call78 (.sel 0 rfl (.sel 0 rfl (.sel 0 rfl (.sel 0 rfl (.nil _))))) (wire_Writer_Int.calls _ _ k b0 y11v.1 y11v.2 s10v.1 s10v.2 x1_4 ) hs30v) rfl rfl rfl ?_
 intro y29v
 refine simL_nil (nrm_then (sim_seq (sim_region ?_)))
 refine simL_val (q_move rfl rfl) rfl rfl rfl ?_
 refine simL_val (q_fa rfl rfl Try.underlying31 rfl rfl Try.sizeOf3 rfl) rfl rfl rfl ?_
 refine simL_val (q_load rfl rfl Try.isAgg3 (.obj 2 rfl rfl)) rfl rfl rfl ?_
 refine simL_bind (fun s31v hs33v => ?_)
 refine simL_eff (re_call (vs := [.pointer (some ⟨b0, 0, none⟩), .int .i64 x1_5]) (cap := []) (A := [obj b0 187 [.slice y29v.1 s28v.1.length y29v.2, .int .i64 s28v.2], Row 5 1 y29v.1 s28v.1.length y29v.2 (encB s28v.1)]) (rst := [obj b1 31 [.int .i64 x1_0, .int .i64 x1_1, .int .i64 x1_2, .int .i64 x1_3, .int .i64 x1_4, .int .i64 x1_5, .int .i64 x1_6, .int .i64 x1_7, .int .i64 x1_8, .bool x1_9, .slice a1_10 x1_10.length c1_10, .int .i64 x1_11, .int .i64 x1_12, .slice a1_13 x1_13.length c1_13], F]) rfl rfl rfl rfl rfl rfl Try.call78 (.sel 0 rfl (.sel 0 rfl (.sel 0 rfl (.sel 0 rfl (.nil _))))) (wire_Writer_Int.calls _ _ k b0 y29v.1 y29v.2 s28v.1 s28v.2 x1_5 ) hs33v) rfl rfl rfl ?_
 intro y32v
 refine simL_nil (nrm_then (sim_seq (sim_region ?_)))
 refine simL_val (q_move rfl rfl) rfl rfl rfl ?_
 refine simL_val (q_fa rfl rfl Try.underlying31 rfl rfl Try.sizeOf3 rfl) rfl rfl rfl ?_
 refine simL_val (q_load rfl rfl Try.isAgg3 (.obj 2 rfl rfl)) rfl rfl rfl ?_
 refine simL_bind (fun s34v hs36v => ?_)
 refine simL_eff (re_call (vs := [.pointer (some ⟨b0, 0, none⟩), .int .i64 x1_6]) (cap := []) (A := [obj b0 187 [.slice y32v.1 s31v.1.length y32v.2, .int .i64 s31v.2], Row 5 1 y32v.1 s31v.1.length y32v.2 (encB s31v.1)]) (rst := [obj b1 31 [.int .i64 x1_0, .int .i64 x1_1, .int .i64 x1_2, .int .i64 x1_3, .int .i64 x1_4, .int .i64 x1_5, .int .i64 x1_6, .int .i64 x1_7, .int .i64 x1_8, .bool x1_9, .slice a1_10 x1_10.length c1_10, .int .i64 x1_11, .int .i64 x1_12, .slice a1_13 x1_13.length c1_13], F]) rfl rfl rfl rfl rfl rfl Try.call78 (.sel 0 rfl (.sel 0 rfl (.sel 0 rfl (.sel 0 rfl (.nil _))))) (wire_Writer_Int.calls _ _ k b0 y32v.1 y32v.2 s31v.1 s31v.2 x1_6 ) hs36v) rfl rfl rfl ?_
 intro y35v
 refine simL_nil (nrm_then (sim_seq (sim_region ?_)))
 refine simL_val (q_move rfl rfl) rfl rfl rfl ?_
 refine simL_val (q_fa rfl rfl Try.underlying31 rfl rfl Try.sizeOf26 rfl) rfl rfl rfl ?_
 refine simL_val (q_load rfl rfl Try.isAgg26 (.obj 2 rfl rfl)) rfl rfl rfl ?_
 refine simL_val (q_len rfl rfl rfl Try.underlying26) rfl rfl rfl ?_
 refine simL_bind (fun s37v hs39v => ?_)
 refine simL_eff (re_call (vs := [.pointer (some ⟨b0, 0, none⟩), .int .i64 (x1_10.length : Int)]) (cap := []) (A := [obj b0 187 [.slice y35v.1 s34v.1.length y35v.2, .int .i64 s34v.2], Row 5 1 y35v.1 s34v.1.length y35v.2 (encB s34v.1)]) (rst := [obj b1 31 [.int .i64 x1_0, .int .i64 x1_1, .int .i64 x1_2, .int .i64 x1_3, .int .i64 x1_4, .int .i64 x1_5, .int .i64 x1_6, .int .i64 x1_7, .int .i64 x1_8, .bool x1_9, .slice a1_10 x1_10.length c1_10, .int .i64 x1_11, .int .i64 x1_12, .slice a1_13 x1_13.length c1_13], F]) rfl rfl rfl rfl rfl rfl Try.call78 (.sel 0 rfl (.sel 0 rfl (.sel 0 rfl (.sel 0 rfl (.nil _))))) (wire_Writer_Int.calls _ _ k b0 y35v.1 y35v.2 s34v.1 s34v.2 (x1_10.length : Int) ) hs39v) rfl rfl rfl ?_
 intro y38v
 refine simL_nil (nrm_then (sim_seq (sim_region ?_)))
 refine simL_val (q_fa rfl rfl Try.underlying31 rfl rfl Try.sizeOf26 rfl) rfl rfl rfl ?_
 refine simL_val (q_load rfl rfl Try.isAgg26 (.obj 2 rfl rfl)) rfl rfl rfl ?_
 refine simL_val (q_len rfl rfl rfl Try.underlying26) rfl rfl rfl ?_
 refine simL_val (q_move rfl rfl) rfl rfl rfl (simL_nil (nrm_then ?_))
 refine sim_block ?_
 refine sim_loop (S := Int × List UInt8 × Int) (Option Addr × Nat) (fun k s => codec_Messages_Put_1.l0 x1_10 k s.1 s.2.1 s.2.2) (fun s y => [(0, .pointer (some ⟨b0, 0, none⟩)), (63, .slice a1_10 x1_10.length c1_10), (64, .int .i64 (x1_10.length : Int)), (65, .int .i64 s.1)]) (fun s y => [obj b0 187 [.slice y.1 s.2.1.length y.2, .int .i64 s.2.2], obj b1 31 [.int .i64 x1_0, .int .i64 x1_1, .int .i64 x1_2, .int .i64 x1_3, .int .i64 x1_4, .int .i64 x1_5, .int .i64 x1_6, .int .i64 x1_7, .int .i64 x1_8, .bool x1_9, .slice a1_10 x1_10.length c1_10, .int .i64 x1_11, .int .i64 x1_12, .slice a1_13 x1_13.length c1_13], Row 5 1 y.1 s.2.1.length y.2 (encB s.2.1), F]) (fun _ => by rw [codec_Messages_Put_1.l0]) ?_ k (0, s37v.1, s37v.2) (y38v.1, y38v.2) ⟨rfl, rfl, rfl, rfl, trivial⟩ (.sel 0 rfl (.sel 1 rfl (.sel 0 rfl (.sel 0 rfl (.nil _)))))
 intro k s40v y41v
 refine sim_eq (by rw [codec_Messages_Put_1.l0]) ?_
 refine sim_seq (sim_region ?_)
 refine simL_val (q_lss rfl rfl rfl) rfl rfl rfl (simL_nil (nrm_then (sim_seq ?_)))
 refine sim_cond rfl (fun h45v => ?_) (fun h46v => ?_)
 refine sim_skip ?_
 refine nrm_then (sim_seq ?_)
 refine sim_block ?_
 refine sim_seq (sim_region ?_)
 refine simL_ask (fun hi47v => ?_)
 obtain ⟨b48v, b48vo, r51v, ha49v, hV52v, hlr53v, hcell54v⟩ := RdV.pos h1_10 (Up.refl _) rfl (i := s40v.1.toNat) (by omega) ((0 : Int), (0 : Int), (0 : Int), ([] : List UInt8))
 obtain ⟨a55v, c56v, rfl, ⟨he57v, hc58v, hm59v⟩⟩ := hV52v
 refine simL_val (q_idx rfl rfl rfl ha49v Try.underlying26 Try.sizeOf61 hi47v.1 hi47v.2) rfl rfl rfl ?_
 refine simL_val (q_loads rfl rfl Try.isAgg61 Try.sizeOf61 rfl (fun j v hj => hcell54v 3 rfl j v hj)) rfl rfl rfl ?_
 refine simL_eff (re_alloc rfl Try.zeroValue61 rfl) rfl rfl rfl ?_
 intro b60v
 refine simL_do (re_store 0 rfl rfl rfl Try.sizeOf61 rfl rfl (one_of (by rfl)) rfl rfl) rfl rfl ?_
 intro _
 refine simL_nil (nrm_then (sim_seq (sim_region ?_)))
 refine simL_val (q_build (v := .agg #[]) rfl rfl (fun _ => by kernel_rfl)) rfl rfl rfl ?_
 refine simL_val (q_loado 0 rfl rfl Try.isAgg61 Try.sizeOf61 rfl rfl) rfl rfl rfl ?_
 refine simL_bind (fun s61v hs63v => ?_)
 refine simL_eff (re_call (vs := [.agg #[], .agg #[.int .i64 ((x1_10.getD s40v.1.toNat ((0 : Int), (0 : Int), (0 : Int), ([] : List UInt8))).1), .int .i64 ((x1_10.getD s40v.1.toNat ((0 : Int), (0 : Int), (0 : Int), ([] : List UInt8))).2.1), .int .i64 ((x1_10.getD s40v.1.toNat ((0 : Int), (0 : Int), (0 : Int), ([] : List UInt8))).2.2.1), .slice a55v (((x1_10.getD s40v.1.toNat ((0 : Int), (0 : Int), (0 : Int), ([] : List UInt8))).2.2.2).length) c56v]]) (cap := []) (A := []) (rst := [obj b60v 61 [.int .i64 ((x1_10.getD s40v.1.toNat ((0 : Int), (0 : Int), (0 : Int), ([] : List UInt8))).1), .int .i64 ((x1_10.getD s40v.1.toNat ((0 : Int), (0 : Int), (0 : Int), ([] : List UInt8))).2.1), .int .i64 ((x1_10.getD s40v.1.toNat ((0 : Int), (0 : Int), (0 : Int), ([] : List UInt8))).2.2.1), .slice a55v (((x1_10.getD s40v.1.toNat ((0 : Int), (0 : Int), (0 : Int), ([] : List UInt8))).2.2.2).length) c56v], obj b0 187 [.slice y41v.1 s40v.2.1.length y41v.2, .int .i64 s40v.2.2], obj b1 31 [.int .i64 x1_0, .int .i64 x1_1, .int .i64 x1_2, .int .i64 x1_3, .int .i64 x1_4, .int .i64 x1_5, .int .i64 x1_6, .int .i64 x1_7, .int .i64 x1_8, .bool x1_9, .slice a1_10 x1_10.length c1_10, .int .i64 x1_11, .int .i64 x1_12, .slice a1_13 x1_13.length c1_13], Row 5 1 y41v.1 s40v.2.1.length y41v.2 (encB s40v.2.1), F]) rfl rfl rfl rfl rfl rfl Try.call32 (.sel 0 rfl (.sel 0 rfl (.sel 0 rfl (.sel 0 rfl (.sel 0 rfl (.nil _)))))) (codec_Entries_Put.calls _ _ k ((x1_10.getD s40v.1.toNat ((0 : Int), (0 : Int), (0 : Int), ([] : List UInt8))).1) ((x1_10.getD s40v.1.toNat ((0 : Int), (0 : Int), (0 : Int), ([] : List UInt8))).2.1) ((x1_10.getD s40v.1.toNat ((0 : Int), (0 : Int), (0 : Int), ([] : List UInt8))).2.2.1) a55v c56v ((x1_10.getD s40v.1.toNat ((0 : Int), (0 : Int), (0 : Int), ([] : List UInt8))).2.2.2) (he57v.lend 4 rfl) hc58v hm59v) hs63v) rfl rfl rfl ?_
 intro y62v
 refine simL_val (q_move rfl rfl) rfl rfl rfl ?_
 refine simL_val (q_ext rfl rfl rfl) rfl rfl rfl ?_
 refine simL_val (q_ext rfl rfl rfl) rfl rfl rfl ?_
 refine simL_val (q_asg rfl rfl) rfl rfl rfl ?_
 refine simL_val (q_asg rfl rfl) rfl rfl rfl (simL_nil (nrm_then (sim_region ?_)))
 refine simL_val (q_move rfl rfl) rfl rfl rfl ?_
 refine simL_val (q_move rfl rfl) rfl rfl rfl ?_
 refine simL_bind (fun s68v hs70v => ?_)
 refine simL_lend 0 rfl (fun hq64v hq65v hq66v hq67v => ?_)
 refine simL_eff (re_call (vs := [.pointer (some ⟨b0, 0, none⟩), .slice y62v.1 s61v.1.length y62v.2, .int .i64 8192]) (cap := []) (A := [obj b0 187 [.slice y41v.1 s40v.2.1.length y41v.2, .int .i64 s40v.2.2], Row 5 1 y41v.1 s40v.2.1.length y41v.2 (encB s40v.2.1)]) (rst := [Row 5 1 y62v.1 s61v.1.length y62v.2 (encB s61v.1), obj b60v 61 [.int .i64 ((x1_10.getD s40v.1.toNat ((0 : Int), (0 : Int), (0 : Int), ([] : List UInt8))).1), .int .i64 ((x1_10.getD s40v.1.toNat ((0 : Int), (0 : Int), (0 : Int), ([] : List UInt8))).2.1), .int .i64 ((x1_10.getD s40v.1.toNat ((0 : Int), (0 : Int), (0 : Int), ([] : List UInt8))).2.2.1), .slice a55v (((x1_10.getD s40v.1.toNat ((0 : Int), (0 : Int), (0 : Int), ([] : List UInt8))).2.2.2).length) c56v], obj b1 31 [.int .i64 x1_0, .int .i64 x1_1, .int .i64 x1_2, .int .i64 x1_3, .int .i64 x1_4, .int .i64 x1_5, .int .i64 x1_6, .int .i64 x1_7, .int .i64 x1_8, .bool x1_9, .slice a1_10 x1_10.length c1_10, .int .i64 x1_11, .int .i64 x1_12, .slice a1_13 x1_13.length c1_13], F]) rfl rfl rfl rfl rfl rfl Try.call88 (.sel 2 rfl (.sel 3 rfl (.sel 0 rfl (.sel 0 rfl (.sel 0 rfl (.sel 0 rfl (.nil _))))))) (wire_Writer_Bytes.calls _ _ k b0 y41v.1 y41v.2 s40v.2.1 s40v.2.2 y62v.1 y62v.2 s61v.1 (8192 : Int) (hq64v.lend 0 rfl) hq65v hq66v) hs70v) rfl rfl rfl ?_
 intro y69v
 refine simL_nil (nrm_block (nrm_then (sim_region ?_)))
 refine simL_val (q_add rfl rfl rfl) rfl rfl rfl ?_
 refine simL_val (q_move rfl rfl) rfl rfl rfl (simL_nil ?_)
 exact nrm_again (s := (IntKind.i64.wrap (s40v.1 + 1), s68v.1, s68v.2)) (y69v.1, y69v.2) ⟨rfl, rfl, rfl, rfl, trivial⟩ (.sel 0 rfl (.sel 3 rfl (.sel 0 rfl (.sel 2 rfl (.nil _)))))
 refine sim_exi ?_
 refine exi_then ?_
 refine exi_loop ?_
 refine exi_here ?_
 refine nrm_block ?_
 exact nrm_fn (y41v.1, y41v.2) rfl rfl rfl (.sel 0 rfl (.sel 1 rfl (.sel 0 rfl (.sel 0 rfl (.nil _)))))
 refine sim_seq (sim_region ?_)
 refine simL_val (q_eql rfl rfl rfl) rfl rfl rfl ?_
 refine simL_val (q_asg rfl rfl) rfl rfl rfl (simL_nil (nrm_then ?_))
 refine sim_cond rfl (fun h71v => ?_) (fun h72v => ?_)
 refine sim_seq (sim_region ?_)
 refine simL_val (q_move rfl rfl) rfl rfl rfl ?_
 refine simL_val (q_fa rfl rfl Try.underlying31 rfl rfl Try.sizeOf3 rfl) rfl rfl rfl ?_
 refine simL_val (q_load rfl rfl Try.isAgg3 (.obj 2 rfl rfl)) rfl rfl rfl ?_
 refine simL_bind (fun s73v hs75v => ?_)
 refine simL_eff (re_call (vs := [.pointer (some ⟨b0, 0, none⟩), .int .i64 x1_4]) (cap := []) (A := [obj b0 187 [.slice y11v.1 s10v.1.length y11v.2, .int .i64 s10v.2], Row 5 1 y11v.1 s10v.1.length y11v.2 (encB s10v.1)]) (rst := [obj b1 31 [.int .i64 x1_0, .int .i64 x1_1, .int .i64 x1_2, .int .i64 x1_3, .int .i64 x1_4, .int .i64 x1_5, .int .i64 x1_6, .int .i64 x1_7, .int .i64 x1_8, .bool x1_9, .slice a1_10 x1_10.length c1_10, .int .i64 x1_11, .int .i64 x1_12, .slice a1_13 x1_13.length c1_13], F]) rfl rfl rfl rfl rfl rfl Try.call78 (.sel 0 rfl (.sel 0 rfl (.sel 0 rfl (.sel 0 rfl (.nil _))))) (wire_Writer_Int.calls _ _ k b0 y11v.1 y11v.2 s10v.1 s10v.2 x1_4 ) hs75v) rfl rfl rfl ?_
 intro y74v
 refine simL_nil (nrm_then (sim_seq (sim_region ?_)))
 refine simL_val (q_move rfl rfl) rfl rfl rfl ?_
 refine simL_val (q_fa rfl rfl Try.underlying31 rfl rfl Try.sizeOf4 rfl) rfl rfl rfl ?_
 refine simL_val (q_load rfl rfl Try.isAgg4 (.obj 2 rfl rfl)) rfl rfl rfl ?_
 refine simL_bind (fun s76v hs78v => ?_)
 refine simL_eff (re_call (vs := [.pointer (some ⟨b0, 0, none⟩), .bool x1_9]) (cap := []) (A := [obj b0 187 [.slice y74v.1 s73v.1.length y74v.2, .int .i64 s73v.2], Row 5 1 y74v.1 s73v.1.length y74v.2 (encB s73v.1)]) (rst := [obj b1 31 [.int .i64 x1_0, .int .i64 x1_1, .int .i64 x1_2, .int .i64 x1_3, .int .i64 x1_4, .int .i64 x1_5, .int .i64 x1_6, .int .i64 x1_7, .int .i64 x1_8, .bool x1_9, .slice a1_10 x1_10.length c1_10, .int .i64 x1_11, .int .i64 x1_12, .slice a1_13 x1_13.length c1_13], F]) rfl rfl rfl rfl rfl rfl Try.call105 (.sel 0 rfl (.sel 0 rfl (.sel 0 rfl (.sel 0 rfl (.nil _))))) (wire_Writer_Bool.calls _ _ k b0 y74v.1 y74v.2 s73v.1 s73v.2 x1_9 ) hs78v) rfl rfl rfl ?_
 intro y77v
 refine simL_nil (nrm_then (sim_region ?_))
 refine simL_val (q_move rfl rfl) rfl rfl rfl ?_
 refine simL_val (q_fa rfl rfl Try.underlying31 rfl rfl Try.sizeOf3 rfl) rfl rfl rfl ?_
 refine simL_val (q_load rfl rfl Try.isAgg3 (.obj 2 rfl rfl)) rfl rfl rfl ?_
 refine simL_bind (fun s79v hs81v => ?_)
 refine simL_eff (re_call (vs := [.pointer (some ⟨b0, 0, none⟩), .int .i64 x1_7]) (cap := []) (A := [obj b0 187 [.slice y77v.1 s76v.1.length y77v.2, .int .i64 s76v.2], Row 5 1 y77v.1 s76v.1.length y77v.2 (encB s76v.1)]) (rst := [obj b1 31 [.int .i64 x1_0, .int .i64 x1_1, .int .i64 x1_2, .int .i64 x1_3, .int .i64 x1_4, .int .i64 x1_5, .int .i64 x1_6, .int .i64 x1_7, .int .i64 x1_8, .bool x1_9, .slice a1_10 x1_10.length c1_10, .int .i64 x1_11, .int .i64 x1_12, .slice a1_13 x1_13.length c1_13], F]) rfl rfl rfl rfl rfl rfl Try.call78 (.sel 0 rfl (.sel 0 rfl (.sel 0 rfl (.sel 0 rfl (.nil _))))) (wire_Writer_Int.calls _ _ k b0 y77v.1 y77v.2 s76v.1 s76v.2 x1_7 ) hs81v) rfl rfl rfl ?_
 intro y80v
 refine simL_nil (nrm_block ?_)
 exact nrm_fn (y80v.1, y80v.2) rfl rfl rfl (.sel 0 rfl (.sel 0 rfl (.sel 0 rfl (.sel 0 rfl (.nil _)))))
 refine sim_seq (sim_region ?_)
 refine simL_val (q_eql rfl rfl rfl) rfl rfl rfl ?_
 refine simL_val (q_asg rfl rfl) rfl rfl rfl (simL_nil (nrm_then ?_))
 refine sim_cond rfl (fun h82v => ?_) (fun h83v => ?_)
 refine sim_seq (sim_region ?_)
 refine simL_val (q_move rfl rfl) rfl rfl rfl ?_
 refine simL_val (q_fa rfl rfl Try.underlying31 rfl rfl Try.sizeOf3 rfl) rfl rfl rfl ?_
 refine simL_val (q_load rfl rfl Try.isAgg3 (.obj 2 rfl rfl)) rfl rfl rfl ?_
 refine simL_bind (fun s84v hs86v => ?_)
 refine simL_eff (re_call (vs := [.pointer (some ⟨b0, 0, none⟩), .int .i64 x1_6]) (cap := []) (A := [obj b0 187 [.slice y11v.1 s10v.1.length y11v.2, .int .i64 s10v.2], Row 5 1 y11v.1 s10v.1.length y11v.2 (encB s10v.1)]) (rst := [obj b1 31 [.int .i64 x1_0, .int .i64 x1_1, .int .i64 x1_2, .int .i64 x1_3, .int .i64 x1_4, .int .i64 x1_5, .int .i64 x1_6, .int .i64 x1_7, .int .i64 x1_8, .bool x1_9, .slice a1_10 x1_10.length c1_10, .int .i64 x1_11, .int .i64 x1_12, .slice a1_13 x1_13.length c1_13], F]) rfl rfl rfl rfl rfl rfl Try.call78 (.sel 0 rfl (.sel 0 rfl (.sel 0 rfl (.sel 0 rfl (.nil _))))) (wire_Writer_Int.calls _ _ k b0 y11v.1 y11v.2 s10v.1 s10v.2 x1_6 ) hs86v) rfl rfl rfl ?_
 intro y85v
 refine simL_nil (nrm_then (sim_region ?_))
 refine simL_val (q_move rfl rfl) rfl rfl rfl ?_
 refine simL_val (q_fa rfl rfl Try.underlying31 rfl rfl Try.sizeOf3 rfl) rfl rfl rfl ?_
 refine simL_val (q_load rfl rfl Try.isAgg3 (.obj 2 rfl rfl)) rfl rfl rfl ?_
 refine simL_bind (fun s87v hs89v => ?_)
 refine simL_eff (re_call (vs := [.pointer (some ⟨b0, 0, none⟩), .int .i64 x1_8]) (cap := []) (A := [obj b0 187 [.slice y85v.1 s84v.1.length y85v.2, .int .i64 s84v.2], Row 5 1 y85v.1 s84v.1.length y85v.2 (encB s84v.1)]) (rst := [obj b1 31 [.int .i64 x1_0, .int .i64 x1_1, .int .i64 x1_2, .int .i64 x1_3, .int .i64 x1_4, .int .i64 x1_5, .int .i64 x1_6, .int .i64 x1_7, .int .i64 x1_8, .bool x1_9, .slice a1_10 x1_10.length c1_10, .int .i64 x1_11, .int .i64 x1_12, .slice a1_13 x1_13.length c1_13], F]) rfl rfl rfl rfl rfl rfl Try.call78 (.sel 0 rfl (.sel 0 rfl (.sel 0 rfl (.sel 0 rfl (.nil _))))) (wire_Writer_Int.calls _ _ k b0 y85v.1 y85v.2 s84v.1 s84v.2 x1_8 ) hs89v) rfl rfl rfl ?_
 intro y88v
 refine simL_nil (nrm_block ?_)
 exact nrm_fn (y88v.1, y88v.2) rfl rfl rfl (.sel 0 rfl (.sel 0 rfl (.sel 0 rfl (.sel 0 rfl (.nil _)))))
 refine sim_seq (sim_region ?_)
 refine simL_val (q_eql rfl rfl rfl) rfl rfl rfl ?_
 refine simL_val (q_asg rfl rfl) rfl rfl rfl (simL_nil (nrm_then ?_))
 refine sim_cond rfl (fun h90v => ?_) (fun h91v => ?_)
 refine sim_region ?_
 refine simL_val (q_move rfl rfl) rfl rfl rfl ?_
 refine simL_val (q_fa rfl rfl Try.underlying31 rfl rfl Try.sizeOf3 rfl) rfl rfl rfl ?_
 refine simL_val (q_load rfl rfl Try.isAgg3 (.obj 2 rfl rfl)) rfl rfl rfl ?_
 refine simL_bind (fun s92v hs94v => ?_)
 refine simL_eff (re_call (vs := [.pointer (some ⟨b0, 0, none⟩), .int .i64 x1_8]) (cap := []) (A := [obj b0 187 [.slice y11v.1 s10v.1.length y11v.2, .int .i64 s10v.2], Row 5 1 y11v.1 s10v.1.length y11v.2 (encB s10v.1)]) (rst := [obj b1 31 [.int .i64 x1_0, .int .i64 x1_1, .int .i64 x1_2, .int .i64 x1_3, .int .i64 x1_4, .int .i64 x1_5, .int .i64 x1_6, .int .i64 x1_7, .int .i64 x1_8, .bool x1_9, .slice a1_10 x1_10.length c1_10, .int .i64 x1_11, .int .i64 x1_12, .slice a1_13 x1_13.length c1_13], F]) rfl rfl rfl rfl rfl rfl Try.call78 (.sel 0 rfl (.sel 0 rfl (.sel 0 rfl (.sel 0 rfl (.nil _))))) (wire_Writer_Int.calls _ _ k b0 y11v.1 y11v.2 s10v.1 s10v.2 x1_8 ) hs94v) rfl rfl rfl ?_
 intro y93v
 refine simL_nil (nrm_block ?_)
 exact nrm_fn (y93v.1, y93v.2) rfl rfl rfl (.sel 0 rfl (.sel 0 rfl (.sel 0 rfl (.sel 0 rfl (.nil _)))))
 refine sim_seq (sim_region ?_)
 refine simL_val (q_eql rfl rfl rfl) rfl rfl rfl ?_
 refine simL_val (q_asg rfl rfl) rfl rfl rfl (simL_nil (nrm_then ?_))
 refine sim_cond rfl (fun h95v => ?_) (fun h96v => ?_)
 refine sim_seq (sim_region ?_)
 refine simL_val (q_build (v := .agg #[]) rfl rfl (fun _ => by kernel_rfl)) rfl rfl rfl ?_
 refine simL_val (q_fa rfl rfl Try.underlying31 rfl rfl Try.sizeOf29 rfl) rfl rfl rfl ?_
 refine simL_val (q_loads (vs := [.int .i64 x1_11, .int .i64 x1_12, .slice a1_13 x1_13.length c1_13]) rfl rfl Try.isAgg29 Try.sizeOf29 rfl (cells_obj 2 rfl (cells_lit rfl))) rfl rfl rfl ?_
 refine simL_bind (fun s97v hs99v => ?_)
 refine simL_eff (re_call (vs := [.agg #[], .agg #[.int .i64 x1_11, .int .i64 x1_12, .slice a1_13 x1_13.length c1_13]]) (cap := []) (A := []) (rst := [obj b0 187 [.slice y11v.1 s10v.1.length y11v.2, .int .i64 s10v.2], Row 5 1 y11v.1 s10v.1.length y11v.2 (encB s10v.1), obj b1 31 [.int .i64 x1_0, .int .i64 x1_1, .int .i64 x1_2, .int .i64 x1_3, .int .i64 x1_4, .int .i64 x1_5, .int .i64 x1_6, .int .i64 x1_7, .int .i64 x1_8, .bool x1_9, .slice a1_10 x1_10.length c1_10, .int .i64 x1_11, .int .i64 x1_12, .slice a1_13 x1_13.length c1_13], F]) rfl rfl rfl rfl rfl rfl Try.call39 (.sel 0 rfl (.sel 0 rfl (.sel 0 rfl (.sel 0 rfl (.nil _))))) (codec_Snaps_Put.calls _ _ k x1_11 x1_12 a1_13 c1_13 x1_13 (h1_13.lend 3 rfl) hc1_13 hm1_13) hs99v) rfl rfl rfl ?_
 intro y98v
 refine simL_val (q_move rfl rfl) rfl rfl rfl ?_
 refine simL_val (q_ext rfl rfl rfl) rfl rfl rfl ?_
 refine simL_val (q_ext rfl rfl rfl) rfl rfl rfl ?_
 refine simL_val (q_asg rfl rfl) rfl rfl rfl ?_
 refine simL_val (q_asg rfl rfl) rfl rfl rfl (simL_nil (nrm_then (sim_region ?_)))
 refine simL_val (q_move rfl rfl) rfl rfl rfl ?_
 refine simL_val (q_move rfl rfl) rfl rfl rfl ?_
 refine simL_bind (fun s104v hs106v => ?_)
 refine simL_lend 0 rfl (fun hq100v hq101v hq102v hq103v => ?_)
 refine simL_eff (re_call (vs := [.pointer (some ⟨b0, 0, none⟩), .slice y98v.1 s97v.1.length y98v.2, .int .i64 1048576]) (cap := []) (A := [obj b0 187 [.slice y11v.1 s10v.1.length y11v.2, .int .i64 s10v.2], Row 5 1 y11v.1 s10v.1.length y11v.2 (encB s10v.1)]) (rst := [Row 5 1 y98v.1 s97v.1.length y98v.2 (encB s97v.1), obj b1 31 [.int .i64 x1_0, .int .i64 x1_1, .int .i64 x1_2, .int .i64 x1_3, .int .i64 x1_4, .int .i64 x1_5, .int .i64 x1_6, .int .i64 x1_7, .int .i64 x1_8, .bool x1_9, .slice a1_10 x1_10.length c1_10, .int .i64 x1_11, .int .i64 x1_12, .slice a1_13 x1_13.length c1_13], F]) rfl rfl rfl rfl rfl rfl Try.call88 (.sel 1 rfl (.sel 1 rfl (.sel 0 rfl (.sel 0 rfl (.sel 0 rfl (.nil _)))))) (wire_Writer_Bytes.calls _ _ k b0 y11v.1 y11v.2 s10v.1 s10v.2 y98v.1 y98v.2 s97v.1 (1048576 : Int) (hq100v.lend 0 rfl) hq101v hq102v) hs106v) rfl rfl rfl ?_
 intro y105v
 refine simL_nil (nrm_block ?_)
 exact nrm_fn (y105v.1, y105v.2) rfl rfl rfl (.sel 0 rfl (.sel 0 rfl (.sel 1 rfl (.sel 1 rfl (.nil _)))))
 refine sim_skip ?_
 refine nrm_block ?_
 exact nrm_fn (y11v.1, y11v.2) rfl rfl rfl (.sel 0 rfl (.sel 0 rfl (.sel 0 rfl (.sel 0 rfl (.nil _)))))

def codec_text_codec_Messages_Put_1.f (k : Nat) (x0 : Int) (xp0_0 : Int) (xp0_1 : Int) (xp0_2 : Int) (xp0_3 : Int) (xp0_4 : Int) (xp0_5 : Int) (xp0_6 : Int) (xp0_7 : Int) (xp0_8 : Int) (xp0_9 : Bool) (xp0_10 : List (Int × Int × Int × List UInt8)) (xp0_11 : Int) (xp0_12 : Int) (xp0_13 : List UInt8) : Option (List UInt8 × Int) := if x0 = (0 : Int) then ((wire_NewWriter.f).bind fun s3v => ((codec_Messages_Put_1.f k s3v.1 s3v.2 xp0_0 xp0_1 xp0_2 xp0_3 xp0_4 xp0_5 xp0_6 xp0_7 xp0_8 xp0_9 xp0_10 xp0_11 xp0_12 xp0_13).bind fun s6v => ((wire_Writer_Done.f s6v.1 s6v.2).bind fun s13v => (some (s13v.1, s13v.2))))) else (some (([] : List UInt8), x0))
theorem codec_text_codec_Messages_Put_1.calls (W : World) (F : HA) (k : Nat) (x0 : Int) (bp0 : Nat) (xp0_0 : Int) (xp0_1 : Int) (xp0_2 : Int) (xp0_3 : Int) (xp0_4 : Int) (xp0_5 : Int) (xp0_6 : Int) (xp0_7 : Int) (xp0_8 : Int) (xp0_9 : Bool) (ap0_10 : Option Addr) (cp0_10 : Nat) (xp0_10 : List (Int × Int × Int × List UInt8)) (xp0_11 : Int) (xp0_12 : Int) (ap0_13 : Option Addr) (cp0_13 : Nat) (xp0_13 : List UInt8) (hp0_10 : RdV F 4 (V61 F) ap0_10 xp0_10) (hcp0_10 : xp0_10.length ≤ cp0_10) (hmp0_10 : cp0_10 ≤ maxLen) (hp0_13 : Rd F ap0_13 (encB xp0_13)) (hcp0_13 : xp0_13.length ≤ cp0_13) (hmp0_13 : cp0_13 ≤ maxLen) :
    Fn Try.prog W 76 [.int .i64 x0, .func (.func 104) #[] #[.pointer (some ⟨bp0, 0, none⟩)]] [obj bp0 31 [.int .i64 xp0_0, .int .i64 xp0_1, .int .i64 xp0_2, .int .i64 xp0_3, .int .i64 xp0_4, .int .i64 xp0_5, .int .i64 xp0_6, .int .i64 xp0_7, .int .i64 xp0_8, .bool xp0_9, .slice ap0_10 xp0_10.length cp0_10, .int .i64 xp0_11, .int .i64 xp0_12, .slice ap0_13 xp0_13.length cp0_13]] F (codec_text_codec_Messages_Put_1.f k x0 xp0_0 xp0_1 xp0_2 xp0_3 xp0_4 xp0_5 xp0_6 xp0_7 xp0_8 xp0_9 xp0_10 xp0_11 xp0_12 xp0_13) (fun (r : List UInt8 × Int) (y : Option Addr × Nat) => .tuple #[.slice y.1 r.1.length y.2, .int .i64 r.2]) (fun r y => [Row 5 1 y.1 r.1.length y.2 (encB r.1), obj bp0 31 [.int .i64 xp0_0, .int .i64 xp0_1, .int .i64 xp0_2, .int .i64 xp0_3, .int .i64 xp0_4, .int .i64 xp0_5, .int .i64 xp0_6, .int .i64 xp0_7, .int .i64 xp0_8, .bool xp0_9, .slice ap0_10 xp0_10.length cp0_10, .int .i64 xp0_11, .int .i64 xp0_12, .slice ap0_13 xp0_13.length cp0_13]]) := by
 unfold codec_text_codec_Messages_Put_1.f
 refine fn_intro 18 Try.func76 rfl Try.ntmps76 rfl ?_
 refine sim_seq (sim_region ?_)
 refine simL_val (q_asg rfl rfl) rfl rfl rfl ?_
 refine simL_val (q_asg rfl rfl) rfl rfl rfl (simL_nil (nrm_then (sim_seq (sim_seq (sim_region ?_)))))
 refine simL_val (q_move rfl rfl) rfl rfl rfl ?_
 refine simL_val (q_neq rfl rfl rfl) rfl rfl rfl (simL_nil (nrm_then ?_))
 refine sim_condn rfl (fun h1v => ?_) (fun h2v => ?_)
 refine sim_skip ?_
 refine nrm_then (sim_seq (sim_region ?_))
 refine simL_bind (fun s3v hs5v => ?_)
 refine simL_eff (re_call (vs := []) (cap := []) (A := []) (rst := [obj bp0 31 [.int .i64 xp0_0, .int .i64 xp0_1, .int .i64 xp0_2, .int .i64 xp0_3, .int .i64 xp0_4, .int .i64 xp0_5, .int .i64 xp0_6, .int .i64 xp0_7, .int .i64 xp0_8, .bool xp0_9, .slice ap0_10 xp0_10.length cp0_10, .int .i64 xp0_11, .int .i64 xp0_12, .slice ap0_13 xp0_13.length cp0_13], F]) rfl rfl rfl rfl rfl rfl Try.call119 (.sel 0 rfl (.sel 0 rfl (.nil _))) (wire_NewWriter.calls _ _  ) hs5v) rfl rfl rfl ?_
 intro y4v
 refine simL_val (q_asg rfl rfl) rfl rfl rfl (simL_nil (nrm_then (sim_seq (sim_region ?_))))
 refine simL_val (q_move rfl rfl) rfl rfl rfl ?_
 refine simL_val (q_move rfl rfl) rfl rfl rfl ?_
 refine simL_bind (fun s6v hs8v => ?_)
 refine simL_eff (re_call (vs := [.pointer (some ⟨y4v.1, 0, none⟩)]) (cap := [.pointer (some ⟨bp0, 0, none⟩)]) (A := [obj y4v.1 187 [.slice y4v.2.1 s3v.1.length y4v.2.2, .int .i64 s3v.2], Row 5 1 y4v.2.1 s3v.1.length y4v.2.2 (encB s3v.1), obj bp0 31 [.int .i64 xp0_0, .int .i64 xp0_1, .int .i64 xp0_2, .int .i64 xp0_3, .int .i64 xp0_4, .int .i64 xp0_5, .int .i64 xp0_6, .int .i64 xp0_7, .int .i64 xp0_8, .bool xp0_9, .slice ap0_10 xp0_10.length cp0_10, .int .i64 xp0_11, .int .i64 xp0_12, .slice ap0_13 xp0_13.length cp0_13]]) (rst := [F]) rfl rfl rfl rfl rfl rfl Try.call104 (.sel 0 rfl (.sel 0 rfl (.sel 0 rfl (.sel 0 rfl (.nil _))))) (codec_Messages_Put_1.calls _ _ k y4v.1 y4v.2.1 y4v.2.2 s3v.1 s3v.2 bp0 xp0_0 xp0_1 xp0_2 xp0_3 xp0_4 xp0_5 xp0_6 xp0_7 xp0_8 xp0_9 ap0_10 cp0_10 xp0_10 xp0_11 xp0_12 ap0_13 cp0_13 xp0_13 (hp0_10.up (Up.lend 0 rfl) (V61.up (Up.lend 0 rfl))) hcp0_10 hmp0_10 (hp0_13.lend 0 rfl) hcp0_13 hmp0_13) hs8v) rfl rfl rfl ?_
 intro y7v
 refine simL_nil (nrm_then (sim_seq (sim_region ?_)))
 refine simL_val (q_move rfl rfl) rfl rfl rfl ?_
 refine simL_bind (fun s13v hs15v => ?_)
 refine simL_lend 1 rfl (fun hq9v hq10v hq11v hq12v => ?_)
 refine simL_eff (re_call (vs := [.pointer (some ⟨y4v.1, 0, none⟩)]) (cap := []) (A := [obj y4v.1 187 [.slice y7v.1 s6v.1.length y7v.2, .int .i64 s6v.2]]) (rst := [Row 5 1 y7v.1 s6v.1.length y7v.2 (encB s6v.1), obj bp0 31 [.int .i64 xp0_0, .int .i64 xp0_1, .int .i64 xp0_2, .int .i64 xp0_3, .int .i64 xp0_4, .int .i64 xp0_5, .int .i64 xp0_6, .int .i64 xp0_7, .int .i64 xp0_8, .bool xp0_9, .slice ap0_10 xp0_10.length cp0_10, .int .i64 xp0_11, .int .i64 xp0_12, .slice ap0_13 xp0_13.length cp0_13], F]) rfl rfl rfl rfl rfl rfl Try.call120 (.sel 0 rfl (.sel 0 rfl (.sel 0 rfl (.sel 0 rfl (.nil _))))) (wire_Writer_Done.calls _ _ y4v.1 y7v.1 y7v.2 s6v.1 s6v.2 (hq9v.lend 0 rfl) hq10v hq11v) hs15v) rfl rfl rfl ?_
 intro y14v
 refine simL_val (q_ext rfl rfl rfl) rfl rfl rfl ?_
 refine simL_val (q_ext rfl rfl rfl) rfl rfl rfl ?_
 refine simL_val (q_asg rfl rfl) rfl rfl rfl ?_
 refine simL_val (q_asg rfl rfl) rfl rfl rfl (simL_nil (nrm_then (sim_rtn ?_)))
 exact rtn_fn (y14v.1, y14v.2) rfl rfl rfl (.sel 0 rfl (.sel 2 rfl (.sel 2 rfl (.nil _))))
 refine sim_seq (sim_region ?_)
 refine simL_val (q_move rfl rfl) rfl rfl rfl ?_
 refine simL_val (q_asg rfl rfl) rfl rfl rfl ?_
 refine simL_val (q_asg rfl rfl) rfl rfl rfl (simL_nil (nrm_then (sim_rtn ?_)))
 refine rtn_then ?_
 exact rtn_fn (none, 0) rfl rfl rfl (.row_nil (.sel 0 rfl (.sel 0 rfl (.nil _))))

def codec_Messages_Put.f (k : Nat) (x1_0 : Int) (x1_1 : Int) (x1_2 : Int) (x1_3 : Int) (x1_4 : Int) (x1_5 : Int) (x1_6 : Int) (x1_7 : Int) (x1_8 : Int) (x1_9 : Bool) (x1_10 : List (Int × Int × Int × List UInt8)) (x1_11 : Int) (x1_12 : Int) (x1_13 : List UInt8) : Option (List UInt8 × Int) := (codec_Messages_Check.f k x1_0 x1_1 x1_2 x1_3 x1_4 x1_5 x1_6 x1_7 x1_8 x1_9 x1_10 x1_11 x1_12 x1_13).bind fun s3v => ((codec_text_codec_Messages_Put_1.f k s3v x1_0 x1_1 x1_2 x1_3 x1_4 x1_5 x1_6 x1_7 x1_8 x1_9 x1_10 x1_11 x1_12 x1_13).bind fun s6v => (some (s6v.1, s6v.2)))
theorem codec_Messages_Put.calls (W : World) (F : HA) (k : Nat) (x1_0 : Int) (x1_1 : Int) (x1_2 : Int) (x1_3 : Int) (x1_4 : Int) (x1_5 : Int) (x1_6 : Int) (x1_7 : Int) (x1_8 : Int) (x1_9 : Bool) (a1_10 : Option Addr) (c1_10 : Nat) (x1_10 : List (Int × Int × Int × List UInt8)) (x1_11 : Int) (x1_12 : Int) (a1_13 : Option Addr) (c1_13 : Nat) (x1_13 : List UInt8) (h1_10 : RdV F 4 (V61 F) a1_10 x1_10) (hc1_10 : x1_10.length ≤ c1_10) (hm1_10 : c1_10 ≤ maxLen) (h1_13 : Rd F a1_13 (encB x1_13)) (hc1_13 : x1_13.length ≤ c1_13) (hm1_13 : c1_13 ≤ maxLen) :
    Fn Try.prog W 57 [.agg #[], .agg #[.int .i64 x1_0, .int .i64 x1_1, .int .i64 x1_2, .int .i64 x1_3, .int .i64 x1_4, .int .i64 x1_5, .int .i64 x1_6, .int .i64 x1_7, .int .i64 x1_8, .bool x1_9, .slice a1_10 x1_10.length c1_10, .int .i64 x1_11, .int .i64 x1_12, .slice a1_13 x1_13.length c1_13]] [] F (codec_Messages_Put.f k x1_0 x1_1 x1_2 x1_3 x1_4 x1_5 x1_6 x1_7 x1_8 x1_9 x1_10 x1_11 x1_12 x1_13) (fun (r : List UInt8 × Int) (y : Option Addr × Nat) => .tuple #[.slice y.1 r.1.length y.2, .int .i64 r.2]) (fun r y => [Row 5 1 y.1 r.1.length y.2 (encB r.1)]) := by
 unfold codec_Messages_Put.f
 refine fn_intro 13 Try.func57 rfl Try.ntmps57 rfl ?_
 refine sim_seq (sim_region ?_)
 refine simL_eff (re_box rfl rfl rfl) rfl rfl rfl ?_
 intro b1v
 refine simL_eff (re_box rfl rfl rfl) rfl rfl rfl ?_
 intro b2v
 refine simL_val (q_asg rfl rfl) rfl rfl rfl ?_
 refine simL_val (q_asg rfl rfl) rfl rfl rfl (simL_nil (nrm_then (sim_seq (sim_region ?_))))
 refine simL_val (q_loado 1 rfl rfl Try.isAgg44 Try.sizeOf44 rfl rfl) rfl rfl rfl ?_
 refine simL_val (q_loado 0 rfl rfl Try.isAgg31 Try.sizeOf31 rfl rfl) rfl rfl rfl ?_
 refine simL_bind (fun s3v hs5v => ?_)
 refine simL_eff (re_call (vs := [.agg #[], .agg #[.int .i64 x1_0, .int .i64 x1_1, .int .i64 x1_2, .int .i64 x1_3, .int .i64 x1_4, .int .i64 x1_5, .int .i64 x1_6, .int .i64 x1_7, .int .i64 x1_8, .bool x1_9, .slice a1_10 x1_10.length c1_10, .int .i64 x1_11, .int .i64 x1_12, .slice a1_13 x1_13.length c1_13]]) (cap := []) (A := []) (rst := [obj b2v 31 [.int .i64 x1_0, .int .i64 x1_1, .int .i64 x1_2, .int .i64 x1_3, .int .i64 x1_4, .int .i64 x1_5, .int .i64 x1_6, .int .i64 x1_7, .int .i64 x1_8, .bool x1_9, .slice a1_10 x1_10.length c1_10, .int .i64 x1_11, .int .i64 x1_12, .slice a1_13 x1_13.length c1_13], obj b1v 44 [], F]) rfl rfl rfl rfl rfl rfl Try.call59 (.sel 0 rfl (.sel 0 rfl (.sel 0 rfl (.nil _)))) (codec_Messages_Check.calls _ _ k x1_0 x1_1 x1_2 x1_3 x1_4 x1_5 x1_6 x1_7 x1_8 x1_9 a1_10 c1_10 x1_10 x1_11 x1_12 a1_13 c1_13 x1_13 (h1_10.up (Up.lend 2 rfl) (V61.up (Up.lend 2 rfl))) hc1_10 hm1_10 (h1_13.lend 2 rfl) hc1_13 hm1_13) hs5v) rfl rfl rfl ?_
 intro y4v
 refine simL_val (q_mkfn rfl rfl rfl) rfl rfl rfl ?_
 refine simL_bind (fun s6v hs8v => ?_)
 refine simL_eff (re_call (vs := [.int .i64 s3v, .func (.func 104) #[] #[.pointer (some ⟨b2v, 0, none⟩)]]) (cap := []) (A := [obj b2v 31 [.int .i64 x1_0, .int .i64 x1_1, .int .i64 x1_2, .int .i64 x1_3, .int .i64 x1_4, .int .i64 x1_5, .int .i64 x1_6, .int .i64 x1_7, .int .i64 x1_8, .bool x1_9, .slice a1_10 x1_10.length c1_10, .int .i64 x1_11, .int .i64 x1_12, .slice a1_13 x1_13.length c1_13]]) (rst := [obj b1v 44 [], F]) rfl rfl rfl rfl rfl rfl Try.call76 (.sel 0 rfl (.sel 0 rfl (.sel 0 rfl (.nil _)))) (codec_text_codec_Messages_Put_1.calls _ _ k s3v b2v x1_0 x1_1 x1_2 x1_3 x1_4 x1_5 x1_6 x1_7 x1_8 x1_9 a1_10 c1_10 x1_10 x1_11 x1_12 a1_13 c1_13 x1_13 (h1_10.up (Up.lend 1 rfl) (V61.up (Up.lend 1 rfl))) hc1_10 hm1_10 (h1_13.lend 1 rfl) hc1_13 hm1_13) hs8v) rfl rfl rfl ?_
 intro y7v
 refine simL_val (q_ext rfl rfl rfl) rfl rfl rfl ?_
 refine simL_val (q_ext rfl rfl rfl) rfl rfl rfl ?_
 refine simL_val (q_asg rfl rfl) rfl rfl rfl ?_
 refine simL_val (q_asg rfl rfl) rfl rfl rfl (simL_nil (nrm_then (sim_rtn ?_)))
 exact rtn_fn (y7v.1, y7v.2) rfl rfl rfl (.sel 0 rfl (.sel 2 rfl (.nil _)))

def synodref_SameBytes.l0 (x0 : List UInt8) (x1 : List UInt8) : Nat → Int → Option ((Unit) ⊕ (Bool))
  | 0, _ => none
  | k + 1, z7v => if z7v < (x0.length : Int) then (if 0 ≤ z7v ∧ z7v < (x0.length : Int) then (if 0 ≤ z7v ∧ z7v < (x1.length : Int) then (if ((x0.getD z7v.toNat 0).toNat : Int) = ((x1.getD z7v.toNat 0).toNat : Int) then (synodref_SameBytes.l0 x0 x1 k (IntKind.i64.wrap (z7v + 1))) else (some (.inr false))) else none) else none) else (some (.inl ()))
def synodref_SameBytes.f (k : Nat) (x0 : List UInt8) (x1 : List UInt8) : Option (Bool) := if (x0.length : Int) = (x1.length : Int) then (orR (synodref_SameBytes.l0 x0 x1 k 0) fun s3v => (some true)) else (some false)
theorem synodref_SameBytes.calls (W : World) (F : HA) (k : Nat) (a0 : Option Addr) (c0 : Nat) (x0 : List UInt8) (a1 : Option Addr) (c1 : Nat) (x1 : List UInt8) (h0 : Rd F a0 (encB x0)) (hc0 : x0.length ≤ c0) (hm0 : c0 ≤ maxLen) (h1 : Rd F a1 (encB x1)) (hc1 : x1.length ≤ c1) (hm1 : c1 ≤ maxLen) :
    Fn Try.prog W 25 [.slice a0 x0.length c0, .slice a1 x1.length c1] [] F (synodref_SameBytes.f k x0 x1) (fun (r : Bool) (y : Unit) => .bool r) (fun r y => []) := by
 unfold synodref_SameBytes.f
 refine fn_intro 26 Try.func25 rfl Try.ntmps25 rfl ?_
 refine sim_seq (sim_region ?_)
 refine simL_val (q_asg rfl rfl) rfl rfl rfl (simL_nil (nrm_then (sim_seq (sim_seq (sim_region ?_)))))
 refine simL_val (q_move rfl rfl) rfl rfl rfl ?_
 refine simL_val (q_len rfl rfl rfl Try.underlying27) rfl rfl rfl ?_
 refine simL_val (q_move rfl rfl) rfl rfl rfl ?_
 refine simL_val (q_len rfl rfl rfl Try.underlying27) rfl rfl rfl ?_
 refine simL_val (q_neq rfl rfl rfl) rfl rfl rfl (simL_nil (nrm_then ?_))
 refine sim_condn rfl (fun h1v => ?_) (fun h2v => ?_)
 refine sim_skip ?_
 refine nrm_then ?_
 refine sim_cutR (S := Unit) (Unit) (fun s y => []) (fun s y => [F]) ?_ ?_
 refine sim_seq (sim_region ?_)
 refine simL_val (q_asg rfl rfl) rfl rfl rfl (simL_nil (nrm_then ?_))
 refine sim_block ?_
 refine sim_loop (S := Int) (Unit) (fun k s => synodref_SameBytes.l0 x0 x1 k s) (fun s y => [(0, .slice a0 x0.length c0), (1, .slice a1 x1.length c1), (5, .int .i64 s)]) (fun s y => [F]) (fun _ => by rw [synodref_SameBytes.l0]) ?_ k 0 () ⟨rfl, rfl, rfl, trivial⟩ (.sel 0 rfl (.nil _))
 intro k s5v y6v
 refine sim_eq (by rw [synodref_SameBytes.l0]) ?_
 refine sim_seq (sim_seq (sim_region ?_))
 refine simL_val (q_move rfl rfl) rfl rfl rfl ?_
 refine simL_val (q_move rfl rfl) rfl rfl rfl ?_
 refine simL_val (q_len rfl rfl rfl Try.underlying27) rfl rfl rfl ?_
 refine simL_val (q_lss rfl rfl rfl) rfl rfl rfl (simL_nil (nrm_then ?_))
 refine sim_cond rfl (fun h8v => ?_) (fun h9v => ?_)
 refine sim_skip ?_
 refine nrm_then (sim_seq ?_)
 refine sim_block ?_
 refine sim_seq ?_
 refine sim_ask (fun hi10v => ?_)
 obtain ⟨b11v, b11vo, ha12v⟩ := h0.pos (encB_ne (j := s5v.toNat) (by omega))
 refine sim_ask (fun hi14v => ?_)
 obtain ⟨b15v, b15vo, ha16v⟩ := h1.pos (encB_ne (j := s5v.toNat) (by omega))
 refine sim_draw (Γ := Unit) () [[], [], [0, 1], [0, 1, 2], [], [], [4, 5], [4, 5, 6], [0, 1, 2, 3, 4, 5, 6, 7]] [] [0, 1, 2, 3, 4, 5, 6, 7, 8] (fun i => [[0], [0], [0], [0], [0], [0], [0], [0], [0]].getD i []) (fun i => [[], [], [], [], [], [], [], [], []].getD i []) (fun γ i => [.slice a0 x0.length c0, .int .i64 s5v, .pointer (some ⟨b11v, b11vo + s5v.toNat, none⟩), .int .u8 ((x0.getD s5v.toNat 0).toNat : Int), .slice a1 x1.length c1, .int .i64 s5v, .pointer (some ⟨b15v, b15vo + s5v.toNat, none⟩), .int .u8 ((x1.getD s5v.toNat 0).toNat : Int), .bool (!decide (((x0.getD s5v.toNat 0).toNat : Int) = ((x1.getD s5v.toNat 0).toNat : Int)))].getD i undef) (fun j γ => [[F]].getD j []) (fun γ => [(0, .slice a0 x0.length c0), (1, .slice a1 x1.length c1), (5, .int .i64 s5v), (25, .bool (!decide (((x0.getD s5v.toNat 0).toNat : Int) = ((x1.getD s5v.toNat 0).toNat : Int))))]) mixed (by decide) (by decide) (by decide) (by decide) (by decide) (by decide) (by decide) 26 rfl (by decide) (by decide) (by decide) (Ent.refl _) ?_ ?_ (fun _ => ⟨rfl, rfl, rfl, rfl, trivial⟩) ?_
 exact (All.cons (fun γ => (All.cons (QOb.plain [(0, .slice a0 x0.length c0)] rfl rfl (.o rfl (by decide) .nil) (q_move rfl rfl) rfl) All.nil)) (All.cons (fun γ => (All.cons (QOb.plain [(5, .int .i64 s5v)] rfl rfl (.o rfl (by decide) .nil) (q_move rfl rfl) rfl) All.nil)) (All.cons (fun γ => (All.cons (QOb.plain [(17, .slice a0 x0.length c0), (18, .int .i64 s5v)] rfl rfl (.w 0 rfl rfl rfl (.w 1 rfl rfl rfl .nil)) (q_idx1 rfl rfl rfl ha12v Try.underlying27 Try.sizeOf5 hi10v.1 hi10v.2) rfl) All.nil)) (All.cons (fun γ => (All.cons (QOb.plain [(19, .pointer (some ⟨b11v, b11vo + s5v.toNat, none⟩))] rfl rfl (.w 2 rfl rfl rfl .nil) (q_load rfl rfl Try.isAgg5 (h0.cell 0 rfl ha12v (encB_get (by omega)))) rfl) All.nil)) (All.cons (fun γ => (All.cons (QOb.plain [(1, .slice a1 x1.length c1)] rfl rfl (.o rfl (by decide) .nil) (q_move rfl rfl) rfl) All.nil)) (All.cons (fun γ => (All.cons (QOb.plain [(5, .int .i64 s5v)] rfl rfl (.o rfl (by decide) .nil) (q_move rfl rfl) rfl) All.nil)) (All.cons (fun γ => (All.cons (QOb.plain [(21, .slice a1 x1.length c1), (22, .int .i64 s5v)] rfl rfl (.w 4 rfl rfl rfl (.w 5 rfl rfl rfl .nil)) (q_idx1 rfl rfl rfl ha16v Try.underlying27 Try.sizeOf5 hi14v.1 hi14v.2) rfl) All.nil)) (All.cons (fun γ => (All.cons (QOb.plain [(23, .pointer (some ⟨b15v, b15vo + s5v.toNat, none⟩))] rfl rfl (.w 6 rfl rfl rfl .nil) (q_load rfl rfl Try.isAgg5 (h1.cell 0 rfl ha16v (encB_get (by omega)))) rfl) All.nil)) (All.cons (fun γ => (All.cons (QOb.plain [(20, .int .u8 ((x0.getD s5v.toNat 0).toNat : Int)), (24, .int .u8 ((x1.getD s5v.toNat 0).toNat : Int))] rfl rfl (.w 3 rfl rfl rfl (.w 7 rfl rfl rfl .nil)) (q_neq rfl rfl rfl) rfl) All.nil)) All.nil)))))))))
 exact All.nil
 intro g18v
 refine nrm_then ?_
 refine sim_condn rfl (fun h19v => ?_) (fun h20v => ?_)
 refine sim_skip ?_
 refine nrm_block (nrm_then (sim_region ?_))
 refine simL_val (q_move rfl rfl) rfl rfl rfl ?_
 refine simL_val (q_add rfl rfl rfl) rfl rfl rfl ?_
 refine simL_val (q_asg rfl rfl) rfl rfl rfl (simL_nil ?_)
 exact nrm_again (s := IntKind.i64.wrap (s5v + 1)) () ⟨rfl, rfl, rfl, trivial⟩ (.sel 0 rfl (.nil _))
 refine sim_seq (sim_region ?_)
 refine simL_val (q_asg rfl rfl) rfl rfl rfl (simL_nil (nrm_then (sim_rtn ?_)))
 refine rtn_block ?_
 refine rtn_then ?_
 refine rtn_loop ?_
 refine rtn_block ?_
 refine rtn_cutR ?_
 exact rtn_fn () rfl rfl rfl (.sel 0 rfl (.nil _))
 refine sim_exi ?_
 refine exi_then ?_
 refine exi_loop ?_
 refine exi_here ?_
 exact nrm_cutR (s := ()) () trivial (.sel 0 rfl (.nil _))
 intro s3v y4v
 refine sim_seq (sim_region ?_)
 refine simL_val (q_asg rfl rfl) rfl rfl rfl (simL_nil (nrm_then (sim_rtn ?_)))
 exact rtn_fn () rfl rfl rfl (.sel 0 rfl (.nil _))
 refine sim_seq (sim_region ?_)
 refine simL_val (q_asg rfl rfl) rfl rfl rfl (simL_nil (nrm_then (sim_rtn ?_)))
 refine rtn_then ?_
 exact rtn_fn () rfl rfl rfl (.sel 0 rfl (.nil _))

def synodref_Num.f (x0 : Int) : Option (Int) := some x0
theorem synodref_Num.calls (W : World) (F : HA) (x0 : Int)  :
    Fn Try.prog W 26 [.int .i64 x0] [] F (synodref_Num.f x0) (fun (r : Int) (y : Unit) => .int .i64 r) (fun r y => []) := by
 unfold synodref_Num.f
 refine fn_intro 4 Try.func26 rfl Try.ntmps26 rfl ?_
 refine sim_seq (sim_region ?_)
 refine simL_val (q_asg rfl rfl) rfl rfl rfl (simL_nil (nrm_then (sim_seq (sim_region ?_))))
 refine simL_val (q_move rfl rfl) rfl rfl rfl ?_
 refine simL_val (q_asg rfl rfl) rfl rfl rfl (simL_nil (nrm_then (sim_rtn ?_)))
 exact rtn_fn () rfl rfl rfl (.sel 0 rfl (.nil _))
def synodref_Num.v (x0 : Int) : Int := (synodref_Num.f x0).getD 0
theorem synodref_Num.tot (x0 : Int) : synodref_Num.f x0 = some (synodref_Num.v x0) := by
  have h : ∃ r, synodref_Num.f x0 = some r := by
    unfold synodref_Num.f
    repeat' (first | exact ⟨_, rfl⟩ | split | simp only [Option.bind_some])
  obtain ⟨r, h⟩ := h
  unfold synodref_Num.v
  rw [h]; rfl

def synodlaw3_first.f (k : Nat)  : Option (Bool) := (codec_Entries_Put.f k (3 : Int) (300 : Int) (1 : Int) ([97, 98] : List UInt8)).bind fun s7v => ((codec_States_Put.f k (5 : Int) (2 : Int) (9 : Int)).bind fun s10v => ((codec_States_Check.f (0 : Int) (1 : Int) (0 : Int)).bind fun s13v => ((codec_Messages_Put.f k (1 : Int) (1 : Int) (2 : Int) (4 : Int) (7 : Int) (3 : Int) (0 : Int) (0 : Int) (0 : Int) false ([] : List (Int × Int × Int × List UInt8)) (0 : Int) (0 : Int) ([] : List UInt8)).bind fun s16v => ((synodref_SameBytes.f k s7v.1 ([3, 172, 2, 1, 2, 97, 98] : List UInt8)).bind fun s29v => ((if s29v = true then ((synodref_SameBytes.f k s10v.1 ([5, 2, 9] : List UInt8)).bind fun s44v => (some s44v)) else (some false)).bind fun s32v => ((if s32v = true then ((synodref_SameBytes.f k s16v.1 ([1, 1, 2, 4, 7, 3] : List UInt8)).bind fun s61v => (some s61v)) else (some false)).bind fun s49v => ((if s49v = true then ((synodref_Num.f s7v.2).bind fun s68v => (some (decide (s68v = (0 : Int))))) else (some false)).bind fun s66v => ((if s66v = true then ((synodref_Num.f s10v.2).bind fun s75v => (some (decide (s75v = (0 : Int))))) else (some false)).bind fun s73v => ((if s73v = true then ((synodref_Num.f s13v).bind fun s82v => (some (decide (s82v = (4 : Int))))) else (some false)).bind fun s80v => ((if s80v = true then ((synodref_Num.f s16v.2).bind fun s89v => (some (decide (s89v = (0 : Int))))) else (some false)).bind fun s87v => (some s87v)))))))))))
theorem synodlaw3_first.calls (W : World) (F : HA) (k : Nat)   :
    Fn Try.prog W 14 [] [] F (synodlaw3_first.f k ) (fun (r : Bool) (y : Unit) => .bool r) (fun r y => []) := by
 unfold synodlaw3_first.f
 refine fn_intro 66 Try.func14 rfl Try.ntmps14 rfl ?_
 refine sim_seq (sim_region ?_)
 refine simL_val (q_asg rfl rfl) rfl rfl rfl (simL_nil (nrm_then (sim_seq (sim_region ?_))))
 refine simL_val (q_build (v := .agg #[]) rfl rfl (fun _ => by kernel_rfl)) rfl rfl rfl ?_
 refine simL_eff (re_litb (cs := [.int .u8 97, .int .u8 98]) ([97, 98] : List UInt8) rfl rfl Try.underlying27 elt5 rfl (by kernel_rfl) rfl rfl rfl) rfl rfl rfl ?_
 intro b1v
 refine simL_eff (re_mark 0 rfl rfl Try.underlying27 Try.underlying5 rfl rfl) rfl rfl rfl ?_
 intro _
 refine simL_val (q_build (v := .agg #[.int .i64 3, .int .i64 300, .int .i64 1, .slice (some ⟨b1v, 0, none⟩) (([97, 98] : List UInt8).length) 2]) rfl rfl (fun _ => by kernel_rfl)) rfl rfl rfl ?_
 refine simL_bind (fun s7v hs9v => ?_)
 refine simL_lend 0 rfl (fun hq3v hq4v hq5v hq6v => ?_)
 refine simL_eff (re_call (vs := [.agg #[], .agg #[.int .i64 3, .int .i64 300, .int .i64 1, .slice (some ⟨b1v, 0, none⟩) (([97, 98] : List UInt8).length) 2]]) (cap := []) (A := []) (rst := [Row 5 1 (some ⟨b1v, 0, none⟩) ([97, 98] : List UInt8).length 2 (encB ([97, 98] : List UInt8)), F]) rfl rfl rfl rfl rfl rfl Try.call32 (.sel 0 rfl (.sel 0 rfl (.nil _))) (codec_Entries_Put.calls _ _ k (3 : Int) (300 : Int) (1 : Int) (some ⟨b1v, 0, none⟩) 2 ([97, 98] : List UInt8) (hq3v.lend 0 rfl) hq4v hq5v) hs9v) rfl rfl rfl ?_
 intro y8v
 refine simL_val (q_move rfl rfl) rfl rfl rfl ?_
 refine simL_val (q_ext rfl rfl rfl) rfl rfl rfl ?_
 refine simL_val (q_ext rfl rfl rfl) rfl rfl rfl ?_
 refine simL_val (q_asg rfl rfl) rfl rfl rfl ?_
 refine simL_val (q_asg rfl rfl) rfl rfl rfl (simL_nil (nrm_then (sim_seq (sim_region ?_))))
 refine simL_val (q_build (v := .agg #[]) rfl rfl (fun _ => by kernel_rfl)) rfl rfl rfl ?_
 refine simL_val (q_build (v := .agg #[.int .i64 5, .int .i64 2, .int .i64 9]) rfl rfl (fun _ => by kernel_rfl)) rfl rfl rfl ?_
 refine simL_bind (fun s10v hs12v => ?_)
 refine simL_eff (re_call (vs := [.agg #[], .agg #[.int .i64 5, .int .i64 2, .int .i64 9]]) (cap := []) (A := []) (rst := [Row 5 1 y8v.1 s7v.1.length y8v.2 (encB s7v.1), Row 5 1 (some ⟨b1v, 0, none⟩) ([97, 98] : List UInt8).length 2 (encB ([97, 98] : List UInt8)), F]) rfl rfl rfl rfl rfl rfl Try.call23 (.sel 0 rfl (.sel 0 rfl (.sel 0 rfl (.nil _)))) (codec_States_Put.calls _ _ k (5 : Int) (2 : Int) (9 : Int) ) hs12v) rfl rfl rfl ?_
 intro y11v
 refine simL_val (q_move rfl rfl) rfl rfl rfl ?_
 refine simL_val (q_ext rfl rfl rfl) rfl rfl rfl ?_
 refine simL_val (q_ext rfl rfl rfl) rfl rfl rfl ?_
 refine simL_val (q_asg rfl rfl) rfl rfl rfl ?_
 refine simL_val (q_asg rfl rfl) rfl rfl rfl (simL_nil (nrm_then (sim_seq (sim_region ?_))))
 refine simL_val (q_build (v := .agg #[]) rfl rfl (fun _ => by kernel_rfl)) rfl rfl rfl ?_
 refine simL_val (q_build (v := .agg #[.int .i64 0, .int .i64 1, .int .i64 0]) rfl rfl (fun _ => by kernel_rfl)) rfl rfl rfl ?_
 refine simL_bind (fun s13v hs15v => ?_)
 refine simL_eff (re_call (vs := [.agg #[], .agg #[.int .i64 0, .int .i64 1, .int .i64 0]]) (cap := []) (A := []) (rst := [Row 5 1 y11v.1 s10v.1.length y11v.2 (encB s10v.1), Row 5 1 y8v.1 s7v.1.length y8v.2 (encB s7v.1), Row 5 1 (some ⟨b1v, 0, none⟩) ([97, 98] : List UInt8).length 2 (encB ([97, 98] : List UInt8)), F]) rfl rfl rfl rfl rfl rfl Try.call27 (.sel 0 rfl (.sel 0 rfl (.sel 0 rfl (.sel 0 rfl (.nil _))))) (codec_States_Check.calls _ _ (0 : Int) (1 : Int) (0 : Int) ) hs15v) rfl rfl rfl ?_
 intro y14v
 refine simL_val (q_asg rfl rfl) rfl rfl rfl (simL_nil (nrm_then (sim_seq (sim_region ?_))))
 refine simL_val (q_build (v := .agg #[]) rfl rfl (fun _ => by kernel_rfl)) rfl rfl rfl ?_
 refine simL_val (q_build (v := .agg #[.int .i64 1, .int .i64 1, .int .i64 2, .int .i64 4, .int .i64 7, .int .i64 3, .int .i64 0, .int .i64 0, .int .i64 0, .bool false, .slice none 0 0, .int .i64 0, .int .i64 0, .slice none 0 0]) rfl rfl (fun _ => by kernel_rfl)) rfl rfl rfl ?_
 refine simL_bind (fun s16v hs18v => ?_)
 refine simL_eff (re_call (vs := [.agg #[], .agg #[.int .i64 1, .int .i64 1, .int .i64 2, .int .i64 4, .int .i64 7, .int .i64 3, .int .i64 0, .int .i64 0, .int .i64 0, .bool false, .slice none 0 0, .int .i64 0, .int .i64 0, .slice none 0 0]]) (cap := []) (A := []) (rst := [Row 5 1 y11v.1 s10v.1.length y11v.2 (encB s10v.1), Row 5 1 y8v.1 s7v.1.length y8v.2 (encB s7v.1), Row 5 1 (some ⟨b1v, 0, none⟩) ([97, 98] : List UInt8).length 2 (encB ([97, 98] : List UInt8)), F]) rfl rfl rfl rfl rfl rfl Try.call57 (.sel 0 rfl (.sel 0 rfl (.sel 0 rfl (.sel 0 rfl (.nil _))))) (codec_Messages_Put.calls _ _ k (1 : Int) (1 : Int) (2 : Int) (4 : Int) (7 : Int) (3 : Int) (0 : Int) (0 : Int) (0 : Int) false none 0 ([] : List (Int × Int × Int × List UInt8)) (0 : Int) (0 : Int) none 0 ([] : List UInt8) RdV.nil (Nat.le_refl _) (Nat.zero_le _) (Rd.nil _ _) (Nat.le_refl _) (Nat.zero_le _)) hs18v) rfl rfl rfl ?_
 intro y17v
 refine simL_val (q_move rfl rfl) rfl rfl rfl ?_
 refine simL_val (q_ext rfl rfl rfl) rfl rfl rfl ?_
 refine simL_val (q_ext rfl rfl rfl) rfl rfl rfl ?_
 refine simL_val (q_asg rfl rfl) rfl rfl rfl ?_
 refine simL_val (q_asg rfl rfl) rfl rfl rfl (simL_nil (nrm_then (sim_seq (sim_region ?_))))
 refine simL_val (q_move rfl rfl) rfl rfl rfl ?_
 refine simL_eff (re_litb (cs := [.int .u8 3, .int .u8 172, .int .u8 2, .int .u8 1, .int .u8 2, .int .u8 97, .int .u8 98]) ([3, 172, 2, 1, 2, 97, 98] : List UInt8) rfl rfl Try.underlying27 elt5 rfl (by kernel_rfl) rfl rfl rfl) rfl rfl rfl ?_
 intro b19v
 refine simL_bind (fun s29v hs31v => ?_)
 refine simL_lend 3 rfl (fun hq21v hq22v hq23v hq24v => ?_)
 refine simL_lend 0 rfl (fun hq25v hq26v hq27v hq28v => ?_)
 refine simL_eff (re_call (vs := [.slice y8v.1 s7v.1.length y8v.2, .slice (some ⟨b19v, 0, none⟩) (([3, 172, 2, 1, 2, 97, 98] : List UInt8).length) 7]) (cap := []) (A := []) (rst := [Row 5 1 (some ⟨b19v, 0, none⟩) ([3, 172, 2, 1, 2, 97, 98] : List UInt8).length 7 (encB ([3, 172, 2, 1, 2, 97, 98] : List UInt8)), Row 5 1 y17v.1 s16v.1.length y17v.2 (encB s16v.1), Row 5 1 y11v.1 s10v.1.length y11v.2 (encB s10v.1), Row 5 1 y8v.1 s7v.1.length y8v.2 (encB s7v.1), Row 5 1 (some ⟨b1v, 0, none⟩) ([97, 98] : List UInt8).length 2 (encB ([97, 98] : List UInt8)), F]) rfl rfl rfl rfl rfl rfl Try.call25 (.sel 0 rfl (.sel 0 rfl (.sel 0 rfl (.sel 0 rfl (.sel 0 rfl (.sel 0 rfl (.nil _))))))) (synodref_SameBytes.calls _ _ k y8v.1 y8v.2 s7v.1 (some ⟨b19v, 0, none⟩) 7 ([3, 172, 2, 1, 2, 97, 98] : List UInt8) (hq21v.lend 3 rfl) hq22v hq23v (hq25v.lend 0 rfl) hq26v hq27v) hs31v) rfl rfl rfl ?_
 intro y30v
 refine simL_val (q_move rfl rfl) rfl rfl rfl ?_
 refine simL_cut' 4 (S := Bool) (Unit) (fun s y => [(2, .int .i64 s7v.2), (4, .int .i64 s10v.2), (5, .int .i64 s13v), (6, .slice y17v.1 s16v.1.length y17v.2), (7, .int .i64 s16v.2), (39, .bool s)]) (fun s y => [Row 5 1 y17v.1 s16v.1.length y17v.2 (encB s16v.1), F]) ?_ ?_
 refine simL_caseb (fun hb47v => ?_) (fun hb48v => ?_)
 rw [hb47v]
 refine simL_valg (q_move rfl rfl) rfl rfl rfl rfl rfl rfl ?_
 refine simL_effg (re_litb (cs := [.int .u8 5, .int .u8 2, .int .u8 9]) ([5, 2, 9] : List UInt8) rfl rfl Try.underlying27 elt5 rfl (by kernel_rfl) rfl rfl rfl) rfl rfl rfl rfl rfl rfl ?_
 intro b34v
 refine simL_bind (fun s44v hs46v => ?_)
 refine simL_lend 3 rfl (fun hq36v hq37v hq38v hq39v => ?_)
 refine simL_lend 0 rfl (fun hq40v hq41v hq42v hq43v => ?_)
 refine simL_effg (re_call (vs := [.slice y11v.1 s10v.1.length y11v.2, .slice (some ⟨b34v, 0, none⟩) (([5, 2, 9] : List UInt8).length) 3]) (cap := []) (A := []) (rst := [Row 5 1 (some ⟨b34v, 0, none⟩) ([5, 2, 9] : List UInt8).length 3 (encB ([5, 2, 9] : List UInt8)), Row 5 1 (some ⟨b19v, 0, none⟩) ([3, 172, 2, 1, 2, 97, 98] : List UInt8).length 7 (encB ([3, 172, 2, 1, 2, 97, 98] : List UInt8)), Row 5 1 y17v.1 s16v.1.length y17v.2 (encB s16v.1), Row 5 1 y11v.1 s10v.1.length y11v.2 (encB s10v.1), Row 5 1 y8v.1 s7v.1.length y8v.2 (encB s7v.1), Row 5 1 (some ⟨b1v, 0, none⟩) ([97, 98] : List UInt8).length 2 (encB ([97, 98] : List UInt8)), F]) rfl rfl rfl rfl rfl rfl Try.call25 (.sel 0 rfl (.sel 0 rfl (.sel 0 rfl (.sel 0 rfl (.sel 0 rfl (.sel 0 rfl (.sel 0 rfl (.nil _)))))))) (synodref_SameBytes.calls _ _ k y11v.1 y11v.2 s10v.1 (some ⟨b34v, 0, none⟩) 3 ([5, 2, 9] : List UInt8) (hq36v.lend 3 rfl) hq37v hq38v (hq40v.lend 0 rfl) hq41v hq42v) hs46v) rfl rfl rfl rfl rfl rfl ?_
 intro y45v
 refine simL_val (q_pick rfl rfl rfl rfl rfl) rfl rfl rfl (simL_nil ?_)
 exact nrm_cut (s := s44v) () ⟨rfl, rfl, rfl, rfl, rfl, rfl, trivial⟩ (.sel 2 rfl (.sel 5 rfl (.nil _)))
 rw [hb48v]
 refine simL_skipd rfl rfl rfl rfl rfl rfl ?_
 refine simL_skipd rfl rfl rfl rfl rfl rfl ?_
 refine simL_skipd rfl rfl rfl rfl rfl rfl ?_
 refine simL_val (q_pick rfl rfl rfl rfl rfl) rfl rfl rfl (simL_nil ?_)
 exact nrm_cut (s := false) () ⟨rfl, rfl, rfl, rfl, rfl, rfl, trivial⟩ (.sel 1 rfl (.sel 4 rfl (.nil _)))
 intro s32v y33v
 refine simL_val (q_move rfl rfl) rfl rfl rfl ?_
 refine simL_cut' 4 (S := Bool) (Unit) (fun s y => [(2, .int .i64 s7v.2), (4, .int .i64 s10v.2), (5, .int .i64 s13v), (7, .int .i64 s16v.2), (44, .bool s)]) (fun s y => [F]) ?_ ?_
 refine simL_caseb (fun hb64v => ?_) (fun hb65v => ?_)
 rw [hb64v]
 refine simL_valg (q_move rfl rfl) rfl rfl rfl rfl rfl rfl ?_
 refine simL_effg (re_litb (cs := [.int .u8 1, .int .u8 1, .int .u8 2, .int .u8 4, .int .u8 7, .int .u8 3]) ([1, 1, 2, 4, 7, 3] : List UInt8) rfl rfl Try.underlying27 elt5 rfl (by kernel_rfl) rfl rfl rfl) rfl rfl rfl rfl rfl rfl ?_
 intro b51v
 refine simL_bind (fun s61v hs63v => ?_)
 refine simL_lend 1 rfl (fun hq53v hq54v hq55v hq56v => ?_)
 refine simL_lend 0 rfl (fun hq57v hq58v hq59v hq60v => ?_)
 refine simL_effg (re_call (vs := [.slice y17v.1 s16v.1.length y17v.2, .slice (some ⟨b51v, 0, none⟩) (([1, 1, 2, 4, 7, 3] : List UInt8).length) 6]) (cap := []) (A := []) (rst := [Row 5 1 (some ⟨b51v, 0, none⟩) ([1, 1, 2, 4, 7, 3] : List UInt8).length 6 (encB ([1, 1, 2, 4, 7, 3] : List UInt8)), Row 5 1 y17v.1 s16v.1.length y17v.2 (encB s16v.1), F]) rfl rfl rfl rfl rfl rfl Try.call25 (.sel 0 rfl (.sel 0 rfl (.sel 0 rfl (.nil _)))) (synodref_SameBytes.calls _ _ k y17v.1 y17v.2 s16v.1 (some ⟨b51v, 0, none⟩) 6 ([1, 1, 2, 4, 7, 3] : List UInt8) (hq53v.lend 1 rfl) hq54v hq55v (hq57v.lend 0 rfl) hq58v hq59v) hs63v) rfl rfl rfl rfl rfl rfl ?_
 intro y62v
 refine simL_val (q_pick rfl rfl rfl rfl rfl) rfl rfl rfl (simL_nil ?_)
 exact nrm_cut (s := s61v) () ⟨rfl, rfl, rfl, rfl, rfl, trivial⟩ (.sel 2 rfl (.nil _))
 rw [hb65v]
 refine simL_skipd rfl rfl rfl rfl rfl rfl ?_
 refine simL_skipd rfl rfl rfl rfl rfl rfl ?_
 refine simL_skipd rfl rfl rfl rfl rfl rfl ?_
 refine simL_val (q_pick rfl rfl rfl rfl rfl) rfl rfl rfl (simL_nil ?_)
 exact nrm_cut (s := false) () ⟨rfl, rfl, rfl, rfl, rfl, trivial⟩ (.sel 1 rfl (.nil _))
 intro s49v y50v
 refine simL_val (q_asg rfl rfl) rfl rfl rfl (simL_nil (nrm_then (sim_seq (sim_region ?_))))
 refine simL_val (q_move rfl rfl) rfl rfl rfl ?_
 refine simL_val (q_move rfl rfl) rfl rfl rfl ?_
 refine simL_cut' 4 (S := Bool) (Unit) (fun s y => [(4, .int .i64 s10v.2), (5, .int .i64 s13v), (7, .int .i64 s16v.2), (50, .bool s)]) (fun s y => [F]) ?_ ?_
 refine simL_caseb (fun hb71v => ?_) (fun hb72v => ?_)
 rw [hb71v]
 refine simL_valg (q_move rfl rfl) rfl rfl rfl rfl rfl rfl ?_
 refine simL_bind (fun s68v hs70v => ?_)
 refine simL_effg (re_call (vs := [.int .i64 s7v.2]) (cap := []) (A := []) (rst := [F]) rfl rfl rfl rfl rfl rfl Try.call26 (.sel 0 rfl (.nil _)) (synodref_Num.calls _ _ s7v.2 ) hs70v) rfl rfl rfl rfl rfl rfl ?_
 intro y69v
 refine simL_valg (q_eql rfl rfl rfl) rfl rfl rfl rfl rfl rfl ?_
 refine simL_val (q_pick rfl rfl rfl rfl rfl) rfl rfl rfl (simL_nil ?_)
 exact nrm_cut (s := decide (s68v = (0 : Int))) () ⟨rfl, rfl, rfl, rfl, trivial⟩ (.sel 0 rfl (.nil _))
 rw [hb72v]
 refine simL_skipd rfl rfl rfl rfl rfl rfl ?_
 refine simL_skipd rfl rfl rfl rfl rfl rfl ?_
 refine simL_skipd rfl rfl rfl rfl rfl rfl ?_
 refine simL_val (q_pick rfl rfl rfl rfl rfl) rfl rfl rfl (simL_nil ?_)
 exact nrm_cut (s := false) () ⟨rfl, rfl, rfl, rfl, trivial⟩ (.sel 0 rfl (.nil _))
 intro s66v y67v
 refine simL_val (q_move rfl rfl) rfl rfl rfl ?_
 refine simL_cut' 4 (S := Bool) (Unit) (fun s y => [(5, .int .i64 s13v), (7, .int .i64 s16v.2), (55, .bool s)]) (fun s y => [F]) ?_ ?_
 refine simL_caseb (fun hb78v => ?_) (fun hb79v => ?_)
 rw [hb78v]
 refine simL_valg (q_move rfl rfl) rfl rfl rfl rfl rfl rfl ?_
 refine simL_bind (fun s75v hs77v => ?_)
 refine simL_effg (re_call (vs := [.int .i64 s10v.2]) (cap := []) (A := []) (rst := [F]) rfl rfl rfl rfl rfl rfl Try.call26 (.sel 0 rfl (.nil _)) (synodref_Num.calls _ _ s10v.2 ) hs77v) rfl rfl rfl rfl rfl rfl ?_
 intro y76v
 refine simL_valg (q_eql rfl rfl rfl) rfl rfl rfl rfl rfl rfl ?_
 refine simL_val (q_pick rfl rfl rfl rfl rfl) rfl rfl rfl (simL_nil ?_)
 exact nrm_cut (s := decide (s75v = (0 : Int))) () ⟨rfl, rfl, rfl, trivial⟩ (.sel 0 rfl (.nil _))
 rw [hb79v]
 refine simL_skipd rfl rfl rfl rfl rfl rfl ?_
 refine simL_skipd rfl rfl rfl rfl rfl rfl ?_
 refine simL_skipd rfl rfl rfl rfl rfl rfl ?_
 refine simL_val (q_pick rfl rfl rfl rfl rfl) rfl rfl rfl (simL_nil ?_)
 exact nrm_cut (s := false) () ⟨rfl, rfl, rfl, trivial⟩ (.sel 0 rfl (.nil _))
 intro s73v y74v
 refine simL_val (q_move rfl rfl) rfl rfl rfl ?_
 refine simL_cut' 4 (S := Bool) (Unit) (fun s y => [(7, .int .i64 s16v.2), (60, .bool s)]) (fun s y => [F]) ?_ ?_
 refine simL_caseb (fun hb85v => ?_) (fun hb86v => ?_)
 rw [hb85v]
 refine simL_valg (q_move rfl rfl) rfl rfl rfl rfl rfl rfl ?_
 refine simL_bind (fun s82v hs84v => ?_)
 refine simL_effg (re_call (vs := [.int .i64 s13v]) (cap := []) (A := []) (rst := [F]) rfl rfl rfl rfl rfl rfl Try.call26 (.sel 0 rfl (.nil _)) (synodref_Num.calls _ _ s13v ) hs84v) rfl rfl rfl rfl rfl rfl ?_
 intro y83v
 refine simL_valg (q_eql rfl rfl rfl) rfl rfl rfl rfl rfl rfl ?_
 refine simL_val (q_pick rfl rfl rfl rfl rfl) rfl rfl rfl (simL_nil ?_)
 exact nrm_cut (s := decide (s82v = (4 : Int))) () ⟨rfl, rfl, trivial⟩ (.sel 0 rfl (.nil _))
 rw [hb86v]
 refine simL_skipd rfl rfl rfl rfl rfl rfl ?_
 refine simL_skipd rfl rfl rfl rfl rfl rfl ?_
 refine simL_skipd rfl rfl rfl rfl rfl rfl ?_
 refine simL_val (q_pick rfl rfl rfl rfl rfl) rfl rfl rfl (simL_nil ?_)
 exact nrm_cut (s := false) () ⟨rfl, rfl, trivial⟩ (.sel 0 rfl (.nil _))
 intro s80v y81v
 refine simL_val (q_move rfl rfl) rfl rfl rfl ?_
 refine simL_cut' 4 (S := Bool) (Unit) (fun s y => [(65, .bool s)]) (fun s y => [F]) ?_ ?_
 refine simL_caseb (fun hb92v => ?_) (fun hb93v => ?_)
 rw [hb92v]
 refine simL_valg (q_move rfl rfl) rfl rfl rfl rfl rfl rfl ?_
 refine simL_bind (fun s89v hs91v => ?_)
 refine simL_effg (re_call (vs := [.int .i64 s16v.2]) (cap := []) (A := []) (rst := [F]) rfl rfl rfl rfl rfl rfl Try.call26 (.sel 0 rfl (.nil _)) (synodref_Num.calls _ _ s16v.2 ) hs91v) rfl rfl rfl rfl rfl rfl ?_
 intro y90v
 refine simL_valg (q_eql rfl rfl rfl) rfl rfl rfl rfl rfl rfl ?_
 refine simL_val (q_pick rfl rfl rfl rfl rfl) rfl rfl rfl (simL_nil ?_)
 exact nrm_cut (s := decide (s89v = (0 : Int))) () ⟨rfl, trivial⟩ (.sel 0 rfl (.nil _))
 rw [hb93v]
 refine simL_skipd rfl rfl rfl rfl rfl rfl ?_
 refine simL_skipd rfl rfl rfl rfl rfl rfl ?_
 refine simL_skipd rfl rfl rfl rfl rfl rfl ?_
 refine simL_val (q_pick rfl rfl rfl rfl rfl) rfl rfl rfl (simL_nil ?_)
 exact nrm_cut (s := false) () ⟨rfl, trivial⟩ (.sel 0 rfl (.nil _))
 intro s87v y88v
 refine simL_val (q_asg rfl rfl) rfl rfl rfl (simL_nil (nrm_then (sim_rtn ?_)))
 exact rtn_fn () rfl rfl rfl (.sel 0 rfl (.nil _))

def synodlaw3_slight.l0 (x0_10 : List (Int × Int × Int × List UInt8)) : Nat → Int → Int → Option (Int)
  | 0, _, _ => none
  | k + 1, z6v, z7v => if ((decide (z7v < (x0_10.length : Int))) && (decide (z6v ≤ (20000 : Int)))) = true then (if 0 ≤ z7v ∧ z7v < (x0_10.length : Int) then (synodlaw3_slight.l0 x0_10 k (IntKind.i64.wrap (z6v + (min (((x0_10.getD z7v.toNat ((0 : Int), (0 : Int), (0 : Int), ([] : List UInt8))).2.2.2).length : Int) (20000 : Int)))) (IntKind.i64.wrap (z7v + 1))) else none) else (some z6v)
def synodlaw3_slight.f (k : Nat) (x0_0 : Int) (x0_1 : Int) (x0_2 : Int) (x0_3 : Int) (x0_4 : Int) (x0_5 : Int) (x0_6 : Int) (x0_7 : Int) (x0_8 : Int) (x0_9 : Bool) (x0_10 : List (Int × Int × Int × List UInt8)) (x0_11 : Int) (x0_12 : Int) (x0_13 : List UInt8) : Option (Bool) := (synodlaw3_slight.l0 x0_10 k (x0_13.length : Int) 0).bind fun s2v => (some ((decide (s2v ≤ (20000 : Int))) && (decide ((x0_10.length : Int) ≤ (200 : Int)))))
theorem synodlaw3_slight.calls (W : World) (F : HA) (k : Nat) (x0_0 : Int) (x0_1 : Int) (x0_2 : Int) (x0_3 : Int) (x0_4 : Int) (x0_5 : Int) (x0_6 : Int) (x0_7 : Int) (x0_8 : Int) (x0_9 : Bool) (a0_10 : Option Addr) (c0_10 : Nat) (x0_10 : List (Int × Int × Int × List UInt8)) (x0_11 : Int) (x0_12 : Int) (a0_13 : Option Addr) (c0_13 : Nat) (x0_13 : List UInt8) (h0_10 : RdV F 4 (V61 F) a0_10 x0_10) (hc0_10 : x0_10.length ≤ c0_10) (hm0_10 : c0_10 ≤ maxLen) (h0_13 : Rd F a0_13 (encB x0_13)) (hc0_13 : x0_13.length ≤ c0_13) (hm0_13 : c0_13 ≤ maxLen) :
    Fn Try.prog W 15 [.agg #[.int .i64 x0_0, .int .i64 x0_1, .int .i64 x0_2, .int .i64 x0_3, .int .i64 x0_4, .int .i64 x0_5, .int .i64 x0_6, .int .i64 x0_7, .int .i64 x0_8, .bool x0_9, .slice a0_10 x0_10.length c0_10, .int .i64 x0_11, .int .i64 x0_12, .slice a0_13 x0_13.length c0_13]] [] F (synodlaw3_slight.f k x0_0 x0_1 x0_2 x0_3 x0_4 x0_5 x0_6 x0_7 x0_8 x0_9 x0_10 x0_11 x0_12 x0_13) (fun (r : Bool) (y : Unit) => .bool r) (fun r y => []) := by
 unfold synodlaw3_slight.f
 refine fn_intro 38 Try.func15 rfl Try.ntmps15 rfl ?_
 refine sim_seq (sim_region ?_)
 refine simL_eff (re_box rfl rfl rfl) rfl rfl rfl ?_
 intro b1v
 refine simL_val (q_asg rfl rfl) rfl rfl rfl (simL_nil (nrm_then (sim_seq (sim_region ?_))))
 refine simL_val (q_fa rfl rfl Try.underlying31 rfl rfl Try.sizeOf29 rfl) rfl rfl rfl ?_
 refine simL_val (q_fa rfl rfl Try.underlying29 rfl rfl Try.sizeOf27 rfl) rfl rfl rfl ?_
 refine simL_val (q_load rfl rfl Try.isAgg27 (.obj 0 rfl rfl)) rfl rfl rfl ?_
 refine simL_val (q_len rfl rfl rfl Try.underlying27) rfl rfl rfl ?_
 refine simL_val (q_asg rfl rfl) rfl rfl rfl (simL_nil (nrm_then ?_))
 refine sim_cut (S := Int) (Unit) (fun s y => [(1, .pointer (some ⟨b1v, 0, none⟩)), (3, .int .i64 s)]) (fun s y => [obj b1v 31 [.int .i64 x0_0, .int .i64 x0_1, .int .i64 x0_2, .int .i64 x0_3, .int .i64 x0_4, .int .i64 x0_5, .int .i64 x0_6, .int .i64 x0_7, .int .i64 x0_8, .bool x0_9, .slice a0_10 x0_10.length c0_10, .int .i64 x0_11, .int .i64 x0_12, .slice a0_13 x0_13.length c0_13], F]) ?_ ?_
 refine sim_seq (sim_region ?_)
 refine simL_val (q_asg rfl rfl) rfl rfl rfl (simL_nil (nrm_then ?_))
 refine sim_block ?_
 refine sim_loop (S := Int × Int) (Unit) (fun k s => synodlaw3_slight.l0 x0_10 k s.1 s.2) (fun s y => [(1, .pointer (some ⟨b1v, 0, none⟩)), (3, .int .i64 s.1), (4, .int .i64 s.2)]) (fun s y => [obj b1v 31 [.int .i64 x0_0, .int .i64 x0_1, .int .i64 x0_2, .int .i64 x0_3, .int .i64 x0_4, .int .i64 x0_5, .int .i64 x0_6, .int .i64 x0_7, .int .i64 x0_8, .bool x0_9, .slice a0_10 x0_10.length c0_10, .int .i64 x0_11, .int .i64 x0_12, .slice a0_13 x0_13.length c0_13], F]) (fun _ => by rw [synodlaw3_slight.l0]) ?_ k ((x0_13.length : Int), 0) () ⟨rfl, rfl, rfl, trivial⟩ (.sel 0 rfl (.sel 0 rfl (.nil _)))
 intro k s4v y5v
 refine sim_eq (by rw [synodlaw3_slight.l0]) ?_
 refine sim_seq (sim_seq (sim_region ?_))
 refine simL_val (q_move rfl rfl) rfl rfl rfl ?_
 refine simL_val (q_fa rfl rfl Try.underlying31 rfl rfl Try.sizeOf26 rfl) rfl rfl rfl ?_
 refine simL_val (q_load rfl rfl Try.isAgg26 (.obj 0 rfl rfl)) rfl rfl rfl ?_
 refine simL_val (q_len rfl rfl rfl Try.underlying26) rfl rfl rfl ?_
 refine simL_val (q_lss rfl rfl rfl) rfl rfl rfl ?_
 refine simL_val (q_move rfl rfl) rfl rfl rfl ?_
 refine simL_valc (b := decide (s4v.2 < (x0_10.length : Int))) (fun hb24v => RQ.sub (E' := [(3, .int .i64 s4v.1)]) ⟨rfl, trivial⟩ (q_move rfl rfl)) rfl rfl rfl rfl rfl ?_
 refine simL_valc (b := decide (s4v.2 < (x0_10.length : Int))) (fun hb23v => RQ.sub (E' := [(15, .int .i64 s4v.1)]) ⟨lk_cv rfl hb23v, trivial⟩ (q_leq rfl rfl rfl)) rfl rfl rfl rfl rfl ?_
 refine simL_val (q_and rfl rfl rfl) rfl rfl rfl (simL_nil (nrm_then ?_))
 refine sim_condb rfl (fun h8v => ?_) (fun h9v => ?_)
 refine sim_skip ?_
 refine nrm_then (sim_seq ?_)
 refine sim_block ?_
 refine sim_region ?_
 refine simL_val (q_move rfl rfl) rfl rfl rfl ?_
 refine simL_val (q_fa rfl rfl Try.underlying31 rfl rfl Try.sizeOf26 rfl) rfl rfl rfl ?_
 refine simL_val (q_load rfl rfl Try.isAgg26 (.obj 0 rfl rfl)) rfl rfl rfl ?_
 refine simL_val (q_move rfl rfl) rfl rfl rfl ?_
 refine simL_ask (fun hi10v => ?_)
 obtain ⟨b11v, b11vo, r14v, ha12v, hV15v, hlr16v, hcell17v⟩ := RdV.pos h0_10 (Up.refl _) rfl (i := s4v.2.toNat) (by omega) ((0 : Int), (0 : Int), (0 : Int), ([] : List UInt8))
 obtain ⟨a18v, c19v, rfl, ⟨he20v, hc21v, hm22v⟩⟩ := hV15v
 refine simL_val (q_idx rfl rfl rfl ha12v Try.underlying26 Try.sizeOf61 hi10v.1 hi10v.2) rfl rfl rfl ?_
 refine simL_val (q_fa rfl rfl Try.underlying61 rfl rfl Try.sizeOf27 rfl) rfl rfl rfl ?_
 refine simL_val (q_load rfl rfl Try.isAgg27 (hcell17v 1 rfl 3 _ rfl)) rfl rfl rfl ?_
 refine simL_val (q_len rfl rfl rfl Try.underlying27) rfl rfl rfl ?_
 refine simL_val (q_min rfl rfl rfl) rfl rfl rfl ?_
 refine simL_val (q_add rfl rfl rfl) rfl rfl rfl ?_
 refine simL_val (q_asg rfl rfl) rfl rfl rfl (simL_nil (nrm_block (nrm_then (sim_region ?_))))
 refine simL_val (q_move rfl rfl) rfl rfl rfl ?_
 refine simL_val (q_add rfl rfl rfl) rfl rfl rfl ?_
 refine simL_val (q_asg rfl rfl) rfl rfl rfl (simL_nil ?_)
 exact nrm_again (s := (IntKind.i64.wrap (s4v.1 + (min (((x0_10.getD s4v.2.toNat ((0 : Int), (0 : Int), (0 : Int), ([] : List UInt8))).2.2.2).length : Int) (20000 : Int))), IntKind.i64.wrap (s4v.2 + 1))) () ⟨rfl, rfl, rfl, trivial⟩ (.sel 0 rfl (.sel 0 rfl (.nil _)))
 refine sim_exi ?_
 refine exi_then ?_
 refine exi_loop ?_
 refine exi_here ?_
 exact nrm_cut (s := s4v.1) () ⟨rfl, rfl, trivial⟩ (.sel 0 rfl (.sel 0 rfl (.nil _)))
 intro s2v y3v
 refine sim_seq (sim_region ?_)
 refine simL_val (q_move rfl rfl) rfl rfl rfl ?_
 refine simL_val (q_leq rfl rfl rfl) rfl rfl rfl ?_
 refine simL_val (q_move rfl rfl) rfl rfl rfl ?_
 refine simL_valc (b := decide (s2v ≤ (20000 : Int))) (fun hb28v => RQ.sub (E' := [(1, .pointer (some ⟨b1v, 0, none⟩))]) ⟨rfl, trivial⟩ (q_fa rfl rfl Try.underlying31 rfl rfl Try.sizeOf26 rfl)) rfl rfl rfl rfl rfl ?_
 refine simL_valc (b := decide (s2v ≤ (20000 : Int))) (fun hb27v => RQ.sub (E' := [(33, .pointer (some ⟨b1v, 10, none⟩))]) ⟨lk_cv rfl hb27v, trivial⟩ (q_load rfl rfl Try.isAgg26 (.obj 0 rfl rfl))) rfl rfl rfl rfl rfl ?_
 refine simL_valc (b := decide (s2v ≤ (20000 : Int))) (fun hb26v => RQ.sub (E' := [(34, .slice a0_10 x0_10.length c0_10)]) ⟨lk_cv rfl hb26v, trivial⟩ (q_len rfl rfl rfl Try.underlying26)) rfl rfl rfl rfl rfl ?_
 refine simL_valc (b := decide (s2v ≤ (20000 : Int))) (fun hb25v => RQ.sub (E' := [(35, .int .i64 (x0_10.length : Int))]) ⟨lk_cv rfl hb25v, trivial⟩ (q_leq rfl rfl rfl)) rfl rfl rfl rfl rfl ?_
 refine simL_val (q_and rfl rfl rfl) rfl rfl rfl ?_
 refine simL_val (q_asg rfl rfl) rfl rfl rfl (simL_nil (nrm_then (sim_rtn ?_)))
 exact rtn_fn () rfl rfl rfl (.sel 1 rfl (.nil _))

def synodref3_within.f (x0 : Int) (x1 : Int) (x2 : Int) : Option (Bool) := some ((decide (x1 ≤ x0)) && (decide (x0 ≤ x2)))
theorem synodref3_within.calls (W : World) (F : HA) (x0 : Int) (x1 : Int) (x2 : Int)  :
    Fn Try.prog W 69 [.int .i64 x0, .int .i64 x1, .int .i64 x2] [] F (synodref3_within.f x0 x1 x2) (fun (r : Bool) (y : Unit) => .bool r) (fun r y => []) := by
 unfold synodref3_within.f
 refine fn_intro 15 Try.func69 rfl Try.ntmps69 rfl ?_
 refine sim_seq (sim_region ?_)
 refine simL_val (q_asg rfl rfl) rfl rfl rfl (simL_nil (nrm_then (sim_seq (sim_region ?_))))
 refine simL_val (q_move rfl rfl) rfl rfl rfl ?_
 refine simL_val (q_move rfl rfl) rfl rfl rfl ?_
 refine simL_val (q_geq rfl rfl rfl) rfl rfl rfl ?_
 refine simL_val (q_move rfl rfl) rfl rfl rfl ?_
 refine simL_valc (b := decide (x1 ≤ x0)) (fun hb3v => RQ.sub (E' := [(0, .int .i64 x0)]) ⟨rfl, trivial⟩ (q_move rfl rfl)) rfl rfl rfl rfl rfl ?_
 refine simL_valc (b := decide (x1 ≤ x0)) (fun hb2v => RQ.sub (E' := [(2, .int .i64 x2)]) ⟨rfl, trivial⟩ (q_move rfl rfl)) rfl rfl rfl rfl rfl ?_
 refine simL_valc (b := decide (x1 ≤ x0)) (fun hb1v => RQ.sub (E' := [(11, .int .i64 x0), (12, .int .i64 x2)]) ⟨lk_cv rfl hb1v, lk_cv rfl hb1v, trivial⟩ (q_leq rfl rfl rfl)) rfl rfl rfl rfl rfl ?_
 refine simL_val (q_and rfl rfl rfl) rfl rfl rfl ?_
 refine simL_val (q_asg rfl rfl) rfl rfl rfl (simL_nil (nrm_then (sim_rtn ?_)))
 exact rtn_fn () rfl rfl rfl (.sel 0 rfl (.nil _))
def synodref3_within.v (x0 : Int) (x1 : Int) (x2 : Int) : Bool := (synodref3_within.f x0 x1 x2).getD false
theorem synodref3_within.tot (x0 : Int) (x1 : Int) (x2 : Int) : synodref3_within.f x0 x1 x2 = some (synodref3_within.v x0 x1 x2) := by
  have h : ∃ r, synodref3_within.f x0 x1 x2 = some r := by
    unfold synodref3_within.f
    repeat' (first | exact ⟨_, rfl⟩ | split | simp only [Option.bind_some])
  obtain ⟨r, h⟩ := h
  unfold synodref3_within.v
  rw [h]; rfl

def synodref3_CheckState.f (x0_0 : Int) (x0_1 : Int) (x0_2 : Int) : Option (Int) := (synodref3_within.f x0_0 (0 : Int) (4611686018427387904 : Int)).bind fun s2v => ((if (!s2v) = true then (some true) else ((synodref3_within.f x0_2 (0 : Int) (4611686018427387904 : Int)).bind fun s7v => (some (!s7v)))).bind fun s5v => ((if s5v = true then (some true) else ((synodref3_within.f x0_1 (0 : Int) (7 : Int)).bind fun s14v => (some (!s14v)))).bind fun s12v => (if s12v = true then (some 1) else (if ((!decide (x0_1 = (0 : Int))) && (decide (x0_0 = (0 : Int)))) = true then (some 4) else (some 0)))))
theorem synodref3_CheckState.calls (W : World) (F : HA) (x0_0 : Int) (x0_1 : Int) (x0_2 : Int)  :
    Fn Try.prog W 16 [.agg #[.int .i64 x0_0, .int .i64 x0_1, .int .i64 x0_2]] [] F (synodref3_CheckState.f x0_0 x0_1 x0_2) (fun (r : Int) (y : Unit) => .int .i64 r) (fun r y => []) := by
 unfold synodref3_CheckState.f
 refine fn_intro 27 Try.func16 rfl Try.ntmps16 rfl ?_
 refine sim_seq (sim_region ?_)
 refine simL_eff (re_box rfl rfl rfl) rfl rfl rfl ?_
 intro b1v
 refine simL_val (q_asg rfl rfl) rfl rfl rfl (simL_nil (nrm_then (sim_seq (sim_seq (sim_region ?_)))))
 refine simL_val (q_fa rfl rfl Try.underlying23 rfl rfl Try.sizeOf3 rfl) rfl rfl rfl ?_
 refine simL_val (q_load rfl rfl Try.isAgg3 (.obj 0 rfl rfl)) rfl rfl rfl ?_
 refine simL_bind (fun s2v hs4v => ?_)
 refine simL_eff (re_call (vs := [.int .i64 x0_0, .int .i64 0, .int .i64 4611686018427387904]) (cap := []) (A := []) (rst := [obj b1v 23 [.int .i64 x0_0, .int .i64 x0_1, .int .i64 x0_2], F]) rfl rfl rfl rfl rfl rfl Try.call69 (.sel 0 rfl (.sel 0 rfl (.nil _))) (synodref3_within.calls _ _ x0_0 (0 : Int) (4611686018427387904 : Int) ) hs4v) rfl rfl rfl ?_
 intro y3v
 refine simL_val (q_not rfl rfl) rfl rfl rfl ?_
 refine simL_val (q_move rfl rfl) rfl rfl rfl ?_
 refine simL_cut' 5 (S := Bool) (Unit) (fun s y => [(1, .pointer (some ⟨b1v, 0, none⟩)), (12, .bool s)]) (fun s y => [obj b1v 23 [.int .i64 x0_0, .int .i64 x0_1, .int .i64 x0_2], F]) ?_ ?_
 refine simL_caseb (fun hb10v => ?_) (fun hb11v => ?_)
 rw [hb10v]
 refine simL_skipd rfl rfl rfl rfl rfl rfl ?_
 refine simL_skipd rfl rfl rfl rfl rfl rfl ?_
 refine simL_skipd rfl rfl rfl rfl rfl rfl ?_
 refine simL_skipd rfl rfl rfl rfl rfl rfl ?_
 refine simL_val (q_pick rfl rfl rfl rfl rfl) rfl rfl rfl (simL_nil ?_)
 exact nrm_cut (s := true) () ⟨rfl, rfl, trivial⟩ (.sel 0 rfl (.sel 0 rfl (.nil _)))
 rw [hb11v]
 refine simL_valg (q_fa rfl rfl Try.underlying23 rfl rfl Try.sizeOf3 rfl) rfl rfl rfl rfl rfl rfl ?_
 refine simL_valg (q_load rfl rfl Try.isAgg3 (.obj 0 rfl rfl)) rfl rfl rfl rfl rfl rfl ?_
 refine simL_bind (fun s7v hs9v => ?_)
 refine simL_effg (re_call (vs := [.int .i64 x0_2, .int .i64 0, .int .i64 4611686018427387904]) (cap := []) (A := []) (rst := [obj b1v 23 [.int .i64 x0_0, .int .i64 x0_1, .int .i64 x0_2], F]) rfl rfl rfl rfl rfl rfl Try.call69 (.sel 0 rfl (.sel 0 rfl (.nil _))) (synodref3_within.calls _ _ x0_2 (0 : Int) (4611686018427387904 : Int) ) hs9v) rfl rfl rfl rfl rfl rfl ?_
 intro y8v
 refine simL_valg (q_not rfl rfl) rfl rfl rfl rfl rfl rfl ?_
 refine simL_val (q_pick rfl rfl rfl rfl rfl) rfl rfl rfl (simL_nil ?_)
 exact nrm_cut (s := !s7v) () ⟨rfl, rfl, trivial⟩ (.sel 0 rfl (.sel 0 rfl (.nil _)))
 intro s5v y6v
 refine simL_val (q_move rfl rfl) rfl rfl rfl ?_
 refine simL_cut' 5 (S := Bool) (Unit) (fun s y => [(1, .pointer (some ⟨b1v, 0, none⟩)), (18, .bool s)]) (fun s y => [obj b1v 23 [.int .i64 x0_0, .int .i64 x0_1, .int .i64 x0_2], F]) ?_ ?_
 refine simL_caseb (fun hb17v => ?_) (fun hb18v => ?_)
 rw [hb17v]
 refine simL_skipd rfl rfl rfl rfl rfl rfl ?_
 refine simL_skipd rfl rfl rfl rfl rfl rfl ?_
 refine simL_skipd rfl rfl rfl rfl rfl rfl ?_
 refine simL_skipd rfl rfl rfl rfl rfl rfl ?_
 refine simL_val (q_pick rfl rfl rfl rfl rfl) rfl rfl rfl (simL_nil ?_)
 exact nrm_cut (s := true) () ⟨rfl, rfl, trivial⟩ (.sel 0 rfl (.sel 0 rfl (.nil _)))
 rw [hb18v]
 refine simL_valg (q_fa rfl rfl Try.underlying23 rfl rfl Try.sizeOf3 rfl) rfl rfl rfl rfl rfl rfl ?_
 refine simL_valg (q_load rfl rfl Try.isAgg3 (.obj 0 rfl rfl)) rfl rfl rfl rfl rfl rfl ?_
 refine simL_bind (fun s14v hs16v => ?_)
 refine simL_effg (re_call (vs := [.int .i64 x0_1, .int .i64 0, .int .i64 7]) (cap := []) (A := []) (rst := [obj b1v 23 [.int .i64 x0_0, .int .i64 x0_1, .int .i64 x0_2], F]) rfl rfl rfl rfl rfl rfl Try.call69 (.sel 0 rfl (.sel 0 rfl (.nil _))) (synodref3_within.calls _ _ x0_1 (0 : Int) (7 : Int) ) hs16v) rfl rfl rfl rfl rfl rfl ?_
 intro y15v
 refine simL_valg (q_not rfl rfl) rfl rfl rfl rfl rfl rfl ?_
 refine simL_val (q_pick rfl rfl rfl rfl rfl) rfl rfl rfl (simL_nil ?_)
 exact nrm_cut (s := !s14v) () ⟨rfl, rfl, trivial⟩ (.sel 0 rfl (.sel 0 rfl (.nil _)))
 intro s12v y13v
 refine simL_nil (nrm_then ?_)
 refine sim_condb rfl (fun h19v => ?_) (fun h20v => ?_)
 refine sim_seq (sim_region ?_)
 refine simL_val (q_asg rfl rfl) rfl rfl rfl (simL_nil (nrm_then (sim_rtn ?_)))
 refine rtn_then ?_
 exact rtn_fn () rfl rfl rfl (.sel 1 rfl (.nil _))
 refine sim_skip ?_
 refine nrm_then (sim_seq (sim_seq (sim_region ?_)))
 refine simL_val (q_fa rfl rfl Try.underlying23 rfl rfl Try.sizeOf3 rfl) rfl rfl rfl ?_
 refine simL_val (q_load rfl rfl Try.isAgg3 (.obj 0 rfl rfl)) rfl rfl rfl ?_
 refine simL_val (q_neq rfl rfl rfl) rfl rfl rfl ?_
 refine simL_val (q_move rfl rfl) rfl rfl rfl ?_
 refine simL_valc (b := !decide (x0_1 = (0 : Int))) (fun hb25v => RQ.sub (E' := [(1, .pointer (some ⟨b1v, 0, none⟩))]) ⟨rfl, trivial⟩ (q_fa rfl rfl Try.underlying23 rfl rfl Try.sizeOf3 rfl)) rfl rfl rfl rfl rfl ?_
 refine simL_valc (b := !decide (x0_1 = (0 : Int))) (fun hb24v => RQ.sub (E' := [(23, .pointer (some ⟨b1v, 0, none⟩))]) ⟨lk_cv rfl hb24v, trivial⟩ (q_load rfl rfl Try.isAgg3 (.obj 0 rfl rfl))) rfl rfl rfl rfl rfl ?_
 refine simL_valc (b := !decide (x0_1 = (0 : Int))) (fun hb23v => RQ.sub (E' := [(24, .int .i64 x0_0)]) ⟨lk_cv rfl hb23v, trivial⟩ (q_eql rfl rfl rfl)) rfl rfl rfl rfl rfl ?_
 refine simL_val (q_and rfl rfl rfl) rfl rfl rfl (simL_nil (nrm_then ?_))
 refine sim_condb rfl (fun h21v => ?_) (fun h22v => ?_)
 refine sim_seq (sim_region ?_)
 refine simL_val (q_asg rfl rfl) rfl rfl rfl (simL_nil (nrm_then (sim_rtn ?_)))
 refine rtn_then ?_
 exact rtn_fn () rfl rfl rfl (.sel 1 rfl (.nil _))
 refine sim_skip ?_
 refine nrm_then (sim_seq (sim_region ?_))
 refine simL_val (q_asg rfl rfl) rfl rfl rfl (simL_nil (nrm_then (sim_rtn ?_)))
 exact rtn_fn () rfl rfl rfl (.sel 1 rfl (.nil _))
def synodref3_CheckState.v (x0_0 : Int) (x0_1 : Int) (x0_2 : Int) : Int := (synodref3_CheckState.f x0_0 x0_1 x0_2).getD 0
theorem synodref3_CheckState.tot (x0_0 : Int) (x0_1 : Int) (x0_2 : Int) : synodref3_CheckState.f x0_0 x0_1 x0_2 = some (synodref3_CheckState.v x0_0 x0_1 x0_2) := by
  have h : ∃ r, synodref3_CheckState.f x0_0 x0_1 x0_2 = some r := by
    unfold synodref3_CheckState.f
    repeat' (first | exact ⟨_, rfl⟩ | split | simp only [Option.bind_some, synodref3_within.tot])
  obtain ⟨r, h⟩ := h
  unfold synodref3_CheckState.v
  rw [h]; rfl

def synodref3_CheckCommand.f (x0_0 : Int) (x0_1 : Int) (x0_2 : Int) (x0_3 : List UInt8) (x0_4 : List UInt8) (x0_5 : List UInt8) : Option (Int) := (synodref3_within.f x0_0 (2 : Int) (4 : Int)).bind fun s2v => (if (!s2v) = true then (some 6) else ((synodref3_within.f x0_1 (1 : Int) (4611686018427387904 : Int)).bind fun s7v => ((if (!s7v) = true then (some true) else ((synodref3_within.f x0_2 (1 : Int) (4611686018427387904 : Int)).bind fun s12v => (some (!s12v)))).bind fun s10v => (if s10v = true then (some 1) else (if (((decide ((64 : Int) < (x0_3.length : Int))) || (decide ((1024 : Int) < (x0_4.length : Int)))) || (decide ((1024 : Int) < (x0_5.length : Int)))) = true then (some 3) else ((if x0_3 = ([] : List UInt8) then (some true) else (some ((decide (x0_0 = (3 : Int))) && (!decide (x0_4 = ([] : List UInt8)))))).bind fun s21v => ((if s21v = true then (some true) else (some ((!decide (x0_0 = (4 : Int))) && (!decide (x0_5 = ([] : List UInt8)))))).bind fun s28v => (if s28v = true then (some 4) else (some 0)))))))))
theorem synodref3_CheckCommand.calls (W : World) (F : HA) (x0_0 : Int) (x0_1 : Int) (x0_2 : Int) (x0_3 : List UInt8) (x0_4 : List UInt8) (x0_5 : List UInt8)  :
    Fn Try.prog W 17 [.agg #[.int .i64 x0_0, .int .i64 x0_1, .int .i64 x0_2, str x0_3, str x0_4, str x0_5]] [] F (synodref3_CheckCommand.f x0_0 x0_1 x0_2 x0_3 x0_4 x0_5) (fun (r : Int) (y : Unit) => .int .i64 r) (fun r y => []) := by
 unfold synodref3_CheckCommand.f
 refine fn_intro 56 Try.func17 rfl Try.ntmps17 rfl ?_
 refine sim_seq (sim_region ?_)
 refine simL_eff (re_box rfl rfl rfl) rfl rfl rfl ?_
 intro b1v
 refine simL_val (q_asg rfl rfl) rfl rfl rfl (simL_nil (nrm_then (sim_seq (sim_seq (sim_region ?_)))))
 refine simL_val (q_fa rfl rfl Try.underlying25 rfl rfl Try.sizeOf3 rfl) rfl rfl rfl ?_
 refine simL_val (q_load rfl rfl Try.isAgg3 (.obj 0 rfl rfl)) rfl rfl rfl ?_
 refine simL_bind (fun s2v hs4v => ?_)
 refine simL_eff (re_call (vs := [.int .i64 x0_0, .int .i64 2, .int .i64 4]) (cap := []) (A := []) (rst := [obj b1v 25 [.int .i64 x0_0, .int .i64 x0_1, .int .i64 x0_2, str x0_3, str x0_4, str x0_5], F]) rfl rfl rfl rfl rfl rfl Try.call69 (.sel 0 rfl (.sel 0 rfl (.nil _))) (synodref3_within.calls _ _ x0_0 (2 : Int) (4 : Int) ) hs4v) rfl rfl rfl ?_
 intro y3v
 refine simL_val (q_not rfl rfl) rfl rfl rfl (simL_nil (nrm_then ?_))
 refine sim_condb rfl (fun h5v => ?_) (fun h6v => ?_)
 refine sim_seq (sim_region ?_)
 refine simL_val (q_asg rfl rfl) rfl rfl rfl (simL_nil (nrm_then (sim_rtn ?_)))
 refine rtn_then ?_
 exact rtn_fn () rfl rfl rfl (.sel 1 rfl (.nil _))
 refine sim_skip ?_
 refine nrm_then (sim_seq (sim_seq (sim_region ?_)))
 refine simL_val (q_fa rfl rfl Try.underlying25 rfl rfl Try.sizeOf3 rfl) rfl rfl rfl ?_
 refine simL_val (q_load rfl rfl Try.isAgg3 (.obj 0 rfl rfl)) rfl rfl rfl ?_
 refine simL_bind (fun s7v hs9v => ?_)
 refine simL_eff (re_call (vs := [.int .i64 x0_1, .int .i64 1, .int .i64 4611686018427387904]) (cap := []) (A := []) (rst := [obj b1v 25 [.int .i64 x0_0, .int .i64 x0_1, .int .i64 x0_2, str x0_3, str x0_4, str x0_5], F]) rfl rfl rfl rfl rfl rfl Try.call69 (.sel 0 rfl (.sel 0 rfl (.nil _))) (synodref3_within.calls _ _ x0_1 (1 : Int) (4611686018427387904 : Int) ) hs9v) rfl rfl rfl ?_
 intro y8v
 refine simL_val (q_not rfl rfl) rfl rfl rfl ?_
 refine simL_val (q_move rfl rfl) rfl rfl rfl ?_
 refine simL_cut' 5 (S := Bool) (Unit) (fun s y => [(1, .pointer (some ⟨b1v, 0, none⟩)), (16, .bool s)]) (fun s y => [obj b1v 25 [.int .i64 x0_0, .int .i64 x0_1, .int .i64 x0_2, str x0_3, str x0_4, str x0_5], F]) ?_ ?_
 refine simL_caseb (fun hb15v => ?_) (fun hb16v => ?_)
 rw [hb15v]
 refine simL_skipd rfl rfl rfl rfl rfl rfl ?_
 refine simL_skipd rfl rfl rfl rfl rfl rfl ?_
 refine simL_skipd rfl rfl rfl rfl rfl rfl ?_
 refine simL_skipd rfl rfl rfl rfl rfl rfl ?_
 refine simL_val (q_pick rfl rfl rfl rfl rfl) rfl rfl rfl (simL_nil ?_)
 exact nrm_cut (s := true) () ⟨rfl, rfl, trivial⟩ (.sel 0 rfl (.sel 0 rfl (.nil _)))
 rw [hb16v]
 refine simL_valg (q_fa rfl rfl Try.underlying25 rfl rfl Try.sizeOf3 rfl) rfl rfl rfl rfl rfl rfl ?_
 refine simL_valg (q_load rfl rfl Try.isAgg3 (.obj 0 rfl rfl)) rfl rfl rfl rfl rfl rfl ?_
 refine simL_bind (fun s12v hs14v => ?_)
 refine simL_effg (re_call (vs := [.int .i64 x0_2, .int .i64 1, .int .i64 4611686018427387904]) (cap := []) (A := []) (rst := [obj b1v 25 [.int .i64 x0_0, .int .i64 x0_1, .int .i64 x0_2, str x0_3, str x0_4, str x0_5], F]) rfl rfl rfl rfl rfl rfl Try.call69 (.sel 0 rfl (.sel 0 rfl (.nil _))) (synodref3_within.calls _ _ x0_2 (1 : Int) (4611686018427387904 : Int) ) hs14v) rfl rfl rfl rfl rfl rfl ?_
 intro y13v
 refine simL_valg (q_not rfl rfl) rfl rfl rfl rfl rfl rfl ?_
 refine simL_val (q_pick rfl rfl rfl rfl rfl) rfl rfl rfl (simL_nil ?_)
 exact nrm_cut (s := !s12v) () ⟨rfl, rfl, trivial⟩ (.sel 0 rfl (.sel 0 rfl (.nil _)))
 intro s10v y11v
 refine simL_nil (nrm_then ?_)
 refine sim_condb rfl (fun h17v => ?_) (fun h18v => ?_)
 refine sim_seq (sim_region ?_)
 refine simL_val (q_asg rfl rfl) rfl rfl rfl (simL_nil (nrm_then (sim_rtn ?_)))
 refine rtn_then ?_
 exact rtn_fn () rfl rfl rfl (.sel 1 rfl (.nil _))
 refine sim_skip ?_
 refine nrm_then (sim_seq (sim_seq (sim_region ?_)))
 refine simL_val (q_fa rfl rfl Try.underlying25 rfl rfl Try.sizeOf9 rfl) rfl rfl rfl ?_
 refine simL_val (q_load rfl rfl Try.isAgg9 (.obj 0 rfl rfl)) rfl rfl rfl ?_
 refine simL_val (q_lens rfl rfl rfl Try.underlying9) rfl rfl rfl ?_
 refine simL_val (q_gtr rfl rfl rfl) rfl rfl rfl ?_
 refine simL_val (q_move rfl rfl) rfl rfl rfl ?_
 refine simL_valc (b := decide ((64 : Int) < (x0_3.length : Int))) (fun hb44v => RQ.sub (E' := [(1, .pointer (some ⟨b1v, 0, none⟩))]) ⟨rfl, trivial⟩ (q_fa rfl rfl Try.underlying25 rfl rfl Try.sizeOf9 rfl)) rfl rfl rfl rfl rfl ?_
 refine simL_valc (b := decide ((64 : Int) < (x0_3.length : Int))) (fun hb43v => RQ.sub (E' := [(22, .pointer (some ⟨b1v, 4, none⟩))]) ⟨lk_cv rfl hb43v, trivial⟩ (q_load rfl rfl Try.isAgg9 (.obj 0 rfl rfl))) rfl rfl rfl rfl rfl ?_
 refine simL_valc (b := decide ((64 : Int) < (x0_3.length : Int))) (fun hb42v => RQ.sub (E' := [(23, str x0_4)]) ⟨lk_cv rfl hb42v, trivial⟩ (q_lens rfl rfl rfl Try.underlying9)) rfl rfl rfl rfl rfl ?_
 refine simL_valc (b := decide ((64 : Int) < (x0_3.length : Int))) (fun hb41v => RQ.sub (E' := [(24, .int .i64 (x0_4.length : Int))]) ⟨lk_cv rfl hb41v, trivial⟩ (q_gtr rfl rfl rfl)) rfl rfl rfl rfl rfl ?_
 refine simL_val (q_or rfl rfl rfl) rfl rfl rfl ?_
 refine simL_val (q_move rfl rfl) rfl rfl rfl ?_
 refine simL_valc (b := (decide ((64 : Int) < (x0_3.length : Int))) || (decide ((1024 : Int) < (x0_4.length : Int)))) (fun hb40v => RQ.sub (E' := [(1, .pointer (some ⟨b1v, 0, none⟩))]) ⟨rfl, trivial⟩ (q_fa rfl rfl Try.underlying25 rfl rfl Try.sizeOf9 rfl)) rfl rfl rfl rfl rfl ?_
 refine simL_valc (b := (decide ((64 : Int) < (x0_3.length : Int))) || (decide ((1024 : Int) < (x0_4.length : Int)))) (fun hb39v => RQ.sub (E' := [(28, .pointer (some ⟨b1v, 5, none⟩))]) ⟨lk_cv rfl hb39v, trivial⟩ (q_load rfl rfl Try.isAgg9 (.obj 0 rfl rfl))) rfl rfl rfl rfl rfl ?_
 refine simL_valc (b := (decide ((64 : Int) < (x0_3.length : Int))) || (decide ((1024 : Int) < (x0_4.length : Int)))) (fun hb38v => RQ.sub (E' := [(29, str x0_5)]) ⟨lk_cv rfl hb38v, trivial⟩ (q_lens rfl rfl rfl Try.underlying9)) rfl rfl rfl rfl rfl ?_
 refine simL_valc (b := (decide ((64 : Int) < (x0_3.length : Int))) || (decide ((1024 : Int) < (x0_4.length : Int)))) (fun hb37v => RQ.sub (E' := [(30, .int .i64 (x0_5.length : Int))]) ⟨lk_cv rfl hb37v, trivial⟩ (q_gtr rfl rfl rfl)) rfl rfl rfl rfl rfl ?_
 refine simL_val (q_or rfl rfl rfl) rfl rfl rfl (simL_nil (nrm_then ?_))
 refine sim_condb rfl (fun h19v => ?_) (fun h20v => ?_)
 refine sim_seq (sim_region ?_)
 refine simL_val (q_asg rfl rfl) rfl rfl rfl (simL_nil (nrm_then (sim_rtn ?_)))
 refine rtn_then ?_
 exact rtn_fn () rfl rfl rfl (.sel 1 rfl (.nil _))
 refine sim_skip ?_
 refine nrm_then (sim_seq (sim_seq (sim_region ?_)))
 refine simL_val (q_fa rfl rfl Try.underlying25 rfl rfl Try.sizeOf9 rfl) rfl rfl rfl ?_
 refine simL_val (q_load rfl rfl Try.isAgg9 (.obj 0 rfl rfl)) rfl rfl rfl ?_
 refine simL_val (q_eqs rfl rfl rfl) rfl rfl rfl ?_
 refine simL_val (q_move rfl rfl) rfl rfl rfl ?_
 refine simL_cut' 9 (S := Bool) (Unit) (fun s y => [(1, .pointer (some ⟨b1v, 0, none⟩)), (45, .bool s)]) (fun s y => [obj b1v 25 [.int .i64 x0_0, .int .i64 x0_1, .int .i64 x0_2, str x0_3, str x0_4, str x0_5], F]) ?_ ?_
 refine simL_casep (fun hb26v => ?_) (fun hb27v => ?_)
 rw [hb26v]
 refine simL_skipd rfl rfl rfl rfl rfl rfl ?_
 refine simL_skipd rfl rfl rfl rfl rfl rfl ?_
 refine simL_skipd rfl rfl rfl rfl rfl rfl ?_
 refine simL_skipd rfl rfl rfl rfl rfl rfl ?_
 refine simL_skipu rfl rfl rfl rfl rfl ?_
 refine simL_skipu rfl rfl rfl rfl rfl ?_
 refine simL_skipu rfl rfl rfl rfl rfl ?_
 refine simL_skipd rfl rfl rfl rfl rfl rfl ?_
 refine simL_val (q_pick rfl rfl rfl rfl rfl) rfl rfl rfl (simL_nil ?_)
 exact nrm_cut (s := true) () ⟨rfl, rfl, trivial⟩ (.sel 0 rfl (.sel 0 rfl (.nil _)))
 rw [hb27v]
 refine simL_valg (q_fa rfl rfl Try.underlying25 rfl rfl Try.sizeOf3 rfl) rfl rfl rfl rfl rfl rfl ?_
 refine simL_valg (q_load rfl rfl Try.isAgg3 (.obj 0 rfl rfl)) rfl rfl rfl rfl rfl rfl ?_
 refine simL_valg (q_eql rfl rfl rfl) rfl rfl rfl rfl rfl rfl ?_
 refine simL_valg (q_move rfl rfl) rfl rfl rfl rfl rfl rfl ?_
 refine simL_valc (b := decide (x0_0 = (3 : Int))) (fun hb25v => RQ.sub (E' := [(1, .pointer (some ⟨b1v, 0, none⟩))]) ⟨rfl, trivial⟩ (q_fa rfl rfl Try.underlying25 rfl rfl Try.sizeOf9 rfl)) rfl rfl rfl rfl rfl ?_
 refine simL_valc (b := decide (x0_0 = (3 : Int))) (fun hb24v => RQ.sub (E' := [(41, .pointer (some ⟨b1v, 4, none⟩))]) ⟨lk_cv rfl hb24v, trivial⟩ (q_load rfl rfl Try.isAgg9 (.obj 0 rfl rfl))) rfl rfl rfl rfl rfl ?_
 refine simL_valc (b := decide (x0_0 = (3 : Int))) (fun hb23v => RQ.sub (E' := [(42, str x0_4)]) ⟨lk_cv rfl hb23v, trivial⟩ (q_nes rfl rfl rfl)) rfl rfl rfl rfl rfl ?_
 refine simL_valg (q_and rfl rfl rfl) rfl rfl rfl rfl rfl rfl ?_
 refine simL_val (q_pick rfl rfl rfl rfl rfl) rfl rfl rfl (simL_nil ?_)
 exact nrm_cut (s := (decide (x0_0 = (3 : Int))) && (!decide (x0_4 = ([] : List UInt8)))) () ⟨rfl, rfl, trivial⟩ (.sel 0 rfl (.sel 0 rfl (.nil _)))
 intro s21v y22v
 refine simL_val (q_move rfl rfl) rfl rfl rfl ?_
 refine simL_cut' 9 (S := Bool) (Unit) (fun s y => [(55, .bool s)]) (fun s y => [F]) ?_ ?_
 refine simL_caseb (fun hb33v => ?_) (fun hb34v => ?_)
 rw [hb33v]
 refine simL_skipd rfl rfl rfl rfl rfl rfl ?_
 refine simL_skipd rfl rfl rfl rfl rfl rfl ?_
 refine simL_skipd rfl rfl rfl rfl rfl rfl ?_
 refine simL_skipd rfl rfl rfl rfl rfl rfl ?_
 refine simL_skipu rfl rfl rfl rfl rfl ?_
 refine simL_skipu rfl rfl rfl rfl rfl ?_
 refine simL_skipu rfl rfl rfl rfl rfl ?_
 refine simL_skipd rfl rfl rfl rfl rfl rfl ?_
 refine simL_val (q_pick rfl rfl rfl rfl rfl) rfl rfl rfl (simL_nil ?_)
 exact nrm_cut (s := true) () ⟨rfl, trivial⟩ (.sel 1 rfl (.nil _))
 rw [hb34v]
 refine simL_valg (q_fa rfl rfl Try.underlying25 rfl rfl Try.sizeOf3 rfl) rfl rfl rfl rfl rfl rfl ?_
 refine simL_valg (q_load rfl rfl Try.isAgg3 (.obj 0 rfl rfl)) rfl rfl rfl rfl rfl rfl ?_
 refine simL_valg (q_neq rfl rfl rfl) rfl rfl rfl rfl rfl rfl ?_
 refine simL_valg (q_move rfl rfl) rfl rfl rfl rfl rfl rfl ?_
 refine simL_valc (b := !decide (x0_0 = (4 : Int))) (fun hb32v => RQ.sub (E' := [(1, .pointer (some ⟨b1v, 0, none⟩))]) ⟨rfl, trivial⟩ (q_fa rfl rfl Try.underlying25 rfl rfl Try.sizeOf9 rfl)) rfl rfl rfl rfl rfl ?_
 refine simL_valc (b := !decide (x0_0 = (4 : Int))) (fun hb31v => RQ.sub (E' := [(51, .pointer (some ⟨b1v, 5, none⟩))]) ⟨lk_cv rfl hb31v, trivial⟩ (q_load rfl rfl Try.isAgg9 (.obj 0 rfl rfl))) rfl rfl rfl rfl rfl ?_
 refine simL_valc (b := !decide (x0_0 = (4 : Int))) (fun hb30v => RQ.sub (E' := [(52, str x0_5)]) ⟨lk_cv rfl hb30v, trivial⟩ (q_nes rfl rfl rfl)) rfl rfl rfl rfl rfl ?_
 refine simL_valg (q_and rfl rfl rfl) rfl rfl rfl rfl rfl rfl ?_
 refine simL_val (q_pick rfl rfl rfl rfl rfl) rfl rfl rfl (simL_nil ?_)
 exact nrm_cut (s := (!decide (x0_0 = (4 : Int))) && (!decide (x0_5 = ([] : List UInt8)))) () ⟨rfl, trivial⟩ (.sel 1 rfl (.nil _))
 intro s28v y29v
 refine simL_nil (nrm_then ?_)
 refine sim_condb rfl (fun h35v => ?_) (fun h36v => ?_)
 refine sim_seq (sim_region ?_)
 refine simL_val (q_asg rfl rfl) rfl rfl rfl (simL_nil (nrm_then (sim_rtn ?_)))
 refine rtn_then ?_
 exact rtn_fn () rfl rfl rfl (.sel 0 rfl (.nil _))
 refine sim_skip ?_
 refine nrm_then (sim_seq (sim_region ?_))
 refine simL_val (q_asg rfl rfl) rfl rfl rfl (simL_nil (nrm_then (sim_rtn ?_)))
 exact rtn_fn () rfl rfl rfl (.sel 0 rfl (.nil _))
def synodref3_CheckCommand.v (x0_0 : Int) (x0_1 : Int) (x0_2 : Int) (x0_3 : List UInt8) (x0_4 : List UInt8) (x0_5 : List UInt8) : Int := (synodref3_CheckCommand.f x0_0 x0_1 x0_2 x0_3 x0_4 x0_5).getD 0
theorem synodref3_CheckCommand.tot (x0_0 : Int) (x0_1 : Int) (x0_2 : Int) (x0_3 : List UInt8) (x0_4 : List UInt8) (x0_5 : List UInt8) : synodref3_CheckCommand.f x0_0 x0_1 x0_2 x0_3 x0_4 x0_5 = some (synodref3_CheckCommand.v x0_0 x0_1 x0_2 x0_3 x0_4 x0_5) := by
  have h : ∃ r, synodref3_CheckCommand.f x0_0 x0_1 x0_2 x0_3 x0_4 x0_5 = some r := by
    unfold synodref3_CheckCommand.f
    repeat' (first | exact ⟨_, rfl⟩ | split | simp only [Option.bind_some, synodref3_within.tot])
  obtain ⟨r, h⟩ := h
  unfold synodref3_CheckCommand.v
  rw [h]; rfl

def synodref_SameSnap.f (k : Nat) (x0_0 : Int) (x0_1 : Int) (x0_2 : List UInt8) (x1_0 : Int) (x1_1 : Int) (x1_2 : List UInt8) : Option (Bool) := (synodref_SameBytes.f k x0_2 x1_2).bind fun s3v => (some ((s3v && (decide (x0_0 = x1_0))) && (decide (x0_1 = x1_1))))
theorem synodref_SameSnap.calls (W : World) (F : HA) (k : Nat) (x0_0 : Int) (x0_1 : Int) (a0_2 : Option Addr) (c0_2 : Nat) (x0_2 : List UInt8) (x1_0 : Int) (x1_1 : Int) (a1_2 : Option Addr) (c1_2 : Nat) (x1_2 : List UInt8) (h0_2 : Rd F a0_2 (encB x0_2)) (hc0_2 : x0_2.length ≤ c0_2) (hm0_2 : c0_2 ≤ maxLen) (h1_2 : Rd F a1_2 (encB x1_2)) (hc1_2 : x1_2.length ≤ c1_2) (hm1_2 : c1_2 ≤ maxLen) :
    Fn Try.prog W 45 [.agg #[.int .i64 x0_0, .int .i64 x0_1, .slice a0_2 x0_2.length c0_2], .agg #[.int .i64 x1_0, .int .i64 x1_1, .slice a1_2 x1_2.length c1_2]] [] F (synodref_SameSnap.f k x0_0 x0_1 x0_2 x1_0 x1_1 x1_2) (fun (r : Bool) (y : Unit) => .bool r) (fun r y => []) := by
 unfold synodref_SameSnap.f
 refine fn_intro 26 Try.func45 rfl Try.ntmps45 rfl ?_
 refine sim_seq (sim_region ?_)
 refine simL_eff (re_box rfl rfl rfl) rfl rfl rfl ?_
 intro b1v
 refine simL_eff (re_box rfl rfl rfl) rfl rfl rfl ?_
 intro b2v
 refine simL_val (q_asg rfl rfl) rfl rfl rfl (simL_nil (nrm_then (sim_seq (sim_region ?_))))
 refine simL_val (q_fa rfl rfl Try.underlying29 rfl rfl Try.sizeOf27 rfl) rfl rfl rfl ?_
 refine simL_val (q_load rfl rfl Try.isAgg27 (.obj 1 rfl rfl)) rfl rfl rfl ?_
 refine simL_val (q_fa rfl rfl Try.underlying29 rfl rfl Try.sizeOf27 rfl) rfl rfl rfl ?_
 refine simL_val (q_load rfl rfl Try.isAgg27 (.obj 0 rfl rfl)) rfl rfl rfl ?_
 refine simL_bind (fun s3v hs5v => ?_)
 refine simL_eff (re_call (vs := [.slice a0_2 x0_2.length c0_2, .slice a1_2 x1_2.length c1_2]) (cap := []) (A := []) (rst := [obj b2v 29 [.int .i64 x1_0, .int .i64 x1_1, .slice a1_2 x1_2.length c1_2], obj b1v 29 [.int .i64 x0_0, .int .i64 x0_1, .slice a0_2 x0_2.length c0_2], F]) rfl rfl rfl rfl rfl rfl Try.call25 (.sel 0 rfl (.sel 0 rfl (.sel 0 rfl (.nil _)))) (synodref_SameBytes.calls _ _ k a0_2 c0_2 x0_2 a1_2 c1_2 x1_2 (h0_2.lend 2 rfl) hc0_2 hm0_2 (h1_2.lend 2 rfl) hc1_2 hm1_2) hs5v) rfl rfl rfl ?_
 intro y4v
 refine simL_val (q_asg rfl rfl) rfl rfl rfl (simL_nil (nrm_then (sim_seq (sim_region ?_))))
 refine simL_val (q_move rfl rfl) rfl rfl rfl ?_
 refine simL_val (q_move rfl rfl) rfl rfl rfl ?_
 refine simL_valc (b := s3v) (fun hb15v => RQ.sub (E' := [(2, .pointer (some ⟨b1v, 0, none⟩))]) ⟨rfl, trivial⟩ (q_fa rfl rfl Try.underlying29 rfl rfl Try.sizeOf3 rfl)) rfl rfl rfl rfl rfl ?_
 refine simL_valc (b := s3v) (fun hb14v => RQ.sub (E' := [(13, .pointer (some ⟨b1v, 0, none⟩))]) ⟨lk_cv rfl hb14v, trivial⟩ (q_load rfl rfl Try.isAgg3 (.obj 1 rfl rfl))) rfl rfl rfl rfl rfl ?_
 refine simL_valc (b := s3v) (fun hb13v => RQ.sub (E' := [(3, .pointer (some ⟨b2v, 0, none⟩))]) ⟨rfl, trivial⟩ (q_fa rfl rfl Try.underlying29 rfl rfl Try.sizeOf3 rfl)) rfl rfl rfl rfl rfl ?_
 refine simL_valc (b := s3v) (fun hb12v => RQ.sub (E' := [(15, .pointer (some ⟨b2v, 0, none⟩))]) ⟨lk_cv rfl hb12v, trivial⟩ (q_load rfl rfl Try.isAgg3 (.obj 0 rfl rfl))) rfl rfl rfl rfl rfl ?_
 refine simL_valc (b := s3v) (fun hb11v => RQ.sub (E' := [(14, .int .i64 x0_0), (16, .int .i64 x1_0)]) ⟨lk_cv rfl hb11v, lk_cv rfl hb11v, trivial⟩ (q_eql rfl rfl rfl)) rfl rfl rfl rfl rfl ?_
 refine simL_val (q_and rfl rfl rfl) rfl rfl rfl ?_
 refine simL_val (q_move rfl rfl) rfl rfl rfl ?_
 refine simL_valc (b := s3v && (decide (x0_0 = x1_0))) (fun hb10v => RQ.sub (E' := [(2, .pointer (some ⟨b1v, 0, none⟩))]) ⟨rfl, trivial⟩ (q_fa rfl rfl Try.underlying29 rfl rfl Try.sizeOf3 rfl)) rfl rfl rfl rfl rfl ?_
 refine simL_valc (b := s3v && (decide (x0_0 = x1_0))) (fun hb9v => RQ.sub (E' := [(20, .pointer (some ⟨b1v, 1, none⟩))]) ⟨lk_cv rfl hb9v, trivial⟩ (q_load rfl rfl Try.isAgg3 (.obj 1 rfl rfl))) rfl rfl rfl rfl rfl ?_
 refine simL_valc (b := s3v && (decide (x0_0 = x1_0))) (fun hb8v => RQ.sub (E' := [(3, .pointer (some ⟨b2v, 0, none⟩))]) ⟨rfl, trivial⟩ (q_fa rfl rfl Try.underlying29 rfl rfl Try.sizeOf3 rfl)) rfl rfl rfl rfl rfl ?_
 refine simL_valc (b := s3v && (decide (x0_0 = x1_0))) (fun hb7v => RQ.sub (E' := [(22, .pointer (some ⟨b2v, 1, none⟩))]) ⟨lk_cv rfl hb7v, trivial⟩ (q_load rfl rfl Try.isAgg3 (.obj 0 rfl rfl))) rfl rfl rfl rfl rfl ?_
 refine simL_valc (b := s3v && (decide (x0_0 = x1_0))) (fun hb6v => RQ.sub (E' := [(21, .int .i64 x0_1), (23, .int .i64 x1_1)]) ⟨lk_cv rfl hb6v, lk_cv rfl hb6v, trivial⟩ (q_eql rfl rfl rfl)) rfl rfl rfl rfl rfl ?_
 refine simL_val (q_and rfl rfl rfl) rfl rfl rfl ?_
 refine simL_val (q_asg rfl rfl) rfl rfl rfl (simL_nil (nrm_then (sim_rtn ?_)))
 exact rtn_fn () rfl rfl rfl (.sel 2 rfl (.nil _))

def synodref_SameEntry.f (k : Nat) (x0_0 : Int) (x0_1 : Int) (x0_2 : Int) (x0_3 : List UInt8) (x1_0 : Int) (x1_1 : Int) (x1_2 : Int) (x1_3 : List UInt8) : Option (Bool) := (synodref_SameBytes.f k x0_3 x1_3).bind fun s3v => (some (((s3v && (decide (x0_0 = x1_0))) && (decide (x0_1 = x1_1))) && (decide (x0_2 = x1_2))))
theorem synodref_SameEntry.calls (W : World) (F : HA) (k : Nat) (x0_0 : Int) (x0_1 : Int) (x0_2 : Int) (a0_3 : Option Addr) (c0_3 : Nat) (x0_3 : List UInt8) (x1_0 : Int) (x1_1 : Int) (x1_2 : Int) (a1_3 : Option Addr) (c1_3 : Nat) (x1_3 : List UInt8) (h0_3 : Rd F a0_3 (encB x0_3)) (hc0_3 : x0_3.length ≤ c0_3) (hm0_3 : c0_3 ≤ maxLen) (h1_3 : Rd F a1_3 (encB x1_3)) (hc1_3 : x1_3.length ≤ c1_3) (hm1_3 : c1_3 ≤ maxLen) :
    Fn Try.prog W 38 [.agg #[.int .i64 x0_0, .int .i64 x0_1, .int .i64 x0_2, .slice a0_3 x0_3.length c0_3], .agg #[.int .i64 x1_0, .int .i64 x1_1, .int .i64 x1_2, .slice a1_3 x1_3.length c1_3]] [] F (synodref_SameEntry.f k x0_0 x0_1 x0_2 x0_3 x1_0 x1_1 x1_2 x1_3) (fun (r : Bool) (y : Unit) => .bool r) (fun r y => []) := by
 unfold synodref_SameEntry.f
 refine fn_intro 33 Try.func38 rfl Try.ntmps38 rfl ?_
 refine sim_seq (sim_region ?_)
 refine simL_eff (re_box rfl rfl rfl) rfl rfl rfl ?_
 intro b1v
 refine simL_eff (re_box rfl rfl rfl) rfl rfl rfl ?_
 intro b2v
 refine simL_val (q_asg rfl rfl) rfl rfl rfl (simL_nil (nrm_then (sim_seq (sim_region ?_))))
 refine simL_val (q_fa rfl rfl Try.underlying61 rfl rfl Try.sizeOf27 rfl) rfl rfl rfl ?_
 refine simL_val (q_load rfl rfl Try.isAgg27 (.obj 1 rfl rfl)) rfl rfl rfl ?_
 refine simL_val (q_fa rfl rfl Try.underlying61 rfl rfl Try.sizeOf27 rfl) rfl rfl rfl ?_
 refine simL_val (q_load rfl rfl Try.isAgg27 (.obj 0 rfl rfl)) rfl rfl rfl ?_
 refine simL_bind (fun s3v hs5v => ?_)
 refine simL_eff (re_call (vs := [.slice a0_3 x0_3.length c0_3, .slice a1_3 x1_3.length c1_3]) (cap := []) (A := []) (rst := [obj b2v 61 [.int .i64 x1_0, .int .i64 x1_1, .int .i64 x1_2, .slice a1_3 x1_3.length c1_3], obj b1v 61 [.int .i64 x0_0, .int .i64 x0_1, .int .i64 x0_2, .slice a0_3 x0_3.length c0_3], F]) rfl rfl rfl rfl rfl rfl Try.call25 (.sel 0 rfl (.sel 0 rfl (.sel 0 rfl (.nil _)))) (synodref_SameBytes.calls _ _ k a0_3 c0_3 x0_3 a1_3 c1_3 x1_3 (h0_3.lend 2 rfl) hc0_3 hm0_3 (h1_3.lend 2 rfl) hc1_3 hm1_3) hs5v) rfl rfl rfl ?_
 intro y4v
 refine simL_val (q_asg rfl rfl) rfl rfl rfl (simL_nil (nrm_then (sim_seq (sim_region ?_))))
 refine simL_val (q_move rfl rfl) rfl rfl rfl ?_
 refine simL_val (q_move rfl rfl) rfl rfl rfl ?_
 refine simL_valc (b := s3v) (fun hb20v => RQ.sub (E' := [(2, .pointer (some ⟨b1v, 0, none⟩))]) ⟨rfl, trivial⟩ (q_fa rfl rfl Try.underlying61 rfl rfl Try.sizeOf3 rfl)) rfl rfl rfl rfl rfl ?_
 refine simL_valc (b := s3v) (fun hb19v => RQ.sub (E' := [(13, .pointer (some ⟨b1v, 0, none⟩))]) ⟨lk_cv rfl hb19v, trivial⟩ (q_load rfl rfl Try.isAgg3 (.obj 1 rfl rfl))) rfl rfl rfl rfl rfl ?_
 refine simL_valc (b := s3v) (fun hb18v => RQ.sub (E' := [(3, .pointer (some ⟨b2v, 0, none⟩))]) ⟨rfl, trivial⟩ (q_fa rfl rfl Try.underlying61 rfl rfl Try.sizeOf3 rfl)) rfl rfl rfl rfl rfl ?_
 refine simL_valc (b := s3v) (fun hb17v => RQ.sub (E' := [(15, .pointer (some ⟨b2v, 0, none⟩))]) ⟨lk_cv rfl hb17v, trivial⟩ (q_load rfl rfl Try.isAgg3 (.obj 0 rfl rfl))) rfl rfl rfl rfl rfl ?_
 refine simL_valc (b := s3v) (fun hb16v => RQ.sub (E' := [(14, .int .i64 x0_0), (16, .int .i64 x1_0)]) ⟨lk_cv rfl hb16v, lk_cv rfl hb16v, trivial⟩ (q_eql rfl rfl rfl)) rfl rfl rfl rfl rfl ?_
 refine simL_val (q_and rfl rfl rfl) rfl rfl rfl ?_
 refine simL_val (q_move rfl rfl) rfl rfl rfl ?_
 refine simL_valc (b := s3v && (decide (x0_0 = x1_0))) (fun hb15v => RQ.sub (E' := [(2, .pointer (some ⟨b1v, 0, none⟩))]) ⟨rfl, trivial⟩ (q_fa rfl rfl Try.underlying61 rfl rfl Try.sizeOf3 rfl)) rfl rfl rfl rfl rfl ?_
 refine simL_valc (b := s3v && (decide (x0_0 = x1_0))) (fun hb14v => RQ.sub (E' := [(20, .pointer (some ⟨b1v, 1, none⟩))]) ⟨lk_cv rfl hb14v, trivial⟩ (q_load rfl rfl Try.isAgg3 (.obj 1 rfl rfl))) rfl rfl rfl rfl rfl ?_
 refine simL_valc (b := s3v && (decide (x0_0 = x1_0))) (fun hb13v => RQ.sub (E' := [(3, .pointer (some ⟨b2v, 0, none⟩))]) ⟨rfl, trivial⟩ (q_fa rfl rfl Try.underlying61 rfl rfl Try.sizeOf3 rfl)) rfl rfl rfl rfl rfl ?_
 refine simL_valc (b := s3v && (decide (x0_0 = x1_0))) (fun hb12v => RQ.sub (E' := [(22, .pointer (some ⟨b2v, 1, none⟩))]) ⟨lk_cv rfl hb12v, trivial⟩ (q_load rfl rfl Try.isAgg3 (.obj 0 rfl rfl))) rfl rfl rfl rfl rfl ?_
 refine simL_valc (b := s3v && (decide (x0_0 = x1_0))) (fun hb11v => RQ.sub (E' := [(21, .int .i64 x0_1), (23, .int .i64 x1_1)]) ⟨lk_cv rfl hb11v, lk_cv rfl hb11v, trivial⟩ (q_eql rfl rfl rfl)) rfl rfl rfl rfl rfl ?_
 refine simL_val (q_and rfl rfl rfl) rfl rfl rfl ?_
 refine simL_val (q_move rfl rfl) rfl rfl rfl ?_
 refine simL_valc (b := (s3v && (decide (x0_0 = x1_0))) && (decide (x0_1 = x1_1))) (fun hb10v => RQ.sub (E' := [(2, .pointer (some ⟨b1v, 0, none⟩))]) ⟨rfl, trivial⟩ (q_fa rfl rfl Try.underlying61 rfl rfl Try.sizeOf3 rfl)) rfl rfl rfl rfl rfl ?_
 refine simL_valc (b := (s3v && (decide (x0_0 = x1_0))) && (decide (x0_1 = x1_1))) (fun hb9v => RQ.sub (E' := [(27, .pointer (some ⟨b1v, 2, none⟩))]) ⟨lk_cv rfl hb9v, trivial⟩ (q_load rfl rfl Try.isAgg3 (.obj 1 rfl rfl))) rfl rfl rfl rfl rfl ?_
 refine simL_valc (b := (s3v && (decide (x0_0 = x1_0))) && (decide (x0_1 = x1_1))) (fun hb8v => RQ.sub (E' := [(3, .pointer (some ⟨b2v, 0, none⟩))]) ⟨rfl, trivial⟩ (q_fa rfl rfl Try.underlying61 rfl rfl Try.sizeOf3 rfl)) rfl rfl rfl rfl rfl ?_
 refine simL_valc (b := (s3v && (decide (x0_0 = x1_0))) && (decide (x0_1 = x1_1))) (fun hb7v => RQ.sub (E' := [(29, .pointer (some ⟨b2v, 2, none⟩))]) ⟨lk_cv rfl hb7v, trivial⟩ (q_load rfl rfl Try.isAgg3 (.obj 0 rfl rfl))) rfl rfl rfl rfl rfl ?_
 refine simL_valc (b := (s3v && (decide (x0_0 = x1_0))) && (decide (x0_1 = x1_1))) (fun hb6v => RQ.sub (E' := [(28, .int .i64 x0_2), (30, .int .i64 x1_2)]) ⟨lk_cv rfl hb6v, lk_cv rfl hb6v, trivial⟩ (q_eql rfl rfl rfl)) rfl rfl rfl rfl rfl ?_
 refine simL_val (q_and rfl rfl rfl) rfl rfl rfl ?_
 refine simL_val (q_asg rfl rfl) rfl rfl rfl (simL_nil (nrm_then (sim_rtn ?_)))
 exact rtn_fn () rfl rfl rfl (.sel 2 rfl (.nil _))

def synodref_SameEntries.l0 (x0 : List (Int × Int × Int × List UInt8)) (x1 : List (Int × Int × Int × List UInt8)) : Nat → Int → Option ((Unit) ⊕ (Bool))
  | 0, _ => none
  | k + 1, z7v => if z7v < (x0.length : Int) then (if 0 ≤ z7v ∧ z7v < (x0.length : Int) then (if 0 ≤ z7v ∧ z7v < (x1.length : Int) then ((synodref_SameEntry.f k ((x0.getD z7v.toNat ((0 : Int), (0 : Int), (0 : Int), ([] : List UInt8))).1) ((x0.getD z7v.toNat ((0 : Int), (0 : Int), (0 : Int), ([] : List UInt8))).2.1) ((x0.getD z7v.toNat ((0 : Int), (0 : Int), (0 : Int), ([] : List UInt8))).2.2.1) ((x0.getD z7v.toNat ((0 : Int), (0 : Int), (0 : Int), ([] : List UInt8))).2.2.2) ((x1.getD z7v.toNat ((0 : Int), (0 : Int), (0 : Int), ([] : List UInt8))).1) ((x1.getD z7v.toNat ((0 : Int), (0 : Int), (0 : Int), ([] : List UInt8))).2.1) ((x1.getD z7v.toNat ((0 : Int), (0 : Int), (0 : Int), ([] : List UInt8))).2.2.1) ((x1.getD z7v.toNat ((0 : Int), (0 : Int), (0 : Int), ([] : List UInt8))).2.2.2)).bind fun s36v => (if (!s36v) = true then (some (.inr false)) else (synodref_SameEntries.l0 x0 x1 k (IntKind.i64.wrap (z7v + 1))))) else none) else none) else (some (.inl ()))
def synodref_SameEntries.f (k : Nat) (x0 : List (Int × Int × Int × List UInt8)) (x1 : List (Int × Int × Int × List UInt8)) : Option (Bool) := if (x0.length : Int) = (x1.length : Int) then (orR (synodref_SameEntries.l0 x0 x1 k 0) fun s3v => (some true)) else (some false)
theorem synodref_SameEntries.calls (W : World) (F : HA) (k : Nat) (a0 : Option Addr) (c0 : Nat) (x0 : List (Int × Int × Int × List UInt8)) (a1 : Option Addr) (c1 : Nat) (x1 : List (Int × Int × Int × List UInt8)) (h0 : RdV F 4 (V61 F) a0 x0) (hc0 : x0.length ≤ c0) (hm0 : c0 ≤ maxLen) (h1 : RdV F 4 (V61 F) a1 x1) (hc1 : x1.length ≤ c1) (hm1 : c1 ≤ maxLen) :
    Fn Try.prog W 70 [.slice a0 x0.length c0, .slice a1 x1.length c1] [] F (synodref_SameEntries.f k x0 x1) (fun (r : Bool) (y : Unit) => .bool r) (fun r y => []) := by
 unfold synodref_SameEntries.f
 refine fn_intro 29 Try.func70 rfl Try.ntmps70 rfl ?_
 refine sim_seq (sim_region ?_)
 refine simL_val (q_asg rfl rfl) rfl rfl rfl (simL_nil (nrm_then (sim_seq (sim_seq (sim_region ?_)))))
 refine simL_val (q_move rfl rfl) rfl rfl rfl ?_
 refine simL_val (q_len rfl rfl rfl Try.underlying26) rfl rfl rfl ?_
 refine simL_val (q_move rfl rfl) rfl rfl rfl ?_
 refine simL_val (q_len rfl rfl rfl Try.underlying26) rfl rfl rfl ?_
 refine simL_val (q_neq rfl rfl rfl) rfl rfl rfl (simL_nil (nrm_then ?_))
 refine sim_condn rfl (fun h1v => ?_) (fun h2v => ?_)
 refine sim_skip ?_
 refine nrm_then ?_
 refine sim_cutR (S := Unit) (Unit) (fun s y => []) (fun s y => [F]) ?_ ?_
 refine sim_seq (sim_region ?_)
 refine simL_val (q_asg rfl rfl) rfl rfl rfl (simL_nil (nrm_then ?_))
 refine sim_block ?_
 refine sim_loop (S := Int) (Unit) (fun k s => synodref_SameEntries.l0 x0 x1 k s) (fun s y => [(0, .slice a0 x0.length c0), (1, .slice a1 x1.length c1), (5, .int .i64 s)]) (fun s y => [F]) (fun _ => by rw [synodref_SameEntries.l0]) ?_ k 0 () ⟨rfl, rfl, rfl, trivial⟩ (.sel 0 rfl (.nil _))
 intro k s5v y6v
 refine sim_eq (by rw [synodref_SameEntries.l0]) ?_
 refine sim_seq (sim_seq (sim_region ?_))
 refine simL_val (q_move rfl rfl) rfl rfl rfl ?_
 refine simL_val (q_move rfl rfl) rfl rfl rfl ?_
 refine simL_val (q_len rfl rfl rfl Try.underlying26) rfl rfl rfl ?_
 refine simL_val (q_lss rfl rfl rfl) rfl rfl rfl (simL_nil (nrm_then ?_))
 refine sim_cond rfl (fun h8v => ?_) (fun h9v => ?_)
 refine sim_skip ?_
 refine nrm_then (sim_seq ?_)
 refine sim_block ?_
 refine sim_seq ?_
 refine sim_ask (fun hi10v => ?_)
 obtain ⟨b11v, b11vo, r14v, ha12v, hV15v, hlr16v, hcell17v⟩ := RdV.pos h0 (Up.refl _) rfl (i := s5v.toNat) (by omega) ((0 : Int), (0 : Int), (0 : Int), ([] : List UInt8))
 obtain ⟨a18v, c19v, rfl, ⟨he20v, hc21v, hm22v⟩⟩ := hV15v
 refine sim_ask (fun hi23v => ?_)
 obtain ⟨b24v, b24vo, r27v, ha25v, hV28v, hlr29v, hcell30v⟩ := RdV.pos h1 (Up.refl _) rfl (i := s5v.toNat) (by omega) ((0 : Int), (0 : Int), (0 : Int), ([] : List UInt8))
 obtain ⟨a31v, c32v, rfl, ⟨he33v, hc34v, hm35v⟩⟩ := hV28v
 refine sim_bind (fun s36v hs38v => ?_)
 refine sim_draw (Γ := Unit) () [[], [], [0, 1], [0, 1, 2], [], [], [4, 5], [4, 5, 6], [0, 1, 2, 3, 4, 5, 6, 7], [0, 1, 2, 3, 4, 5, 6, 7, 8]] [8] [0, 1, 2, 3, 4, 5, 6, 7, 9] (fun i => [[0], [0], [0], [0], [0], [0], [0], [0], [], [1]].getD i []) (fun i => [[], [], [], [], [], [], [], [], [0, 1, 2, 3, 4, 5, 6, 7], []].getD i []) (fun γ i => [.slice a0 x0.length c0, .int .i64 s5v, .pointer (some ⟨b11v, b11vo + s5v.toNat * 4, none⟩), .agg #[.int .i64 ((x0.getD s5v.toNat ((0 : Int), (0 : Int), (0 : Int), ([] : List UInt8))).1), .int .i64 ((x0.getD s5v.toNat ((0 : Int), (0 : Int), (0 : Int), ([] : List UInt8))).2.1), .int .i64 ((x0.getD s5v.toNat ((0 : Int), (0 : Int), (0 : Int), ([] : List UInt8))).2.2.1), .slice a18v (((x0.getD s5v.toNat ((0 : Int), (0 : Int), (0 : Int), ([] : List UInt8))).2.2.2).length) c19v], .slice a1 x1.length c1, .int .i64 s5v, .pointer (some ⟨b24v, b24vo + s5v.toNat * 4, none⟩), .agg #[.int .i64 ((x1.getD s5v.toNat ((0 : Int), (0 : Int), (0 : Int), ([] : List UInt8))).1), .int .i64 ((x1.getD s5v.toNat ((0 : Int), (0 : Int), (0 : Int), ([] : List UInt8))).2.1), .int .i64 ((x1.getD s5v.toNat ((0 : Int), (0 : Int), (0 : Int), ([] : List UInt8))).2.2.1), .slice a31v (((x1.getD s5v.toNat ((0 : Int), (0 : Int), (0 : Int), ([] : List UInt8))).2.2.2).length) c32v], .bool s36v, .bool s36v].getD i undef) (fun j γ => [[F], [F]].getD j []) (fun γ => [(0, .slice a0 x0.length c0), (1, .slice a1 x1.length c1), (5, .int .i64 s5v), (6, .bool s36v)]) mixed (by decide) (by decide) (by decide) (by decide) (by decide) (by decide) (by decide) 29 rfl (by decide) (by decide) (by decide) (Ent.refl _) ?_ ?_ (fun _ => ⟨rfl, rfl, rfl, rfl, trivial⟩) ?_
 exact (All.cons (fun γ => (All.cons (QOb.plain [(0, .slice a0 x0.length c0)] rfl rfl (.o rfl (by decide) .nil) (q_move rfl rfl) rfl) All.nil)) (All.cons (fun γ => (All.cons (QOb.plain [(5, .int .i64 s5v)] rfl rfl (.o rfl (by decide) .nil) (q_move rfl rfl) rfl) All.nil)) (All.cons (fun γ => (All.cons (QOb.plain [(18, .slice a0 x0.length c0), (19, .int .i64 s5v)] rfl rfl (.w 0 rfl rfl rfl (.w 1 rfl rfl rfl .nil)) (q_idx rfl rfl rfl ha12v Try.underlying26 Try.sizeOf61 hi10v.1 hi10v.2) rfl) All.nil)) (All.cons (fun γ => (All.cons (QOb.plain [(20, .pointer (some ⟨b11v, b11vo + s5v.toNat * 4, none⟩))] rfl rfl (.w 2 rfl rfl rfl .nil) (q_loads rfl rfl Try.isAgg61 Try.sizeOf61 rfl (fun j v hj => hcell17v 0 rfl j v hj)) rfl) All.nil)) (All.cons (fun γ => (All.cons (QOb.plain [(1, .slice a1 x1.length c1)] rfl rfl (.o rfl (by decide) .nil) (q_move rfl rfl) rfl) All.nil)) (All.cons (fun γ => (All.cons (QOb.plain [(5, .int .i64 s5v)] rfl rfl (.o rfl (by decide) .nil) (q_move rfl rfl) rfl) All.nil)) (All.cons (fun γ => (All.cons (QOb.plain [(22, .slice a1 x1.length c1), (23, .int .i64 s5v)] rfl rfl (.w 4 rfl rfl rfl (.w 5 rfl rfl rfl .nil)) (q_idx rfl rfl rfl ha25v Try.underlying26 Try.sizeOf61 hi23v.1 hi23v.2) rfl) All.nil)) (All.cons (fun γ => (All.cons (QOb.plain [(24, .pointer (some ⟨b24v, b24vo + s5v.toNat * 4, none⟩))] rfl rfl (.w 6 rfl rfl rfl .nil) (q_loads rfl rfl Try.isAgg61 Try.sizeOf61 rfl (fun j v hj => hcell30v 0 rfl j v hj)) rfl) All.nil)) (All.cons (fun γ => (All.cons (QOb.plain [(26, .bool s36v)] rfl rfl (.w 8 rfl rfl rfl .nil) (q_asg rfl rfl) rfl) All.nil)) All.nil)))))))))
 exact (All.cons (fun γ => EOb.mk (Z := Unit) [(21, .agg #[.int .i64 ((x0.getD s5v.toNat ((0 : Int), (0 : Int), (0 : Int), ([] : List UInt8))).1), .int .i64 ((x0.getD s5v.toNat ((0 : Int), (0 : Int), (0 : Int), ([] : List UInt8))).2.1), .int .i64 ((x0.getD s5v.toNat ((0 : Int), (0 : Int), (0 : Int), ([] : List UInt8))).2.2.1), .slice a18v (((x0.getD s5v.toNat ((0 : Int), (0 : Int), (0 : Int), ([] : List UInt8))).2.2.2).length) c19v]), (25, .agg #[.int .i64 ((x1.getD s5v.toNat ((0 : Int), (0 : Int), (0 : Int), ([] : List UInt8))).1), .int .i64 ((x1.getD s5v.toNat ((0 : Int), (0 : Int), (0 : Int), ([] : List UInt8))).2.1), .int .i64 ((x1.getD s5v.toNat ((0 : Int), (0 : Int), (0 : Int), ([] : List UInt8))).2.2.1), .slice a31v (((x1.getD s5v.toNat ((0 : Int), (0 : Int), (0 : Int), ([] : List UInt8))).2.2.2).length) c32v])] (fun z => ()) rfl rfl (.w 3 rfl rfl rfl (.w 7 rfl rfl rfl .nil)) (re_call (vs := [.agg #[.int .i64 ((x0.getD s5v.toNat ((0 : Int), (0 : Int), (0 : Int), ([] : List UInt8))).1), .int .i64 ((x0.getD s5v.toNat ((0 : Int), (0 : Int), (0 : Int), ([] : List UInt8))).2.1), .int .i64 ((x0.getD s5v.toNat ((0 : Int), (0 : Int), (0 : Int), ([] : List UInt8))).2.2.1), .slice a18v (((x0.getD s5v.toNat ((0 : Int), (0 : Int), (0 : Int), ([] : List UInt8))).2.2.2).length) c19v], .agg #[.int .i64 ((x1.getD s5v.toNat ((0 : Int), (0 : Int), (0 : Int), ([] : List UInt8))).1), .int .i64 ((x1.getD s5v.toNat ((0 : Int), (0 : Int), (0 : Int), ([] : List UInt8))).2.1), .int .i64 ((x1.getD s5v.toNat ((0 : Int), (0 : Int), (0 : Int), ([] : List UInt8))).2.2.1), .slice a31v (((x1.getD s5v.toNat ((0 : Int), (0 : Int), (0 : Int), ([] : List UInt8))).2.2.2).length) c32v]]) (cap := []) (A := []) (rst := [F]) rfl rfl rfl rfl rfl rfl Try.call38 (.sel 0 rfl (.nil _)) (synodref_SameEntry.calls _ _ k ((x0.getD s5v.toNat ((0 : Int), (0 : Int), (0 : Int), ([] : List UInt8))).1) ((x0.getD s5v.toNat ((0 : Int), (0 : Int), (0 : Int), ([] : List UInt8))).2.1) ((x0.getD s5v.toNat ((0 : Int), (0 : Int), (0 : Int), ([] : List UInt8))).2.2.1) a18v c19v ((x0.getD s5v.toNat ((0 : Int), (0 : Int), (0 : Int), ([] : List UInt8))).2.2.2) ((x1.getD s5v.toNat ((0 : Int), (0 : Int), (0 : Int), ([] : List UInt8))).1) ((x1.getD s5v.toNat ((0 : Int), (0 : Int), (0 : Int), ([] : List UInt8))).2.1) ((x1.getD s5v.toNat ((0 : Int), (0 : Int), (0 : Int), ([] : List UInt8))).2.2.1) a31v c32v ((x1.getD s5v.toNat ((0 : Int), (0 : Int), (0 : Int), ([] : List UInt8))).2.2.2) (he20v.lend 0 rfl) hc21v hm22v (he33v.lend 0 rfl) hc34v hm35v) hs38v) (fun _ => ⟨rfl, rfl, rfl, rfl, rfl, rfl, rfl, rfl, trivial⟩) (fun _ => .inr rfl) (fun z => Ent.refl _)) All.nil)
 intro g39v
 refine nrm_then (sim_seq (sim_region ?_))
 refine simL_val (q_move rfl rfl) rfl rfl rfl ?_
 refine simL_val (q_not rfl rfl) rfl rfl rfl (simL_nil (nrm_then ?_))
 refine sim_condb rfl (fun h40v => ?_) (fun h41v => ?_)
 refine sim_seq (sim_region ?_)
 refine simL_val (q_asg rfl rfl) rfl rfl rfl (simL_nil (nrm_then (sim_rtn ?_)))
 refine rtn_block ?_
 refine rtn_then ?_
 refine rtn_loop ?_
 refine rtn_block ?_
 refine rtn_cutR ?_
 exact rtn_fn () rfl rfl rfl (.sel 0 rfl (.nil _))
 refine sim_skip ?_
 refine nrm_block (nrm_then (sim_region ?_))
 refine simL_val (q_move rfl rfl) rfl rfl rfl ?_
 refine simL_val (q_add rfl rfl rfl) rfl rfl rfl ?_
 refine simL_val (q_asg rfl rfl) rfl rfl rfl (simL_nil ?_)
 exact nrm_again (s := IntKind.i64.wrap (s5v + 1)) () ⟨rfl, rfl, rfl, trivial⟩ (.sel 0 rfl (.nil _))
 refine sim_exi ?_
 refine exi_then ?_
 refine exi_loop ?_
 refine exi_here ?_
 exact nrm_cutR (s := ()) () trivial (.sel 0 rfl (.nil _))
 intro s3v y4v
 refine sim_seq (sim_region ?_)
 refine simL_val (q_asg rfl rfl) rfl rfl rfl (simL_nil (nrm_then (sim_rtn ?_)))
 exact rtn_fn () rfl rfl rfl (.sel 0 rfl (.nil _))
 refine sim_seq (sim_region ?_)
 refine simL_val (q_asg rfl rfl) rfl rfl rfl (simL_nil (nrm_then (sim_rtn ?_)))
 refine rtn_then ?_
 exact rtn_fn () rfl rfl rfl (.sel 0 rfl (.nil _))

def synodref_SameMessage.f (k : Nat) (x0_0 : Int) (x0_1 : Int) (x0_2 : Int) (x0_3 : Int) (x0_4 : Int) (x0_5 : Int) (x0_6 : Int) (x0_7 : Int) (x0_8 : Int) (x0_9 : Bool) (x0_10 : List (Int × Int × Int × List UInt8)) (x0_11 : Int) (x0_12 : Int) (x0_13 : List UInt8) (x1_0 : Int) (x1_1 : Int) (x1_2 : Int) (x1_3 : Int) (x1_4 : Int) (x1_5 : Int) (x1_6 : Int) (x1_7 : Int) (x1_8 : Int) (x1_9 : Bool) (x1_10 : List (Int × Int × Int × List UInt8)) (x1_11 : Int) (x1_12 : Int) (x1_13 : List UInt8) : Option (Bool) := (synodref_SameSnap.f k x0_11 x0_12 x0_13 x1_11 x1_12 x1_13).bind fun s3v => ((synodref_SameEntries.f k x0_10 x1_10).bind fun s6v => (some ((((((((((((decide (x0_0 = x1_0)) && (decide (x0_1 = x1_1))) && (decide (x0_2 = x1_2))) && (decide (x0_3 = x1_3))) && s3v) && s6v) && (decide (x0_4 = x1_4))) && (decide (x0_5 = x1_5))) && (decide (x0_6 = x1_6))) && (decide (x0_7 = x1_7))) && (decide (x0_8 = x1_8))) && (x0_9 == x1_9))))
theorem synodref_SameMessage.calls (W : World) (F : HA) (k : Nat) (x0_0 : Int) (x0_1 : Int) (x0_2 : Int) (x0_3 : Int) (x0_4 : Int) (x0_5 : Int) (x0_6 : Int) (x0_7 : Int) (x0_8 : Int) (x0_9 : Bool) (a0_10 : Option Addr) (c0_10 : Nat) (x0_10 : List (Int × Int × Int × List UInt8)) (x0_11 : Int) (x0_12 : Int) (a0_13 : Option Addr) (c0_13 : Nat) (x0_13 : List UInt8) (x1_0 : Int) (x1_1 : Int) (x1_2 : Int) (x1_3 : Int) (x1_4 : Int) (x1_5 : Int) (x1_6 : Int) (x1_7 : Int) (x1_8 : Int) (x1_9 : Bool) (a1_10 : Option Addr) (c1_10 : Nat) (x1_10 : List (Int × Int × Int × List UInt8)) (x1_11 : Int) (x1_12 : Int) (a1_13 : Option Addr) (c1_13 : Nat) (x1_13 : List UInt8) (h0_10 : RdV F 4 (V61 F) a0_10 x0_10) (hc0_10 : x0_10.length ≤ c0_10) (hm0_10 : c0_10 ≤ maxLen) (h0_13 : Rd F a0_13 (encB x0_13)) (hc0_13 : x0_13.length ≤ c0_13) (hm0_13 : c0_13 ≤ maxLen) (h1_10 : RdV F 4 (V61 F) a1_10 x1_10) (hc1_10 : x1_10.length ≤ c1_10) (hm1_10 : c1_10 ≤ maxLen) (h1_13 : Rd F a1_13 (encB x1_13)) (hc1_13 : x1_13.length ≤ c1_13) (hm1_13 : c1_13 ≤ maxLen) :
    Fn Try.prog W 18 [.agg #[.int .i64 x0_0, .int .i64 x0_1, .int .i64 x0_2, .int .i64 x0_3, .int .i64 x0_4, .int .i64 x0_5, .int .i64 x0_6, .int .i64 x0_7, .int .i64 x0_8, .bool x0_9, .slice a0_10 x0_10.length c0_10, .int .i64 x0_11, .int .i64 x0_12, .slice a0_13 x0_13.length c0_13], .agg #[.int .i64 x1_0, .int .i64 x1_1, .int .i64 x1_2, .int .i64 x1_3, .int .i64 x1_4, .int .i64 x1_5, .int .i64 x1_6, .int .i64 x1_7, .int .i64 x1_8, .bool x1_9, .slice a1_10 x1_10.length c1_10, .int .i64 x1_11, .int .i64 x1_12, .slice a1_13 x1_13.length c1_13]] [] F (synodref_SameMessage.f k x0_0 x0_1 x0_2 x0_3 x0_4 x0_5 x0_6 x0_7 x0_8 x0_9 x0_10 x0_11 x0_12 x0_13 x1_0 x1_1 x1_2 x1_3 x1_4 x1_5 x1_6 x1_7 x1_8 x1_9 x1_10 x1_11 x1_12 x1_13) (fun (r : Bool) (y : Unit) => .bool r) (fun r y => []) := by
 unfold synodref_SameMessage.f
 refine fn_intro 93 Try.func18 rfl Try.ntmps18 rfl ?_
 refine sim_seq (sim_region ?_)
 refine simL_eff (re_box rfl rfl rfl) rfl rfl rfl ?_
 intro b1v
 refine simL_eff (re_box rfl rfl rfl) rfl rfl rfl ?_
 intro b2v
 refine simL_val (q_asg rfl rfl) rfl rfl rfl (simL_nil (nrm_then (sim_seq (sim_region ?_))))
 refine simL_val (q_fa rfl rfl Try.underlying31 rfl rfl Try.sizeOf29 rfl) rfl rfl rfl ?_
 refine simL_val (q_loads (vs := [.int .i64 x0_11, .int .i64 x0_12, .slice a0_13 x0_13.length c0_13]) rfl rfl Try.isAgg29 Try.sizeOf29 rfl (cells_obj 1 rfl (cells_lit rfl))) rfl rfl rfl ?_
 refine simL_val (q_fa rfl rfl Try.underlying31 rfl rfl Try.sizeOf29 rfl) rfl rfl rfl ?_
 refine simL_val (q_loads (vs := [.int .i64 x1_11, .int .i64 x1_12, .slice a1_13 x1_13.length c1_13]) rfl rfl Try.isAgg29 Try.sizeOf29 rfl (cells_obj 0 rfl (cells_lit rfl))) rfl rfl rfl ?_
 refine simL_bind (fun s3v hs5v => ?_)
 refine simL_eff (re_call (vs := [.agg #[.int .i64 x0_11, .int .i64 x0_12, .slice a0_13 x0_13.length c0_13], .agg #[.int .i64 x1_11, .int .i64 x1_12, .slice a1_13 x1_13.length c1_13]]) (cap := []) (A := []) (rst := [obj b2v 31 [.int .i64 x1_0, .int .i64 x1_1, .int .i64 x1_2, .int .i64 x1_3, .int .i64 x1_4, .int .i64 x1_5, .int .i64 x1_6, .int .i64 x1_7, .int .i64 x1_8, .bool x1_9, .slice a1_10 x1_10.length c1_10, .int .i64 x1_11, .int .i64 x1_12, .slice a1_13 x1_13.length c1_13], obj b1v 31 [.int .i64 x0_0, .int .i64 x0_1, .int .i64 x0_2, .int .i64 x0_3, .int .i64 x0_4, .int .i64 x0_5, .int .i64 x0_6, .int .i64 x0_7, .int .i64 x0_8, .bool x0_9, .slice a0_10 x0_10.length c0_10, .int .i64 x0_11, .int .i64 x0_12, .slice a0_13 x0_13.length c0_13], F]) rfl rfl rfl rfl rfl rfl Try.call45 (.sel 0 rfl (.sel 0 rfl (.sel 0 rfl (.nil _)))) (synodref_SameSnap.calls _ _ k x0_11 x0_12 a0_13 c0_13 x0_13 x1_11 x1_12 a1_13 c1_13 x1_13 (h0_13.lend 2 rfl) hc0_13 hm0_13 (h1_13.lend 2 rfl) hc1_13 hm1_13) hs5v) rfl rfl rfl ?_
 intro y4v
 refine simL_val (q_asg rfl rfl) rfl rfl rfl (simL_nil (nrm_then (sim_seq (sim_region ?_))))
 refine simL_val (q_fa rfl rfl Try.underlying31 rfl rfl Try.sizeOf26 rfl) rfl rfl rfl ?_
 refine simL_val (q_load rfl rfl Try.isAgg26 (.obj 1 rfl rfl)) rfl rfl rfl ?_
 refine simL_val (q_fa rfl rfl Try.underlying31 rfl rfl Try.sizeOf26 rfl) rfl rfl rfl ?_
 refine simL_val (q_load rfl rfl Try.isAgg26 (.obj 0 rfl rfl)) rfl rfl rfl ?_
 refine simL_bind (fun s6v hs8v => ?_)
 refine simL_eff (re_call (vs := [.slice a0_10 x0_10.length c0_10, .slice a1_10 x1_10.length c1_10]) (cap := []) (A := []) (rst := [obj b2v 31 [.int .i64 x1_0, .int .i64 x1_1, .int .i64 x1_2, .int .i64 x1_3, .int .i64 x1_4, .int .i64 x1_5, .int .i64 x1_6, .int .i64 x1_7, .int .i64 x1_8, .bool x1_9, .slice a1_10 x1_10.length c1_10, .int .i64 x1_11, .int .i64 x1_12, .slice a1_13 x1_13.length c1_13], obj b1v 31 [.int .i64 x0_0, .int .i64 x0_1, .int .i64 x0_2, .int .i64 x0_3, .int .i64 x0_4, .int .i64 x0_5, .int .i64 x0_6, .int .i64 x0_7, .int .i64 x0_8, .bool x0_9, .slice a0_10 x0_10.length c0_10, .int .i64 x0_11, .int .i64 x0_12, .slice a0_13 x0_13.length c0_13], F]) rfl rfl rfl rfl rfl rfl Try.call70 (.sel 0 rfl (.sel 0 rfl (.sel 0 rfl (.nil _)))) (synodref_SameEntries.calls _ _ k a0_10 c0_10 x0_10 a1_10 c1_10 x1_10 (h0_10.up (Up.lend 2 rfl) (V61.up (Up.lend 2 rfl))) hc0_10 hm0_10 (h1_10.up (Up.lend 2 rfl) (V61.up (Up.lend 2 rfl))) hc1_10 hm1_10) hs8v) rfl rfl rfl ?_
 intro y7v
 refine simL_val (q_asg rfl rfl) rfl rfl rfl (simL_nil (nrm_then (sim_seq (sim_region ?_))))
 refine simL_val (q_fa rfl rfl Try.underlying31 rfl rfl Try.sizeOf3 rfl) rfl rfl rfl ?_
 refine simL_val (q_load rfl rfl Try.isAgg3 (.obj 1 rfl rfl)) rfl rfl rfl ?_
 refine simL_val (q_fa rfl rfl Try.underlying31 rfl rfl Try.sizeOf3 rfl) rfl rfl rfl ?_
 refine simL_val (q_load rfl rfl Try.isAgg3 (.obj 0 rfl rfl)) rfl rfl rfl ?_
 refine simL_val (q_eql rfl rfl rfl) rfl rfl rfl ?_
 refine simL_val (q_move rfl rfl) rfl rfl rfl ?_
 refine simL_valc (b := decide (x0_0 = x1_0)) (fun hb55v => RQ.sub (E' := [(2, .pointer (some ⟨b1v, 0, none⟩))]) ⟨rfl, trivial⟩ (q_fa rfl rfl Try.underlying31 rfl rfl Try.sizeOf3 rfl)) rfl rfl rfl rfl rfl ?_
 refine simL_valc (b := decide (x0_0 = x1_0)) (fun hb54v => RQ.sub (E' := [(24, .pointer (some ⟨b1v, 1, none⟩))]) ⟨lk_cv rfl hb54v, trivial⟩ (q_load rfl rfl Try.isAgg3 (.obj 1 rfl rfl))) rfl rfl rfl rfl rfl ?_
 refine simL_valc (b := decide (x0_0 = x1_0)) (fun hb53v => RQ.sub (E' := [(3, .pointer (some ⟨b2v, 0, none⟩))]) ⟨rfl, trivial⟩ (q_fa rfl rfl Try.underlying31 rfl rfl Try.sizeOf3 rfl)) rfl rfl rfl rfl rfl ?_
 refine simL_valc (b := decide (x0_0 = x1_0)) (fun hb52v => RQ.sub (E' := [(26, .pointer (some ⟨b2v, 1, none⟩))]) ⟨lk_cv rfl hb52v, trivial⟩ (q_load rfl rfl Try.isAgg3 (.obj 0 rfl rfl))) rfl rfl rfl rfl rfl ?_
 refine simL_valc (b := decide (x0_0 = x1_0)) (fun hb51v => RQ.sub (E' := [(25, .int .i64 x0_1), (27, .int .i64 x1_1)]) ⟨lk_cv rfl hb51v, lk_cv rfl hb51v, trivial⟩ (q_eql rfl rfl rfl)) rfl rfl rfl rfl rfl ?_
 refine simL_val (q_and rfl rfl rfl) rfl rfl rfl ?_
 refine simL_val (q_move rfl rfl) rfl rfl rfl ?_
 refine simL_valc (b := (decide (x0_0 = x1_0)) && (decide (x0_1 = x1_1))) (fun hb50v => RQ.sub (E' := [(2, .pointer (some ⟨b1v, 0, none⟩))]) ⟨rfl, trivial⟩ (q_fa rfl rfl Try.underlying31 rfl rfl Try.sizeOf3 rfl)) rfl rfl rfl rfl rfl ?_
 refine simL_valc (b := (decide (x0_0 = x1_0)) && (decide (x0_1 = x1_1))) (fun hb49v => RQ.sub (E' := [(31, .pointer (some ⟨b1v, 2, none⟩))]) ⟨lk_cv rfl hb49v, trivial⟩ (q_load rfl rfl Try.isAgg3 (.obj 1 rfl rfl))) rfl rfl rfl rfl rfl ?_
 refine simL_valc (b := (decide (x0_0 = x1_0)) && (decide (x0_1 = x1_1))) (fun hb48v => RQ.sub (E' := [(3, .pointer (some ⟨b2v, 0, none⟩))]) ⟨rfl, trivial⟩ (q_fa rfl rfl Try.underlying31 rfl rfl Try.sizeOf3 rfl)) rfl rfl rfl rfl rfl ?_
 refine simL_valc (b := (decide (x0_0 = x1_0)) && (decide (x0_1 = x1_1))) (fun hb47v => RQ.sub (E' := [(33, .pointer (some ⟨b2v, 2, none⟩))]) ⟨lk_cv rfl hb47v, trivial⟩ (q_load rfl rfl Try.isAgg3 (.obj 0 rfl rfl))) rfl rfl rfl rfl rfl ?_
 refine simL_valc (b := (decide (x0_0 = x1_0)) && (decide (x0_1 = x1_1))) (fun hb46v => RQ.sub (E' := [(32, .int .i64 x0_2), (34, .int .i64 x1_2)]) ⟨lk_cv rfl hb46v, lk_cv rfl hb46v, trivial⟩ (q_eql rfl rfl rfl)) rfl rfl rfl rfl rfl ?_
 refine simL_val (q_and rfl rfl rfl) rfl rfl rfl ?_
 refine simL_val (q_move rfl rfl) rfl rfl rfl ?_
 refine simL_valc (b := ((decide (x0_0 = x1_0)) && (decide (x0_1 = x1_1))) && (decide (x0_2 = x1_2))) (fun hb45v => RQ.sub (E' := [(2, .pointer (some ⟨b1v, 0, none⟩))]) ⟨rfl, trivial⟩ (q_fa rfl rfl Try.underlying31 rfl rfl Try.sizeOf3 rfl)) rfl rfl rfl rfl rfl ?_
 refine simL_valc (b := ((decide (x0_0 = x1_0)) && (decide (x0_1 = x1_1))) && (decide (x0_2 = x1_2))) (fun hb44v => RQ.sub (E' := [(38, .pointer (some ⟨b1v, 3, none⟩))]) ⟨lk_cv rfl hb44v, trivial⟩ (q_load rfl rfl Try.isAgg3 (.obj 1 rfl rfl))) rfl rfl rfl rfl rfl ?_
 refine simL_valc (b := ((decide (x0_0 = x1_0)) && (decide (x0_1 = x1_1))) && (decide (x0_2 = x1_2))) (fun hb43v => RQ.sub (E' := [(3, .pointer (some ⟨b2v, 0, none⟩))]) ⟨rfl, trivial⟩ (q_fa rfl rfl Try.underlying31 rfl rfl Try.sizeOf3 rfl)) rfl rfl rfl rfl rfl ?_
 refine simL_valc (b := ((decide (x0_0 = x1_0)) && (decide (x0_1 = x1_1))) && (decide (x0_2 = x1_2))) (fun hb42v => RQ.sub (E' := [(40, .pointer (some ⟨b2v, 3, none⟩))]) ⟨lk_cv rfl hb42v, trivial⟩ (q_load rfl rfl Try.isAgg3 (.obj 0 rfl rfl))) rfl rfl rfl rfl rfl ?_
 refine simL_valc (b := ((decide (x0_0 = x1_0)) && (decide (x0_1 = x1_1))) && (decide (x0_2 = x1_2))) (fun hb41v => RQ.sub (E' := [(39, .int .i64 x0_3), (41, .int .i64 x1_3)]) ⟨lk_cv rfl hb41v, lk_cv rfl hb41v, trivial⟩ (q_eql rfl rfl rfl)) rfl rfl rfl rfl rfl ?_
 refine simL_val (q_and rfl rfl rfl) rfl rfl rfl ?_
 refine simL_val (q_asg rfl rfl) rfl rfl rfl (simL_nil (nrm_then (sim_seq (sim_region ?_))))
 refine simL_val (q_move rfl rfl) rfl rfl rfl ?_
 refine simL_val (q_move rfl rfl) rfl rfl rfl ?_
 refine simL_valc (b := (((decide (x0_0 = x1_0)) && (decide (x0_1 = x1_1))) && (decide (x0_2 = x1_2))) && (decide (x0_3 = x1_3))) (fun hb40v => RQ.sub (E' := [(5, .bool s3v)]) ⟨rfl, trivial⟩ (q_move rfl rfl)) rfl rfl rfl rfl rfl ?_
 refine simL_val (q_and rfl rfl rfl) rfl rfl rfl ?_
 refine simL_val (q_move rfl rfl) rfl rfl rfl ?_
 refine simL_valc (b := ((((decide (x0_0 = x1_0)) && (decide (x0_1 = x1_1))) && (decide (x0_2 = x1_2))) && (decide (x0_3 = x1_3))) && s3v) (fun hb39v => RQ.sub (E' := [(6, .bool s6v)]) ⟨rfl, trivial⟩ (q_move rfl rfl)) rfl rfl rfl rfl rfl ?_
 refine simL_val (q_and rfl rfl rfl) rfl rfl rfl ?_
 refine simL_val (q_move rfl rfl) rfl rfl rfl ?_
 refine simL_valc (b := (((((decide (x0_0 = x1_0)) && (decide (x0_1 = x1_1))) && (decide (x0_2 = x1_2))) && (decide (x0_3 = x1_3))) && s3v) && s6v) (fun hb38v => RQ.sub (E' := [(2, .pointer (some ⟨b1v, 0, none⟩))]) ⟨rfl, trivial⟩ (q_fa rfl rfl Try.underlying31 rfl rfl Try.sizeOf3 rfl)) rfl rfl rfl rfl rfl ?_
 refine simL_valc (b := (((((decide (x0_0 = x1_0)) && (decide (x0_1 = x1_1))) && (decide (x0_2 = x1_2))) && (decide (x0_3 = x1_3))) && s3v) && s6v) (fun hb37v => RQ.sub (E' := [(52, .pointer (some ⟨b1v, 4, none⟩))]) ⟨lk_cv rfl hb37v, trivial⟩ (q_load rfl rfl Try.isAgg3 (.obj 1 rfl rfl))) rfl rfl rfl rfl rfl ?_
 refine simL_valc (b := (((((decide (x0_0 = x1_0)) && (decide (x0_1 = x1_1))) && (decide (x0_2 = x1_2))) && (decide (x0_3 = x1_3))) && s3v) && s6v) (fun hb36v => RQ.sub (E' := [(3, .pointer (some ⟨b2v, 0, none⟩))]) ⟨rfl, trivial⟩ (q_fa rfl rfl Try.underlying31 rfl rfl Try.sizeOf3 rfl)) rfl rfl rfl rfl rfl ?_
 refine simL_valc (b := (((((decide (x0_0 = x1_0)) && (decide (x0_1 = x1_1))) && (decide (x0_2 = x1_2))) && (decide (x0_3 = x1_3))) && s3v) && s6v) (fun hb35v => RQ.sub (E' := [(54, .pointer (some ⟨b2v, 4, none⟩))]) ⟨lk_cv rfl hb35v, trivial⟩ (q_load rfl rfl Try.isAgg3 (.obj 0 rfl rfl))) rfl rfl rfl rfl rfl ?_
 refine simL_valc (b := (((((decide (x0_0 = x1_0)) && (decide (x0_1 = x1_1))) && (decide (x0_2 = x1_2))) && (decide (x0_3 = x1_3))) && s3v) && s6v) (fun hb34v => RQ.sub (E' := [(53, .int .i64 x0_4), (55, .int .i64 x1_4)]) ⟨lk_cv rfl hb34v, lk_cv rfl hb34v, trivial⟩ (q_eql rfl rfl rfl)) rfl rfl rfl rfl rfl ?_
 refine simL_val (q_and rfl rfl rfl) rfl rfl rfl ?_
 refine simL_val (q_move rfl rfl) rfl rfl rfl ?_
 refine simL_valc (b := ((((((decide (x0_0 = x1_0)) && (decide (x0_1 = x1_1))) && (decide (x0_2 = x1_2))) && (decide (x0_3 = x1_3))) && s3v) && s6v) && (decide (x0_4 = x1_4))) (fun hb33v => RQ.sub (E' := [(2, .pointer (some ⟨b1v, 0, none⟩))]) ⟨rfl, trivial⟩ (q_fa rfl rfl Try.underlying31 rfl rfl Try.sizeOf3 rfl)) rfl rfl rfl rfl rfl ?_
 refine simL_valc (b := ((((((decide (x0_0 = x1_0)) && (decide (x0_1 = x1_1))) && (decide (x0_2 = x1_2))) && (decide (x0_3 = x1_3))) && s3v) && s6v) && (decide (x0_4 = x1_4))) (fun hb32v => RQ.sub (E' := [(59, .pointer (some ⟨b1v, 5, none⟩))]) ⟨lk_cv rfl hb32v, trivial⟩ (q_load rfl rfl Try.isAgg3 (.obj 1 rfl rfl))) rfl rfl rfl rfl rfl ?_
 refine simL_valc (b := ((((((decide (x0_0 = x1_0)) && (decide (x0_1 = x1_1))) && (decide (x0_2 = x1_2))) && (decide (x0_3 = x1_3))) && s3v) && s6v) && (decide (x0_4 = x1_4))) (fun hb31v => RQ.sub (E' := [(3, .pointer (some ⟨b2v, 0, none⟩))]) ⟨rfl, trivial⟩ (q_fa rfl rfl Try.underlying31 rfl rfl Try.sizeOf3 rfl)) rfl rfl rfl rfl rfl ?_
 refine simL_valc (b := ((((((decide (x0_0 = x1_0)) && (decide (x0_1 = x1_1))) && (decide (x0_2 = x1_2))) && (decide (x0_3 = x1_3))) && s3v) && s6v) && (decide (x0_4 = x1_4))) (fun hb30v => RQ.sub (E' := [(61, .pointer (some ⟨b2v, 5, none⟩))]) ⟨lk_cv rfl hb30v, trivial⟩ (q_load rfl rfl Try.isAgg3 (.obj 0 rfl rfl))) rfl rfl rfl rfl rfl ?_
 refine simL_valc (b := ((((((decide (x0_0 = x1_0)) && (decide (x0_1 = x1_1))) && (decide (x0_2 = x1_2))) && (decide (x0_3 = x1_3))) && s3v) && s6v) && (decide (x0_4 = x1_4))) (fun hb29v => RQ.sub (E' := [(60, .int .i64 x0_5), (62, .int .i64 x1_5)]) ⟨lk_cv rfl hb29v, lk_cv rfl hb29v, trivial⟩ (q_eql rfl rfl rfl)) rfl rfl rfl rfl rfl ?_
 refine simL_val (q_and rfl rfl rfl) rfl rfl rfl ?_
 refine simL_val (q_move rfl rfl) rfl rfl rfl ?_
 refine simL_valc (b := (((((((decide (x0_0 = x1_0)) && (decide (x0_1 = x1_1))) && (decide (x0_2 = x1_2))) && (decide (x0_3 = x1_3))) && s3v) && s6v) && (decide (x0_4 = x1_4))) && (decide (x0_5 = x1_5))) (fun hb28v => RQ.sub (E' := [(2, .pointer (some ⟨b1v, 0, none⟩))]) ⟨rfl, trivial⟩ (q_fa rfl rfl Try.underlying31 rfl rfl Try.sizeOf3 rfl)) rfl rfl rfl rfl rfl ?_
 refine simL_valc (b := (((((((decide (x0_0 = x1_0)) && (decide (x0_1 = x1_1))) && (decide (x0_2 = x1_2))) && (decide (x0_3 = x1_3))) && s3v) && s6v) && (decide (x0_4 = x1_4))) && (decide (x0_5 = x1_5))) (fun hb27v => RQ.sub (E' := [(66, .pointer (some ⟨b1v, 6, none⟩))]) ⟨lk_cv rfl hb27v, trivial⟩ (q_load rfl rfl Try.isAgg3 (.obj 1 rfl rfl))) rfl rfl rfl rfl rfl ?_
 refine simL_valc (b := (((((((decide (x0_0 = x1_0)) && (decide (x0_1 = x1_1))) && (decide (x0_2 = x1_2))) && (decide (x0_3 = x1_3))) && s3v) && s6v) && (decide (x0_4 = x1_4))) && (decide (x0_5 = x1_5))) (fun hb26v => RQ.sub (E' := [(3, .pointer (some ⟨b2v, 0, none⟩))]) ⟨rfl, trivial⟩ (q_fa rfl rfl Try.underlying31 rfl rfl Try.sizeOf3 rfl)) rfl rfl rfl rfl rfl ?_
 refine simL_valc (b := (((((((decide (x0_0 = x1_0)) && (decide (x0_1 = x1_1))) && (decide (x0_2 = x1_2))) && (decide (x0_3 = x1_3))) && s3v) && s6v) && (decide (x0_4 = x1_4))) && (decide (x0_5 = x1_5))) (fun hb25v => RQ.sub (E' := [(68, .pointer (some ⟨b2v, 6, none⟩))]) ⟨lk_cv rfl hb25v, trivial⟩ (q_load rfl rfl Try.isAgg3 (.obj 0 rfl rfl))) rfl rfl rfl rfl rfl ?_
 refine simL_valc (b := (((((((decide (x0_0 = x1_0)) && (decide (x0_1 = x1_1))) && (decide (x0_2 = x1_2))) && (decide (x0_3 = x1_3))) && s3v) && s6v) && (decide (x0_4 = x1_4))) && (decide (x0_5 = x1_5))) (fun hb24v => RQ.sub (E' := [(67, .int .i64 x0_6), (69, .int .i64 x1_6)]) ⟨lk_cv rfl hb24v, lk_cv rfl hb24v, trivial⟩ (q_eql rfl rfl rfl)) rfl rfl rfl rfl rfl ?_
 refine simL_val (q_and rfl rfl rfl) rfl rfl rfl ?_
 refine simL_val (q_move rfl rfl) rfl rfl rfl ?_
 refine simL_valc (b := ((((((((decide (x0_0 = x1_0)) && (decide (x0_1 = x1_1))) && (decide (x0_2 = x1_2))) && (decide (x0_3 = x1_3))) && s3v) && s6v) && (decide (x0_4 = x1_4))) && (decide (x0_5 = x1_5))) && (decide (x0_6 = x1_6))) (fun hb23v => RQ.sub (E' := [(2, .pointer (some ⟨b1v, 0, none⟩))]) ⟨rfl, trivial⟩ (q_fa rfl rfl Try.underlying31 rfl rfl Try.sizeOf3 rfl)) rfl rfl rfl rfl rfl ?_
 refine simL_valc (b := ((((((((decide (x0_0 = x1_0)) && (decide (x0_1 = x1_1))) && (decide (x0_2 = x1_2))) && (decide (x0_3 = x1_3))) && s3v) && s6v) && (decide (x0_4 = x1_4))) && (decide (x0_5 = x1_5))) && (decide (x0_6 = x1_6))) (fun hb22v => RQ.sub (E' := [(73, .pointer (some ⟨b1v, 7, none⟩))]) ⟨lk_cv rfl hb22v, trivial⟩ (q_load rfl rfl Try.isAgg3 (.obj 1 rfl rfl))) rfl rfl rfl rfl rfl ?_
 refine simL_valc (b := ((((((((decide (x0_0 = x1_0)) && (decide (x0_1 = x1_1))) && (decide (x0_2 = x1_2))) && (decide (x0_3 = x1_3))) && s3v) && s6v) && (decide (x0_4 = x1_4))) && (decide (x0_5 = x1_5))) && (decide (x0_6 = x1_6))) (fun hb21v => RQ.sub (E' := [(3, .pointer (some ⟨b2v, 0, none⟩))]) ⟨rfl, trivial⟩ (q_fa rfl rfl Try.underlying31 rfl rfl Try.sizeOf3 rfl)) rfl rfl rfl rfl rfl ?_
 refine simL_valc (b := ((((((((decide (x0_0 = x1_0)) && (decide (x0_1 = x1_1))) && (decide (x0_2 = x1_2))) && (decide (x0_3 = x1_3))) && s3v) && s6v) && (decide (x0_4 = x1_4))) && (decide (x0_5 = x1_5))) && (decide (x0_6 = x1_6))) (fun hb20v => RQ.sub (E' := [(75, .pointer (some ⟨b2v, 7, none⟩))]) ⟨lk_cv rfl hb20v, trivial⟩ (q_load rfl rfl Try.isAgg3 (.obj 0 rfl rfl))) rfl rfl rfl rfl rfl ?_
 refine simL_valc (b := ((((((((decide (x0_0 = x1_0)) && (decide (x0_1 = x1_1))) && (decide (x0_2 = x1_2))) && (decide (x0_3 = x1_3))) && s3v) && s6v) && (decide (x0_4 = x1_4))) && (decide (x0_5 = x1_5))) && (decide (x0_6 = x1_6))) (fun hb19v => RQ.sub (E' := [(74, .int .i64 x0_7), (76, .int .i64 x1_7)]) ⟨lk_cv rfl hb19v, lk_cv rfl hb19v, trivial⟩ (q_eql rfl rfl rfl)) rfl rfl rfl rfl rfl ?_
 refine simL_val (q_and rfl rfl rfl) rfl rfl rfl ?_
 refine simL_val (q_move rfl rfl) rfl rfl rfl ?_
 refine simL_valc (b := (((((((((decide (x0_0 = x1_0)) && (decide (x0_1 = x1_1))) && (decide (x0_2 = x1_2))) && (decide (x0_3 = x1_3))) && s3v) && s6v) && (decide (x0_4 = x1_4))) && (decide (x0_5 = x1_5))) && (decide (x0_6 = x1_6))) && (decide (x0_7 = x1_7))) (fun hb18v => RQ.sub (E' := [(2, .pointer (some ⟨b1v, 0, none⟩))]) ⟨rfl, trivial⟩ (q_fa rfl rfl Try.underlying31 rfl rfl Try.sizeOf3 rfl)) rfl rfl rfl rfl rfl ?_
 refine simL_valc (b := (((((((((decide (x0_0 = x1_0)) && (decide (x0_1 = x1_1))) && (decide (x0_2 = x1_2))) && (decide (x0_3 = x1_3))) && s3v) && s6v) && (decide (x0_4 = x1_4))) && (decide (x0_5 = x1_5))) && (decide (x0_6 = x1_6))) && (decide (x0_7 = x1_7))) (fun hb17v => RQ.sub (E' := [(80, .pointer (some ⟨b1v, 8, none⟩))]) ⟨lk_cv rfl hb17v, trivial⟩ (q_load rfl rfl Try.isAgg3 (.obj 1 rfl rfl))) rfl rfl rfl rfl rfl ?_
 refine simL_valc (b := (((((((((decide (x0_0 = x1_0)) && (decide (x0_1 = x1_1))) && (decide (x0_2 = x1_2))) && (decide (x0_3 = x1_3))) && s3v) && s6v) && (decide (x0_4 = x1_4))) && (decide (x0_5 = x1_5))) && (decide (x0_6 = x1_6))) && (decide (x0_7 = x1_7))) (fun hb16v => RQ.sub (E' := [(3, .pointer (some ⟨b2v, 0, none⟩))]) ⟨rfl, trivial⟩ (q_fa rfl rfl Try.underlying31 rfl rfl Try.sizeOf3 rfl)) rfl rfl rfl rfl rfl ?_
 refine simL_valc (b := (((((((((decide (x0_0 = x1_0)) && (decide (x0_1 = x1_1))) && (decide (x0_2 = x1_2))) && (decide (x0_3 = x1_3))) && s3v) && s6v) && (decide (x0_4 = x1_4))) && (decide (x0_5 = x1_5))) && (decide (x0_6 = x1_6))) && (decide (x0_7 = x1_7))) (fun hb15v => RQ.sub (E' := [(82, .pointer (some ⟨b2v, 8, none⟩))]) ⟨lk_cv rfl hb15v, trivial⟩ (q_load rfl rfl Try.isAgg3 (.obj 0 rfl rfl))) rfl rfl rfl rfl rfl ?_
 refine simL_valc (b := (((((((((decide (x0_0 = x1_0)) && (decide (x0_1 = x1_1))) && (decide (x0_2 = x1_2))) && (decide (x0_3 = x1_3))) && s3v) && s6v) && (decide (x0_4 = x1_4))) && (decide (x0_5 = x1_5))) && (decide (x0_6 = x1_6))) && (decide (x0_7 = x1_7))) (fun hb14v => RQ.sub (E' := [(81, .int .i64 x0_8), (83, .int .i64 x1_8)]) ⟨lk_cv rfl hb14v, lk_cv rfl hb14v, trivial⟩ (q_eql rfl rfl rfl)) rfl rfl rfl rfl rfl ?_
 refine simL_val (q_and rfl rfl rfl) rfl rfl rfl ?_
 refine simL_val (q_move rfl rfl) rfl rfl rfl ?_
 refine simL_valc (b := ((((((((((decide (x0_0 = x1_0)) && (decide (x0_1 = x1_1))) && (decide (x0_2 = x1_2))) && (decide (x0_3 = x1_3))) && s3v) && s6v) && (decide (x0_4 = x1_4))) && (decide (x0_5 = x1_5))) && (decide (x0_6 = x1_6))) && (decide (x0_7 = x1_7))) && (decide (x0_8 = x1_8))) (fun hb13v => RQ.sub (E' := [(2, .pointer (some ⟨b1v, 0, none⟩))]) ⟨rfl, trivial⟩ (q_fa rfl rfl Try.underlying31 rfl rfl Try.sizeOf4 rfl)) rfl rfl rfl rfl rfl ?_
 refine simL_valc (b := ((((((((((decide (x0_0 = x1_0)) && (decide (x0_1 = x1_1))) && (decide (x0_2 = x1_2))) && (decide (x0_3 = x1_3))) && s3v) && s6v) && (decide (x0_4 = x1_4))) && (decide (x0_5 = x1_5))) && (decide (x0_6 = x1_6))) && (decide (x0_7 = x1_7))) && (decide (x0_8 = x1_8))) (fun hb12v => RQ.sub (E' := [(87, .pointer (some ⟨b1v, 9, none⟩))]) ⟨lk_cv rfl hb12v, trivial⟩ (q_load rfl rfl Try.isAgg4 (.obj 1 rfl rfl))) rfl rfl rfl rfl rfl ?_
 refine simL_valc (b := ((((((((((decide (x0_0 = x1_0)) && (decide (x0_1 = x1_1))) && (decide (x0_2 = x1_2))) && (decide (x0_3 = x1_3))) && s3v) && s6v) && (decide (x0_4 = x1_4))) && (decide (x0_5 = x1_5))) && (decide (x0_6 = x1_6))) && (decide (x0_7 = x1_7))) && (decide (x0_8 = x1_8))) (fun hb11v => RQ.sub (E' := [(3, .pointer (some ⟨b2v, 0, none⟩))]) ⟨rfl, trivial⟩ (q_fa rfl rfl Try.underlying31 rfl rfl Try.sizeOf4 rfl)) rfl rfl rfl rfl rfl ?_
 refine simL_valc (b := ((((((((((decide (x0_0 = x1_0)) && (decide (x0_1 = x1_1))) && (decide (x0_2 = x1_2))) && (decide (x0_3 = x1_3))) && s3v) && s6v) && (decide (x0_4 = x1_4))) && (decide (x0_5 = x1_5))) && (decide (x0_6 = x1_6))) && (decide (x0_7 = x1_7))) && (decide (x0_8 = x1_8))) (fun hb10v => RQ.sub (E' := [(89, .pointer (some ⟨b2v, 9, none⟩))]) ⟨lk_cv rfl hb10v, trivial⟩ (q_load rfl rfl Try.isAgg4 (.obj 0 rfl rfl))) rfl rfl rfl rfl rfl ?_
 refine simL_valc (b := ((((((((((decide (x0_0 = x1_0)) && (decide (x0_1 = x1_1))) && (decide (x0_2 = x1_2))) && (decide (x0_3 = x1_3))) && s3v) && s6v) && (decide (x0_4 = x1_4))) && (decide (x0_5 = x1_5))) && (decide (x0_6 = x1_6))) && (decide (x0_7 = x1_7))) && (decide (x0_8 = x1_8))) (fun hb9v => RQ.sub (E' := [(88, .bool x0_9), (90, .bool x1_9)]) ⟨lk_cv rfl hb9v, lk_cv rfl hb9v, trivial⟩ (q_eqb rfl rfl rfl Try.underlying4)) rfl rfl rfl rfl rfl ?_
 refine simL_val (q_and rfl rfl rfl) rfl rfl rfl ?_
 refine simL_val (q_asg rfl rfl) rfl rfl rfl (simL_nil (nrm_then (sim_rtn ?_)))
 exact rtn_fn () rfl rfl rfl (.sel 2 rfl (.nil _))

def synodref_Number.f (x0 : Int) : Option (Bool) := some ((decide ((0 : Int) ≤ x0)) && (decide (x0 ≤ (4611686018427387904 : Int))))
theorem synodref_Number.calls (W : World) (F : HA) (x0 : Int)  :
    Fn Try.prog W 71 [.int .i64 x0] [] F (synodref_Number.f x0) (fun (r : Bool) (y : Unit) => .bool r) (fun r y => []) := by
 unfold synodref_Number.f
 refine fn_intro 9 Try.func71 rfl Try.ntmps71 rfl ?_
 refine sim_seq (sim_region ?_)
 refine simL_val (q_asg rfl rfl) rfl rfl rfl (simL_nil (nrm_then (sim_seq (sim_region ?_))))
 refine simL_val (q_move rfl rfl) rfl rfl rfl ?_
 refine simL_val (q_geq rfl rfl rfl) rfl rfl rfl ?_
 refine simL_val (q_move rfl rfl) rfl rfl rfl ?_
 refine simL_valc (b := decide ((0 : Int) ≤ x0)) (fun hb2v => RQ.sub (E' := [(0, .int .i64 x0)]) ⟨rfl, trivial⟩ (q_move rfl rfl)) rfl rfl rfl rfl rfl ?_
 refine simL_valc (b := decide ((0 : Int) ≤ x0)) (fun hb1v => RQ.sub (E' := [(6, .int .i64 x0)]) ⟨lk_cv rfl hb1v, trivial⟩ (q_leq rfl rfl rfl)) rfl rfl rfl rfl rfl ?_
 refine simL_val (q_and rfl rfl rfl) rfl rfl rfl ?_
 refine simL_val (q_asg rfl rfl) rfl rfl rfl (simL_nil (nrm_then (sim_rtn ?_)))
 exact rtn_fn () rfl rfl rfl (.sel 0 rfl (.nil _))
def synodref_Number.v (x0 : Int) : Bool := (synodref_Number.f x0).getD false
theorem synodref_Number.tot (x0 : Int) : synodref_Number.f x0 = some (synodref_Number.v x0) := by
  have h : ∃ r, synodref_Number.f x0 = some r := by
    unfold synodref_Number.f
    repeat' (first | exact ⟨_, rfl⟩ | split | simp only [Option.bind_some])
  obtain ⟨r, h⟩ := h
  unfold synodref_Number.v
  rw [h]; rfl

def synodref3_used.f (x0_0 : Int) (x0_1 : Int) (x0_2 : Int) (x0_3 : Int) (x0_4 : Int) (x0_5 : Int) (x0_6 : Int) (x0_7 : Int) (x0_8 : Int) (x0_9 : Bool) (x0_10 : List (Int × Int × Int × List UInt8)) (x0_11 : Int) (x0_12 : Int) (x0_13 : List UInt8) : Option (Int × Int × Int × Int × Int × Int × Int × Int × Int × Bool × (List (Int × Int × Int × List UInt8)) × Int × Int × List UInt8) := (if x0_0 = (1 : Int) then (some (x0_4, x0_5, 0, 0, 0, false, ([] : List (Int × Int × Int × List UInt8)), 0, 0, ([] : List UInt8))) else (if x0_0 = (2 : Int) then (some (0, 0, 0, 0, 0, x0_9, ([] : List (Int × Int × Int × List UInt8)), 0, 0, ([] : List UInt8))) else (if x0_0 = (3 : Int) then (some (x0_4, x0_5, x0_6, 0, 0, false, x0_10, 0, 0, ([] : List UInt8))) else (if x0_0 = (4 : Int) then (some (x0_4, 0, 0, x0_7, 0, x0_9, ([] : List (Int × Int × Int × List UInt8)), 0, 0, ([] : List UInt8))) else (if x0_0 = (5 : Int) then (some (0, 0, x0_6, 0, x0_8, false, ([] : List (Int × Int × Int × List UInt8)), 0, 0, ([] : List UInt8))) else (if x0_0 = (6 : Int) then (some (0, 0, 0, 0, x0_8, false, ([] : List (Int × Int × Int × List UInt8)), 0, 0, ([] : List UInt8))) else (if x0_0 = (7 : Int) then (some (0, 0, 0, 0, 0, false, ([] : List (Int × Int × Int × List UInt8)), x0_11, x0_12, x0_13)) else (some (0, 0, 0, 0, 0, false, ([] : List (Int × Int × Int × List UInt8)), 0, 0, ([] : List UInt8)))))))))).bind fun s4v => (some (x0_0, x0_1, x0_2, x0_3, s4v.1, s4v.2.1, s4v.2.2.1, s4v.2.2.2.1, s4v.2.2.2.2.1, s4v.2.2.2.2.2.1, s4v.2.2.2.2.2.2.1, s4v.2.2.2.2.2.2.2.1, s4v.2.2.2.2.2.2.2.2.1, s4v.2.2.2.2.2.2.2.2.2))
theorem synodref3_used.calls (W : World) (F : HA) (G : HA) (hG : Up G F) (x0_0 : Int) (x0_1 : Int) (x0_2 : Int) (x0_3 : Int) (x0_4 : Int) (x0_5 : Int) (x0_6 : Int) (x0_7 : Int) (x0_8 : Int) (x0_9 : Bool) (a0_10 : Option Addr) (c0_10 : Nat) (x0_10 : List (Int × Int × Int × List UInt8)) (x0_11 : Int) (x0_12 : Int) (a0_13 : Option Addr) (c0_13 : Nat) (x0_13 : List UInt8) (h0_10 : RdV G 4 (V61 G) a0_10 x0_10) (hc0_10 : x0_10.length ≤ c0_10) (hm0_10 : c0_10 ≤ maxLen) (h0_13 : Rd G a0_13 (encB x0_13)) (hc0_13 : x0_13.length ≤ c0_13) (hm0_13 : c0_13 ≤ maxLen) :
    Fn Try.prog W 72 [.agg #[.int .i64 x0_0, .int .i64 x0_1, .int .i64 x0_2, .int .i64 x0_3, .int .i64 x0_4, .int .i64 x0_5, .int .i64 x0_6, .int .i64 x0_7, .int .i64 x0_8, .bool x0_9, .slice a0_10 x0_10.length c0_10, .int .i64 x0_11, .int .i64 x0_12, .slice a0_13 x0_13.length c0_13]] [] F (synodref3_used.f x0_0 x0_1 x0_2 x0_3 x0_4 x0_5 x0_6 x0_7 x0_8 x0_9 x0_10 x0_11 x0_12 x0_13) (fun (r : Int × Int × Int × Int × Int × Int × Int × Int × Int × Bool × (List (Int × Int × Int × List UInt8)) × Int × Int × List UInt8) (y : Option Addr × Nat × Option Addr × Nat) => .agg #[.int .i64 r.1, .int .i64 r.2.1, .int .i64 r.2.2.1, .int .i64 r.2.2.2.1, .int .i64 r.2.2.2.2.1, .int .i64 r.2.2.2.2.2.1, .int .i64 r.2.2.2.2.2.2.1, .int .i64 r.2.2.2.2.2.2.2.1, .int .i64 r.2.2.2.2.2.2.2.2.1, .bool r.2.2.2.2.2.2.2.2.2.1, .slice y.1 r.2.2.2.2.2.2.2.2.2.2.1.length y.2.1, .int .i64 r.2.2.2.2.2.2.2.2.2.2.2.1, .int .i64 r.2.2.2.2.2.2.2.2.2.2.2.2.1, .slice y.2.2.1 r.2.2.2.2.2.2.2.2.2.2.2.2.2.length y.2.2.2]) (fun r y => [pr (RdV (G) 4 (V61 (G)) y.1 r.2.2.2.2.2.2.2.2.2.2.1 ∧ r.2.2.2.2.2.2.2.2.2.2.1.length ≤ y.2.1 ∧ y.2.1 ≤ maxLen), pr (Rd (G) y.2.2.1 (encB r.2.2.2.2.2.2.2.2.2.2.2.2.2) ∧ r.2.2.2.2.2.2.2.2.2.2.2.2.2.length ≤ y.2.2.2 ∧ y.2.2.2 ≤ maxLen)]) := by
 unfold synodref3_used.f
 refine fn_intro 72 Try.func72 rfl Try.ntmps72 rfl ?_
 refine sim_seq (sim_region ?_)
 refine simL_eff (re_box rfl rfl rfl) rfl rfl rfl ?_
 intro b1v
 refine simL_eff (re_alloc rfl Try.zeroValue31 rfl) rfl rfl rfl ?_
 intro b2v
 refine simL_nil (nrm_then (sim_seq (sim_region ?_)))
 refine simL_val (q_fa rfl rfl Try.underlying31 rfl rfl Try.sizeOf3 rfl) rfl rfl rfl ?_
 refine simL_val (q_load rfl rfl Try.isAgg3 (.obj 1 rfl rfl)) rfl rfl rfl ?_
 refine simL_val (q_fa rfl rfl Try.underlying31 rfl rfl Try.sizeOf3 rfl) rfl rfl rfl ?_
 refine simL_val (q_load rfl rfl Try.isAgg3 (.obj 1 rfl rfl)) rfl rfl rfl ?_
 refine simL_val (q_fa rfl rfl Try.underlying31 rfl rfl Try.sizeOf3 rfl) rfl rfl rfl ?_
 refine simL_val (q_load rfl rfl Try.isAgg3 (.obj 1 rfl rfl)) rfl rfl rfl ?_
 refine simL_val (q_fa rfl rfl Try.underlying31 rfl rfl Try.sizeOf3 rfl) rfl rfl rfl ?_
 refine simL_val (q_load rfl rfl Try.isAgg3 (.obj 1 rfl rfl)) rfl rfl rfl ?_
 refine simL_val (q_build (v := .agg #[.int .i64 x0_0, .int .i64 x0_1, .int .i64 x0_2, .int .i64 x0_3, .int .i64 0, .int .i64 0, .int .i64 0, .int .i64 0, .int .i64 0, .bool false, .slice none 0 0, .int .i64 0, .int .i64 0, .slice none 0 0]) rfl rfl (fun _ => by kernel_rfl)) rfl rfl rfl ?_
 refine simL_eff (re_alloc rfl Try.zeroValue31 rfl) rfl rfl rfl ?_
 intro b3v
 refine simL_do (re_store 0 rfl rfl rfl Try.sizeOf31 rfl rfl (one_of (by rfl)) rfl rfl) rfl rfl ?_
 intro _
 refine simL_ent (H' := [obj b3v 31 [.int .i64 x0_0, .int .i64 x0_1, .int .i64 x0_2, .int .i64 x0_3, .int .i64 0, .int .i64 0, .int .i64 0, .int .i64 0, .int .i64 0, .bool false, .slice none 0 0, .int .i64 0, .int .i64 0, .slice none 0 0], obj b2v 31 [.int .i64 0, .int .i64 0, .int .i64 0, .int .i64 0, .int .i64 0, .int .i64 0, .int .i64 0, .int .i64 0, .int .i64 0, .bool false, .slice none 0 0, .int .i64 0, .int .i64 0, .slice none 0 0], obj b1v 31 [.int .i64 x0_0, .int .i64 x0_1, .int .i64 x0_2, .int .i64 x0_3, .int .i64 x0_4, .int .i64 x0_5, .int .i64 x0_6, .int .i64 x0_7, .int .i64 x0_8, .bool x0_9, .slice a0_10 x0_10.length c0_10, .int .i64 x0_11, .int .i64 x0_12, .slice a0_13 x0_13.length c0_13], F]) (Ent.refl _) ?_
 refine simL_nil (nrm_then ?_)
 refine sim_cut (S := Int × Int × Int × Int × Int × Bool × (List (Int × Int × Int × List UInt8)) × Int × Int × List UInt8) (Option Addr × Nat × Option Addr × Nat) (fun s y => [(2, .pointer (some ⟨b2v, 0, none⟩)), (3, .pointer (some ⟨b3v, 0, none⟩))]) (fun s y => [pr (RdV G 4 (V61 G) y.1 s.2.2.2.2.2.2.1 ∧ s.2.2.2.2.2.2.1.length ≤ y.2.1 ∧ y.2.1 ≤ maxLen), pr (Rd G y.2.2.1 (encB s.2.2.2.2.2.2.2.2.2) ∧ s.2.2.2.2.2.2.2.2.2.length ≤ y.2.2.2 ∧ y.2.2.2 ≤ maxLen), obj b3v 31 [.int .i64 x0_0, .int .i64 x0_1, .int .i64 x0_2, .int .i64 x0_3, .int .i64 s.1, .int .i64 s.2.1, .int .i64 s.2.2.1, .int .i64 s.2.2.2.1, .int .i64 s.2.2.2.2.1, .bool s.2.2.2.2.2.1, .slice y.1 s.2.2.2.2.2.2.1.length y.2.1, .int .i64 s.2.2.2.2.2.2.2.1, .int .i64 s.2.2.2.2.2.2.2.2.1, .slice y.2.2.1 s.2.2.2.2.2.2.2.2.2.length y.2.2.2], obj b2v 31 [.int .i64 0, .int .i64 0, .int .i64 0, .int .i64 0, .int .i64 0, .int .i64 0, .int .i64 0, .int .i64 0, .int .i64 0, .bool false, .slice none 0 0, .int .i64 0, .int .i64 0, .slice none 0 0], F]) ?_ ?_
 refine sim_seq (sim_region ?_)
 refine simL_val (q_fa rfl rfl Try.underlying31 rfl rfl Try.sizeOf3 rfl) rfl rfl rfl ?_
 refine simL_val (q_load rfl rfl Try.isAgg3 (.obj 2 rfl rfl)) rfl rfl rfl (simL_nil (nrm_then ?_))
 refine sim_block ?_
 refine sim_seq (sim_region ?_)
 refine simL_val (q_eql rfl rfl rfl) rfl rfl rfl ?_
 refine simL_val (q_asg rfl rfl) rfl rfl rfl (simL_nil (nrm_then ?_))
 refine sim_cond rfl (fun h6v => ?_) (fun h7v => ?_)
 refine sim_seq (sim_region ?_)
 refine simL_val (q_fa rfl rfl Try.underlying31 rfl rfl Try.sizeOf3 rfl) rfl rfl rfl ?_
 refine simL_val (q_load rfl rfl Try.isAgg3 (.obj 2 rfl rfl)) rfl rfl rfl ?_
 refine simL_val (q_fa rfl rfl Try.underlying31 rfl rfl Try.sizeOf3 rfl) rfl rfl rfl ?_
 refine simL_do (re_store 0 rfl rfl rfl Try.sizeOf3 rfl rfl (one_of (by rfl)) rfl rfl) rfl rfl ?_
 intro _
 refine simL_ent (H' := [obj b3v 31 [.int .i64 x0_0, .int .i64 x0_1, .int .i64 x0_2, .int .i64 x0_3, .int .i64 x0_4, .int .i64 0, .int .i64 0, .int .i64 0, .int .i64 0, .bool false, .slice none 0 0, .int .i64 0, .int .i64 0, .slice none 0 0], obj b2v 31 [.int .i64 0, .int .i64 0, .int .i64 0, .int .i64 0, .int .i64 0, .int .i64 0, .int .i64 0, .int .i64 0, .int .i64 0, .bool false, .slice none 0 0, .int .i64 0, .int .i64 0, .slice none 0 0], obj b1v 31 [.int .i64 x0_0, .int .i64 x0_1, .int .i64 x0_2, .int .i64 x0_3, .int .i64 x0_4, .int .i64 x0_5, .int .i64 x0_6, .int .i64 x0_7, .int .i64 x0_8, .bool x0_9, .slice a0_10 x0_10.length c0_10, .int .i64 x0_11, .int .i64 x0_12, .slice a0_13 x0_13.length c0_13], F]) (Ent.refl _) ?_
 refine simL_nil (nrm_then (sim_region ?_))
 refine simL_val (q_fa rfl rfl Try.underlying31 rfl rfl Try.sizeOf3 rfl) rfl rfl rfl ?_
 refine simL_val (q_load rfl rfl Try.isAgg3 (.obj 2 rfl rfl)) rfl rfl rfl ?_
 refine simL_val (q_fa rfl rfl Try.underlying31 rfl rfl Try.sizeOf3 rfl) rfl rfl rfl ?_
 refine simL_do (re_store 0 rfl rfl rfl Try.sizeOf3 rfl rfl (one_of (by rfl)) rfl rfl) rfl rfl ?_
 intro _
 refine simL_ent (H' := [obj b3v 31 [.int .i64 x0_0, .int .i64 x0_1, .int .i64 x0_2, .int .i64 x0_3, .int .i64 x0_4, .int .i64 x0_5, .int .i64 0, .int .i64 0, .int .i64 0, .bool false, .slice none 0 0, .int .i64 0, .int .i64 0, .slice none 0 0], obj b2v 31 [.int .i64 0, .int .i64 0, .int .i64 0, .int .i64 0, .int .i64 0, .int .i64 0, .int .i64 0, .int .i64 0, .int .i64 0, .bool false, .slice none 0 0, .int .i64 0, .int .i64 0, .slice none 0 0], obj b1v 31 [.int .i64 x0_0, .int .i64 x0_1, .int .i64 x0_2, .int .i64 x0_3, .int .i64 x0_4, .int .i64 x0_5, .int .i64 x0_6, .int .i64 x0_7, .int .i64 x0_8, .bool x0_9, .slice a0_10 x0_10.length c0_10, .int .i64 x0_11, .int .i64 x0_12, .slice a0_13 x0_13.length c0_13], F]) (Ent.refl _) ?_
 refine simL_nil (nrm_block ?_)
 exact nrm_cut (s := (x0_4, x0_5, 0, 0, 0, false, ([] : List (Int × Int × Int × List UInt8)), 0, 0, ([] : List UInt8))) (none, 0, none, 0) ⟨rfl, rfl, trivial⟩ (.pr_in ⟨RdV.nil, Nat.le_refl _, Nat.zero_le _⟩ (.pr_in ⟨Rd.nil _ _, Nat.le_refl _, Nat.zero_le _⟩ (.sel 0 rfl (.sel 0 rfl (.sel 1 rfl (.nil _))))))
 refine sim_seq (sim_region ?_)
 refine simL_val (q_eql rfl rfl rfl) rfl rfl rfl ?_
 refine simL_val (q_asg rfl rfl) rfl rfl rfl (simL_nil (nrm_then ?_))
 refine sim_cond rfl (fun h8v => ?_) (fun h9v => ?_)
 refine sim_region ?_
 refine simL_val (q_fa rfl rfl Try.underlying31 rfl rfl Try.sizeOf4 rfl) rfl rfl rfl ?_
 refine simL_val (q_load rfl rfl Try.isAgg4 (.obj 2 rfl rfl)) rfl rfl rfl ?_
 refine simL_val (q_fa rfl rfl Try.underlying31 rfl rfl Try.sizeOf4 rfl) rfl rfl rfl ?_
 refine simL_do (re_store 0 rfl rfl rfl Try.sizeOf4 rfl rfl (one_of (by rfl)) rfl rfl) rfl rfl ?_
 intro _
 refine simL_ent (H' := [obj b3v 31 [.int .i64 x0_0, .int .i64 x0_1, .int .i64 x0_2, .int .i64 x0_3, .int .i64 0, .int .i64 0, .int .i64 0, .int .i64 0, .int .i64 0, .bool x0_9, .slice none 0 0, .int .i64 0, .int .i64 0, .slice none 0 0], obj b2v 31 [.int .i64 0, .int .i64 0, .int .i64 0, .int .i64 0, .int .i64 0, .int .i64 0, .int .i64 0, .int .i64 0, .int .i64 0, .bool false, .slice none 0 0, .int .i64 0, .int .i64 0, .slice none 0 0], obj b1v 31 [.int .i64 x0_0, .int .i64 x0_1, .int .i64 x0_2, .int .i64 x0_3, .int .i64 x0_4, .int .i64 x0_5, .int .i64 x0_6, .int .i64 x0_7, .int .i64 x0_8, .bool x0_9, .slice a0_10 x0_10.length c0_10, .int .i64 x0_11, .int .i64 x0_12, .slice a0_13 x0_13.length c0_13], F]) (Ent.refl _) ?_
 refine simL_nil (nrm_block ?_)
 exact nrm_cut (s := (0, 0, 0, 0, 0, x0_9, ([] : List (Int × Int × Int × List UInt8)), 0, 0, ([] : List UInt8))) (none, 0, none, 0) ⟨rfl, rfl, trivial⟩ (.pr_in ⟨RdV.nil, Nat.le_refl _, Nat.zero_le _⟩ (.pr_in ⟨Rd.nil _ _, Nat.le_refl _, Nat.zero_le _⟩ (.sel 0 rfl (.sel 0 rfl (.sel 1 rfl (.nil _))))))
 refine sim_seq (sim_region ?_)
 refine simL_val (q_eql rfl rfl rfl) rfl rfl rfl ?_
 refine simL_val (q_asg rfl rfl) rfl rfl rfl (simL_nil (nrm_then ?_))
 refine sim_cond rfl (fun h10v => ?_) (fun h11v => ?_)
 refine sim_seq (sim_region ?_)
 refine simL_val (q_fa rfl rfl Try.underlying31 rfl rfl Try.sizeOf3 rfl) rfl rfl rfl ?_
 refine simL_val (q_load rfl rfl Try.isAgg3 (.obj 2 rfl rfl)) rfl rfl rfl ?_
 refine simL_val (q_fa rfl rfl Try.underlying31 rfl rfl Try.sizeOf3 rfl) rfl rfl rfl ?_
 refine simL_do (re_store 0 rfl rfl rfl Try.sizeOf3 rfl rfl (one_of (by rfl)) rfl rfl) rfl rfl ?_
 intro _
 refine simL_ent (H' := [obj b3v 31 [.int .i64 x0_0, .int .i64 x0_1, .int .i64 x0_2, .int .i64 x0_3, .int .i64 x0_4, .int .i64 0, .int .i64 0, .int .i64 0, .int .i64 0, .bool false, .slice none 0 0, .int .i64 0, .int .i64 0, .slice none 0 0], obj b2v 31 [.int .i64 0, .int .i64 0, .int .i64 0, .int .i64 0, .int .i64 0, .int .i64 0, .int .i64 0, .int .i64 0, .int .i64 0, .bool false, .slice none 0 0, .int .i64 0, .int .i64 0, .slice none 0 0], obj b1v 31 [.int .i64 x0_0, .int .i64 x0_1, .int .i64 x0_2, .int .i64 x0_3, .int .i64 x0_4, .int .i64 x0_5, .int .i64 x0_6, .int .i64 x0_7, .int .i64 x0_8, .bool x0_9, .slice a0_10 x0_10.length c0_10, .int .i64 x0_11, .int .i64 x0_12, .slice a0_13 x0_13.length c0_13], F]) (Ent.refl _) ?_
 refine simL_nil (nrm_then (sim_seq (sim_region ?_)))
 refine simL_val (q_fa rfl rfl Try.underlying31 rfl rfl Try.sizeOf3 rfl) rfl rfl rfl ?_
 refine simL_val (q_load rfl rfl Try.isAgg3 (.obj 2 rfl rfl)) rfl rfl rfl ?_
 refine simL_val (q_fa rfl rfl Try.underlying31 rfl rfl Try.sizeOf3 rfl) rfl rfl rfl ?_
 refine simL_do (re_store 0 rfl rfl rfl Try.sizeOf3 rfl rfl (one_of (by rfl)) rfl rfl) rfl rfl ?_
 intro _
 refine simL_ent (H' := [obj b3v 31 [.int .i64 x0_0, .int .i64 x0_1, .int .i64 x0_2, .int .i64 x0_3, .int .i64 x0_4, .int .i64 x0_5, .int .i64 0, .int .i64 0, .int .i64 0, .bool false, .slice none 0 0, .int .i64 0, .int .i64 0, .slice none 0 0], obj b2v 31 [.int .i64 0, .int .i64 0, .int .i64 0, .int .i64 0, .int .i64 0, .int .i64 0, .int .i64 0, .int .i64 0, .int .i64 0, .bool false, .slice none 0 0, .int .i64 0, .int .i64 0, .slice none 0 0], obj b1v 31 [.int .i64 x0_0, .int .i64 x0_1, .int .i64 x0_2, .int .i64 x0_3, .int .i64 x0_4, .int .i64 x0_5, .int .i64 x0_6, .int .i64 x0_7, .int .i64 x0_8, .bool x0_9, .slice a0_10 x0_10.length c0_10, .int .i64 x0_11, .int .i64 x0_12, .slice a0_13 x0_13.length c0_13], F]) (Ent.refl _) ?_
 refine simL_nil (nrm_then (sim_seq (sim_region ?_)))
 refine simL_val (q_fa rfl rfl Try.underlying31 rfl rfl Try.sizeOf3 rfl) rfl rfl rfl ?_
 refine simL_val (q_load rfl rfl Try.isAgg3 (.obj 2 rfl rfl)) rfl rfl rfl ?_
 refine simL_val (q_fa rfl rfl Try.underlying31 rfl rfl Try.sizeOf3 rfl) rfl rfl rfl ?_
 refine simL_do (re_store 0 rfl rfl rfl Try.sizeOf3 rfl rfl (one_of (by rfl)) rfl rfl) rfl rfl ?_
 intro _
 refine simL_ent (H' := [obj b3v 31 [.int .i64 x0_0, .int .i64 x0_1, .int .i64 x0_2, .int .i64 x0_3, .int .i64 x0_4, .int .i64 x0_5, .int .i64 x0_6, .int .i64 0, .int .i64 0, .bool false, .slice none 0 0, .int .i64 0, .int .i64 0, .slice none 0 0], obj b2v 31 [.int .i64 0, .int .i64 0, .int .i64 0, .int .i64 0, .int .i64 0, .int .i64 0, .int .i64 0, .int .i64 0, .int .i64 0, .bool false, .slice none 0 0, .int .i64 0, .int .i64 0, .slice none 0 0], obj b1v 31 [.int .i64 x0_0, .int .i64 x0_1, .int .i64 x0_2, .int .i64 x0_3, .int .i64 x0_4, .int .i64 x0_5, .int .i64 x0_6, .int .i64 x0_7, .int .i64 x0_8, .bool x0_9, .slice a0_10 x0_10.length c0_10, .int .i64 x0_11, .int .i64 x0_12, .slice a0_13 x0_13.length c0_13], F]) (Ent.refl _) ?_
 refine simL_nil (nrm_then (sim_region ?_))
 refine simL_val (q_fa rfl rfl Try.underlying31 rfl rfl Try.sizeOf26 rfl) rfl rfl rfl ?_
 refine simL_val (q_load rfl rfl Try.isAgg26 (.obj 2 rfl rfl)) rfl rfl rfl ?_
 refine simL_val (q_fa rfl rfl Try.underlying31 rfl rfl Try.sizeOf26 rfl) rfl rfl rfl ?_
 refine simL_do (re_store 0 rfl rfl rfl Try.sizeOf26 rfl rfl (one_of (by rfl)) rfl rfl) rfl rfl ?_
 intro _
 refine simL_ent (H' := [obj b3v 31 [.int .i64 x0_0, .int .i64 x0_1, .int .i64 x0_2, .int .i64 x0_3, .int .i64 x0_4, .int .i64 x0_5, .int .i64 x0_6, .int .i64 0, .int .i64 0, .bool false, .slice a0_10 x0_10.length c0_10, .int .i64 0, .int .i64 0, .slice none 0 0], obj b2v 31 [.int .i64 0, .int .i64 0, .int .i64 0, .int .i64 0, .int .i64 0, .int .i64 0, .int .i64 0, .int .i64 0, .int .i64 0, .bool false, .slice none 0 0, .int .i64 0, .int .i64 0, .slice none 0 0], obj b1v 31 [.int .i64 x0_0, .int .i64 x0_1, .int .i64 x0_2, .int .i64 x0_3, .int .i64 x0_4, .int .i64 x0_5, .int .i64 x0_6, .int .i64 x0_7, .int .i64 x0_8, .bool x0_9, .slice a0_10 x0_10.length c0_10, .int .i64 x0_11, .int .i64 x0_12, .slice a0_13 x0_13.length c0_13], F]) (Ent.refl _) ?_
 refine simL_nil (nrm_block ?_)
 exact nrm_cut (s := (x0_4, x0_5, x0_6, 0, 0, false, x0_10, 0, 0, ([] : List UInt8))) (a0_10, c0_10, none, 0) ⟨rfl, rfl, trivial⟩ (.pr_in ⟨h0_10, hc0_10, hm0_10⟩ (.pr_in ⟨Rd.nil _ _, Nat.le_refl _, Nat.zero_le _⟩ (.sel 0 rfl (.sel 0 rfl (.sel 1 rfl (.nil _))))))
 refine sim_seq (sim_region ?_)
 refine simL_val (q_eql rfl rfl rfl) rfl rfl rfl ?_
 refine simL_val (q_asg rfl rfl) rfl rfl rfl (simL_nil (nrm_then ?_))
 refine sim_cond rfl (fun h12v => ?_) (fun h13v => ?_)
 refine sim_seq (sim_region ?_)
 refine simL_val (q_fa rfl rfl Try.underlying31 rfl rfl Try.sizeOf3 rfl) rfl rfl rfl ?_
 refine simL_val (q_load rfl rfl Try.isAgg3 (.obj 2 rfl rfl)) rfl rfl rfl ?_
 refine simL_val (q_fa rfl rfl Try.underlying31 rfl rfl Try.sizeOf3 rfl) rfl rfl rfl ?_
 refine simL_do (re_store 0 rfl rfl rfl Try.sizeOf3 rfl rfl (one_of (by rfl)) rfl rfl) rfl rfl ?_
 intro _
 refine simL_ent (H' := [obj b3v 31 [.int .i64 x0_0, .int .i64 x0_1, .int .i64 x0_2, .int .i64 x0_3, .int .i64 x0_4, .int .i64 0, .int .i64 0, .int .i64 0, .int .i64 0, .bool false, .slice none 0 0, .int .i64 0, .int .i64 0, .slice none 0 0], obj b2v 31 [.int .i64 0, .int .i64 0, .int .i64 0, .int .i64 0, .int .i64 0, .int .i64 0, .int .i64 0, .int .i64 0, .int .i64 0, .bool false, .slice none 0 0, .int .i64 0, .int .i64 0, .slice none 0 0], obj b1v 31 [.int .i64 x0_0, .int .i64 x0_1, .int .i64 x0_2, .int .i64 x0_3, .int .i64 x0_4, .int .i64 x0_5, .int .i64 x0_6, .int .i64 x0_7, .int .i64 x0_8, .bool x0_9, .slice a0_10 x0_10.length c0_10, .int .i64 x0_11, .int .i64 x0_12, .slice a0_13 x0_13.length c0_13], F]) (Ent.refl _) ?_
 refine simL_nil (nrm_then (sim_seq (sim_region ?_)))
 refine simL_val (q_fa rfl rfl Try.underlying31 rfl rfl Try.sizeOf4 rfl) rfl rfl rfl ?_
 refine simL_val (q_load rfl rfl Try.isAgg4 (.obj 2 rfl rfl)) rfl rfl rfl ?_
 refine simL_val (q_fa rfl rfl Try.underlying31 rfl rfl Try.sizeOf4 rfl) rfl rfl rfl ?_
 refine simL_do (re_store 0 rfl rfl rfl Try.sizeOf4 rfl rfl (one_of (by rfl)) rfl rfl) rfl rfl ?_
 intro _
 refine simL_ent (H' := [obj b3v 31 [.int .i64 x0_0, .int .i64 x0_1, .int .i64 x0_2, .int .i64 x0_3, .int .i64 x0_4, .int .i64 0, .int .i64 0, .int .i64 0, .int .i64 0, .bool x0_9, .slice none 0 0, .int .i64 0, .int .i64 0, .slice none 0 0], obj b2v 31 [.int .i64 0, .int .i64 0, .int .i64 0, .int .i64 0, .int .i64 0, .int .i64 0, .int .i64 0, .int .i64 0, .int .i64 0, .bool false, .slice none 0 0, .int .i64 0, .int .i64 0, .slice none 0 0], obj b1v 31 [.int .i64 x0_0, .int .i64 x0_1, .int .i64 x0_2, .int .i64 x0_3, .int .i64 x0_4, .int .i64 x0_5, .int .i64 x0_6, .int .i64 x0_7, .int .i64 x0_8, .bool x0_9, .slice a0_10 x0_10.length c0_10, .int .i64 x0_11, .int .i64 x0_12, .slice a0_13 x0_13.length c0_13], F]) (Ent.refl _) ?_
 refine simL_nil (nrm_then (sim_region ?_))
 refine simL_val (q_fa rfl rfl Try.underlying31 rfl rfl Try.sizeOf3 rfl) rfl rfl rfl ?_
 refine simL_val (q_load rfl rfl Try.isAgg3 (.obj 2 rfl rfl)) rfl rfl rfl ?_
 refine simL_val (q_fa rfl rfl Try.underlying31 rfl rfl Try.sizeOf3 rfl) rfl rfl rfl ?_
 refine simL_do (re_store 0 rfl rfl rfl Try.sizeOf3 rfl rfl (one_of (by rfl)) rfl rfl) rfl rfl ?_
 intro _
 refine simL_ent (H' := [obj b3v 31 [.int .i64 x0_0, .int .i64 x0_1, .int .i64 x0_2, .int .i64 x0_3, .int .i64 x0_4, .int .i64 0, .int .i64 0, .int .i64 x0_7, .int .i64 0, .bool x0_9, .slice none 0 0, .int .i64 0, .int .i64 0, .slice none 0 0], obj b2v 31 [.int .i64 0, .int .i64 0, .int .i64 0, .int .i64 0, .int .i64 0, .int .i64 0, .int .i64 0, .int .i64 0, .int .i64 0, .bool false, .slice none 0 0, .int .i64 0, .int .i64 0, .slice none 0 0], obj b1v 31 [.int .i64 x0_0, .int .i64 x0_1, .int .i64 x0_2, .int .i64 x0_3, .int .i64 x0_4, .int .i64 x0_5, .int .i64 x0_6, .int .i64 x0_7, .int .i64 x0_8, .bool x0_9, .slice a0_10 x0_10.length c0_10, .int .i64 x0_11, .int .i64 x0_12, .slice a0_13 x0_13.length c0_13], F]) (Ent.refl _) ?_
 refine simL_nil (nrm_block ?_)
 exact nrm_cut (s := (x0_4, 0, 0, x0_7, 0, x0_9, ([] : List (Int × Int × Int × List UInt8)), 0, 0, ([] : List UInt8))) (none, 0, none, 0) ⟨rfl, rfl, trivial⟩ (.pr_in ⟨RdV.nil, Nat.le_refl _, Nat.zero_le _⟩ (.pr_in ⟨Rd.nil _ _, Nat.le_refl _, Nat.zero_le _⟩ (.sel 0 rfl (.sel 0 rfl (.sel 1 rfl (.nil _))))))
 refine sim_seq (sim_region ?_)
 refine simL_val (q_eql rfl rfl rfl) rfl rfl rfl ?_
 refine simL_val (q_asg rfl rfl) rfl rfl rfl (simL_nil (nrm_then ?_))
 refine sim_cond rfl (fun h14v => ?_) (fun h15v => ?_)
 refine sim_seq (sim_region ?_)
 refine simL_val (q_fa rfl rfl Try.underlying31 rfl rfl Try.sizeOf3 rfl) rfl rfl rfl ?_
 refine simL_val (q_load rfl rfl Try.isAgg3 (.obj 2 rfl rfl)) rfl rfl rfl ?_
 refine simL_val (q_fa rfl rfl Try.underlying31 rfl rfl Try.sizeOf3 rfl) rfl rfl rfl ?_
 refine simL_do (re_store 0 rfl rfl rfl Try.sizeOf3 rfl rfl (one_of (by rfl)) rfl rfl) rfl rfl ?_
 intro _
 refine simL_ent (H' := [obj b3v 31 [.int .i64 x0_0, .int .i64 x0_1, .int .i64 x0_2, .int .i64 x0_3, .int .i64 0, .int .i64 0, .int .i64 x0_6, .int .i64 0, .int .i64 0, .bool false, .slice none 0 0, .int .i64 0, .int .i64 0, .slice none 0 0], obj b2v 31 [.int .i64 0, .int .i64 0, .int .i64 0, .int .i64 0, .int .i64 0, .int .i64 0, .int .i64 0, .int .i64 0, .int .i64 0, .bool false, .slice none 0 0, .int .i64 0, .int .i64 0, .slice none 0 0], obj b1v 31 [.int .i64 x0_0, .int .i64 x0_1, .int .i64 x0_2, .int .i64 x0_3, .int .i64 x0_4, .int .i64 x0_5, .int .i64 x0_6, .int .i64 x0_7, .int .i64 x0_8, .bool x0_9, .slice a0_10 x0_10.length c0_10, .int .i64 x0_11, .int .i64 x0_12, .slice a0_13 x0_13.length c0_13], F]) (Ent.refl _) ?_
 refine simL_nil (nrm_then (sim_region ?_))
 refine simL_val (q_fa rfl rfl Try.underlying31 rfl rfl Try.sizeOf3 rfl) rfl rfl rfl ?_
 refine simL_val (q_load rfl rfl Try.isAgg3 (.obj 2 rfl rfl)) rfl rfl rfl ?_
 refine simL_val (q_fa rfl rfl Try.underlying31 rfl rfl Try.sizeOf3 rfl) rfl rfl rfl ?_
 refine simL_do (re_store 0 rfl rfl rfl Try.sizeOf3 rfl rfl (one_of (by rfl)) rfl rfl) rfl rfl ?_
 intro _
 refine simL_ent (H' := [obj b3v 31 [.int .i64 x0_0, .int .i64 x0_1, .int .i64 x0_2, .int .i64 x0_3, .int .i64 0, .int .i64 0, .int .i64 x0_6, .int .i64 0, .int .i64 x0_8, .bool false, .slice none 0 0, .int .i64 0, .int .i64 0, .slice none 0 0], obj b2v 31 [.int .i64 0, .int .i64 0, .int .i64 0, .int .i64 0, .int .i64 0, .int .i64 0, .int .i64 0, .int .i64 0, .int .i64 0, .bool false, .slice none 0 0, .int .i64 0, .int .i64 0, .slice none 0 0], obj b1v 31 [.int .i64 x0_0, .int .i64 x0_1, .int .i64 x0_2, .int .i64 x0_3, .int .i64 x0_4, .int .i64 x0_5, .int .i64 x0_6, .int .i64 x0_7, .int .i64 x0_8, .bool x0_9, .slice a0_10 x0_10.length c0_10, .int .i64 x0_11, .int .i64 x0_12, .slice a0_13 x0_13.length c0_13], F]) (Ent.refl _) ?_
 refine simL_nil (nrm_block ?_)
 exact nrm_cut (s := (0, 0, x0_6, 0, x0_8, false, ([] : List (Int × Int × Int × List UInt8)), 0, 0, ([] : List UInt8))) (none, 0, none, 0) ⟨rfl, rfl, trivial⟩ (.pr_in ⟨RdV.nil, Nat.le_refl _, Nat.zero_le _⟩ (.pr_in ⟨Rd.nil _ _, Nat.le_refl _, Nat.zero_le _⟩ (.sel 0 rfl (.sel 0 rfl (.sel 1 rfl (.nil _))))))
 refine sim_seq (sim_region ?_)
 refine simL_val (q_eql rfl rfl rfl) rfl rfl rfl ?_
 refine simL_val (q_asg rfl rfl) rfl rfl rfl (simL_nil (nrm_then ?_))
 refine sim_cond rfl (fun h16v => ?_) (fun h17v => ?_)
 refine sim_region ?_
 refine simL_val (q_fa rfl rfl Try.underlying31 rfl rfl Try.sizeOf3 rfl) rfl rfl rfl ?_
 refine simL_val (q_load rfl rfl Try.isAgg3 (.obj 2 rfl rfl)) rfl rfl rfl ?_
 refine simL_val (q_fa rfl rfl Try.underlying31 rfl rfl Try.sizeOf3 rfl) rfl rfl rfl ?_
 refine simL_do (re_store 0 rfl rfl rfl Try.sizeOf3 rfl rfl (one_of (by rfl)) rfl rfl) rfl rfl ?_
 intro _
 refine simL_ent (H' := [obj b3v 31 [.int .i64 x0_0, .int .i64 x0_1, .int .i64 x0_2, .int .i64 x0_3, .int .i64 0, .int .i64 0, .int .i64 0, .int .i64 0, .int .i64 x0_8, .bool false, .slice none 0 0, .int .i64 0, .int .i64 0, .slice none 0 0], obj b2v 31 [.int .i64 0, .int .i64 0, .int .i64 0, .int .i64 0, .int .i64 0, .int .i64 0, .int .i64 0, .int .i64 0, .int .i64 0, .bool false, .slice none 0 0, .int .i64 0, .int .i64 0, .slice none 0 0], obj b1v 31 [.int .i64 x0_0, .int .i64 x0_1, .int .i64 x0_2, .int .i64 x0_3, .int .i64 x0_4, .int .i64 x0_5, .int .i64 x0_6, .int .i64 x0_7, .int .i64 x0_8, .bool x0_9, .slice a0_10 x0_10.length c0_10, .int .i64 x0_11, .int .i64 x0_12, .slice a0_13 x0_13.length c0_13], F]) (Ent.refl _) ?_
 refine simL_nil (nrm_block ?_)
 exact nrm_cut (s := (0, 0, 0, 0, x0_8, false, ([] : List (Int × Int × Int × List UInt8)), 0, 0, ([] : List UInt8))) (none, 0, none, 0) ⟨rfl, rfl, trivial⟩ (.pr_in ⟨RdV.nil, Nat.le_refl _, Nat.zero_le _⟩ (.pr_in ⟨Rd.nil _ _, Nat.le_refl _, Nat.zero_le _⟩ (.sel 0 rfl (.sel 0 rfl (.sel 1 rfl (.nil _))))))
 refine sim_seq (sim_region ?_)
 refine simL_val (q_eql rfl rfl rfl) rfl rfl rfl ?_
 refine simL_val (q_asg rfl rfl) rfl rfl rfl (simL_nil (nrm_then ?_))
 refine sim_cond rfl (fun h18v => ?_) (fun h19v => ?_)
 refine sim_region ?_
 refine simL_val (q_fa rfl rfl Try.underlying31 rfl rfl Try.sizeOf29 rfl) rfl rfl rfl ?_
 refine simL_val (q_loads (vs := [.int .i64 x0_11, .int .i64 x0_12, .slice a0_13 x0_13.length c0_13]) rfl rfl Try.isAgg29 Try.sizeOf29 rfl (cells_obj 2 rfl (cells_lit rfl))) rfl rfl rfl ?_
 refine simL_val (q_fa rfl rfl Try.underlying31 rfl rfl Try.sizeOf29 rfl) rfl rfl rfl ?_
 refine simL_do (re_store 0 rfl rfl rfl Try.sizeOf29 rfl rfl (one_of (by rfl)) rfl rfl) rfl rfl ?_
 intro _
 refine simL_ent (H' := [obj b3v 31 [.int .i64 x0_0, .int .i64 x0_1, .int .i64 x0_2, .int .i64 x0_3, .int .i64 0, .int .i64 0, .int .i64 0, .int .i64 0, .int .i64 0, .bool false, .slice none 0 0, .int .i64 x0_11, .int .i64 x0_12, .slice a0_13 x0_13.length c0_13], obj b2v 31 [.int .i64 0, .int .i64 0, .int .i64 0, .int .i64 0, .int .i64 0, .int .i64 0, .int .i64 0, .int .i64 0, .int .i64 0, .bool false, .slice none 0 0, .int .i64 0, .int .i64 0, .slice none 0 0], obj b1v 31 [.int .i64 x0_0, .int .i64 x0_1, .int .i64 x0_2, .int .i64 x0_3, .int .i64 x0_4, .int .i64 x0_5, .int .i64 x0_6, .int .i64 x0_7, .int .i64 x0_8, .bool x0_9, .slice a0_10 x0_10.length c0_10, .int .i64 x0_11, .int .i64 x0_12, .slice a0_13 x0_13.length c0_13], F]) (Ent.refl _) ?_
 refine simL_nil (nrm_block ?_)
 exact nrm_cut (s := (0, 0, 0, 0, 0, false, ([] : List (Int × Int × Int × List UInt8)), x0_11, x0_12, x0_13)) (none, 0, a0_13, c0_13) ⟨rfl, rfl, trivial⟩ (.pr_in ⟨RdV.nil, Nat.le_refl _, Nat.zero_le _⟩ (.pr_in ⟨h0_13, hc0_13, hm0_13⟩ (.sel 0 rfl (.sel 0 rfl (.sel 1 rfl (.nil _))))))
 refine sim_skip ?_
 refine nrm_block ?_
 exact nrm_cut (s := (0, 0, 0, 0, 0, false, ([] : List (Int × Int × Int × List UInt8)), 0, 0, ([] : List UInt8))) (none, 0, none, 0) ⟨rfl, rfl, trivial⟩ (.pr_in ⟨RdV.nil, Nat.le_refl _, Nat.zero_le _⟩ (.pr_in ⟨Rd.nil _ _, Nat.le_refl _, Nat.zero_le _⟩ (.sel 0 rfl (.sel 0 rfl (.sel 1 rfl (.nil _))))))
 intro s4v y5v
 refine sim_pr (fun hj20v => ?_)
 refine sim_pr (fun hj21v => ?_)
 refine sim_seq (sim_region ?_)
 refine simL_val (q_loado 0 rfl rfl Try.isAgg31 Try.sizeOf31 rfl rfl) rfl rfl rfl ?_
 refine simL_do (re_store 1 rfl rfl rfl Try.sizeOf31 rfl rfl (one_of (by rfl)) rfl rfl) rfl rfl ?_
 intro _
 refine simL_ent (H' := [obj b3v 31 [.int .i64 x0_0, .int .i64 x0_1, .int .i64 x0_2, .int .i64 x0_3, .int .i64 s4v.1, .int .i64 s4v.2.1, .int .i64 s4v.2.2.1, .int .i64 s4v.2.2.2.1, .int .i64 s4v.2.2.2.2.1, .bool s4v.2.2.2.2.2.1, .slice y5v.1 s4v.2.2.2.2.2.2.1.length y5v.2.1, .int .i64 s4v.2.2.2.2.2.2.2.1, .int .i64 s4v.2.2.2.2.2.2.2.2.1, .slice y5v.2.2.1 s4v.2.2.2.2.2.2.2.2.2.length y5v.2.2.2], obj b2v 31 [.int .i64 x0_0, .int .i64 x0_1, .int .i64 x0_2, .int .i64 x0_3, .int .i64 s4v.1, .int .i64 s4v.2.1, .int .i64 s4v.2.2.1, .int .i64 s4v.2.2.2.1, .int .i64 s4v.2.2.2.2.1, .bool s4v.2.2.2.2.2.1, .slice y5v.1 s4v.2.2.2.2.2.2.1.length y5v.2.1, .int .i64 s4v.2.2.2.2.2.2.2.1, .int .i64 s4v.2.2.2.2.2.2.2.2.1, .slice y5v.2.2.1 s4v.2.2.2.2.2.2.2.2.2.length y5v.2.2.2], F]) (Ent.refl _) ?_
 refine simL_nil (nrm_then (sim_rtn ?_))
 exact rtn_fnC (vs := [.agg #[.int .i64 x0_0, .int .i64 x0_1, .int .i64 x0_2, .int .i64 x0_3, .int .i64 s4v.1, .int .i64 s4v.2.1, .int .i64 s4v.2.2.1, .int .i64 s4v.2.2.2.1, .int .i64 s4v.2.2.2.2.1, .bool s4v.2.2.2.2.2.1, .slice y5v.1 s4v.2.2.2.2.2.2.1.length y5v.2.1, .int .i64 s4v.2.2.2.2.2.2.2.1, .int .i64 s4v.2.2.2.2.2.2.2.2.1, .slice y5v.2.2.1 s4v.2.2.2.2.2.2.2.2.2.length y5v.2.2.2]]) (y5v.1, y5v.2.1, y5v.2.2.1, y5v.2.2.2) rfl ⟨⟨b2v, rfl, load_agg 1 Try.isAgg31 Try.sizeOf31 rfl rfl⟩, trivial⟩ rfl (.pr_in ⟨hj20v.1, hj20v.2.1, hj20v.2.2⟩ (.pr_in ⟨hj21v.1, hj21v.2.1, hj21v.2.2⟩ (.sel 2 rfl (.nil _))))
def synodref3_used.v (x0_0 : Int) (x0_1 : Int) (x0_2 : Int) (x0_3 : Int) (x0_4 : Int) (x0_5 : Int) (x0_6 : Int) (x0_7 : Int) (x0_8 : Int) (x0_9 : Bool) (x0_10 : List (Int × Int × Int × List UInt8)) (x0_11 : Int) (x0_12 : Int) (x0_13 : List UInt8) : Int × Int × Int × Int × Int × Int × Int × Int × Int × Bool × (List (Int × Int × Int × List UInt8)) × Int × Int × List UInt8 := (synodref3_used.f x0_0 x0_1 x0_2 x0_3 x0_4 x0_5 x0_6 x0_7 x0_8 x0_9 x0_10 x0_11 x0_12 x0_13).getD (0, 0, 0, 0, 0, 0, 0, 0, 0, false, [], 0, 0, [])
theorem synodref3_used.tot (x0_0 : Int) (x0_1 : Int) (x0_2 : Int) (x0_3 : Int) (x0_4 : Int) (x0_5 : Int) (x0_6 : Int) (x0_7 : Int) (x0_8 : Int) (x0_9 : Bool) (x0_10 : List (Int × Int × Int × List UInt8)) (x0_11 : Int) (x0_12 : Int) (x0_13 : List UInt8) : synodref3_used.f x0_0 x0_1 x0_2 x0_3 x0_4 x0_5 x0_6 x0_7 x0_8 x0_9 x0_10 x0_11 x0_12 x0_13 = some (synodref3_used.v x0_0 x0_1 x0_2 x0_3 x0_4 x0_5 x0_6 x0_7 x0_8 x0_9 x0_10 x0_11 x0_12 x0_13) := by
  have h : ∃ r, synodref3_used.f x0_0 x0_1 x0_2 x0_3 x0_4 x0_5 x0_6 x0_7 x0_8 x0_9 x0_10 x0_11 x0_12 x0_13 = some r := by
    unfold synodref3_used.f
    repeat' (first | exact ⟨_, rfl⟩ | split | simp only [Option.bind_some])
  obtain ⟨r, h⟩ := h
  unfold synodref3_used.v
  rw [h]; rfl

def synodref3_CheckEntry.f (x0_0 : Int) (x0_1 : Int) (x0_2 : Int) (x0_3 : List UInt8) : Option (Int) := (synodref3_within.f x0_0 (1 : Int) (4611686018427387904 : Int)).bind fun s2v => ((if (!s2v) = true then (some true) else ((synodref3_within.f x0_1 (1 : Int) (4611686018427387904 : Int)).bind fun s7v => (some (!s7v)))).bind fun s5v => (if s5v = true then (some 1) else (if ((!decide (x0_2 = (0 : Int))) && (!decide (x0_2 = (1 : Int)))) = true then (some 6) else (if (4096 : Int) < (x0_3.length : Int) then (some 3) else (if ((decide (x0_2 = (0 : Int))) && (decide ((0 : Int) < (x0_3.length : Int)))) = true then (some 4) else (some 0))))))
theorem synodref3_CheckEntry.calls (W : World) (F : HA) (x0_0 : Int) (x0_1 : Int) (x0_2 : Int) (a0_3 : Option Addr) (c0_3 : Nat) (x0_3 : List UInt8) (h0_3 : Rd F a0_3 (encB x0_3)) (hc0_3 : x0_3.length ≤ c0_3) (hm0_3 : c0_3 ≤ maxLen) :
    Fn Try.prog W 35 [.agg #[.int .i64 x0_0, .int .i64 x0_1, .int .i64 x0_2, .slice a0_3 x0_3.length c0_3]] [] F (synodref3_CheckEntry.f x0_0 x0_1 x0_2 x0_3) (fun (r : Int) (y : Unit) => .int .i64 r) (fun r y => []) := by
 unfold synodref3_CheckEntry.f
 refine fn_intro 34 Try.func35 rfl Try.ntmps35 rfl ?_
 refine sim_seq (sim_region ?_)
 refine simL_eff (re_box rfl rfl rfl) rfl rfl rfl ?_
 intro b1v
 refine simL_val (q_asg rfl rfl) rfl rfl rfl (simL_nil (nrm_then (sim_seq (sim_seq (sim_region ?_)))))
 refine simL_val (q_fa rfl rfl Try.underlying61 rfl rfl Try.sizeOf3 rfl) rfl rfl rfl ?_
 refine simL_val (q_load rfl rfl Try.isAgg3 (.obj 0 rfl rfl)) rfl rfl rfl ?_
 refine simL_bind (fun s2v hs4v => ?_)
 refine simL_eff (re_call (vs := [.int .i64 x0_0, .int .i64 1, .int .i64 4611686018427387904]) (cap := []) (A := []) (rst := [obj b1v 61 [.int .i64 x0_0, .int .i64 x0_1, .int .i64 x0_2, .slice a0_3 x0_3.length c0_3], F]) rfl rfl rfl rfl rfl rfl Try.call69 (.sel 0 rfl (.sel 0 rfl (.nil _))) (synodref3_within.calls _ _ x0_0 (1 : Int) (4611686018427387904 : Int) ) hs4v) rfl rfl rfl ?_
 intro y3v
 refine simL_val (q_not rfl rfl) rfl rfl rfl ?_
 refine simL_val (q_move rfl rfl) rfl rfl rfl ?_
 refine simL_cut' 5 (S := Bool) (Unit) (fun s y => [(1, .pointer (some ⟨b1v, 0, none⟩)), (12, .bool s)]) (fun s y => [obj b1v 61 [.int .i64 x0_0, .int .i64 x0_1, .int .i64 x0_2, .slice a0_3 x0_3.length c0_3], F]) ?_ ?_
 refine simL_caseb (fun hb10v => ?_) (fun hb11v => ?_)
 rw [hb10v]
 refine simL_skipd rfl rfl rfl rfl rfl rfl ?_
 refine simL_skipd rfl rfl rfl rfl rfl rfl ?_
 refine simL_skipd rfl rfl rfl rfl rfl rfl ?_
 refine simL_skipd rfl rfl rfl rfl rfl rfl ?_
 refine simL_val (q_pick rfl rfl rfl rfl rfl) rfl rfl rfl (simL_nil ?_)
 exact nrm_cut (s := true) () ⟨rfl, rfl, trivial⟩ (.sel 0 rfl (.sel 0 rfl (.nil _)))
 rw [hb11v]
 refine simL_valg (q_fa rfl rfl Try.underlying61 rfl rfl Try.sizeOf3 rfl) rfl rfl rfl rfl rfl rfl ?_
 refine simL_valg (q_load rfl rfl Try.isAgg3 (.obj 0 rfl rfl)) rfl rfl rfl rfl rfl rfl ?_
 refine simL_bind (fun s7v hs9v => ?_)
 refine simL_effg (re_call (vs := [.int .i64 x0_1, .int .i64 1, .int .i64 4611686018427387904]) (cap := []) (A := []) (rst := [obj b1v 61 [.int .i64 x0_0, .int .i64 x0_1, .int .i64 x0_2, .slice a0_3 x0_3.length c0_3], F]) rfl rfl rfl rfl rfl rfl Try.call69 (.sel 0 rfl (.sel 0 rfl (.nil _))) (synodref3_within.calls _ _ x0_1 (1 : Int) (4611686018427387904 : Int) ) hs9v) rfl rfl rfl rfl rfl rfl ?_
 intro y8v
 refine simL_valg (q_not rfl rfl) rfl rfl rfl rfl rfl rfl ?_
 refine simL_val (q_pick rfl rfl rfl rfl rfl) rfl rfl rfl (simL_nil ?_)
 exact nrm_cut (s := !s7v) () ⟨rfl, rfl, trivial⟩ (.sel 0 rfl (.sel 0 rfl (.nil _)))
 intro s5v y6v
 refine simL_nil (nrm_then ?_)
 refine sim_condb rfl (fun h12v => ?_) (fun h13v => ?_)
 refine sim_seq (sim_region ?_)
 refine simL_val (q_asg rfl rfl) rfl rfl rfl (simL_nil (nrm_then (sim_rtn ?_)))
 refine rtn_then ?_
 exact rtn_fn () rfl rfl rfl (.sel 1 rfl (.nil _))
 refine sim_skip ?_
 refine nrm_then (sim_seq (sim_seq (sim_region ?_)))
 refine simL_val (q_fa rfl rfl Try.underlying61 rfl rfl Try.sizeOf3 rfl) rfl rfl rfl ?_
 refine simL_val (q_load rfl rfl Try.isAgg3 (.obj 0 rfl rfl)) rfl rfl rfl ?_
 refine simL_val (q_neq rfl rfl rfl) rfl rfl rfl ?_
 refine simL_val (q_move rfl rfl) rfl rfl rfl ?_
 refine simL_valc (b := !decide (x0_2 = (0 : Int))) (fun hb26v => RQ.sub (E' := [(1, .pointer (some ⟨b1v, 0, none⟩))]) ⟨rfl, trivial⟩ (q_fa rfl rfl Try.underlying61 rfl rfl Try.sizeOf3 rfl)) rfl rfl rfl rfl rfl ?_
 refine simL_valc (b := !decide (x0_2 = (0 : Int))) (fun hb25v => RQ.sub (E' := [(17, .pointer (some ⟨b1v, 2, none⟩))]) ⟨lk_cv rfl hb25v, trivial⟩ (q_load rfl rfl Try.isAgg3 (.obj 0 rfl rfl))) rfl rfl rfl rfl rfl ?_
 refine simL_valc (b := !decide (x0_2 = (0 : Int))) (fun hb24v => RQ.sub (E' := [(18, .int .i64 x0_2)]) ⟨lk_cv rfl hb24v, trivial⟩ (q_neq rfl rfl rfl)) rfl rfl rfl rfl rfl ?_
 refine simL_val (q_and rfl rfl rfl) rfl rfl rfl (simL_nil (nrm_then ?_))
 refine sim_condb rfl (fun h14v => ?_) (fun h15v => ?_)
 refine sim_seq (sim_region ?_)
 refine simL_val (q_asg rfl rfl) rfl rfl rfl (simL_nil (nrm_then (sim_rtn ?_)))
 refine rtn_then ?_
 exact rtn_fn () rfl rfl rfl (.sel 1 rfl (.nil _))
 refine sim_skip ?_
 refine nrm_then (sim_seq (sim_seq (sim_region ?_)))
 refine simL_val (q_fa rfl rfl Try.underlying61 rfl rfl Try.sizeOf27 rfl) rfl rfl rfl ?_
 refine simL_val (q_load rfl rfl Try.isAgg27 (.obj 0 rfl rfl)) rfl rfl rfl ?_
 refine simL_val (q_len rfl rfl rfl Try.underlying27) rfl rfl rfl ?_
 refine simL_val (q_gtr rfl rfl rfl) rfl rfl rfl (simL_nil (nrm_then ?_))
 refine sim_cond rfl (fun h16v => ?_) (fun h17v => ?_)
 refine sim_seq (sim_region ?_)
 refine simL_val (q_asg rfl rfl) rfl rfl rfl (simL_nil (nrm_then (sim_rtn ?_)))
 refine rtn_then ?_
 exact rtn_fn () rfl rfl rfl (.sel 1 rfl (.nil _))
 refine sim_skip ?_
 refine nrm_then (sim_seq (sim_seq (sim_region ?_)))
 refine simL_val (q_fa rfl rfl Try.underlying61 rfl rfl Try.sizeOf3 rfl) rfl rfl rfl ?_
 refine simL_val (q_load rfl rfl Try.isAgg3 (.obj 0 rfl rfl)) rfl rfl rfl ?_
 refine simL_val (q_eql rfl rfl rfl) rfl rfl rfl ?_
 refine simL_val (q_move rfl rfl) rfl rfl rfl ?_
 refine simL_valc (b := decide (x0_2 = (0 : Int))) (fun hb23v => RQ.sub (E' := [(1, .pointer (some ⟨b1v, 0, none⟩))]) ⟨rfl, trivial⟩ (q_fa rfl rfl Try.underlying61 rfl rfl Try.sizeOf27 rfl)) rfl rfl rfl rfl rfl ?_
 refine simL_valc (b := decide (x0_2 = (0 : Int))) (fun hb22v => RQ.sub (E' := [(29, .pointer (some ⟨b1v, 3, none⟩))]) ⟨lk_cv rfl hb22v, trivial⟩ (q_load rfl rfl Try.isAgg27 (.obj 0 rfl rfl))) rfl rfl rfl rfl rfl ?_
 refine simL_valc (b := decide (x0_2 = (0 : Int))) (fun hb21v => RQ.sub (E' := [(30, .slice a0_3 x0_3.length c0_3)]) ⟨lk_cv rfl hb21v, trivial⟩ (q_len rfl rfl rfl Try.underlying27)) rfl rfl rfl rfl rfl ?_
 refine simL_valc (b := decide (x0_2 = (0 : Int))) (fun hb20v => RQ.sub (E' := [(31, .int .i64 (x0_3.length : Int))]) ⟨lk_cv rfl hb20v, trivial⟩ (q_gtr rfl rfl rfl)) rfl rfl rfl rfl rfl ?_
 refine simL_val (q_and rfl rfl rfl) rfl rfl rfl (simL_nil (nrm_then ?_))
 refine sim_condb rfl (fun h18v => ?_) (fun h19v => ?_)
 refine sim_seq (sim_region ?_)
 refine simL_val (q_asg rfl rfl) rfl rfl rfl (simL_nil (nrm_then (sim_rtn ?_)))
 refine rtn_then ?_
 exact rtn_fn () rfl rfl rfl (.sel 1 rfl (.nil _))
 refine sim_skip ?_
 refine nrm_then (sim_seq (sim_region ?_))
 refine simL_val (q_asg rfl rfl) rfl rfl rfl (simL_nil (nrm_then (sim_rtn ?_)))
 exact rtn_fn () rfl rfl rfl (.sel 1 rfl (.nil _))
def synodref3_CheckEntry.v (x0_0 : Int) (x0_1 : Int) (x0_2 : Int) (x0_3 : List UInt8) : Int := (synodref3_CheckEntry.f x0_0 x0_1 x0_2 x0_3).getD 0
theorem synodref3_CheckEntry.tot (x0_0 : Int) (x0_1 : Int) (x0_2 : Int) (x0_3 : List UInt8) : synodref3_CheckEntry.f x0_0 x0_1 x0_2 x0_3 = some (synodref3_CheckEntry.v x0_0 x0_1 x0_2 x0_3) := by
  have h : ∃ r, synodref3_CheckEntry.f x0_0 x0_1 x0_2 x0_3 = some r := by
    unfold synodref3_CheckEntry.f
    repeat' (first | exact ⟨_, rfl⟩ | split | simp only [Option.bind_some, synodref3_within.tot])
  obtain ⟨r, h⟩ := h
  unfold synodref3_CheckEntry.v
  rw [h]; rfl
end Go.Proofs.Ytdoghfenhoigmaa

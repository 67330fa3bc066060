/- Printed by gen.py: pure functions and the proofs that the Go functions simulate them. Conditions: as each theorem says. -/
import Derived.Test.YtdolffamgbcokaaG2
namespace Go.Proofs.Ytdolffamgbcokaa
open Go.RowKit
set_option linter.unusedVariables false
set_option maxRecDepth 20000
def synodlaw1_WireWrites.l1 (s74v : List UInt8 × Int) (s77v : List UInt8 × Int) : Nat → List UInt8 → Int → Option ((List UInt8 × Int × List UInt8 × Int) ⊕ ((List UInt8 × Int × List UInt8 × Int) ⊕ (Bool)))
  | 0, _, _ => none
  | k + 1, z91v, z92v => if z92v < (z91v.length : Int) then (if 0 ≤ z92v ∧ z92v < (z91v.length : Int) then (synodlaw1_WireWrites.l1 s74v s77v k (z91v.set z92v.toNat 0) (IntKind.i64.wrap (z92v + 1))) else none) else (some (.inl (s77v.1, s77v.2, s74v.1, s74v.2)))
def synodlaw1_WireWrites.l0 (x0 : List (Int × Int × Int × Bool × List UInt8)) : Nat → Int → List UInt8 → Int → List UInt8 → Int → Option ((List UInt8 × Int × List UInt8 × Int) ⊕ (Bool))
  | 0, _, _, _, _, _ => none
  | k + 1, z26v, z27v, z28v, z29v, z30v => if z26v < (x0.length : Int) then (orR (if 0 ≤ z26v ∧ z26v < (x0.length : Int) then (if (x0.getD z26v.toNat ((0 : Int), (0 : Int), (0 : Int), false, ([] : List UInt8))).1 = (0 : Int) then ((wire_Writer_Int.f k z29v z30v ((x0.getD z26v.toNat ((0 : Int), (0 : Int), (0 : Int), false, ([] : List UInt8))).2.1)).bind fun s51v => ((synodref1_Writer_Int.f k z27v z28v ((x0.getD z26v.toNat ((0 : Int), (0 : Int), (0 : Int), false, ([] : List UInt8))).2.1)).bind fun s54v => (some (.inl (s54v.1, s54v.2, s51v.1, s51v.2))))) else (if (x0.getD z26v.toNat ((0 : Int), (0 : Int), (0 : Int), false, ([] : List UInt8))).1 = (1 : Int) then ((wire_Writer_Bool.f k z29v z30v ((x0.getD z26v.toNat ((0 : Int), (0 : Int), (0 : Int), false, ([] : List UInt8))).2.2.2.1)).bind fun s59v => ((synodref1_Writer_Bool.f k z27v z28v ((x0.getD z26v.toNat ((0 : Int), (0 : Int), (0 : Int), false, ([] : List UInt8))).2.2.2.1)).bind fun s62v => (some (.inl (s62v.1, s62v.2, s59v.1, s59v.2))))) else (if (x0.getD z26v.toNat ((0 : Int), (0 : Int), (0 : Int), false, ([] : List UInt8))).1 = (2 : Int) then ((synodref_Lent.f ((x0.getD z26v.toNat ((0 : Int), (0 : Int), (0 : Int), false, ([] : List UInt8))).2.2.2.2)).bind fun s67v => ((wire_Writer_Bytes.f k z29v z30v s67v.1 ((x0.getD z26v.toNat ((0 : Int), (0 : Int), (0 : Int), false, ([] : List UInt8))).2.2.1)).bind fun s74v => ((synodref1_Writer_Bytes.f k z27v z28v ((x0.getD z26v.toNat ((0 : Int), (0 : Int), (0 : Int), false, ([] : List UInt8))).2.2.2.2) ((x0.getD z26v.toNat ((0 : Int), (0 : Int), (0 : Int), false, ([] : List UInt8))).2.2.1)).bind fun s77v => ((synodref_Kept.f k s67v.1 s67v.2 ((x0.getD z26v.toNat ((0 : Int), (0 : Int), (0 : Int), false, ([] : List UInt8))).2.2.2.2)).bind fun s84v => (if (!s84v) = true then (some (.inr (.inr false))) else (synodlaw1_WireWrites.l1 s74v s77v k s67v.1 0)))))) else (if (x0.getD z26v.toNat ((0 : Int), (0 : Int), (0 : Int), false, ([] : List UInt8))).1 = (3 : Int) then ((wire_Writer_Text.f k z29v z30v ((x0.getD z26v.toNat ((0 : Int), (0 : Int), (0 : Int), false, ([] : List UInt8))).2.2.2.2) ((x0.getD z26v.toNat ((0 : Int), (0 : Int), (0 : Int), false, ([] : List UInt8))).2.2.1)).bind fun s102v => ((synodref1_Writer_Text.f k z27v z28v ((x0.getD z26v.toNat ((0 : Int), (0 : Int), (0 : Int), false, ([] : List UInt8))).2.2.2.2) ((x0.getD z26v.toNat ((0 : Int), (0 : Int), (0 : Int), false, ([] : List UInt8))).2.2.1)).bind fun s105v => (some (.inl (s105v.1, s105v.2, s102v.1, s102v.2))))) else ((synodlaw1_done.f k z29v z30v z27v z28v).bind fun s116v => (if (!s116v) = true then (some (.inr (.inr false))) else (some (.inl (z27v, z28v, z29v, z30v))))))))) else none) fun s33v => (synodlaw1_WireWrites.l0 x0 k (IntKind.i64.wrap (z26v + 1)) s33v.1 s33v.2.1 s33v.2.2.1 s33v.2.2.2)) else (some (.inl (z27v, z28v, z29v, z30v)))
def synodlaw1_WireWrites.f (k : Nat) (x0 : List (Int × Int × Int × Bool × List UInt8)) : Option (Bool) := (synodlaw1_first.f k).bind fun s1v => ((synodlaw1_parts.f k x0).bind fun s4v => ((synodref_Few.f k s4v (20000 : Int)).bind fun s13v => (if (((!s1v) || (decide ((300 : Int) < (x0.length : Int)))) || (!s13v)) = true then (some s1v) else ((wire_NewWriter.f).bind fun s18v => (orR (synodlaw1_WireWrites.l0 x0 k 0 ([] : List UInt8) 0 s18v.1 s18v.2) fun s22v => ((synodlaw1_done.f k s22v.2.2.1 s22v.2.2.2 s22v.1 s22v.2.1).bind fun s129v => ((if s129v = true then ((synodlaw1_done.f k s22v.2.2.1 s22v.2.2.2 s22v.1 s22v.2.1).bind fun s142v => (some s142v)) else (some false)).bind fun s132v => (some s132v))))))))
theorem synodlaw1_WireWrites.calls (W : World) (F : HA) (k : Nat) (a0 : Option Addr) (c0 : Nat) (x0 : List (Int × Int × Int × Bool × List UInt8)) (h0 : RdV F 5 (V62 F) a0 x0) (hc0 : x0.length ≤ c0) (hm0 : c0 ≤ maxLen) :
    Fn Try.prog W 8 [.slice a0 x0.length c0] [] F (synodlaw1_WireWrites.f k x0) (fun (r : Bool) (y : Unit) => .bool r) (fun r y => []) := by
  unfold synodlaw1_WireWrites.f
  refine fn_intro 128 Try.func8 rfl Try.ntmps8 rfl ?_
  refine sim_seq ?_
  refine sim_region ?_
  refine simL_val (q_asg rfl rfl) rfl rfl rfl ?_
  refine simL_nil ?_
  refine nrm_then ?_
  refine sim_seq ?_
  refine sim_region ?_
  refine simL_bind (fun s1v hs3v => ?_)
  refine simL_eff (re_call (vs := []) (cap := []) (A := []) (rst := [F]) rfl rfl rfl rfl rfl rfl Try.call10 (.sel 0 rfl (.nil _)) (synodlaw1_first.calls _ _ k  ) hs3v) rfl rfl rfl ?_
  intro y2v
  refine simL_val (q_asg rfl rfl) rfl rfl rfl ?_
  refine simL_nil ?_
  refine nrm_then ?_
  refine sim_seq ?_
  refine sim_region ?_
  refine simL_val (q_move rfl rfl) rfl rfl rfl ?_
  refine simL_bind (fun s4v hs6v => ?_)
  refine simL_eff (re_call (vs := [.slice a0 x0.length c0]) (cap := []) (A := []) (rst := [F]) rfl rfl rfl rfl rfl rfl Try.call30 (.sel 0 rfl (.nil _)) (synodlaw1_parts.calls _ _ _ (Up.lend 0 rfl) k a0 c0 x0 h0 hc0 hm0) hs6v) rfl rfl rfl ?_
  intro y5v
  refine simL_bind (fun s13v hs15v => ?_)
  refine simL_openV 0 rfl (fun rs11v hl12v => ?_)
  refine simL_lend 0 rfl (fun hq7v hq8v hq9v hq10v => ?_)
  refine simL_eff (re_call (vs := [.slice y5v.1 s4v.length y5v.2, .int .i64 20000]) (cap := []) (A := []) (rst := [Row 23 1 y5v.1 s4v.length y5v.2 rs11v.flatten, F]) rfl rfl rfl rfl rfl rfl Try.call29 (.sel 0 rfl (.sel 0 rfl (.nil _))) (synodref_Few.calls _ _ k y5v.1 y5v.2 s4v (20000 : Int) ((Rd.asV hl12v hq7v).up (Up.lend 0 rfl) (V23.up (Up.lend 1 rfl))) hq8v hq9v) hs15v) rfl rfl rfl ?_
  intro y14v
  refine simL_val (q_asg rfl rfl) rfl rfl rfl ?_
  refine simL_nil ?_
  refine nrm_then ?_
  refine sim_seq ?_
  refine sim_seq ?_
  refine sim_region ?_
  refine simL_val (q_move rfl rfl) rfl rfl rfl ?_
  refine simL_val (q_not rfl rfl) rfl rfl rfl ?_
  refine simL_val (q_move rfl rfl) rfl rfl rfl ?_
  refine simL_valc (b := !s1v) (fun hb151v => RQ.sub (E' := [(0, .slice a0 x0.length c0)]) ⟨rfl, trivial⟩ (q_move rfl rfl)) rfl rfl rfl rfl rfl ?_
  refine simL_valc (b := !s1v) (fun hb150v => RQ.sub (E' := [(21, .slice a0 x0.length c0)]) ⟨lk_cv rfl hb150v, trivial⟩ (q_len rfl rfl rfl Try.underlying52)) rfl rfl rfl rfl rfl ?_
  refine simL_valc (b := !s1v) (fun hb149v => RQ.sub (E' := [(22, .int .i64 (x0.length : Int))]) ⟨lk_cv rfl hb149v, trivial⟩ (q_gtr rfl rfl rfl)) rfl rfl rfl rfl rfl ?_
  refine simL_val (q_or rfl rfl rfl) rfl rfl rfl ?_
  refine simL_val (q_move rfl rfl) rfl rfl rfl ?_
  refine simL_valc (b := (!s1v) || (decide ((300 : Int) < (x0.length : Int)))) (fun hb148v => RQ.sub (E' := [(4, .bool s13v)]) ⟨rfl, trivial⟩ (q_move rfl rfl)) rfl rfl rfl rfl rfl ?_
  refine simL_valc (b := (!s1v) || (decide ((300 : Int) < (x0.length : Int)))) (fun hb147v => RQ.sub (E' := [(26, .bool s13v)]) ⟨lk_cv rfl hb147v, trivial⟩ (q_not rfl rfl)) rfl rfl rfl rfl rfl ?_
  refine simL_val (q_or rfl rfl rfl) rfl rfl rfl ?_
  refine simL_nil ?_
  refine nrm_then ?_
  refine sim_condb rfl (fun h16v => ?_) (fun h17v => ?_)
  · refine sim_seq ?_
    refine sim_region ?_
    refine simL_val (q_move rfl rfl) rfl rfl rfl ?_
    refine simL_val (q_asg rfl rfl) rfl rfl rfl ?_
    refine simL_nil ?_
    refine nrm_then ?_
    refine sim_rtn ?_
    refine rtn_then ?_
    exact rtn_fn () rfl rfl rfl (.sel 1 rfl (.nil _))
  · refine sim_skip ?_
    refine nrm_then ?_
    refine sim_seq ?_
    refine sim_region ?_
    refine simL_bind (fun s18v hs20v => ?_)
    refine simL_eff (re_call (vs := []) (cap := []) (A := []) (rst := [Row 23 1 y5v.1 s4v.length y5v.2 rs11v.flatten, F]) rfl rfl rfl rfl rfl rfl Try.call31 (.sel 0 rfl (.sel 0 rfl (.nil _))) (wire_NewWriter.calls _ _  ) hs20v) rfl rfl rfl ?_
    intro y19v
    refine simL_val (q_asg rfl rfl) rfl rfl rfl ?_
    refine simL_nil ?_
    refine nrm_then ?_
    refine sim_seq ?_
    refine sim_region ?_
    refine simL_val (q_build (v := .agg #[.slice none 0 0, .int .i64 0]) rfl rfl (fun _ => by kernel_rfl)) rfl rfl rfl ?_
    refine simL_eff (re_box rfl rfl rfl) rfl rfl rfl ?_
    intro b21v
    refine simL_val (q_asg rfl rfl) rfl rfl rfl ?_
    refine simL_nil ?_
    refine nrm_then ?_
    refine sim_seq ?_
    refine sim_seq ?_
    refine sim_region ?_
    refine simL_val (q_move rfl rfl) rfl rfl rfl ?_
    refine simL_val (q_eqp rfl rfl rfl Try.underlying56) rfl rfl rfl ?_
    refine simL_nil ?_
    refine nrm_then ?_
    refine sim_false rfl ?_
    refine sim_skip ?_
    refine nrm_then ?_
    refine sim_cutR (S := List UInt8 × Int × List UInt8 × Int) (Option Addr × Nat × Option Addr × Nat) (fun s y => [(5, .pointer (some ⟨y19v.1, 0, none⟩)), (6, .pointer (some ⟨b21v, 0, none⟩))]) (fun s y => [obj b21v 60 [.slice y.1 s.1.length y.2.1, .int .i64 s.2.1], obj y19v.1 80 [.slice y.2.2.1 s.2.2.1.length y.2.2.2, .int .i64 s.2.2.2], Row 5 1 y.1 s.1.length y.2.1 (encB s.1), Row 5 1 y.2.2.1 s.2.2.1.length y.2.2.2 (encB s.2.2.1), F]) ?_ ?_
    · refine sim_seq ?_
      refine sim_region ?_
      refine simL_val (q_asg rfl rfl) rfl rfl rfl ?_
      refine simL_nil ?_
      refine nrm_then ?_
      refine sim_block ?_
      refine sim_loop (S := Int × List UInt8 × Int × List UInt8 × Int) (Option Addr × Nat × Option Addr × Nat) (fun k s => synodlaw1_WireWrites.l0 x0 k s.1 s.2.1 s.2.2.1 s.2.2.2.1 s.2.2.2.2) (fun s y => [(0, .slice a0 x0.length c0), (5, .pointer (some ⟨y19v.1, 0, none⟩)), (6, .pointer (some ⟨b21v, 0, none⟩)), (7, .int .i64 s.1)]) (fun s y => [obj b21v 60 [.slice y.1 s.2.1.length y.2.1, .int .i64 s.2.2.1], obj y19v.1 80 [.slice y.2.2.1 s.2.2.2.1.length y.2.2.2, .int .i64 s.2.2.2.2], Row 5 1 y.1 s.2.1.length y.2.1 (encB s.2.1), Row 5 1 y.2.2.1 s.2.2.2.1.length y.2.2.2 (encB s.2.2.2.1), F]) (fun _ => by rw [synodlaw1_WireWrites.l0]) ?_ k (0, ([] : List UInt8), 0, s18v.1, s18v.2) (none, 0, y19v.2.1, y19v.2.2) ⟨rfl, rfl, rfl, rfl, trivial⟩ (.sel 0 rfl (.sel 0 rfl (.row_nil (.sel 0 rfl (.sel 1 rfl (.nil _))))))
      intro k s24v y25v
      refine sim_eq (by rw [synodlaw1_WireWrites.l0]) ?_
      refine sim_seq ?_
      refine sim_seq ?_
      refine sim_region ?_
      refine simL_val (q_move rfl rfl) rfl rfl rfl ?_
      refine simL_val (q_move rfl rfl) rfl rfl rfl ?_
      refine simL_val (q_len rfl rfl rfl Try.underlying52) rfl rfl rfl ?_
      refine simL_val (q_lss rfl rfl rfl) rfl rfl rfl ?_
      refine simL_nil ?_
      refine nrm_then ?_
      refine sim_cond rfl (fun h31v => ?_) (fun h32v => ?_)
      · refine sim_skip ?_
        refine nrm_then ?_
        refine sim_cutR (S := List UInt8 × Int × List UInt8 × Int) (Option Addr × Nat × Option Addr × Nat) (fun s y => [(0, .slice a0 x0.length c0), (5, .pointer (some ⟨y19v.1, 0, none⟩)), (6, .pointer (some ⟨b21v, 0, none⟩)), (7, .int .i64 s24v.1)]) (fun s y => [obj b21v 60 [.slice y.1 s.1.length y.2.1, .int .i64 s.2.1], obj y19v.1 80 [.slice y.2.2.1 s.2.2.1.length y.2.2.2, .int .i64 s.2.2.2], Row 5 1 y.1 s.1.length y.2.1 (encB s.1), Row 5 1 y.2.2.1 s.2.2.1.length y.2.2.2 (encB s.2.2.1), F]) ?_ ?_
        · refine sim_block ?_
          refine sim_seq ?_
          refine sim_region ?_
          refine simL_val (q_move rfl rfl) rfl rfl rfl ?_
          refine simL_val (q_move rfl rfl) rfl rfl rfl ?_
          refine simL_ask (fun hi35v => ?_)
          obtain ⟨b36v, b36vo, r39v, ha37v, hV40v, hlr41v, hcell42v⟩ := RdV.pos h0 (Up.refl _) rfl (i := s24v.1.toNat) (by omega) ((0 : Int), (0 : Int), (0 : Int), false, ([] : List UInt8))
          obtain ⟨a43v, c44v, rfl, ⟨he45v, hc46v, hm47v⟩⟩ := hV40v
          refine simL_val (q_idx rfl rfl rfl ha37v Try.underlying52 Try.sizeOf62 hi35v.1 hi35v.2) rfl rfl rfl ?_
          refine simL_val (q_loads rfl rfl Try.isAgg62 Try.sizeOf62 rfl (fun j v hj => hcell42v 4 rfl j v hj)) rfl rfl rfl ?_
          refine simL_eff (re_alloc rfl Try.zeroValue62 rfl) rfl rfl rfl ?_
          intro b48v
          refine simL_do (re_store 0 rfl rfl rfl Try.sizeOf62 rfl rfl (one_of (by rfl)) rfl rfl) rfl rfl ?_
          intro _
          refine simL_nil ?_
          refine nrm_then ?_
          refine sim_seq ?_
          refine sim_region ?_
          refine simL_val (q_fa rfl rfl Try.underlying62 rfl rfl Try.sizeOf3 rfl) rfl rfl rfl ?_
          refine simL_val (q_load rfl rfl Try.isAgg3 (.obj 0 rfl rfl)) rfl rfl rfl ?_
          refine simL_nil ?_
          refine nrm_then ?_
          refine sim_block ?_
          refine sim_seq ?_
          refine sim_region ?_
          refine simL_val (q_eql rfl rfl rfl) rfl rfl rfl ?_
          refine simL_val (q_asg rfl rfl) rfl rfl rfl ?_
          refine simL_nil ?_
          refine nrm_then ?_
          refine sim_cond rfl (fun h49v => ?_) (fun h50v => ?_)
          · refine sim_seq ?_
            refine sim_region ?_
            refine simL_val (q_move rfl rfl) rfl rfl rfl ?_
            refine simL_val (q_fa rfl rfl Try.underlying62 rfl rfl Try.sizeOf3 rfl) rfl rfl rfl ?_
            refine simL_val (q_load rfl rfl Try.isAgg3 (.obj 0 rfl rfl)) rfl rfl rfl ?_
            refine simL_bind (fun s51v hs53v => ?_)
            refine simL_eff (re_call (vs := [.pointer (some ⟨y19v.1, 0, none⟩), .int .i64 ((x0.getD s24v.1.toNat ((0 : Int), (0 : Int), (0 : Int), false, ([] : List UInt8))).2.1)]) (cap := []) (A := [obj y19v.1 80 [.slice y25v.2.2.1 s24v.2.2.2.1.length y25v.2.2.2, .int .i64 s24v.2.2.2.2], Row 5 1 y25v.2.2.1 s24v.2.2.2.1.length y25v.2.2.2 (encB s24v.2.2.2.1)]) (rst := [obj b48v 62 [.int .i64 ((x0.getD s24v.1.toNat ((0 : Int), (0 : Int), (0 : Int), false, ([] : List UInt8))).1), .int .i64 ((x0.getD s24v.1.toNat ((0 : Int), (0 : Int), (0 : Int), false, ([] : List UInt8))).2.1), .int .i64 ((x0.getD s24v.1.toNat ((0 : Int), (0 : Int), (0 : Int), false, ([] : List UInt8))).2.2.1), .bool ((x0.getD s24v.1.toNat ((0 : Int), (0 : Int), (0 : Int), false, ([] : List UInt8))).2.2.2.1), .slice a43v (((x0.getD s24v.1.toNat ((0 : Int), (0 : Int), (0 : Int), false, ([] : List UInt8))).2.2.2.2).length) c44v], obj b21v 60 [.slice y25v.1 s24v.2.1.length y25v.2.1, .int .i64 s24v.2.2.1], Row 5 1 y25v.1 s24v.2.1.length y25v.2.1 (encB s24v.2.1), F]) rfl rfl rfl rfl rfl rfl Try.call32 (.sel 2 rfl (.sel 3 rfl (.sel 0 rfl (.sel 0 rfl (.sel 0 rfl (.sel 0 rfl (.nil _))))))) (wire_Writer_Int.calls _ _ k y19v.1 y25v.2.2.1 y25v.2.2.2 s24v.2.2.2.1 s24v.2.2.2.2 ((x0.getD s24v.1.toNat ((0 : Int), (0 : Int), (0 : Int), false, ([] : List UInt8))).2.1) ) hs53v) rfl rfl rfl ?_
            intro y52v
            refine simL_nil ?_
            refine nrm_then ?_
            refine sim_region ?_
            refine simL_val (q_move rfl rfl) rfl rfl rfl ?_
            refine simL_val (q_fa rfl rfl Try.underlying62 rfl rfl Try.sizeOf3 rfl) rfl rfl rfl ?_
            refine simL_val (q_load rfl rfl Try.isAgg3 (.obj 2 rfl rfl)) rfl rfl rfl ?_
            refine simL_bind (fun s54v hs56v => ?_)
            refine simL_eff (re_call (vs := [.pointer (some ⟨b21v, 0, none⟩), .int .i64 ((x0.getD s24v.1.toNat ((0 : Int), (0 : Int), (0 : Int), false, ([] : List UInt8))).2.1)]) (cap := []) (A := [obj b21v 60 [.slice y25v.1 s24v.2.1.length y25v.2.1, .int .i64 s24v.2.2.1], Row 5 1 y25v.1 s24v.2.1.length y25v.2.1 (encB s24v.2.1)]) (rst := [obj y19v.1 80 [.slice y52v.1 s51v.1.length y52v.2, .int .i64 s51v.2], Row 5 1 y52v.1 s51v.1.length y52v.2 (encB s51v.1), obj b48v 62 [.int .i64 ((x0.getD s24v.1.toNat ((0 : Int), (0 : Int), (0 : Int), false, ([] : List UInt8))).1), .int .i64 ((x0.getD s24v.1.toNat ((0 : Int), (0 : Int), (0 : Int), false, ([] : List UInt8))).2.1), .int .i64 ((x0.getD s24v.1.toNat ((0 : Int), (0 : Int), (0 : Int), false, ([] : List UInt8))).2.2.1), .bool ((x0.getD s24v.1.toNat ((0 : Int), (0 : Int), (0 : Int), false, ([] : List UInt8))).2.2.2.1), .slice a43v (((x0.getD s24v.1.toNat ((0 : Int), (0 : Int), (0 : Int), false, ([] : List UInt8))).2.2.2.2).length) c44v], F]) rfl rfl rfl rfl rfl rfl Try.call33 (.sel 3 rfl (.sel 3 rfl (.sel 0 rfl (.sel 0 rfl (.sel 0 rfl (.sel 0 rfl (.nil _))))))) (synodref1_Writer_Int.calls _ _ k b21v y25v.1 y25v.2.1 s24v.2.1 s24v.2.2.1 ((x0.getD s24v.1.toNat ((0 : Int), (0 : Int), (0 : Int), false, ([] : List UInt8))).2.1) ) hs56v) rfl rfl rfl ?_
            intro y55v
            refine simL_nil ?_
            refine nrm_block ?_
            refine nrm_block ?_
            exact nrm_cutR (s := (s54v.1, s54v.2, s51v.1, s51v.2)) (y55v.1, y55v.2, y52v.1, y52v.2) ⟨rfl, rfl, rfl, rfl, trivial⟩ (.sel 0 rfl (.sel 1 rfl (.sel 0 rfl (.sel 0 rfl (.sel 1 rfl (.nil _))))))
          · refine sim_seq ?_
            refine sim_region ?_
            refine simL_val (q_eql rfl rfl rfl) rfl rfl rfl ?_
            refine simL_val (q_asg rfl rfl) rfl rfl rfl ?_
            refine simL_nil ?_
            refine nrm_then ?_
            refine sim_cond rfl (fun h57v => ?_) (fun h58v => ?_)
            · refine sim_seq ?_
              refine sim_region ?_
              refine simL_val (q_move rfl rfl) rfl rfl rfl ?_
              refine simL_val (q_fa rfl rfl Try.underlying62 rfl rfl Try.sizeOf4 rfl) rfl rfl rfl ?_
              refine simL_val (q_load rfl rfl Try.isAgg4 (.obj 0 rfl rfl)) rfl rfl rfl ?_
              refine simL_bind (fun s59v hs61v => ?_)
              refine simL_eff (re_call (vs := [.pointer (some ⟨y19v.1, 0, none⟩), .bool ((x0.getD s24v.1.toNat ((0 : Int), (0 : Int), (0 : Int), false, ([] : List UInt8))).2.2.2.1)]) (cap := []) (A := [obj y19v.1 80 [.slice y25v.2.2.1 s24v.2.2.2.1.length y25v.2.2.2, .int .i64 s24v.2.2.2.2], Row 5 1 y25v.2.2.1 s24v.2.2.2.1.length y25v.2.2.2 (encB s24v.2.2.2.1)]) (rst := [obj b48v 62 [.int .i64 ((x0.getD s24v.1.toNat ((0 : Int), (0 : Int), (0 : Int), false, ([] : List UInt8))).1), .int .i64 ((x0.getD s24v.1.toNat ((0 : Int), (0 : Int), (0 : Int), false, ([] : List UInt8))).2.1), .int .i64 ((x0.getD s24v.1.toNat ((0 : Int), (0 : Int), (0 : Int), false, ([] : List UInt8))).2.2.1), .bool ((x0.getD s24v.1.toNat ((0 : Int), (0 : Int), (0 : Int), false, ([] : List UInt8))).2.2.2.1), .slice a43v (((x0.getD s24v.1.toNat ((0 : Int), (0 : Int), (0 : Int), false, ([] : List UInt8))).2.2.2.2).length) c44v], obj b21v 60 [.slice y25v.1 s24v.2.1.length y25v.2.1, .int .i64 s24v.2.2.1], Row 5 1 y25v.1 s24v.2.1.length y25v.2.1 (encB s24v.2.1), F]) rfl rfl rfl rfl rfl rfl Try.call34 (.sel 2 rfl (.sel 3 rfl (.sel 0 rfl (.sel 0 rfl (.sel 0 rfl (.sel 0 rfl (.nil _))))))) (wire_Writer_Bool.calls _ _ k y19v.1 y25v.2.2.1 y25v.2.2.2 s24v.2.2.2.1 s24v.2.2.2.2 ((x0.getD s24v.1.toNat ((0 : Int), (0 : Int), (0 : Int), false, ([] : List UInt8))).2.2.2.1) ) hs61v) rfl rfl rfl ?_
              intro y60v
              refine simL_nil ?_
              refine nrm_then ?_
              refine sim_region ?_
              refine simL_val (q_move rfl rfl) rfl rfl rfl ?_
              refine simL_val (q_fa rfl rfl Try.underlying62 rfl rfl Try.sizeOf4 rfl) rfl rfl rfl ?_
              refine simL_val (q_load rfl rfl Try.isAgg4 (.obj 2 rfl rfl)) rfl rfl rfl ?_
              refine simL_bind (fun s62v hs64v => ?_)
              refine simL_eff (re_call (vs := [.pointer (some ⟨b21v, 0, none⟩), .bool ((x0.getD s24v.1.toNat ((0 : Int), (0 : Int), (0 : Int), false, ([] : List UInt8))).2.2.2.1)]) (cap := []) (A := [obj b21v 60 [.slice y25v.1 s24v.2.1.length y25v.2.1, .int .i64 s24v.2.2.1], Row 5 1 y25v.1 s24v.2.1.length y25v.2.1 (encB s24v.2.1)]) (rst := [obj y19v.1 80 [.slice y60v.1 s59v.1.length y60v.2, .int .i64 s59v.2], Row 5 1 y60v.1 s59v.1.length y60v.2 (encB s59v.1), obj b48v 62 [.int .i64 ((x0.getD s24v.1.toNat ((0 : Int), (0 : Int), (0 : Int), false, ([] : List UInt8))).1), .int .i64 ((x0.getD s24v.1.toNat ((0 : Int), (0 : Int), (0 : Int), false, ([] : List UInt8))).2.1), .int .i64 ((x0.getD s24v.1.toNat ((0 : Int), (0 : Int), (0 : Int), false, ([] : List UInt8))).2.2.1), .bool ((x0.getD s24v.1.toNat ((0 : Int), (0 : Int), (0 : Int), false, ([] : List UInt8))).2.2.2.1), .slice a43v (((x0.getD s24v.1.toNat ((0 : Int), (0 : Int), (0 : Int), false, ([] : List UInt8))).2.2.2.2).length) c44v], F]) rfl rfl rfl rfl rfl rfl Try.call35 (.sel 3 rfl (.sel 3 rfl (.sel 0 rfl (.sel 0 rfl (.sel 0 rfl (.sel 0 rfl (.nil _))))))) (synodref1_Writer_Bool.calls _ _ k b21v y25v.1 y25v.2.1 s24v.2.1 s24v.2.2.1 ((x0.getD s24v.1.toNat ((0 : Int), (0 : Int), (0 : Int), false, ([] : List UInt8))).2.2.2.1) ) hs64v) rfl rfl rfl ?_
              intro y63v
              refine simL_nil ?_
              refine nrm_block ?_
              refine nrm_block ?_
              exact nrm_cutR (s := (s62v.1, s62v.2, s59v.1, s59v.2)) (y63v.1, y63v.2, y60v.1, y60v.2) ⟨rfl, rfl, rfl, rfl, trivial⟩ (.sel 0 rfl (.sel 1 rfl (.sel 0 rfl (.sel 0 rfl (.sel 1 rfl (.nil _))))))
            · refine sim_seq ?_
              refine sim_region ?_
              refine simL_val (q_eql rfl rfl rfl) rfl rfl rfl ?_
              refine simL_val (q_asg rfl rfl) rfl rfl rfl ?_
              refine simL_nil ?_
              refine nrm_then ?_
              refine sim_cond rfl (fun h65v => ?_) (fun h66v => ?_)
              · refine sim_seq ?_
                refine sim_region ?_
                refine simL_val (q_fa rfl rfl Try.underlying62 rfl rfl Try.sizeOf23 rfl) rfl rfl rfl ?_
                refine simL_val (q_load rfl rfl Try.isAgg23 (.obj 0 rfl rfl)) rfl rfl rfl ?_
                refine simL_bind (fun s67v hs69v => ?_)
                refine simL_eff (re_call (vs := [.slice a43v (((x0.getD s24v.1.toNat ((0 : Int), (0 : Int), (0 : Int), false, ([] : List UInt8))).2.2.2.2).length) c44v]) (cap := []) (A := []) (rst := [obj b48v 62 [.int .i64 ((x0.getD s24v.1.toNat ((0 : Int), (0 : Int), (0 : Int), false, ([] : List UInt8))).1), .int .i64 ((x0.getD s24v.1.toNat ((0 : Int), (0 : Int), (0 : Int), false, ([] : List UInt8))).2.1), .int .i64 ((x0.getD s24v.1.toNat ((0 : Int), (0 : Int), (0 : Int), false, ([] : List UInt8))).2.2.1), .bool ((x0.getD s24v.1.toNat ((0 : Int), (0 : Int), (0 : Int), false, ([] : List UInt8))).2.2.2.1), .slice a43v (((x0.getD s24v.1.toNat ((0 : Int), (0 : Int), (0 : Int), false, ([] : List UInt8))).2.2.2.2).length) c44v], obj b21v 60 [.slice y25v.1 s24v.2.1.length y25v.2.1, .int .i64 s24v.2.2.1], obj y19v.1 80 [.slice y25v.2.2.1 s24v.2.2.2.1.length y25v.2.2.2, .int .i64 s24v.2.2.2.2], Row 5 1 y25v.1 s24v.2.1.length y25v.2.1 (encB s24v.2.1), Row 5 1 y25v.2.2.1 s24v.2.2.2.1.length y25v.2.2.2 (encB s24v.2.2.2.1), F]) rfl rfl rfl rfl rfl rfl Try.call17 (.sel 0 rfl (.sel 0 rfl (.sel 0 rfl (.sel 0 rfl (.sel 0 rfl (.sel 0 rfl (.nil _))))))) (synodref_Lent.calls _ _ a43v c44v ((x0.getD s24v.1.toNat ((0 : Int), (0 : Int), (0 : Int), false, ([] : List UInt8))).2.2.2.2) (he45v.lend 5 rfl) hc46v hm47v) hs69v) rfl rfl rfl ?_
                intro y68v
                refine simL_val (q_asg rfl rfl) rfl rfl rfl ?_
                refine simL_nil ?_
                refine nrm_then ?_
                refine sim_seq ?_
                refine sim_region ?_
                refine simL_val (q_move rfl rfl) rfl rfl rfl ?_
                refine simL_val (q_move rfl rfl) rfl rfl rfl ?_
                refine simL_val (q_fa rfl rfl Try.underlying62 rfl rfl Try.sizeOf3 rfl) rfl rfl rfl ?_
                refine simL_val (q_load rfl rfl Try.isAgg3 (.obj 1 rfl rfl)) rfl rfl rfl ?_
                refine simL_bind (fun s74v hs76v => ?_)
                refine simL_lend 0 rfl (fun hq70v hq71v hq72v hq73v => ?_)
                refine simL_eff (re_call (vs := [.pointer (some ⟨y19v.1, 0, none⟩), .slice y68v.1 s67v.1.length y68v.2, .int .i64 ((x0.getD s24v.1.toNat ((0 : Int), (0 : Int), (0 : Int), false, ([] : List UInt8))).2.2.1)]) (cap := []) (A := [obj y19v.1 80 [.slice y25v.2.2.1 s24v.2.2.2.1.length y25v.2.2.2, .int .i64 s24v.2.2.2.2], Row 5 1 y25v.2.2.1 s24v.2.2.2.1.length y25v.2.2.2 (encB s24v.2.2.2.1)]) (rst := [Row 5 1 y68v.1 s67v.1.length y68v.2 (encB (s67v.1 ++ s67v.2)), obj b48v 62 [.int .i64 ((x0.getD s24v.1.toNat ((0 : Int), (0 : Int), (0 : Int), false, ([] : List UInt8))).1), .int .i64 ((x0.getD s24v.1.toNat ((0 : Int), (0 : Int), (0 : Int), false, ([] : List UInt8))).2.1), .int .i64 ((x0.getD s24v.1.toNat ((0 : Int), (0 : Int), (0 : Int), false, ([] : List UInt8))).2.2.1), .bool ((x0.getD s24v.1.toNat ((0 : Int), (0 : Int), (0 : Int), false, ([] : List UInt8))).2.2.2.1), .slice a43v (((x0.getD s24v.1.toNat ((0 : Int), (0 : Int), (0 : Int), false, ([] : List UInt8))).2.2.2.2).length) c44v], obj b21v 60 [.slice y25v.1 s24v.2.1.length y25v.2.1, .int .i64 s24v.2.2.1], Row 5 1 y25v.1 s24v.2.1.length y25v.2.1 (encB s24v.2.1), F]) rfl rfl rfl rfl rfl rfl Try.call36 (.sel 3 rfl (.sel 4 rfl (.sel 0 rfl (.sel 0 rfl (.sel 0 rfl (.sel 0 rfl (.sel 0 rfl (.nil _)))))))) (wire_Writer_Bytes.calls _ _ k y19v.1 y25v.2.2.1 y25v.2.2.2 s24v.2.2.2.1 s24v.2.2.2.2 y68v.1 y68v.2 s67v.1 ((x0.getD s24v.1.toNat ((0 : Int), (0 : Int), (0 : Int), false, ([] : List UInt8))).2.2.1) ((rd_front hq70v).lend 0 rfl) hq71v hq72v) hs76v) rfl rfl rfl ?_
                intro y75v
                refine simL_nil ?_
                refine nrm_then ?_
                refine sim_seq ?_
                refine sim_region ?_
                refine simL_val (q_move rfl rfl) rfl rfl rfl ?_
                refine simL_val (q_fa rfl rfl Try.underlying62 rfl rfl Try.sizeOf23 rfl) rfl rfl rfl ?_
                refine simL_val (q_load rfl rfl Try.isAgg23 (.obj 3 rfl rfl)) rfl rfl rfl ?_
                refine simL_val (q_fa rfl rfl Try.underlying62 rfl rfl Try.sizeOf3 rfl) rfl rfl rfl ?_
                refine simL_val (q_load rfl rfl Try.isAgg3 (.obj 3 rfl rfl)) rfl rfl rfl ?_
                refine simL_bind (fun s77v hs79v => ?_)
                refine simL_eff (re_call (vs := [.pointer (some ⟨b21v, 0, none⟩), .slice a43v (((x0.getD s24v.1.toNat ((0 : Int), (0 : Int), (0 : Int), false, ([] : List UInt8))).2.2.2.2).length) c44v, .int .i64 ((x0.getD s24v.1.toNat ((0 : Int), (0 : Int), (0 : Int), false, ([] : List UInt8))).2.2.1)]) (cap := []) (A := [obj b21v 60 [.slice y25v.1 s24v.2.1.length y25v.2.1, .int .i64 s24v.2.2.1], Row 5 1 y25v.1 s24v.2.1.length y25v.2.1 (encB s24v.2.1)]) (rst := [obj y19v.1 80 [.slice y75v.1 s74v.1.length y75v.2, .int .i64 s74v.2], Row 5 1 y75v.1 s74v.1.length y75v.2 (encB s74v.1), Row 5 1 y68v.1 s67v.1.length y68v.2 (encB (s67v.1 ++ s67v.2)), obj b48v 62 [.int .i64 ((x0.getD s24v.1.toNat ((0 : Int), (0 : Int), (0 : Int), false, ([] : List UInt8))).1), .int .i64 ((x0.getD s24v.1.toNat ((0 : Int), (0 : Int), (0 : Int), false, ([] : List UInt8))).2.1), .int .i64 ((x0.getD s24v.1.toNat ((0 : Int), (0 : Int), (0 : Int), false, ([] : List UInt8))).2.2.1), .bool ((x0.getD s24v.1.toNat ((0 : Int), (0 : Int), (0 : Int), false, ([] : List UInt8))).2.2.2.1), .slice a43v (((x0.getD s24v.1.toNat ((0 : Int), (0 : Int), (0 : Int), false, ([] : List UInt8))).2.2.2.2).length) c44v], F]) rfl rfl rfl rfl rfl rfl Try.call37 (.sel 4 rfl (.sel 4 rfl (.sel 0 rfl (.sel 0 rfl (.sel 0 rfl (.sel 0 rfl (.sel 0 rfl (.nil _)))))))) (synodref1_Writer_Bytes.calls _ _ k b21v y25v.1 y25v.2.1 s24v.2.1 s24v.2.2.1 a43v c44v ((x0.getD s24v.1.toNat ((0 : Int), (0 : Int), (0 : Int), false, ([] : List UInt8))).2.2.2.2) ((x0.getD s24v.1.toNat ((0 : Int), (0 : Int), (0 : Int), false, ([] : List UInt8))).2.2.1) (he45v.lend 4 rfl) hc46v hm47v) hs79v) rfl rfl rfl ?_
                intro y78v
                refine simL_nil ?_
                refine nrm_then ?_
                refine sim_seq ?_
                refine sim_region ?_
                refine simL_val (q_move rfl rfl) rfl rfl rfl ?_
                refine simL_val (q_fa rfl rfl Try.underlying62 rfl rfl Try.sizeOf23 rfl) rfl rfl rfl ?_
                refine simL_val (q_load rfl rfl Try.isAgg23 (.obj 5 rfl rfl)) rfl rfl rfl ?_
                refine simL_bind (fun s84v hs86v => ?_)
                refine simL_lendt 4 rfl (fun hq80v hq81v hq82v => ?_)
                refine simL_eff (re_call (vs := [.slice y68v.1 s67v.1.length y68v.2, .slice a43v (((x0.getD s24v.1.toNat ((0 : Int), (0 : Int), (0 : Int), false, ([] : List UInt8))).2.2.2.2).length) c44v]) (cap := []) (A := []) (rst := [obj b21v 60 [.slice y78v.1 s77v.1.length y78v.2, .int .i64 s77v.2], Row 5 1 y78v.1 s77v.1.length y78v.2 (encB s77v.1), obj y19v.1 80 [.slice y75v.1 s74v.1.length y75v.2, .int .i64 s74v.2], Row 5 1 y75v.1 s74v.1.length y75v.2 (encB s74v.1), Row 5 1 y68v.1 s67v.1.length y68v.2 (encB (s67v.1 ++ s67v.2)), obj b48v 62 [.int .i64 ((x0.getD s24v.1.toNat ((0 : Int), (0 : Int), (0 : Int), false, ([] : List UInt8))).1), .int .i64 ((x0.getD s24v.1.toNat ((0 : Int), (0 : Int), (0 : Int), false, ([] : List UInt8))).2.1), .int .i64 ((x0.getD s24v.1.toNat ((0 : Int), (0 : Int), (0 : Int), false, ([] : List UInt8))).2.2.1), .bool ((x0.getD s24v.1.toNat ((0 : Int), (0 : Int), (0 : Int), false, ([] : List UInt8))).2.2.2.1), .slice a43v (((x0.getD s24v.1.toNat ((0 : Int), (0 : Int), (0 : Int), false, ([] : List UInt8))).2.2.2.2).length) c44v], F]) rfl rfl rfl rfl rfl rfl Try.call20 (.sel 0 rfl (.sel 0 rfl (.sel 0 rfl (.sel 0 rfl (.sel 0 rfl (.sel 0 rfl (.sel 0 rfl (.nil _)))))))) (synodref_Kept.calls _ _ k y68v.1 y68v.2 s67v.1 s67v.2 a43v c44v ((x0.getD s24v.1.toNat ((0 : Int), (0 : Int), (0 : Int), false, ([] : List UInt8))).2.2.2.2) (hq80v.lend 4 rfl) (by rw [encB_length, Nat.mul_one] at hq81v; exact hq81v) hq82v (he45v.lend 6 rfl) hc46v hm47v) hs86v) rfl rfl rfl ?_
                intro y85v
                refine simL_val (q_asg rfl rfl) rfl rfl rfl ?_
                refine simL_nil ?_
                refine nrm_then ?_
                refine sim_seq ?_
                refine sim_seq ?_
                refine sim_region ?_
                refine simL_val (q_move rfl rfl) rfl rfl rfl ?_
                refine simL_val (q_not rfl rfl) rfl rfl rfl ?_
                refine simL_nil ?_
                refine nrm_then ?_
                refine sim_condb rfl (fun h87v => ?_) (fun h88v => ?_)
                · refine sim_seq ?_
                  refine sim_region ?_
                  refine simL_val (q_asg rfl rfl) rfl rfl rfl ?_
                  refine simL_nil ?_
                  refine nrm_then ?_
                  refine sim_rtn ?_
                  refine rtn_then ?_
                  refine rtn_block ?_
                  refine rtn_block ?_
                  refine rtn_cutR ?_
                  refine rtn_loop ?_
                  refine rtn_block ?_
                  refine rtn_cutR ?_
                  exact rtn_fn () rfl rfl rfl (.sel 6 rfl (.nil _))
                · refine sim_skip ?_
                  refine nrm_then ?_
                  refine sim_seq ?_
                  refine sim_region ?_
                  refine simL_val (q_asg rfl rfl) rfl rfl rfl ?_
                  refine simL_nil ?_
                  refine nrm_then ?_
                  refine sim_block ?_
                  refine sim_loop (S := List UInt8 × Int) (Unit) (fun k s => synodlaw1_WireWrites.l1 s74v s77v k s.1 s.2) (fun s y => [(0, .slice a0 x0.length c0), (5, .pointer (some ⟨y19v.1, 0, none⟩)), (6, .pointer (some ⟨b21v, 0, none⟩)), (7, .int .i64 s24v.1), (9, .slice y68v.1 s.1.length y68v.2), (11, .int .i64 s.2)]) (fun s y => [obj b21v 60 [.slice y78v.1 s77v.1.length y78v.2, .int .i64 s77v.2], obj y19v.1 80 [.slice y75v.1 s74v.1.length y75v.2, .int .i64 s74v.2], Row 5 1 y68v.1 s.1.length y68v.2 (encB (s.1 ++ s67v.2)), Row 5 1 y78v.1 s77v.1.length y78v.2 (encB s77v.1), Row 5 1 y75v.1 s74v.1.length y75v.2 (encB s74v.1), F]) (fun _ => by rw [synodlaw1_WireWrites.l1]) ?_ k (s67v.1, 0) () ⟨rfl, rfl, rfl, rfl, rfl, rfl, trivial⟩ (.sel 0 rfl (.sel 1 rfl (.sel 2 rfl (.sel 0 rfl (.sel 0 rfl (.sel 1 rfl (.nil _)))))))
                  intro k s89v y90v
                  refine sim_eq (by rw [synodlaw1_WireWrites.l1]) ?_
                  refine sim_seq ?_
                  refine sim_seq ?_
                  refine sim_region ?_
                  refine simL_val (q_move rfl rfl) rfl rfl rfl ?_
                  refine simL_val (q_move rfl rfl) rfl rfl rfl ?_
                  refine simL_val (q_len rfl rfl rfl Try.underlying23) rfl rfl rfl ?_
                  refine simL_val (q_lss rfl rfl rfl) rfl rfl rfl ?_
                  refine simL_nil ?_
                  refine nrm_then ?_
                  refine sim_cond rfl (fun h93v => ?_) (fun h94v => ?_)
                  · refine sim_skip ?_
                    refine nrm_then ?_
                    refine sim_seq ?_
                    refine sim_block ?_
                    refine sim_region ?_
                    refine simL_val (q_move rfl rfl) rfl rfl rfl ?_
                    refine simL_val (q_move rfl rfl) rfl rfl rfl ?_
                    refine simL_ask (fun hi95v => ?_)
                    refine simL_row 2 rfl (encB_ne (j := s89v.2.toNat) (by rw [List.length_append]; omega)) (fun b96v b96vo ha97v => ?_)
                    refine simL_val (q_idx1 rfl rfl rfl ha97v Try.underlying23 Try.sizeOf5 hi95v.1 hi95v.2) rfl rfl rfl ?_
                    refine simL_do (re_storebk 0 2 rfl rfl rfl Try.sizeOf5 rfl ha97v hi95v.2 hi95v.1 rfl) rfl rfl ?_
                    intro _
                    refine simL_ren (.slice y68v.1 ((s89v.1.set s89v.2.toNat 0).length) y68v.2) (d := 9) rfl (slc_len (by simp)) ?_
                    refine simL_ren (.slice y68v.1 ((s89v.1.set s89v.2.toNat 0).length) y68v.2) (d := 95) rfl (slc_len (by simp)) ?_
                    refine simL_ren (.slice y68v.1 ((s89v.1.set s89v.2.toNat 0).length) y68v.2) (d := 100) rfl (slc_len (by simp)) ?_
                    refine simL_nil ?_
                    refine nrm_block ?_
                    refine nrm_then ?_
                    refine sim_region ?_
                    refine simL_val (q_move rfl rfl) rfl rfl rfl ?_
                    refine simL_val (q_add rfl rfl rfl) rfl rfl rfl ?_
                    refine simL_val (q_asg rfl rfl) rfl rfl rfl ?_
                    refine simL_nil ?_
                    exact nrm_again (s := (s89v.1.set s89v.2.toNat 0, IntKind.i64.wrap (s89v.2 + 1))) () ⟨rfl, rfl, rfl, rfl, rfl, rfl, trivial⟩ (.sel 0 rfl (.sel 0 rfl (.sel 0 rfl (.sel 0 rfl (.sel 0 rfl (.sel 0 rfl (.nil _)))))))
                  · refine sim_exi ?_
                    refine exi_then ?_
                    refine exi_loop ?_
                    refine exi_here ?_
                    refine nrm_block ?_
                    refine nrm_block ?_
                    exact nrm_cutR (s := (s77v.1, s77v.2, s74v.1, s74v.2)) (y78v.1, y78v.2, y75v.1, y75v.2) ⟨rfl, rfl, rfl, rfl, trivial⟩ (.sel 0 rfl (.sel 0 rfl (.sel 1 rfl (.sel 1 rfl (.sel 1 rfl (.nil _))))))
              · refine sim_seq ?_
                refine sim_region ?_
                refine simL_val (q_eql rfl rfl rfl) rfl rfl rfl ?_
                refine simL_val (q_asg rfl rfl) rfl rfl rfl ?_
                refine simL_nil ?_
                refine nrm_then ?_
                refine sim_cond rfl (fun h100v => ?_) (fun h101v => ?_)
                · refine sim_seq ?_
                  refine sim_region ?_
                  refine simL_val (q_move rfl rfl) rfl rfl rfl ?_
                  refine simL_val (q_fa rfl rfl Try.underlying62 rfl rfl Try.sizeOf23 rfl) rfl rfl rfl ?_
                  refine simL_val (q_load rfl rfl Try.isAgg23 (.obj 0 rfl rfl)) rfl rfl rfl ?_
                  refine simL_val (q_tostr rfl rfl Try.underlying23 Try.underlying5 Try.underlying9 (he45v.rds 5 rfl) rfl) rfl rfl rfl ?_
                  refine simL_val (q_fa rfl rfl Try.underlying62 rfl rfl Try.sizeOf3 rfl) rfl rfl rfl ?_
                  refine simL_val (q_load rfl rfl Try.isAgg3 (.obj 0 rfl rfl)) rfl rfl rfl ?_
                  refine simL_bind (fun s102v hs104v => ?_)
                  refine simL_eff (re_call (vs := [.pointer (some ⟨y19v.1, 0, none⟩), str ((x0.getD s24v.1.toNat ((0 : Int), (0 : Int), (0 : Int), false, ([] : List UInt8))).2.2.2.2), .int .i64 ((x0.getD s24v.1.toNat ((0 : Int), (0 : Int), (0 : Int), false, ([] : List UInt8))).2.2.1)]) (cap := []) (A := [obj y19v.1 80 [.slice y25v.2.2.1 s24v.2.2.2.1.length y25v.2.2.2, .int .i64 s24v.2.2.2.2], Row 5 1 y25v.2.2.1 s24v.2.2.2.1.length y25v.2.2.2 (encB s24v.2.2.2.1)]) (rst := [obj b48v 62 [.int .i64 ((x0.getD s24v.1.toNat ((0 : Int), (0 : Int), (0 : Int), false, ([] : List UInt8))).1), .int .i64 ((x0.getD s24v.1.toNat ((0 : Int), (0 : Int), (0 : Int), false, ([] : List UInt8))).2.1), .int .i64 ((x0.getD s24v.1.toNat ((0 : Int), (0 : Int), (0 : Int), false, ([] : List UInt8))).2.2.1), .bool ((x0.getD s24v.1.toNat ((0 : Int), (0 : Int), (0 : Int), false, ([] : List UInt8))).2.2.2.1), .slice a43v (((x0.getD s24v.1.toNat ((0 : Int), (0 : Int), (0 : Int), false, ([] : List UInt8))).2.2.2.2).length) c44v], obj b21v 60 [.slice y25v.1 s24v.2.1.length y25v.2.1, .int .i64 s24v.2.2.1], Row 5 1 y25v.1 s24v.2.1.length y25v.2.1 (encB s24v.2.1), F]) rfl rfl rfl rfl rfl rfl Try.call38 (.sel 2 rfl (.sel 3 rfl (.sel 0 rfl (.sel 0 rfl (.sel 0 rfl (.sel 0 rfl (.nil _))))))) (wire_Writer_Text.calls _ _ k y19v.1 y25v.2.2.1 y25v.2.2.2 s24v.2.2.2.1 s24v.2.2.2.2 ((x0.getD s24v.1.toNat ((0 : Int), (0 : Int), (0 : Int), false, ([] : List UInt8))).2.2.2.2) ((x0.getD s24v.1.toNat ((0 : Int), (0 : Int), (0 : Int), false, ([] : List UInt8))).2.2.1) ) hs104v) rfl rfl rfl ?_
                  intro y103v
                  refine simL_nil ?_
                  refine nrm_then ?_
                  refine sim_region ?_
                  refine simL_val (q_move rfl rfl) rfl rfl rfl ?_
                  refine simL_val (q_fa rfl rfl Try.underlying62 rfl rfl Try.sizeOf23 rfl) rfl rfl rfl ?_
                  refine simL_val (q_load rfl rfl Try.isAgg23 (.obj 2 rfl rfl)) rfl rfl rfl ?_
                  refine simL_val (q_tostr rfl rfl Try.underlying23 Try.underlying5 Try.underlying9 (he45v.rds 5 rfl) rfl) rfl rfl rfl ?_
                  refine simL_val (q_fa rfl rfl Try.underlying62 rfl rfl Try.sizeOf3 rfl) rfl rfl rfl ?_
                  refine simL_val (q_load rfl rfl Try.isAgg3 (.obj 2 rfl rfl)) rfl rfl rfl ?_
                  refine simL_bind (fun s105v hs107v => ?_)
                  refine simL_eff (re_call (vs := [.pointer (some ⟨b21v, 0, none⟩), str ((x0.getD s24v.1.toNat ((0 : Int), (0 : Int), (0 : Int), false, ([] : List UInt8))).2.2.2.2), .int .i64 ((x0.getD s24v.1.toNat ((0 : Int), (0 : Int), (0 : Int), false, ([] : List UInt8))).2.2.1)]) (cap := []) (A := [obj b21v 60 [.slice y25v.1 s24v.2.1.length y25v.2.1, .int .i64 s24v.2.2.1], Row 5 1 y25v.1 s24v.2.1.length y25v.2.1 (encB s24v.2.1)]) (rst := [obj y19v.1 80 [.slice y103v.1 s102v.1.length y103v.2, .int .i64 s102v.2], Row 5 1 y103v.1 s102v.1.length y103v.2 (encB s102v.1), obj b48v 62 [.int .i64 ((x0.getD s24v.1.toNat ((0 : Int), (0 : Int), (0 : Int), false, ([] : List UInt8))).1), .int .i64 ((x0.getD s24v.1.toNat ((0 : Int), (0 : Int), (0 : Int), false, ([] : List UInt8))).2.1), .int .i64 ((x0.getD s24v.1.toNat ((0 : Int), (0 : Int), (0 : Int), false, ([] : List UInt8))).2.2.1), .bool ((x0.getD s24v.1.toNat ((0 : Int), (0 : Int), (0 : Int), false, ([] : List UInt8))).2.2.2.1), .slice a43v (((x0.getD s24v.1.toNat ((0 : Int), (0 : Int), (0 : Int), false, ([] : List UInt8))).2.2.2.2).length) c44v], F]) rfl rfl rfl rfl rfl rfl Try.call39 (.sel 3 rfl (.sel 3 rfl (.sel 0 rfl (.sel 0 rfl (.sel 0 rfl (.sel 0 rfl (.nil _))))))) (synodref1_Writer_Text.calls _ _ k b21v y25v.1 y25v.2.1 s24v.2.1 s24v.2.2.1 ((x0.getD s24v.1.toNat ((0 : Int), (0 : Int), (0 : Int), false, ([] : List UInt8))).2.2.2.2) ((x0.getD s24v.1.toNat ((0 : Int), (0 : Int), (0 : Int), false, ([] : List UInt8))).2.2.1) ) hs107v) rfl rfl rfl ?_
                  intro y106v
                  refine simL_nil ?_
                  refine nrm_block ?_
                  refine nrm_block ?_
                  exact nrm_cutR (s := (s105v.1, s105v.2, s102v.1, s102v.2)) (y106v.1, y106v.2, y103v.1, y103v.2) ⟨rfl, rfl, rfl, rfl, trivial⟩ (.sel 0 rfl (.sel 1 rfl (.sel 0 rfl (.sel 0 rfl (.sel 1 rfl (.nil _))))))
                · refine sim_seq ?_
                  refine sim_region ?_
                  refine simL_val (q_move rfl rfl) rfl rfl rfl ?_
                  refine simL_val (q_move rfl rfl) rfl rfl rfl ?_
                  refine simL_bind (fun s116v hs118v => ?_)
                  refine simL_lend 4 rfl (fun hq108v hq109v hq110v hq111v => ?_)
                  refine simL_lend 3 rfl (fun hq112v hq113v hq114v hq115v => ?_)
                  refine simL_eff (re_call (vs := [.pointer (some ⟨y19v.1, 0, none⟩), .pointer (some ⟨b21v, 0, none⟩)]) (cap := []) (A := [obj y19v.1 80 [.slice y25v.2.2.1 s24v.2.2.2.1.length y25v.2.2.2, .int .i64 s24v.2.2.2.2], obj b21v 60 [.slice y25v.1 s24v.2.1.length y25v.2.1, .int .i64 s24v.2.2.1]]) (rst := [obj b48v 62 [.int .i64 ((x0.getD s24v.1.toNat ((0 : Int), (0 : Int), (0 : Int), false, ([] : List UInt8))).1), .int .i64 ((x0.getD s24v.1.toNat ((0 : Int), (0 : Int), (0 : Int), false, ([] : List UInt8))).2.1), .int .i64 ((x0.getD s24v.1.toNat ((0 : Int), (0 : Int), (0 : Int), false, ([] : List UInt8))).2.2.1), .bool ((x0.getD s24v.1.toNat ((0 : Int), (0 : Int), (0 : Int), false, ([] : List UInt8))).2.2.2.1), .slice a43v (((x0.getD s24v.1.toNat ((0 : Int), (0 : Int), (0 : Int), false, ([] : List UInt8))).2.2.2.2).length) c44v], Row 5 1 y25v.1 s24v.2.1.length y25v.2.1 (encB s24v.2.1), Row 5 1 y25v.2.2.1 s24v.2.2.2.1.length y25v.2.2.2 (encB s24v.2.2.2.1), F]) rfl rfl rfl rfl rfl rfl Try.call40 (.sel 2 rfl (.sel 1 rfl (.sel 0 rfl (.sel 0 rfl (.sel 0 rfl (.sel 0 rfl (.nil _))))))) (synodlaw1_done.calls _ _ k y19v.1 y25v.2.2.1 y25v.2.2.2 s24v.2.2.2.1 s24v.2.2.2.2 b21v y25v.1 y25v.2.1 s24v.2.1 s24v.2.2.1 (hq108v.lend 2 rfl) hq109v hq110v (hq112v.lend 1 rfl) hq113v hq114v) hs118v) rfl rfl rfl ?_
                  intro y117v
                  refine simL_val (q_asg rfl rfl) rfl rfl rfl ?_
                  refine simL_nil ?_
                  refine nrm_then ?_
                  refine sim_seq ?_
                  refine sim_region ?_
                  refine simL_val (q_move rfl rfl) rfl rfl rfl ?_
                  refine simL_val (q_not rfl rfl) rfl rfl rfl ?_
                  refine simL_nil ?_
                  refine nrm_then ?_
                  refine sim_condb rfl (fun h119v => ?_) (fun h120v => ?_)
                  · refine sim_seq ?_
                    refine sim_region ?_
                    refine simL_val (q_asg rfl rfl) rfl rfl rfl ?_
                    refine simL_nil ?_
                    refine nrm_then ?_
                    refine sim_rtn ?_
                    refine rtn_block ?_
                    refine rtn_block ?_
                    refine rtn_cutR ?_
                    refine rtn_loop ?_
                    refine rtn_block ?_
                    refine rtn_cutR ?_
                    exact rtn_fn () rfl rfl rfl (.sel 5 rfl (.nil _))
                  · refine sim_skip ?_
                    refine nrm_block ?_
                    refine nrm_block ?_
                    exact nrm_cutR (s := (s24v.2.1, s24v.2.2.1, s24v.2.2.2.1, s24v.2.2.2.2)) (y25v.1, y25v.2.1, y25v.2.2.1, y25v.2.2.2) ⟨rfl, rfl, rfl, rfl, trivial⟩ (.sel 1 rfl (.sel 0 rfl (.sel 1 rfl (.sel 1 rfl (.sel 1 rfl (.nil _))))))
        · intro s33v y34v
          refine sim_region ?_
          refine simL_val (q_move rfl rfl) rfl rfl rfl ?_
          refine simL_val (q_add rfl rfl rfl) rfl rfl rfl ?_
          refine simL_val (q_asg rfl rfl) rfl rfl rfl ?_
          refine simL_nil ?_
          exact nrm_again (s := (IntKind.i64.wrap (s24v.1 + 1), s33v.1, s33v.2.1, s33v.2.2.1, s33v.2.2.2)) (y34v.1, y34v.2.1, y34v.2.2.1, y34v.2.2.2) ⟨rfl, rfl, rfl, rfl, trivial⟩ (.sel 0 rfl (.sel 0 rfl (.sel 0 rfl (.sel 0 rfl (.sel 0 rfl (.nil _))))))
      · refine sim_exi ?_
        refine exi_then ?_
        refine exi_loop ?_
        refine exi_here ?_
        exact nrm_cutR (s := (s24v.2.1, s24v.2.2.1, s24v.2.2.2.1, s24v.2.2.2.2)) (y25v.1, y25v.2.1, y25v.2.2.1, y25v.2.2.2) ⟨rfl, rfl, trivial⟩ (.sel 0 rfl (.sel 0 rfl (.sel 0 rfl (.sel 0 rfl (.sel 0 rfl (.nil _))))))
    · intro s22v y23v
      refine sim_seq ?_
      refine sim_region ?_
      refine simL_val (q_move rfl rfl) rfl rfl rfl ?_
      refine simL_val (q_move rfl rfl) rfl rfl rfl ?_
      refine simL_bind (fun s129v hs131v => ?_)
      refine simL_lend 3 rfl (fun hq121v hq122v hq123v hq124v => ?_)
      refine simL_lend 2 rfl (fun hq125v hq126v hq127v hq128v => ?_)
      refine simL_eff (re_call (vs := [.pointer (some ⟨y19v.1, 0, none⟩), .pointer (some ⟨b21v, 0, none⟩)]) (cap := []) (A := [obj y19v.1 80 [.slice y23v.2.2.1 s22v.2.2.1.length y23v.2.2.2, .int .i64 s22v.2.2.2], obj b21v 60 [.slice y23v.1 s22v.1.length y23v.2.1, .int .i64 s22v.2.1]]) (rst := [Row 5 1 y23v.1 s22v.1.length y23v.2.1 (encB s22v.1), Row 5 1 y23v.2.2.1 s22v.2.2.1.length y23v.2.2.2 (encB s22v.2.2.1), F]) rfl rfl rfl rfl rfl rfl Try.call40 (.sel 1 rfl (.sel 0 rfl (.sel 0 rfl (.sel 0 rfl (.sel 0 rfl (.nil _)))))) (synodlaw1_done.calls _ _ k y19v.1 y23v.2.2.1 y23v.2.2.2 s22v.2.2.1 s22v.2.2.2 b21v y23v.1 y23v.2.1 s22v.1 s22v.2.1 (hq121v.lend 1 rfl) hq122v hq123v (hq125v.lend 0 rfl) hq126v hq127v) hs131v) rfl rfl rfl ?_
      intro y130v
      refine simL_val (q_asg rfl rfl) rfl rfl rfl ?_
      refine simL_nil ?_
      refine nrm_then ?_
      refine sim_seq ?_
      refine sim_region ?_
      refine simL_val (q_move rfl rfl) rfl rfl rfl ?_
      refine simL_val (q_move rfl rfl) rfl rfl rfl ?_
      refine simL_cut' 4 (S := Bool) (Unit) (fun s y => [(127, .bool s)]) (fun s y => [F]) ?_ ?_
      · refine simL_caseb (fun hb145v => ?_) (fun hb146v => ?_)
        · rw [hb145v]
          refine simL_valg (q_move rfl rfl) rfl rfl rfl rfl rfl rfl ?_
          refine simL_valg (q_move rfl rfl) rfl rfl rfl rfl rfl rfl ?_
          refine simL_bind (fun s142v hs144v => ?_)
          refine simL_lend 3 rfl (fun hq134v hq135v hq136v hq137v => ?_)
          refine simL_lend 2 rfl (fun hq138v hq139v hq140v hq141v => ?_)
          refine simL_effg (re_call (vs := [.pointer (some ⟨y19v.1, 0, none⟩), .pointer (some ⟨b21v, 0, none⟩)]) (cap := []) (A := [obj y19v.1 80 [.slice y23v.2.2.1 s22v.2.2.1.length y23v.2.2.2, .int .i64 s22v.2.2.2], obj b21v 60 [.slice y23v.1 s22v.1.length y23v.2.1, .int .i64 s22v.2.1]]) (rst := [Row 5 1 y23v.1 s22v.1.length y23v.2.1 (encB s22v.1), Row 5 1 y23v.2.2.1 s22v.2.2.1.length y23v.2.2.2 (encB s22v.2.2.1), F]) rfl rfl rfl rfl rfl rfl Try.call40 (.sel 0 rfl (.sel 0 rfl (.sel 0 rfl (.sel 0 rfl (.sel 0 rfl (.nil _)))))) (synodlaw1_done.calls _ _ k y19v.1 y23v.2.2.1 y23v.2.2.2 s22v.2.2.1 s22v.2.2.2 b21v y23v.1 y23v.2.1 s22v.1 s22v.2.1 (hq134v.lend 1 rfl) hq135v hq136v (hq138v.lend 0 rfl) hq139v hq140v) hs144v) rfl rfl rfl rfl rfl rfl ?_
          intro y143v
          refine simL_val (q_pick rfl rfl rfl rfl rfl) rfl rfl rfl ?_
          refine simL_nil ?_
          exact nrm_cut (s := s142v) () ⟨rfl, trivial⟩ (.sel 4 rfl (.nil _))
        · rw [hb146v]
          refine simL_skipd rfl rfl rfl rfl rfl rfl ?_
          refine simL_skipd rfl rfl rfl rfl rfl rfl ?_
          refine simL_skipd rfl rfl rfl rfl rfl rfl ?_
          refine simL_val (q_pick rfl rfl rfl rfl rfl) rfl rfl rfl ?_
          refine simL_nil ?_
          exact nrm_cut (s := false) () ⟨rfl, trivial⟩ (.sel 4 rfl (.nil _))
      · intro s132v y133v
        refine simL_val (q_asg rfl rfl) rfl rfl rfl ?_
        refine simL_nil ?_
        refine nrm_then ?_
        refine sim_rtn ?_
        exact rtn_fn () rfl rfl rfl (.sel 0 rfl (.nil _))

def synodlaw1_tell.f (k : Nat) (x0_0 : List UInt8) (x0_1 : Int) (x1_0 : Int) (x1_1 : Int) (x1_2 : Int) (x1_3 : Bool) (x1_4 : List UInt8) : Option (List UInt8 × Int) := if x1_0 = (0 : Int) then ((wire_Writer_Int.f k x0_0 x0_1 x1_1).bind fun s4v => (some (s4v.1, s4v.2))) else (if x1_0 = (1 : Int) then ((wire_Writer_Bool.f k x0_0 x0_1 x1_3).bind fun s9v => (some (s9v.1, s9v.2))) else (if x1_0 = (2 : Int) then ((wire_Writer_Bytes.f k x0_0 x0_1 x1_4 x1_2).bind fun s14v => (some (s14v.1, s14v.2))) else (if x1_0 = (3 : Int) then ((wire_Writer_Text.f k x0_0 x0_1 x1_4 x1_2).bind fun s19v => (some (s19v.1, s19v.2))) else (some (x0_0, x0_1)))))
theorem synodlaw1_tell.calls (W : World) (F : HA) (k : Nat) (b0 : Nat) (a0_0 : Option Addr) (c0_0 : Nat) (x0_0 : List UInt8) (x0_1 : Int) (x1_0 : Int) (x1_1 : Int) (x1_2 : Int) (x1_3 : Bool) (a1_4 : Option Addr) (c1_4 : Nat) (x1_4 : List UInt8) (h1_4 : Rd F a1_4 (encB x1_4)) (hc1_4 : x1_4.length ≤ c1_4) (hm1_4 : c1_4 ≤ maxLen) :
    Fn Try.prog W 41 [.pointer (some ⟨b0, 0, none⟩), .agg #[.int .i64 x1_0, .int .i64 x1_1, .int .i64 x1_2, .bool x1_3, .slice a1_4 x1_4.length c1_4]] [obj b0 80 [.slice a0_0 x0_0.length c0_0, .int .i64 x0_1], Row 5 1 a0_0 x0_0.length c0_0 (encB x0_0)] F (synodlaw1_tell.f k x0_0 x0_1 x1_0 x1_1 x1_2 x1_3 x1_4) (fun (r : List UInt8 × Int) (y : Option Addr × Nat) => .tuple #[]) (fun r y => [obj b0 80 [.slice y.1 r.1.length y.2, .int .i64 r.2], Row 5 1 y.1 r.1.length y.2 (encB r.1)]) := by
  unfold synodlaw1_tell.f
  refine fn_intro 35 Try.func41 rfl Try.ntmps41 rfl ?_
  refine sim_seq ?_
  refine sim_region ?_
  refine simL_eff (re_box rfl rfl rfl) rfl rfl rfl ?_
  intro b1v
  refine simL_nil ?_
  refine nrm_then ?_
  refine sim_seq ?_
  refine sim_region ?_
  refine simL_val (q_fa rfl rfl Try.underlying62 rfl rfl Try.sizeOf3 rfl) rfl rfl rfl ?_
  refine simL_val (q_load rfl rfl Try.isAgg3 (.obj 0 rfl rfl)) rfl rfl rfl ?_
  refine simL_nil ?_
  refine nrm_then ?_
  refine sim_block ?_
  refine sim_seq ?_
  refine sim_region ?_
  refine simL_val (q_eql rfl rfl rfl) rfl rfl rfl ?_
  refine simL_val (q_asg rfl rfl) rfl rfl rfl ?_
  refine simL_nil ?_
  refine nrm_then ?_
  refine sim_cond rfl (fun h2v => ?_) (fun h3v => ?_)
  · refine sim_region ?_
    refine simL_val (q_move rfl rfl) rfl rfl rfl ?_
    refine simL_val (q_fa rfl rfl Try.underlying62 rfl rfl Try.sizeOf3 rfl) rfl rfl rfl ?_
    refine simL_val (q_load rfl rfl Try.isAgg3 (.obj 0 rfl rfl)) rfl rfl rfl ?_
    refine simL_bind (fun s4v hs6v => ?_)
    refine simL_eff (re_call (vs := [.pointer (some ⟨b0, 0, none⟩), .int .i64 x1_1]) (cap := []) (A := [obj b0 80 [.slice a0_0 x0_0.length c0_0, .int .i64 x0_1], Row 5 1 a0_0 x0_0.length c0_0 (encB x0_0)]) (rst := [obj b1v 62 [.int .i64 x1_0, .int .i64 x1_1, .int .i64 x1_2, .bool x1_3, .slice a1_4 x1_4.length c1_4], F]) rfl rfl rfl rfl rfl rfl Try.call32 (.sel 1 rfl (.sel 1 rfl (.sel 0 rfl (.sel 0 rfl (.nil _))))) (wire_Writer_Int.calls _ _ k b0 a0_0 c0_0 x0_0 x0_1 x1_1 ) hs6v) rfl rfl rfl ?_
    intro y5v
    refine simL_nil ?_
    refine nrm_block ?_
    exact nrm_fn (y5v.1, y5v.2) rfl rfl rfl (.sel 0 rfl (.sel 0 rfl (.sel 1 rfl (.nil _))))
  · refine sim_seq ?_
    refine sim_region ?_
    refine simL_val (q_eql rfl rfl rfl) rfl rfl rfl ?_
    refine simL_val (q_asg rfl rfl) rfl rfl rfl ?_
    refine simL_nil ?_
    refine nrm_then ?_
    refine sim_cond rfl (fun h7v => ?_) (fun h8v => ?_)
    · refine sim_region ?_
      refine simL_val (q_move rfl rfl) rfl rfl rfl ?_
      refine simL_val (q_fa rfl rfl Try.underlying62 rfl rfl Try.sizeOf4 rfl) rfl rfl rfl ?_
      refine simL_val (q_load rfl rfl Try.isAgg4 (.obj 0 rfl rfl)) rfl rfl rfl ?_
      refine simL_bind (fun s9v hs11v => ?_)
      refine simL_eff (re_call (vs := [.pointer (some ⟨b0, 0, none⟩), .bool x1_3]) (cap := []) (A := [obj b0 80 [.slice a0_0 x0_0.length c0_0, .int .i64 x0_1], Row 5 1 a0_0 x0_0.length c0_0 (encB x0_0)]) (rst := [obj b1v 62 [.int .i64 x1_0, .int .i64 x1_1, .int .i64 x1_2, .bool x1_3, .slice a1_4 x1_4.length c1_4], F]) rfl rfl rfl rfl rfl rfl Try.call34 (.sel 1 rfl (.sel 1 rfl (.sel 0 rfl (.sel 0 rfl (.nil _))))) (wire_Writer_Bool.calls _ _ k b0 a0_0 c0_0 x0_0 x0_1 x1_3 ) hs11v) rfl rfl rfl ?_
      intro y10v
      refine simL_nil ?_
      refine nrm_block ?_
      exact nrm_fn (y10v.1, y10v.2) rfl rfl rfl (.sel 0 rfl (.sel 0 rfl (.sel 1 rfl (.nil _))))
    · refine sim_seq ?_
      refine sim_region ?_
      refine simL_val (q_eql rfl rfl rfl) rfl rfl rfl ?_
      refine simL_val (q_asg rfl rfl) rfl rfl rfl ?_
      refine simL_nil ?_
      refine nrm_then ?_
      refine sim_cond rfl (fun h12v => ?_) (fun h13v => ?_)
      · refine sim_region ?_
        refine simL_val (q_move rfl rfl) rfl rfl rfl ?_
        refine simL_val (q_fa rfl rfl Try.underlying62 rfl rfl Try.sizeOf23 rfl) rfl rfl rfl ?_
        refine simL_val (q_load rfl rfl Try.isAgg23 (.obj 0 rfl rfl)) rfl rfl rfl ?_
        refine simL_val (q_fa rfl rfl Try.underlying62 rfl rfl Try.sizeOf3 rfl) rfl rfl rfl ?_
        refine simL_val (q_load rfl rfl Try.isAgg3 (.obj 0 rfl rfl)) rfl rfl rfl ?_
        refine simL_bind (fun s14v hs16v => ?_)
        refine simL_eff (re_call (vs := [.pointer (some ⟨b0, 0, none⟩), .slice a1_4 x1_4.length c1_4, .int .i64 x1_2]) (cap := []) (A := [obj b0 80 [.slice a0_0 x0_0.length c0_0, .int .i64 x0_1], Row 5 1 a0_0 x0_0.length c0_0 (encB x0_0)]) (rst := [obj b1v 62 [.int .i64 x1_0, .int .i64 x1_1, .int .i64 x1_2, .bool x1_3, .slice a1_4 x1_4.length c1_4], F]) rfl rfl rfl rfl rfl rfl Try.call36 (.sel 1 rfl (.sel 1 rfl (.sel 0 rfl (.sel 0 rfl (.nil _))))) (wire_Writer_Bytes.calls _ _ k b0 a0_0 c0_0 x0_0 x0_1 a1_4 c1_4 x1_4 x1_2 (h1_4.lend 1 rfl) hc1_4 hm1_4) hs16v) rfl rfl rfl ?_
        intro y15v
        refine simL_nil ?_
        refine nrm_block ?_
        exact nrm_fn (y15v.1, y15v.2) rfl rfl rfl (.sel 0 rfl (.sel 0 rfl (.sel 1 rfl (.nil _))))
      · refine sim_seq ?_
        refine sim_region ?_
        refine simL_val (q_eql rfl rfl rfl) rfl rfl rfl ?_
        refine simL_val (q_asg rfl rfl) rfl rfl rfl ?_
        refine simL_nil ?_
        refine nrm_then ?_
        refine sim_cond rfl (fun h17v => ?_) (fun h18v => ?_)
        · refine sim_region ?_
          refine simL_val (q_move rfl rfl) rfl rfl rfl ?_
          refine simL_val (q_fa rfl rfl Try.underlying62 rfl rfl Try.sizeOf23 rfl) rfl rfl rfl ?_
          refine simL_val (q_load rfl rfl Try.isAgg23 (.obj 0 rfl rfl)) rfl rfl rfl ?_
          refine simL_val (q_tostr rfl rfl Try.underlying23 Try.underlying5 Try.underlying9 (h1_4.rds 3 rfl) rfl) rfl rfl rfl ?_
          refine simL_val (q_fa rfl rfl Try.underlying62 rfl rfl Try.sizeOf3 rfl) rfl rfl rfl ?_
          refine simL_val (q_load rfl rfl Try.isAgg3 (.obj 0 rfl rfl)) rfl rfl rfl ?_
          refine simL_bind (fun s19v hs21v => ?_)
          refine simL_eff (re_call (vs := [.pointer (some ⟨b0, 0, none⟩), str x1_4, .int .i64 x1_2]) (cap := []) (A := [obj b0 80 [.slice a0_0 x0_0.length c0_0, .int .i64 x0_1], Row 5 1 a0_0 x0_0.length c0_0 (encB x0_0)]) (rst := [obj b1v 62 [.int .i64 x1_0, .int .i64 x1_1, .int .i64 x1_2, .bool x1_3, .slice a1_4 x1_4.length c1_4], F]) rfl rfl rfl rfl rfl rfl Try.call38 (.sel 1 rfl (.sel 1 rfl (.sel 0 rfl (.sel 0 rfl (.nil _))))) (wire_Writer_Text.calls _ _ k b0 a0_0 c0_0 x0_0 x0_1 x1_4 x1_2 ) hs21v) rfl rfl rfl ?_
          intro y20v
          refine simL_nil ?_
          refine nrm_block ?_
          exact nrm_fn (y20v.1, y20v.2) rfl rfl rfl (.sel 0 rfl (.sel 0 rfl (.sel 1 rfl (.nil _))))
        · refine sim_skip ?_
          refine nrm_block ?_
          exact nrm_fn (a0_0, c0_0) rfl rfl rfl (.sel 1 rfl (.sel 1 rfl (.sel 1 rfl (.nil _))))

def synodlaw1_WireBack.l1 (x0 : List (Int × Int × Int × Bool × List UInt8)) (s62v : List UInt8 × Int × Int) : Nat → Int → List UInt8 → Int → Int → Int → Option ((List UInt8 × Int × Int × Int) ⊕ (Bool))
  | 0, _, _, _, _, _ => none
  | k + 1, z72v, z73v, z74v, z75v, z76v => if z72v < (x0.length : Int) then (if 0 ≤ z72v ∧ z72v < (x0.length : Int) then (if (x0.getD z72v.toNat ((0 : Int), (0 : Int), (0 : Int), false, ([] : List UInt8))).1 = (0 : Int) then ((wire_Reader_Int.f k s62v.1 z75v z76v).bind fun s99v => ((wire_Writer_Int.f k z73v z74v s99v.1).bind fun s102v => (if s99v.1 = (x0.getD z72v.toNat ((0 : Int), (0 : Int), (0 : Int), false, ([] : List UInt8))).2.1 then (synodlaw1_WireBack.l1 x0 s62v k (IntKind.i64.wrap (z72v + 1)) s102v.1 s102v.2 s99v.2.1 s99v.2.2) else (some (.inr false))))) else (if (x0.getD z72v.toNat ((0 : Int), (0 : Int), (0 : Int), false, ([] : List UInt8))).1 = (1 : Int) then ((wire_Reader_Bool.f k s62v.1 z75v z76v).bind fun s113v => ((wire_Writer_Bool.f k z73v z74v s113v.1).bind fun s116v => (if (!(s113v.1 == ((x0.getD z72v.toNat ((0 : Int), (0 : Int), (0 : Int), false, ([] : List UInt8))).2.2.2.1))) = true then (some (.inr false)) else (synodlaw1_WireBack.l1 x0 s62v k (IntKind.i64.wrap (z72v + 1)) s116v.1 s116v.2 s113v.2.1 s113v.2.2)))) else (if (x0.getD z72v.toNat ((0 : Int), (0 : Int), (0 : Int), false, ([] : List UInt8))).1 = (2 : Int) then ((wire_Reader_Bytes.f k s62v.1 z75v z76v ((x0.getD z72v.toNat ((0 : Int), (0 : Int), (0 : Int), false, ([] : List UInt8))).2.2.1)).bind fun s127v => ((wire_Writer_Bytes.f k z73v z74v s127v.1 (s127v.1.length : Int)).bind fun s134v => ((synodref_SameBytes.f k s127v.1 ((x0.getD z72v.toNat ((0 : Int), (0 : Int), (0 : Int), false, ([] : List UInt8))).2.2.2.2)).bind fun s141v => (if (!s141v) = true then (some (.inr false)) else (synodlaw1_WireBack.l1 x0 s62v k (IntKind.i64.wrap (z72v + 1)) s134v.1 s134v.2 s127v.2.1 s127v.2.2))))) else (if (x0.getD z72v.toNat ((0 : Int), (0 : Int), (0 : Int), false, ([] : List UInt8))).1 = (3 : Int) then ((wire_Reader_Text.f k s62v.1 z75v z76v ((x0.getD z72v.toNat ((0 : Int), (0 : Int), (0 : Int), false, ([] : List UInt8))).2.2.1)).bind fun s152v => ((wire_Writer_Text.f k z73v z74v s152v.1 (s152v.1.length : Int)).bind fun s155v => (if s152v.1 = ((x0.getD z72v.toNat ((0 : Int), (0 : Int), (0 : Int), false, ([] : List UInt8))).2.2.2.2) then (synodlaw1_WireBack.l1 x0 s62v k (IntKind.i64.wrap (z72v + 1)) s155v.1 s155v.2 s152v.2.1 s152v.2.2) else (some (.inr false))))) else (synodlaw1_WireBack.l1 x0 s62v k (IntKind.i64.wrap (z72v + 1)) z73v z74v z75v z76v))))) else none) else (some (.inl (z73v, z74v, z75v, z76v)))
def synodlaw1_WireBack.l0 (x0 : List (Int × Int × Int × Bool × List UInt8)) : Nat → Int → List UInt8 → Int → Option (List UInt8 × Int)
  | 0, _, _, _ => none
  | k + 1, z25v, z26v, z27v => if z25v < (x0.length : Int) then (if 0 ≤ z25v ∧ z25v < (x0.length : Int) then ((synodlaw1_tell.f k z26v z27v ((x0.getD z25v.toNat ((0 : Int), (0 : Int), (0 : Int), false, ([] : List UInt8))).1) ((x0.getD z25v.toNat ((0 : Int), (0 : Int), (0 : Int), false, ([] : List UInt8))).2.1) ((x0.getD z25v.toNat ((0 : Int), (0 : Int), (0 : Int), false, ([] : List UInt8))).2.2.1) ((x0.getD z25v.toNat ((0 : Int), (0 : Int), (0 : Int), false, ([] : List UInt8))).2.2.2.1) ((x0.getD z25v.toNat ((0 : Int), (0 : Int), (0 : Int), false, ([] : List UInt8))).2.2.2.2)).bind fun s43v => (synodlaw1_WireBack.l0 x0 k (IntKind.i64.wrap (z25v + 1)) s43v.1 s43v.2)) else none) else (some (z26v, z27v))
def synodlaw1_WireBack.f (k : Nat) (x0 : List (Int × Int × Int × Bool × List UInt8)) : Option (Bool) := (synodlaw1_first.f k).bind fun s1v => ((synodlaw1_parts.f k x0).bind fun s4v => ((synodref_Few.f k s4v (20000 : Int)).bind fun s13v => (if (((!s1v) || (decide ((300 : Int) < (x0.length : Int)))) || (!s13v)) = true then (some s1v) else ((wire_NewWriter.f).bind fun s18v => ((synodlaw1_WireBack.l0 x0 k 0 s18v.1 s18v.2).bind fun s21v => ((wire_Writer_Done.f s21v.1 s21v.2).bind fun s50v => ((synodref_Num.f s50v.2).bind fun s53v => (if s53v = (0 : Int) then ((wire_NewReader.f s50v.1).bind fun s62v => ((wire_NewWriter.f).bind fun s65v => (orR (synodlaw1_WireBack.l1 x0 s62v k 0 s65v.1 s65v.2 s62v.2.1 s62v.2.2) fun s68v => ((wire_Writer_Done.f s68v.1 s68v.2.1).bind fun s164v => ((synodref_SameBytes.f k s50v.1 s164v.1).bind fun s175v => ((if s175v = true then ((synodref_Num.f s164v.2).bind fun s180v => (some (decide (s180v = (0 : Int))))) else (some false)).bind fun s178v => ((if s178v = true then ((wire_Reader_Done.f s62v.1 s68v.2.2.1 s68v.2.2.2).bind fun s191v => ((synodref_Num.f s191v).bind fun s194v => (some (decide (s194v = (0 : Int)))))) else (some false)).bind fun s185v => ((if s185v = true then ((wire_Reader_Left.f s62v.1 s68v.2.2.1 s68v.2.2.2).bind fun s205v => (some (decide (s205v = (0 : Int))))) else (some false)).bind fun s199v => (some s199v))))))))) else (some (decide ((s50v.1.length : Int) = (0 : Int))))))))))))
theorem synodlaw1_WireBack.calls (W : World) (F : HA) (k : Nat) (a0 : Option Addr) (c0 : Nat) (x0 : List (Int × Int × Int × Bool × List UInt8)) (h0 : RdV F 5 (V62 F) a0 x0) (hc0 : x0.length ≤ c0) (hm0 : c0 ≤ maxLen) :
    Fn Try.prog W 9 [.slice a0 x0.length c0] [] F (synodlaw1_WireBack.f k x0) (fun (r : Bool) (y : Unit) => .bool r) (fun r y => []) := by
  unfold synodlaw1_WireBack.f
  refine fn_intro 156 Try.func9 rfl Try.ntmps9 rfl ?_
  refine sim_seq ?_
  refine sim_region ?_
  refine simL_val (q_asg rfl rfl) rfl rfl rfl ?_
  refine simL_nil ?_
  refine nrm_then ?_
  refine sim_seq ?_
  refine sim_region ?_
  refine simL_bind (fun s1v hs3v => ?_)
  refine simL_eff (re_call (vs := []) (cap := []) (A := []) (rst := [F]) rfl rfl rfl rfl rfl rfl Try.call10 (.sel 0 rfl (.nil _)) (synodlaw1_first.calls _ _ k  ) hs3v) rfl rfl rfl ?_
  intro y2v
  refine simL_val (q_asg rfl rfl) rfl rfl rfl ?_
  refine simL_nil ?_
  refine nrm_then ?_
  refine sim_seq ?_
  refine sim_region ?_
  refine simL_val (q_move rfl rfl) rfl rfl rfl ?_
  refine simL_bind (fun s4v hs6v => ?_)
  refine simL_eff (re_call (vs := [.slice a0 x0.length c0]) (cap := []) (A := []) (rst := [F]) rfl rfl rfl rfl rfl rfl Try.call30 (.sel 0 rfl (.nil _)) (synodlaw1_parts.calls _ _ _ (Up.lend 0 rfl) k a0 c0 x0 h0 hc0 hm0) hs6v) rfl rfl rfl ?_
  intro y5v
  refine simL_bind (fun s13v hs15v => ?_)
  refine simL_openV 0 rfl (fun rs11v hl12v => ?_)
  refine simL_lend 0 rfl (fun hq7v hq8v hq9v hq10v => ?_)
  refine simL_eff (re_call (vs := [.slice y5v.1 s4v.length y5v.2, .int .i64 20000]) (cap := []) (A := []) (rst := [Row 23 1 y5v.1 s4v.length y5v.2 rs11v.flatten, F]) rfl rfl rfl rfl rfl rfl Try.call29 (.sel 0 rfl (.sel 0 rfl (.nil _))) (synodref_Few.calls _ _ k y5v.1 y5v.2 s4v (20000 : Int) ((Rd.asV hl12v hq7v).up (Up.lend 0 rfl) (V23.up (Up.lend 1 rfl))) hq8v hq9v) hs15v) rfl rfl rfl ?_
  intro y14v
  refine simL_val (q_asg rfl rfl) rfl rfl rfl ?_
  refine simL_nil ?_
  refine nrm_then ?_
  refine sim_seq ?_
  refine sim_seq ?_
  refine sim_region ?_
  refine simL_val (q_move rfl rfl) rfl rfl rfl ?_
  refine simL_val (q_not rfl rfl) rfl rfl rfl ?_
  refine simL_val (q_move rfl rfl) rfl rfl rfl ?_
  refine simL_valc (b := !s1v) (fun hb214v => RQ.sub (E' := [(0, .slice a0 x0.length c0)]) ⟨rfl, trivial⟩ (q_move rfl rfl)) rfl rfl rfl rfl rfl ?_
  refine simL_valc (b := !s1v) (fun hb213v => RQ.sub (E' := [(28, .slice a0 x0.length c0)]) ⟨lk_cv rfl hb213v, trivial⟩ (q_len rfl rfl rfl Try.underlying52)) rfl rfl rfl rfl rfl ?_
  refine simL_valc (b := !s1v) (fun hb212v => RQ.sub (E' := [(29, .int .i64 (x0.length : Int))]) ⟨lk_cv rfl hb212v, trivial⟩ (q_gtr rfl rfl rfl)) rfl rfl rfl rfl rfl ?_
  refine simL_val (q_or rfl rfl rfl) rfl rfl rfl ?_
  refine simL_val (q_move rfl rfl) rfl rfl rfl ?_
  refine simL_valc (b := (!s1v) || (decide ((300 : Int) < (x0.length : Int)))) (fun hb211v => RQ.sub (E' := [(4, .bool s13v)]) ⟨rfl, trivial⟩ (q_move rfl rfl)) rfl rfl rfl rfl rfl ?_
  refine simL_valc (b := (!s1v) || (decide ((300 : Int) < (x0.length : Int)))) (fun hb210v => RQ.sub (E' := [(33, .bool s13v)]) ⟨lk_cv rfl hb210v, trivial⟩ (q_not rfl rfl)) rfl rfl rfl rfl rfl ?_
  refine simL_val (q_or rfl rfl rfl) rfl rfl rfl ?_
  refine simL_nil ?_
  refine nrm_then ?_
  refine sim_condb rfl (fun h16v => ?_) (fun h17v => ?_)
  · refine sim_seq ?_
    refine sim_region ?_
    refine simL_val (q_move rfl rfl) rfl rfl rfl ?_
    refine simL_val (q_asg rfl rfl) rfl rfl rfl ?_
    refine simL_nil ?_
    refine nrm_then ?_
    refine sim_rtn ?_
    refine rtn_then ?_
    exact rtn_fn () rfl rfl rfl (.sel 1 rfl (.nil _))
  · refine sim_skip ?_
    refine nrm_then ?_
    refine sim_seq ?_
    refine sim_region ?_
    refine simL_bind (fun s18v hs20v => ?_)
    refine simL_eff (re_call (vs := []) (cap := []) (A := []) (rst := [Row 23 1 y5v.1 s4v.length y5v.2 rs11v.flatten, F]) rfl rfl rfl rfl rfl rfl Try.call31 (.sel 0 rfl (.sel 0 rfl (.nil _))) (wire_NewWriter.calls _ _  ) hs20v) rfl rfl rfl ?_
    intro y19v
    refine simL_val (q_asg rfl rfl) rfl rfl rfl ?_
    refine simL_nil ?_
    refine nrm_then ?_
    refine sim_cut (S := List UInt8 × Int) (Option Addr × Nat) (fun s y => [(0, .slice a0 x0.length c0), (5, .pointer (some ⟨y19v.1, 0, none⟩))]) (fun s y => [obj y19v.1 80 [.slice y.1 s.1.length y.2, .int .i64 s.2], Row 5 1 y.1 s.1.length y.2 (encB s.1), F]) ?_ ?_
    · refine sim_seq ?_
      refine sim_region ?_
      refine simL_val (q_asg rfl rfl) rfl rfl rfl ?_
      refine simL_nil ?_
      refine nrm_then ?_
      refine sim_block ?_
      refine sim_loop (S := Int × List UInt8 × Int) (Option Addr × Nat) (fun k s => synodlaw1_WireBack.l0 x0 k s.1 s.2.1 s.2.2) (fun s y => [(0, .slice a0 x0.length c0), (5, .pointer (some ⟨y19v.1, 0, none⟩)), (6, .int .i64 s.1)]) (fun s y => [obj y19v.1 80 [.slice y.1 s.2.1.length y.2, .int .i64 s.2.2], Row 5 1 y.1 s.2.1.length y.2 (encB s.2.1), F]) (fun _ => by rw [synodlaw1_WireBack.l0]) ?_ k (0, s18v.1, s18v.2) (y19v.2.1, y19v.2.2) ⟨rfl, rfl, rfl, trivial⟩ (.sel 0 rfl (.sel 0 rfl (.sel 1 rfl (.nil _))))
      intro k s23v y24v
      refine sim_eq (by rw [synodlaw1_WireBack.l0]) ?_
      refine sim_seq ?_
      refine sim_seq ?_
      refine sim_region ?_
      refine simL_val (q_move rfl rfl) rfl rfl rfl ?_
      refine simL_val (q_move rfl rfl) rfl rfl rfl ?_
      refine simL_val (q_len rfl rfl rfl Try.underlying52) rfl rfl rfl ?_
      refine simL_val (q_lss rfl rfl rfl) rfl rfl rfl ?_
      refine simL_nil ?_
      refine nrm_then ?_
      refine sim_cond rfl (fun h28v => ?_) (fun h29v => ?_)
      · refine sim_skip ?_
        refine nrm_then ?_
        refine sim_seq ?_
        refine sim_block ?_
        refine sim_region ?_
        refine simL_val (q_move rfl rfl) rfl rfl rfl ?_
        refine simL_val (q_move rfl rfl) rfl rfl rfl ?_
        refine simL_val (q_move rfl rfl) rfl rfl rfl ?_
        refine simL_ask (fun hi30v => ?_)
        obtain ⟨b31v, b31vo, r34v, ha32v, hV35v, hlr36v, hcell37v⟩ := RdV.pos h0 (Up.refl _) rfl (i := s23v.1.toNat) (by omega) ((0 : Int), (0 : Int), (0 : Int), false, ([] : List UInt8))
        obtain ⟨a38v, c39v, rfl, ⟨he40v, hc41v, hm42v⟩⟩ := hV35v
        refine simL_val (q_idx rfl rfl rfl ha32v Try.underlying52 Try.sizeOf62 hi30v.1 hi30v.2) rfl rfl rfl ?_
        refine simL_val (q_loads rfl rfl Try.isAgg62 Try.sizeOf62 rfl (fun j v hj => hcell37v 2 rfl j v hj)) rfl rfl rfl ?_
        refine simL_bind (fun s43v hs45v => ?_)
        refine simL_eff (re_call (vs := [.pointer (some ⟨y19v.1, 0, none⟩), .agg #[.int .i64 ((x0.getD s23v.1.toNat ((0 : Int), (0 : Int), (0 : Int), false, ([] : List UInt8))).1), .int .i64 ((x0.getD s23v.1.toNat ((0 : Int), (0 : Int), (0 : Int), false, ([] : List UInt8))).2.1), .int .i64 ((x0.getD s23v.1.toNat ((0 : Int), (0 : Int), (0 : Int), false, ([] : List UInt8))).2.2.1), .bool ((x0.getD s23v.1.toNat ((0 : Int), (0 : Int), (0 : Int), false, ([] : List UInt8))).2.2.2.1), .slice a38v (((x0.getD s23v.1.toNat ((0 : Int), (0 : Int), (0 : Int), false, ([] : List UInt8))).2.2.2.2).length) c39v]]) (cap := []) (A := [obj y19v.1 80 [.slice y24v.1 s23v.2.1.length y24v.2, .int .i64 s23v.2.2], Row 5 1 y24v.1 s23v.2.1.length y24v.2 (encB s23v.2.1)]) (rst := [F]) rfl rfl rfl rfl rfl rfl Try.call41 (.sel 0 rfl (.sel 0 rfl (.sel 0 rfl (.nil _)))) (synodlaw1_tell.calls _ _ k y19v.1 y24v.1 y24v.2 s23v.2.1 s23v.2.2 ((x0.getD s23v.1.toNat ((0 : Int), (0 : Int), (0 : Int), false, ([] : List UInt8))).1) ((x0.getD s23v.1.toNat ((0 : Int), (0 : Int), (0 : Int), false, ([] : List UInt8))).2.1) ((x0.getD s23v.1.toNat ((0 : Int), (0 : Int), (0 : Int), false, ([] : List UInt8))).2.2.1) ((x0.getD s23v.1.toNat ((0 : Int), (0 : Int), (0 : Int), false, ([] : List UInt8))).2.2.2.1) a38v c39v ((x0.getD s23v.1.toNat ((0 : Int), (0 : Int), (0 : Int), false, ([] : List UInt8))).2.2.2.2) (he40v.lend 0 rfl) hc41v hm42v) hs45v) rfl rfl rfl ?_
        intro y44v
        refine simL_nil ?_
        refine nrm_block ?_
        refine nrm_then ?_
        refine sim_region ?_
        refine simL_val (q_move rfl rfl) rfl rfl rfl ?_
        refine simL_val (q_add rfl rfl rfl) rfl rfl rfl ?_
        refine simL_val (q_asg rfl rfl) rfl rfl rfl ?_
        refine simL_nil ?_
        exact nrm_again (s := (IntKind.i64.wrap (s23v.1 + 1), s43v.1, s43v.2)) (y44v.1, y44v.2) ⟨rfl, rfl, rfl, trivial⟩ (.sel 0 rfl (.sel 0 rfl (.sel 0 rfl (.nil _))))
      · refine sim_exi ?_
        refine exi_then ?_
        refine exi_loop ?_
        refine exi_here ?_
        exact nrm_cut (s := (s23v.2.1, s23v.2.2)) (y24v.1, y24v.2) ⟨rfl, rfl, trivial⟩ (.sel 0 rfl (.sel 0 rfl (.sel 0 rfl (.nil _))))
    · intro s21v y22v
      refine sim_seq ?_
      refine sim_region ?_
      refine simL_val (q_move rfl rfl) rfl rfl rfl ?_
      refine simL_bind (fun s50v hs52v => ?_)
      refine simL_lend 1 rfl (fun hq46v hq47v hq48v hq49v => ?_)
      refine simL_eff (re_call (vs := [.pointer (some ⟨y19v.1, 0, none⟩)]) (cap := []) (A := [obj y19v.1 80 [.slice y22v.1 s21v.1.length y22v.2, .int .i64 s21v.2]]) (rst := [Row 5 1 y22v.1 s21v.1.length y22v.2 (encB s21v.1), F]) rfl rfl rfl rfl rfl rfl Try.call42 (.sel 0 rfl (.sel 0 rfl (.sel 0 rfl (.nil _)))) (wire_Writer_Done.calls _ _ y19v.1 y22v.1 y22v.2 s21v.1 s21v.2 (hq46v.lend 0 rfl) hq47v hq48v) hs52v) rfl rfl rfl ?_
      intro y51v
      refine simL_val (q_move rfl rfl) rfl rfl rfl ?_
      refine simL_val (q_ext rfl rfl rfl) rfl rfl rfl ?_
      refine simL_val (q_ext rfl rfl rfl) rfl rfl rfl ?_
      refine simL_val (q_asg rfl rfl) rfl rfl rfl ?_
      refine simL_val (q_asg rfl rfl) rfl rfl rfl ?_
      refine simL_nil ?_
      refine nrm_then ?_
      refine sim_seq ?_
      refine sim_seq ?_
      refine sim_region ?_
      refine simL_val (q_move rfl rfl) rfl rfl rfl ?_
      refine simL_bind (fun s53v hs55v => ?_)
      refine simL_eff (re_call (vs := [.int .i64 s50v.2]) (cap := []) (A := []) (rst := [Row 5 1 y51v.1 s50v.1.length y51v.2 (encB s50v.1), obj y19v.1 80 [.slice y22v.1 s21v.1.length y22v.2, .int .i64 s21v.2], Row 5 1 y22v.1 s21v.1.length y22v.2 (encB s21v.1), F]) rfl rfl rfl rfl rfl rfl Try.call14 (.sel 0 rfl (.sel 0 rfl (.sel 0 rfl (.sel 0 rfl (.nil _))))) (synodref_Num.calls _ _ s50v.2 ) hs55v) rfl rfl rfl ?_
      intro y54v
      refine simL_val (q_neq rfl rfl rfl) rfl rfl rfl ?_
      refine simL_nil ?_
      refine nrm_then ?_
      refine sim_condn rfl (fun h56v => ?_) (fun h57v => ?_)
      · refine sim_skip ?_
        refine nrm_then ?_
        refine sim_seq ?_
        refine sim_region ?_
        refine simL_val (q_move rfl rfl) rfl rfl rfl ?_
        refine simL_bind (fun s62v hs64v => ?_)
        refine simL_lend 0 rfl (fun hq58v hq59v hq60v hq61v => ?_)
        refine simL_eff (re_call (vs := [.slice y51v.1 s50v.1.length y51v.2]) (cap := []) (A := []) (rst := [Row 5 1 y51v.1 s50v.1.length y51v.2 (encB s50v.1), obj y19v.1 80 [.slice y22v.1 s21v.1.length y22v.2, .int .i64 s21v.2], Row 5 1 y22v.1 s21v.1.length y22v.2 (encB s21v.1), F]) rfl rfl rfl rfl rfl rfl Try.call22 (.sel 0 rfl (.sel 0 rfl (.sel 0 rfl (.sel 0 rfl (.nil _))))) (wire_NewReader.calls _ _ y51v.1 y51v.2 s50v.1 (hq58v.lend 0 rfl) hq59v hq60v) hs64v) rfl rfl rfl ?_
        intro y63v
        refine simL_val (q_asg rfl rfl) rfl rfl rfl ?_
        refine simL_nil ?_
        refine nrm_then ?_
        refine sim_seq ?_
        refine sim_region ?_
        refine simL_bind (fun s65v hs67v => ?_)
        refine simL_eff (re_call (vs := []) (cap := []) (A := []) (rst := [obj y63v.1 78 [.slice y63v.2.1 s62v.1.length y63v.2.2, .int .i64 s62v.2.1, .int .i64 s62v.2.2], Row 5 1 y63v.2.1 s62v.1.length y63v.2.2 (encB s62v.1), Row 5 1 y51v.1 s50v.1.length y51v.2 (encB s50v.1), obj y19v.1 80 [.slice y22v.1 s21v.1.length y22v.2, .int .i64 s21v.2], Row 5 1 y22v.1 s21v.1.length y22v.2 (encB s21v.1), F]) rfl rfl rfl rfl rfl rfl Try.call31 (.sel 0 rfl (.sel 0 rfl (.sel 0 rfl (.sel 0 rfl (.sel 0 rfl (.sel 0 rfl (.nil _))))))) (wire_NewWriter.calls _ _  ) hs67v) rfl rfl rfl ?_
        intro y66v
        refine simL_val (q_asg rfl rfl) rfl rfl rfl ?_
        refine simL_nil ?_
        refine nrm_then ?_
        refine sim_cutR (S := List UInt8 × Int × Int × Int) (Option Addr × Nat) (fun s y => [(7, .slice y51v.1 s50v.1.length y51v.2), (9, .pointer (some ⟨y63v.1, 0, none⟩)), (10, .pointer (some ⟨y66v.1, 0, none⟩))]) (fun s y => [obj y66v.1 80 [.slice y.1 s.1.length y.2, .int .i64 s.2.1], obj y63v.1 78 [.slice y63v.2.1 s62v.1.length y63v.2.2, .int .i64 s.2.2.1, .int .i64 s.2.2.2], Row 5 1 y51v.1 s50v.1.length y51v.2 (encB s50v.1), Row 5 1 y.1 s.1.length y.2 (encB s.1), Row 5 1 y63v.2.1 s62v.1.length y63v.2.2 (encB s62v.1), F]) ?_ ?_
        · refine sim_seq ?_
          refine sim_region ?_
          refine simL_val (q_asg rfl rfl) rfl rfl rfl ?_
          refine simL_nil ?_
          refine nrm_then ?_
          refine sim_block ?_
          refine sim_loop (S := Int × List UInt8 × Int × Int × Int) (Option Addr × Nat) (fun k s => synodlaw1_WireBack.l1 x0 s62v k s.1 s.2.1 s.2.2.1 s.2.2.2.1 s.2.2.2.2) (fun s y => [(0, .slice a0 x0.length c0), (7, .slice y51v.1 s50v.1.length y51v.2), (9, .pointer (some ⟨y63v.1, 0, none⟩)), (10, .pointer (some ⟨y66v.1, 0, none⟩)), (11, .int .i64 s.1)]) (fun s y => [obj y66v.1 80 [.slice y.1 s.2.1.length y.2, .int .i64 s.2.2.1], obj y63v.1 78 [.slice y63v.2.1 s62v.1.length y63v.2.2, .int .i64 s.2.2.2.1, .int .i64 s.2.2.2.2], Row 5 1 y51v.1 s50v.1.length y51v.2 (encB s50v.1), Row 5 1 y.1 s.2.1.length y.2 (encB s.2.1), Row 5 1 y63v.2.1 s62v.1.length y63v.2.2 (encB s62v.1), F]) (fun _ => by rw [synodlaw1_WireBack.l1]) ?_ k (0, s65v.1, s65v.2, s62v.2.1, s62v.2.2) (y66v.2.1, y66v.2.2) ⟨rfl, rfl, rfl, rfl, rfl, trivial⟩ (.sel 0 rfl (.sel 1 rfl (.sel 2 rfl (.sel 0 rfl (.sel 0 rfl (.sel 2 rfl (.nil _)))))))
          intro k s70v y71v
          refine sim_eq (by rw [synodlaw1_WireBack.l1]) ?_
          refine sim_seq ?_
          refine sim_seq ?_
          refine sim_region ?_
          refine simL_val (q_move rfl rfl) rfl rfl rfl ?_
          refine simL_val (q_move rfl rfl) rfl rfl rfl ?_
          refine simL_val (q_len rfl rfl rfl Try.underlying52) rfl rfl rfl ?_
          refine simL_val (q_lss rfl rfl rfl) rfl rfl rfl ?_
          refine simL_nil ?_
          refine nrm_then ?_
          refine sim_cond rfl (fun h77v => ?_) (fun h78v => ?_)
          · refine sim_skip ?_
            refine nrm_then ?_
            refine sim_seq ?_
            refine sim_block ?_
            refine sim_seq ?_
            refine sim_region ?_
            refine simL_val (q_move rfl rfl) rfl rfl rfl ?_
            refine simL_val (q_move rfl rfl) rfl rfl rfl ?_
            refine simL_ask (fun hi79v => ?_)
            obtain ⟨b80v, b80vo, r83v, ha81v, hV84v, hlr85v, hcell86v⟩ := RdV.pos h0 (Up.refl _) rfl (i := s70v.1.toNat) (by omega) ((0 : Int), (0 : Int), (0 : Int), false, ([] : List UInt8))
            obtain ⟨a87v, c88v, rfl, ⟨he89v, hc90v, hm91v⟩⟩ := hV84v
            refine simL_val (q_idx rfl rfl rfl ha81v Try.underlying52 Try.sizeOf62 hi79v.1 hi79v.2) rfl rfl rfl ?_
            refine simL_val (q_loads rfl rfl Try.isAgg62 Try.sizeOf62 rfl (fun j v hj => hcell86v 5 rfl j v hj)) rfl rfl rfl ?_
            refine simL_eff (re_alloc rfl Try.zeroValue62 rfl) rfl rfl rfl ?_
            intro b92v
            refine simL_do (re_store 0 rfl rfl rfl Try.sizeOf62 rfl rfl (one_of (by rfl)) rfl rfl) rfl rfl ?_
            intro _
            refine simL_nil ?_
            refine nrm_then ?_
            refine sim_seq ?_
            refine sim_region ?_
            refine simL_val (q_fa rfl rfl Try.underlying62 rfl rfl Try.sizeOf3 rfl) rfl rfl rfl ?_
            refine simL_val (q_load rfl rfl Try.isAgg3 (.obj 0 rfl rfl)) rfl rfl rfl ?_
            refine simL_nil ?_
            refine nrm_then ?_
            refine sim_block ?_
            refine sim_seq ?_
            refine sim_region ?_
            refine simL_val (q_eql rfl rfl rfl) rfl rfl rfl ?_
            refine simL_val (q_asg rfl rfl) rfl rfl rfl ?_
            refine simL_nil ?_
            refine nrm_then ?_
            refine sim_cond rfl (fun h93v => ?_) (fun h94v => ?_)
            · refine sim_seq ?_
              refine sim_region ?_
              refine simL_val (q_move rfl rfl) rfl rfl rfl ?_
              refine simL_bind (fun s99v hs101v => ?_)
              refine simL_lend 5 rfl (fun hq95v hq96v hq97v hq98v => ?_)
              refine simL_eff (re_call (vs := [.pointer (some ⟨y63v.1, 0, none⟩)]) (cap := []) (A := [obj y63v.1 78 [.slice y63v.2.1 s62v.1.length y63v.2.2, .int .i64 s70v.2.2.2.1, .int .i64 s70v.2.2.2.2]]) (rst := [obj b92v 62 [.int .i64 ((x0.getD s70v.1.toNat ((0 : Int), (0 : Int), (0 : Int), false, ([] : List UInt8))).1), .int .i64 ((x0.getD s70v.1.toNat ((0 : Int), (0 : Int), (0 : Int), false, ([] : List UInt8))).2.1), .int .i64 ((x0.getD s70v.1.toNat ((0 : Int), (0 : Int), (0 : Int), false, ([] : List UInt8))).2.2.1), .bool ((x0.getD s70v.1.toNat ((0 : Int), (0 : Int), (0 : Int), false, ([] : List UInt8))).2.2.2.1), .slice a87v (((x0.getD s70v.1.toNat ((0 : Int), (0 : Int), (0 : Int), false, ([] : List UInt8))).2.2.2.2).length) c88v], obj y66v.1 80 [.slice y71v.1 s70v.2.1.length y71v.2, .int .i64 s70v.2.2.1], Row 5 1 y51v.1 s50v.1.length y51v.2 (encB s50v.1), Row 5 1 y71v.1 s70v.2.1.length y71v.2 (encB s70v.2.1), Row 5 1 y63v.2.1 s62v.1.length y63v.2.2 (encB s62v.1), F]) rfl rfl rfl rfl rfl rfl Try.call43 (.sel 2 rfl (.sel 0 rfl (.sel 0 rfl (.sel 0 rfl (.sel 0 rfl (.sel 0 rfl (.sel 0 rfl (.nil _)))))))) (wire_Reader_Int.calls _ _ k y63v.1 y63v.2.1 y63v.2.2 s62v.1 s70v.2.2.2.1 s70v.2.2.2.2 (hq95v.lend 4 rfl) hq96v hq97v) hs101v) rfl rfl rfl ?_
              intro y100v
              refine simL_val (q_asg rfl rfl) rfl rfl rfl ?_
              refine simL_nil ?_
              refine nrm_then ?_
              refine sim_seq ?_
              refine sim_region ?_
              refine simL_val (q_move rfl rfl) rfl rfl rfl ?_
              refine simL_val (q_move rfl rfl) rfl rfl rfl ?_
              refine simL_bind (fun s102v hs104v => ?_)
              refine simL_eff (re_call (vs := [.pointer (some ⟨y66v.1, 0, none⟩), .int .i64 s99v.1]) (cap := []) (A := [obj y66v.1 80 [.slice y71v.1 s70v.2.1.length y71v.2, .int .i64 s70v.2.2.1], Row 5 1 y71v.1 s70v.2.1.length y71v.2 (encB s70v.2.1)]) (rst := [obj y63v.1 78 [.slice y63v.2.1 s62v.1.length y63v.2.2, .int .i64 s99v.2.1, .int .i64 s99v.2.2], obj b92v 62 [.int .i64 ((x0.getD s70v.1.toNat ((0 : Int), (0 : Int), (0 : Int), false, ([] : List UInt8))).1), .int .i64 ((x0.getD s70v.1.toNat ((0 : Int), (0 : Int), (0 : Int), false, ([] : List UInt8))).2.1), .int .i64 ((x0.getD s70v.1.toNat ((0 : Int), (0 : Int), (0 : Int), false, ([] : List UInt8))).2.2.1), .bool ((x0.getD s70v.1.toNat ((0 : Int), (0 : Int), (0 : Int), false, ([] : List UInt8))).2.2.2.1), .slice a87v (((x0.getD s70v.1.toNat ((0 : Int), (0 : Int), (0 : Int), false, ([] : List UInt8))).2.2.2.2).length) c88v], Row 5 1 y51v.1 s50v.1.length y51v.2 (encB s50v.1), Row 5 1 y63v.2.1 s62v.1.length y63v.2.2 (encB s62v.1), F]) rfl rfl rfl rfl rfl rfl Try.call32 (.sel 2 rfl (.sel 3 rfl (.sel 0 rfl (.sel 0 rfl (.sel 0 rfl (.sel 0 rfl (.sel 0 rfl (.nil _)))))))) (wire_Writer_Int.calls _ _ k y66v.1 y71v.1 y71v.2 s70v.2.1 s70v.2.2.1 s99v.1 ) hs104v) rfl rfl rfl ?_
              intro y103v
              refine simL_nil ?_
              refine nrm_then ?_
              refine sim_seq ?_
              refine sim_region ?_
              refine simL_val (q_move rfl rfl) rfl rfl rfl ?_
              refine simL_val (q_fa rfl rfl Try.underlying62 rfl rfl Try.sizeOf3 rfl) rfl rfl rfl ?_
              refine simL_val (q_load rfl rfl Try.isAgg3 (.obj 3 rfl rfl)) rfl rfl rfl ?_
              refine simL_val (q_neq rfl rfl rfl) rfl rfl rfl ?_
              refine simL_nil ?_
              refine nrm_then ?_
              refine sim_condn rfl (fun h105v => ?_) (fun h106v => ?_)
              · refine sim_skip ?_
                refine nrm_block ?_
                refine nrm_block ?_
                refine nrm_then ?_
                refine sim_region ?_
                refine simL_val (q_move rfl rfl) rfl rfl rfl ?_
                refine simL_val (q_add rfl rfl rfl) rfl rfl rfl ?_
                refine simL_val (q_asg rfl rfl) rfl rfl rfl ?_
                refine simL_nil ?_
                exact nrm_again (s := (IntKind.i64.wrap (s70v.1 + 1), s102v.1, s102v.2, s99v.2.1, s99v.2.2)) (y103v.1, y103v.2) ⟨rfl, rfl, rfl, rfl, rfl, trivial⟩ (.sel 0 rfl (.sel 1 rfl (.sel 2 rfl (.sel 0 rfl (.sel 1 rfl (.sel 1 rfl (.nil _)))))))
              · refine sim_seq ?_
                refine sim_region ?_
                refine simL_val (q_asg rfl rfl) rfl rfl rfl ?_
                refine simL_nil ?_
                refine nrm_then ?_
                refine sim_rtn ?_
                refine rtn_block ?_
                refine rtn_block ?_
                refine rtn_then ?_
                refine rtn_loop ?_
                refine rtn_block ?_
                refine rtn_cutR ?_
                exact rtn_fn () rfl rfl rfl (.sel 6 rfl (.nil _))
            · refine sim_seq ?_
              refine sim_region ?_
              refine simL_val (q_eql rfl rfl rfl) rfl rfl rfl ?_
              refine simL_val (q_asg rfl rfl) rfl rfl rfl ?_
              refine simL_nil ?_
              refine nrm_then ?_
              refine sim_cond rfl (fun h107v => ?_) (fun h108v => ?_)
              · refine sim_seq ?_
                refine sim_region ?_
                refine simL_val (q_move rfl rfl) rfl rfl rfl ?_
                refine simL_bind (fun s113v hs115v => ?_)
                refine simL_lend 5 rfl (fun hq109v hq110v hq111v hq112v => ?_)
                refine simL_eff (re_call (vs := [.pointer (some ⟨y63v.1, 0, none⟩)]) (cap := []) (A := [obj y63v.1 78 [.slice y63v.2.1 s62v.1.length y63v.2.2, .int .i64 s70v.2.2.2.1, .int .i64 s70v.2.2.2.2]]) (rst := [obj b92v 62 [.int .i64 ((x0.getD s70v.1.toNat ((0 : Int), (0 : Int), (0 : Int), false, ([] : List UInt8))).1), .int .i64 ((x0.getD s70v.1.toNat ((0 : Int), (0 : Int), (0 : Int), false, ([] : List UInt8))).2.1), .int .i64 ((x0.getD s70v.1.toNat ((0 : Int), (0 : Int), (0 : Int), false, ([] : List UInt8))).2.2.1), .bool ((x0.getD s70v.1.toNat ((0 : Int), (0 : Int), (0 : Int), false, ([] : List UInt8))).2.2.2.1), .slice a87v (((x0.getD s70v.1.toNat ((0 : Int), (0 : Int), (0 : Int), false, ([] : List UInt8))).2.2.2.2).length) c88v], obj y66v.1 80 [.slice y71v.1 s70v.2.1.length y71v.2, .int .i64 s70v.2.2.1], Row 5 1 y51v.1 s50v.1.length y51v.2 (encB s50v.1), Row 5 1 y71v.1 s70v.2.1.length y71v.2 (encB s70v.2.1), Row 5 1 y63v.2.1 s62v.1.length y63v.2.2 (encB s62v.1), F]) rfl rfl rfl rfl rfl rfl Try.call44 (.sel 2 rfl (.sel 0 rfl (.sel 0 rfl (.sel 0 rfl (.sel 0 rfl (.sel 0 rfl (.sel 0 rfl (.nil _)))))))) (wire_Reader_Bool.calls _ _ k y63v.1 y63v.2.1 y63v.2.2 s62v.1 s70v.2.2.2.1 s70v.2.2.2.2 (hq109v.lend 4 rfl) hq110v hq111v) hs115v) rfl rfl rfl ?_
                intro y114v
                refine simL_val (q_asg rfl rfl) rfl rfl rfl ?_
                refine simL_nil ?_
                refine nrm_then ?_
                refine sim_seq ?_
                refine sim_region ?_
                refine simL_val (q_move rfl rfl) rfl rfl rfl ?_
                refine simL_val (q_move rfl rfl) rfl rfl rfl ?_
                refine simL_bind (fun s116v hs118v => ?_)
                refine simL_eff (re_call (vs := [.pointer (some ⟨y66v.1, 0, none⟩), .bool s113v.1]) (cap := []) (A := [obj y66v.1 80 [.slice y71v.1 s70v.2.1.length y71v.2, .int .i64 s70v.2.2.1], Row 5 1 y71v.1 s70v.2.1.length y71v.2 (encB s70v.2.1)]) (rst := [obj y63v.1 78 [.slice y63v.2.1 s62v.1.length y63v.2.2, .int .i64 s113v.2.1, .int .i64 s113v.2.2], obj b92v 62 [.int .i64 ((x0.getD s70v.1.toNat ((0 : Int), (0 : Int), (0 : Int), false, ([] : List UInt8))).1), .int .i64 ((x0.getD s70v.1.toNat ((0 : Int), (0 : Int), (0 : Int), false, ([] : List UInt8))).2.1), .int .i64 ((x0.getD s70v.1.toNat ((0 : Int), (0 : Int), (0 : Int), false, ([] : List UInt8))).2.2.1), .bool ((x0.getD s70v.1.toNat ((0 : Int), (0 : Int), (0 : Int), false, ([] : List UInt8))).2.2.2.1), .slice a87v (((x0.getD s70v.1.toNat ((0 : Int), (0 : Int), (0 : Int), false, ([] : List UInt8))).2.2.2.2).length) c88v], Row 5 1 y51v.1 s50v.1.length y51v.2 (encB s50v.1), Row 5 1 y63v.2.1 s62v.1.length y63v.2.2 (encB s62v.1), F]) rfl rfl rfl rfl rfl rfl Try.call34 (.sel 2 rfl (.sel 3 rfl (.sel 0 rfl (.sel 0 rfl (.sel 0 rfl (.sel 0 rfl (.sel 0 rfl (.nil _)))))))) (wire_Writer_Bool.calls _ _ k y66v.1 y71v.1 y71v.2 s70v.2.1 s70v.2.2.1 s113v.1 ) hs118v) rfl rfl rfl ?_
                intro y117v
                refine simL_nil ?_
                refine nrm_then ?_
                refine sim_seq ?_
                refine sim_region ?_
                refine simL_val (q_move rfl rfl) rfl rfl rfl ?_
                refine simL_val (q_fa rfl rfl Try.underlying62 rfl rfl Try.sizeOf4 rfl) rfl rfl rfl ?_
                refine simL_val (q_load rfl rfl Try.isAgg4 (.obj 3 rfl rfl)) rfl rfl rfl ?_
                refine simL_val (q_neb rfl rfl rfl Try.underlying4) rfl rfl rfl ?_
                refine simL_nil ?_
                refine nrm_then ?_
                refine sim_condb rfl (fun h119v => ?_) (fun h120v => ?_)
                · refine sim_seq ?_
                  refine sim_region ?_
                  refine simL_val (q_asg rfl rfl) rfl rfl rfl ?_
                  refine simL_nil ?_
                  refine nrm_then ?_
                  refine sim_rtn ?_
                  refine rtn_block ?_
                  refine rtn_block ?_
                  refine rtn_then ?_
                  refine rtn_loop ?_
                  refine rtn_block ?_
                  refine rtn_cutR ?_
                  exact rtn_fn () rfl rfl rfl (.sel 6 rfl (.nil _))
                · refine sim_skip ?_
                  refine nrm_block ?_
                  refine nrm_block ?_
                  refine nrm_then ?_
                  refine sim_region ?_
                  refine simL_val (q_move rfl rfl) rfl rfl rfl ?_
                  refine simL_val (q_add rfl rfl rfl) rfl rfl rfl ?_
                  refine simL_val (q_asg rfl rfl) rfl rfl rfl ?_
                  refine simL_nil ?_
                  exact nrm_again (s := (IntKind.i64.wrap (s70v.1 + 1), s116v.1, s116v.2, s113v.2.1, s113v.2.2)) (y117v.1, y117v.2) ⟨rfl, rfl, rfl, rfl, rfl, trivial⟩ (.sel 0 rfl (.sel 1 rfl (.sel 2 rfl (.sel 0 rfl (.sel 1 rfl (.sel 1 rfl (.nil _)))))))
              · refine sim_seq ?_
                refine sim_region ?_
                refine simL_val (q_eql rfl rfl rfl) rfl rfl rfl ?_
                refine simL_val (q_asg rfl rfl) rfl rfl rfl ?_
                refine simL_nil ?_
                refine nrm_then ?_
                refine sim_cond rfl (fun h121v => ?_) (fun h122v => ?_)
                · refine sim_seq ?_
                  refine sim_region ?_
                  refine simL_val (q_move rfl rfl) rfl rfl rfl ?_
                  refine simL_val (q_fa rfl rfl Try.underlying62 rfl rfl Try.sizeOf3 rfl) rfl rfl rfl ?_
                  refine simL_val (q_load rfl rfl Try.isAgg3 (.obj 0 rfl rfl)) rfl rfl rfl ?_
                  refine simL_bind (fun s127v hs129v => ?_)
                  refine simL_lend 5 rfl (fun hq123v hq124v hq125v hq126v => ?_)
                  refine simL_eff (re_call (vs := [.pointer (some ⟨y63v.1, 0, none⟩), .int .i64 ((x0.getD s70v.1.toNat ((0 : Int), (0 : Int), (0 : Int), false, ([] : List UInt8))).2.2.1)]) (cap := []) (A := [obj y63v.1 78 [.slice y63v.2.1 s62v.1.length y63v.2.2, .int .i64 s70v.2.2.2.1, .int .i64 s70v.2.2.2.2]]) (rst := [obj b92v 62 [.int .i64 ((x0.getD s70v.1.toNat ((0 : Int), (0 : Int), (0 : Int), false, ([] : List UInt8))).1), .int .i64 ((x0.getD s70v.1.toNat ((0 : Int), (0 : Int), (0 : Int), false, ([] : List UInt8))).2.1), .int .i64 ((x0.getD s70v.1.toNat ((0 : Int), (0 : Int), (0 : Int), false, ([] : List UInt8))).2.2.1), .bool ((x0.getD s70v.1.toNat ((0 : Int), (0 : Int), (0 : Int), false, ([] : List UInt8))).2.2.2.1), .slice a87v (((x0.getD s70v.1.toNat ((0 : Int), (0 : Int), (0 : Int), false, ([] : List UInt8))).2.2.2.2).length) c88v], obj y66v.1 80 [.slice y71v.1 s70v.2.1.length y71v.2, .int .i64 s70v.2.2.1], Row 5 1 y51v.1 s50v.1.length y51v.2 (encB s50v.1), Row 5 1 y71v.1 s70v.2.1.length y71v.2 (encB s70v.2.1), Row 5 1 y63v.2.1 s62v.1.length y63v.2.2 (encB s62v.1), F]) rfl rfl rfl rfl rfl rfl Try.call45 (.sel 2 rfl (.sel 0 rfl (.sel 0 rfl (.sel 0 rfl (.sel 0 rfl (.sel 0 rfl (.sel 0 rfl (.nil _)))))))) (wire_Reader_Bytes.calls _ _ k y63v.1 y63v.2.1 y63v.2.2 s62v.1 s70v.2.2.2.1 s70v.2.2.2.2 ((x0.getD s70v.1.toNat ((0 : Int), (0 : Int), (0 : Int), false, ([] : List UInt8))).2.2.1) (hq123v.lend 4 rfl) hq124v hq125v) hs129v) rfl rfl rfl ?_
                  intro y128v
                  refine simL_val (q_asg rfl rfl) rfl rfl rfl ?_
                  refine simL_nil ?_
                  refine nrm_then ?_
                  refine sim_seq ?_
                  refine sim_region ?_
                  refine simL_val (q_move rfl rfl) rfl rfl rfl ?_
                  refine simL_val (q_move rfl rfl) rfl rfl rfl ?_
                  refine simL_val (q_move rfl rfl) rfl rfl rfl ?_
                  refine simL_val (q_len rfl rfl rfl Try.underlying23) rfl rfl rfl ?_
                  refine simL_bind (fun s134v hs136v => ?_)
                  refine simL_lend 0 rfl (fun hq130v hq131v hq132v hq133v => ?_)
                  refine simL_eff (re_call (vs := [.pointer (some ⟨y66v.1, 0, none⟩), .slice y128v.1 s127v.1.length y128v.2, .int .i64 (s127v.1.length : Int)]) (cap := []) (A := [obj y66v.1 80 [.slice y71v.1 s70v.2.1.length y71v.2, .int .i64 s70v.2.2.1], Row 5 1 y71v.1 s70v.2.1.length y71v.2 (encB s70v.2.1)]) (rst := [Row 5 1 y128v.1 s127v.1.length y128v.2 (encB s127v.1), obj y63v.1 78 [.slice y63v.2.1 s62v.1.length y63v.2.2, .int .i64 s127v.2.1, .int .i64 s127v.2.2], obj b92v 62 [.int .i64 ((x0.getD s70v.1.toNat ((0 : Int), (0 : Int), (0 : Int), false, ([] : List UInt8))).1), .int .i64 ((x0.getD s70v.1.toNat ((0 : Int), (0 : Int), (0 : Int), false, ([] : List UInt8))).2.1), .int .i64 ((x0.getD s70v.1.toNat ((0 : Int), (0 : Int), (0 : Int), false, ([] : List UInt8))).2.2.1), .bool ((x0.getD s70v.1.toNat ((0 : Int), (0 : Int), (0 : Int), false, ([] : List UInt8))).2.2.2.1), .slice a87v (((x0.getD s70v.1.toNat ((0 : Int), (0 : Int), (0 : Int), false, ([] : List UInt8))).2.2.2.2).length) c88v], Row 5 1 y51v.1 s50v.1.length y51v.2 (encB s50v.1), Row 5 1 y63v.2.1 s62v.1.length y63v.2.2 (encB s62v.1), F]) rfl rfl rfl rfl rfl rfl Try.call36 (.sel 3 rfl (.sel 4 rfl (.sel 0 rfl (.sel 0 rfl (.sel 0 rfl (.sel 0 rfl (.sel 0 rfl (.sel 0 rfl (.nil _))))))))) (wire_Writer_Bytes.calls _ _ k y66v.1 y71v.1 y71v.2 s70v.2.1 s70v.2.2.1 y128v.1 y128v.2 s127v.1 (s127v.1.length : Int) (hq130v.lend 0 rfl) hq131v hq132v) hs136v) rfl rfl rfl ?_
                  intro y135v
                  refine simL_nil ?_
                  refine nrm_then ?_
                  refine sim_seq ?_
                  refine sim_region ?_
                  refine simL_val (q_move rfl rfl) rfl rfl rfl ?_
                  refine simL_val (q_fa rfl rfl Try.underlying62 rfl rfl Try.sizeOf23 rfl) rfl rfl rfl ?_
                  refine simL_val (q_load rfl rfl Try.isAgg23 (.obj 4 rfl rfl)) rfl rfl rfl ?_
                  refine simL_bind (fun s141v hs143v => ?_)
                  refine simL_lend 2 rfl (fun hq137v hq138v hq139v hq140v => ?_)
                  refine simL_eff (re_call (vs := [.slice y128v.1 s127v.1.length y128v.2, .slice a87v (((x0.getD s70v.1.toNat ((0 : Int), (0 : Int), (0 : Int), false, ([] : List UInt8))).2.2.2.2).length) c88v]) (cap := []) (A := []) (rst := [obj y66v.1 80 [.slice y135v.1 s134v.1.length y135v.2, .int .i64 s134v.2], Row 5 1 y135v.1 s134v.1.length y135v.2 (encB s134v.1), Row 5 1 y128v.1 s127v.1.length y128v.2 (encB s127v.1), obj y63v.1 78 [.slice y63v.2.1 s62v.1.length y63v.2.2, .int .i64 s127v.2.1, .int .i64 s127v.2.2], obj b92v 62 [.int .i64 ((x0.getD s70v.1.toNat ((0 : Int), (0 : Int), (0 : Int), false, ([] : List UInt8))).1), .int .i64 ((x0.getD s70v.1.toNat ((0 : Int), (0 : Int), (0 : Int), false, ([] : List UInt8))).2.1), .int .i64 ((x0.getD s70v.1.toNat ((0 : Int), (0 : Int), (0 : Int), false, ([] : List UInt8))).2.2.1), .bool ((x0.getD s70v.1.toNat ((0 : Int), (0 : Int), (0 : Int), false, ([] : List UInt8))).2.2.2.1), .slice a87v (((x0.getD s70v.1.toNat ((0 : Int), (0 : Int), (0 : Int), false, ([] : List UInt8))).2.2.2.2).length) c88v], Row 5 1 y51v.1 s50v.1.length y51v.2 (encB s50v.1), Row 5 1 y63v.2.1 s62v.1.length y63v.2.2 (encB s62v.1), F]) rfl rfl rfl rfl rfl rfl Try.call13 (.sel 0 rfl (.sel 0 rfl (.sel 0 rfl (.sel 0 rfl (.sel 0 rfl (.sel 0 rfl (.sel 0 rfl (.sel 0 rfl (.nil _))))))))) (synodref_SameBytes.calls _ _ k y128v.1 y128v.2 s127v.1 a87v c88v ((x0.getD s70v.1.toNat ((0 : Int), (0 : Int), (0 : Int), false, ([] : List UInt8))).2.2.2.2) (hq137v.lend 2 rfl) hq138v hq139v (he89v.lend 7 rfl) hc90v hm91v) hs143v) rfl rfl rfl ?_
                  intro y142v
                  refine simL_val (q_asg rfl rfl) rfl rfl rfl ?_
                  refine simL_nil ?_
                  refine nrm_then ?_
                  refine sim_seq ?_
                  refine sim_region ?_
                  refine simL_val (q_move rfl rfl) rfl rfl rfl ?_
                  refine simL_val (q_not rfl rfl) rfl rfl rfl ?_
                  refine simL_nil ?_
                  refine nrm_then ?_
                  refine sim_condb rfl (fun h144v => ?_) (fun h145v => ?_)
                  · refine sim_seq ?_
                    refine sim_region ?_
                    refine simL_val (q_asg rfl rfl) rfl rfl rfl ?_
                    refine simL_nil ?_
                    refine nrm_then ?_
                    refine sim_rtn ?_
                    refine rtn_block ?_
                    refine rtn_block ?_
                    refine rtn_then ?_
                    refine rtn_loop ?_
                    refine rtn_block ?_
                    refine rtn_cutR ?_
                    exact rtn_fn () rfl rfl rfl (.sel 7 rfl (.nil _))
                  · refine sim_skip ?_
                    refine nrm_block ?_
                    refine nrm_block ?_
                    refine nrm_then ?_
                    refine sim_region ?_
                    refine simL_val (q_move rfl rfl) rfl rfl rfl ?_
                    refine simL_val (q_add rfl rfl rfl) rfl rfl rfl ?_
                    refine simL_val (q_asg rfl rfl) rfl rfl rfl ?_
                    refine simL_nil ?_
                    exact nrm_again (s := (IntKind.i64.wrap (s70v.1 + 1), s134v.1, s134v.2, s127v.2.1, s127v.2.2)) (y135v.1, y135v.2) ⟨rfl, rfl, rfl, rfl, rfl, trivial⟩ (.sel 0 rfl (.sel 2 rfl (.sel 3 rfl (.sel 0 rfl (.sel 2 rfl (.sel 2 rfl (.nil _)))))))
                · refine sim_seq ?_
                  refine sim_region ?_
                  refine simL_val (q_eql rfl rfl rfl) rfl rfl rfl ?_
                  refine simL_val (q_asg rfl rfl) rfl rfl rfl ?_
                  refine simL_nil ?_
                  refine nrm_then ?_
                  refine sim_cond rfl (fun h146v => ?_) (fun h147v => ?_)
                  · refine sim_seq ?_
                    refine sim_region ?_
                    refine simL_val (q_move rfl rfl) rfl rfl rfl ?_
                    refine simL_val (q_fa rfl rfl Try.underlying62 rfl rfl Try.sizeOf3 rfl) rfl rfl rfl ?_
                    refine simL_val (q_load rfl rfl Try.isAgg3 (.obj 0 rfl rfl)) rfl rfl rfl ?_
                    refine simL_bind (fun s152v hs154v => ?_)
                    refine simL_lend 5 rfl (fun hq148v hq149v hq150v hq151v => ?_)
                    refine simL_eff (re_call (vs := [.pointer (some ⟨y63v.1, 0, none⟩), .int .i64 ((x0.getD s70v.1.toNat ((0 : Int), (0 : Int), (0 : Int), false, ([] : List UInt8))).2.2.1)]) (cap := []) (A := [obj y63v.1 78 [.slice y63v.2.1 s62v.1.length y63v.2.2, .int .i64 s70v.2.2.2.1, .int .i64 s70v.2.2.2.2]]) (rst := [obj b92v 62 [.int .i64 ((x0.getD s70v.1.toNat ((0 : Int), (0 : Int), (0 : Int), false, ([] : List UInt8))).1), .int .i64 ((x0.getD s70v.1.toNat ((0 : Int), (0 : Int), (0 : Int), false, ([] : List UInt8))).2.1), .int .i64 ((x0.getD s70v.1.toNat ((0 : Int), (0 : Int), (0 : Int), false, ([] : List UInt8))).2.2.1), .bool ((x0.getD s70v.1.toNat ((0 : Int), (0 : Int), (0 : Int), false, ([] : List UInt8))).2.2.2.1), .slice a87v (((x0.getD s70v.1.toNat ((0 : Int), (0 : Int), (0 : Int), false, ([] : List UInt8))).2.2.2.2).length) c88v], obj y66v.1 80 [.slice y71v.1 s70v.2.1.length y71v.2, .int .i64 s70v.2.2.1], Row 5 1 y51v.1 s50v.1.length y51v.2 (encB s50v.1), Row 5 1 y71v.1 s70v.2.1.length y71v.2 (encB s70v.2.1), Row 5 1 y63v.2.1 s62v.1.length y63v.2.2 (encB s62v.1), F]) rfl rfl rfl rfl rfl rfl Try.call46 (.sel 2 rfl (.sel 0 rfl (.sel 0 rfl (.sel 0 rfl (.sel 0 rfl (.sel 0 rfl (.sel 0 rfl (.nil _)))))))) (wire_Reader_Text.calls _ _ k y63v.1 y63v.2.1 y63v.2.2 s62v.1 s70v.2.2.2.1 s70v.2.2.2.2 ((x0.getD s70v.1.toNat ((0 : Int), (0 : Int), (0 : Int), false, ([] : List UInt8))).2.2.1) (hq148v.lend 4 rfl) hq149v hq150v) hs154v) rfl rfl rfl ?_
                    intro y153v
                    refine simL_val (q_asg rfl rfl) rfl rfl rfl ?_
                    refine simL_nil ?_
                    refine nrm_then ?_
                    refine sim_seq ?_
                    refine sim_region ?_
                    refine simL_val (q_move rfl rfl) rfl rfl rfl ?_
                    refine simL_val (q_move rfl rfl) rfl rfl rfl ?_
                    refine simL_val (q_move rfl rfl) rfl rfl rfl ?_
                    refine simL_val (q_lens rfl rfl rfl Try.underlying9) rfl rfl rfl ?_
                    refine simL_bind (fun s155v hs157v => ?_)
                    refine simL_eff (re_call (vs := [.pointer (some ⟨y66v.1, 0, none⟩), str s152v.1, .int .i64 (s152v.1.length : Int)]) (cap := []) (A := [obj y66v.1 80 [.slice y71v.1 s70v.2.1.length y71v.2, .int .i64 s70v.2.2.1], Row 5 1 y71v.1 s70v.2.1.length y71v.2 (encB s70v.2.1)]) (rst := [obj y63v.1 78 [.slice y63v.2.1 s62v.1.length y63v.2.2, .int .i64 s152v.2.1, .int .i64 s152v.2.2], obj b92v 62 [.int .i64 ((x0.getD s70v.1.toNat ((0 : Int), (0 : Int), (0 : Int), false, ([] : List UInt8))).1), .int .i64 ((x0.getD s70v.1.toNat ((0 : Int), (0 : Int), (0 : Int), false, ([] : List UInt8))).2.1), .int .i64 ((x0.getD s70v.1.toNat ((0 : Int), (0 : Int), (0 : Int), false, ([] : List UInt8))).2.2.1), .bool ((x0.getD s70v.1.toNat ((0 : Int), (0 : Int), (0 : Int), false, ([] : List UInt8))).2.2.2.1), .slice a87v (((x0.getD s70v.1.toNat ((0 : Int), (0 : Int), (0 : Int), false, ([] : List UInt8))).2.2.2.2).length) c88v], Row 5 1 y51v.1 s50v.1.length y51v.2 (encB s50v.1), Row 5 1 y63v.2.1 s62v.1.length y63v.2.2 (encB s62v.1), F]) rfl rfl rfl rfl rfl rfl Try.call38 (.sel 2 rfl (.sel 3 rfl (.sel 0 rfl (.sel 0 rfl (.sel 0 rfl (.sel 0 rfl (.sel 0 rfl (.nil _)))))))) (wire_Writer_Text.calls _ _ k y66v.1 y71v.1 y71v.2 s70v.2.1 s70v.2.2.1 s152v.1 (s152v.1.length : Int) ) hs157v) rfl rfl rfl ?_
                    intro y156v
                    refine simL_nil ?_
                    refine nrm_then ?_
                    refine sim_seq ?_
                    refine sim_region ?_
                    refine simL_val (q_move rfl rfl) rfl rfl rfl ?_
                    refine simL_val (q_fa rfl rfl Try.underlying62 rfl rfl Try.sizeOf23 rfl) rfl rfl rfl ?_
                    refine simL_val (q_load rfl rfl Try.isAgg23 (.obj 3 rfl rfl)) rfl rfl rfl ?_
                    refine simL_val (q_tostr rfl rfl Try.underlying23 Try.underlying5 Try.underlying9 (he89v.rds 6 rfl) rfl) rfl rfl rfl ?_
                    refine simL_val (q_nes rfl rfl rfl) rfl rfl rfl ?_
                    refine simL_nil ?_
                    refine nrm_then ?_
                    refine sim_condn rfl (fun h158v => ?_) (fun h159v => ?_)
                    · refine sim_skip ?_
                      refine nrm_block ?_
                      refine nrm_block ?_
                      refine nrm_then ?_
                      refine sim_region ?_
                      refine simL_val (q_move rfl rfl) rfl rfl rfl ?_
                      refine simL_val (q_add rfl rfl rfl) rfl rfl rfl ?_
                      refine simL_val (q_asg rfl rfl) rfl rfl rfl ?_
                      refine simL_nil ?_
                      exact nrm_again (s := (IntKind.i64.wrap (s70v.1 + 1), s155v.1, s155v.2, s152v.2.1, s152v.2.2)) (y156v.1, y156v.2) ⟨rfl, rfl, rfl, rfl, rfl, trivial⟩ (.sel 0 rfl (.sel 1 rfl (.sel 2 rfl (.sel 0 rfl (.sel 1 rfl (.sel 1 rfl (.nil _)))))))
                    · refine sim_seq ?_
                      refine sim_region ?_
                      refine simL_val (q_asg rfl rfl) rfl rfl rfl ?_
                      refine simL_nil ?_
                      refine nrm_then ?_
                      refine sim_rtn ?_
                      refine rtn_block ?_
                      refine rtn_block ?_
                      refine rtn_then ?_
                      refine rtn_loop ?_
                      refine rtn_block ?_
                      refine rtn_cutR ?_
                      exact rtn_fn () rfl rfl rfl (.sel 6 rfl (.nil _))
                  · refine sim_skip ?_
                    refine nrm_block ?_
                    refine nrm_block ?_
                    refine nrm_then ?_
                    refine sim_region ?_
                    refine simL_val (q_move rfl rfl) rfl rfl rfl ?_
                    refine simL_val (q_add rfl rfl rfl) rfl rfl rfl ?_
                    refine simL_val (q_asg rfl rfl) rfl rfl rfl ?_
                    refine simL_nil ?_
                    exact nrm_again (s := (IntKind.i64.wrap (s70v.1 + 1), s70v.2.1, s70v.2.2.1, s70v.2.2.2.1, s70v.2.2.2.2)) (y71v.1, y71v.2) ⟨rfl, rfl, rfl, rfl, rfl, trivial⟩ (.sel 1 rfl (.sel 1 rfl (.sel 1 rfl (.sel 1 rfl (.sel 1 rfl (.sel 1 rfl (.nil _)))))))
          · refine sim_exi ?_
            refine exi_then ?_
            refine exi_loop ?_
            refine exi_here ?_
            exact nrm_cutR (s := (s70v.2.1, s70v.2.2.1, s70v.2.2.2.1, s70v.2.2.2.2)) (y71v.1, y71v.2) ⟨rfl, rfl, rfl, trivial⟩ (.sel 0 rfl (.sel 0 rfl (.sel 0 rfl (.sel 0 rfl (.sel 0 rfl (.sel 0 rfl (.nil _)))))))
        · intro s68v y69v
          refine sim_seq ?_
          refine sim_region ?_
          refine simL_val (q_move rfl rfl) rfl rfl rfl ?_
          refine simL_bind (fun s164v hs166v => ?_)
          refine simL_lend 3 rfl (fun hq160v hq161v hq162v hq163v => ?_)
          refine simL_eff (re_call (vs := [.pointer (some ⟨y66v.1, 0, none⟩)]) (cap := []) (A := [obj y66v.1 80 [.slice y69v.1 s68v.1.length y69v.2, .int .i64 s68v.2.1]]) (rst := [obj y63v.1 78 [.slice y63v.2.1 s62v.1.length y63v.2.2, .int .i64 s68v.2.2.1, .int .i64 s68v.2.2.2], Row 5 1 y51v.1 s50v.1.length y51v.2 (encB s50v.1), Row 5 1 y69v.1 s68v.1.length y69v.2 (encB s68v.1), Row 5 1 y63v.2.1 s62v.1.length y63v.2.2 (encB s62v.1), F]) rfl rfl rfl rfl rfl rfl Try.call42 (.sel 0 rfl (.sel 0 rfl (.sel 0 rfl (.sel 0 rfl (.sel 0 rfl (.sel 0 rfl (.nil _))))))) (wire_Writer_Done.calls _ _ y66v.1 y69v.1 y69v.2 s68v.1 s68v.2.1 (hq160v.lend 2 rfl) hq161v hq162v) hs166v) rfl rfl rfl ?_
          intro y165v
          refine simL_val (q_move rfl rfl) rfl rfl rfl ?_
          refine simL_val (q_ext rfl rfl rfl) rfl rfl rfl ?_
          refine simL_val (q_ext rfl rfl rfl) rfl rfl rfl ?_
          refine simL_val (q_asg rfl rfl) rfl rfl rfl ?_
          refine simL_val (q_asg rfl rfl) rfl rfl rfl ?_
          refine simL_nil ?_
          refine nrm_then ?_
          refine sim_seq ?_
          refine sim_region ?_
          refine simL_val (q_move rfl rfl) rfl rfl rfl ?_
          refine simL_val (q_move rfl rfl) rfl rfl rfl ?_
          refine simL_bind (fun s175v hs177v => ?_)
          refine simL_lend 3 rfl (fun hq167v hq168v hq169v hq170v => ?_)
          refine simL_lend 0 rfl (fun hq171v hq172v hq173v hq174v => ?_)
          refine simL_eff (re_call (vs := [.slice y51v.1 s50v.1.length y51v.2, .slice y165v.1 s164v.1.length y165v.2]) (cap := []) (A := []) (rst := [Row 5 1 y165v.1 s164v.1.length y165v.2 (encB s164v.1), obj y66v.1 80 [.slice y69v.1 s68v.1.length y69v.2, .int .i64 s68v.2.1], obj y63v.1 78 [.slice y63v.2.1 s62v.1.length y63v.2.2, .int .i64 s68v.2.2.1, .int .i64 s68v.2.2.2], Row 5 1 y51v.1 s50v.1.length y51v.2 (encB s50v.1), Row 5 1 y69v.1 s68v.1.length y69v.2 (encB s68v.1), Row 5 1 y63v.2.1 s62v.1.length y63v.2.2 (encB s62v.1), F]) rfl rfl rfl rfl rfl rfl Try.call13 (.sel 0 rfl (.sel 0 rfl (.sel 0 rfl (.sel 0 rfl (.sel 0 rfl (.sel 0 rfl (.sel 0 rfl (.nil _)))))))) (synodref_SameBytes.calls _ _ k y51v.1 y51v.2 s50v.1 y165v.1 y165v.2 s164v.1 (hq167v.lend 3 rfl) hq168v hq169v (hq171v.lend 0 rfl) hq172v hq173v) hs177v) rfl rfl rfl ?_
          intro y176v
          refine simL_val (q_asg rfl rfl) rfl rfl rfl ?_
          refine simL_nil ?_
          refine nrm_then ?_
          refine sim_seq ?_
          refine sim_region ?_
          refine simL_val (q_move rfl rfl) rfl rfl rfl ?_
          refine simL_val (q_move rfl rfl) rfl rfl rfl ?_
          refine simL_cut' 4 (S := Bool) (Unit) (fun s y => [(9, .pointer (some ⟨y63v.1, 0, none⟩)), (144, .bool s)]) (fun s y => [obj y63v.1 78 [.slice y63v.2.1 s62v.1.length y63v.2.2, .int .i64 s68v.2.2.1, .int .i64 s68v.2.2.2], Row 5 1 y63v.2.1 s62v.1.length y63v.2.2 (encB s62v.1), F]) ?_ ?_
          · refine simL_caseb (fun hb183v => ?_) (fun hb184v => ?_)
            · rw [hb183v]
              refine simL_valg (q_move rfl rfl) rfl rfl rfl rfl rfl rfl ?_
              refine simL_bind (fun s180v hs182v => ?_)
              refine simL_effg (re_call (vs := [.int .i64 s164v.2]) (cap := []) (A := []) (rst := [Row 5 1 y165v.1 s164v.1.length y165v.2 (encB s164v.1), obj y66v.1 80 [.slice y69v.1 s68v.1.length y69v.2, .int .i64 s68v.2.1], obj y63v.1 78 [.slice y63v.2.1 s62v.1.length y63v.2.2, .int .i64 s68v.2.2.1, .int .i64 s68v.2.2.2], Row 5 1 y51v.1 s50v.1.length y51v.2 (encB s50v.1), Row 5 1 y69v.1 s68v.1.length y69v.2 (encB s68v.1), Row 5 1 y63v.2.1 s62v.1.length y63v.2.2 (encB s62v.1), F]) rfl rfl rfl rfl rfl rfl Try.call14 (.sel 0 rfl (.sel 0 rfl (.sel 0 rfl (.sel 0 rfl (.sel 0 rfl (.sel 0 rfl (.sel 0 rfl (.nil _)))))))) (synodref_Num.calls _ _ s164v.2 ) hs182v) rfl rfl rfl rfl rfl rfl ?_
              intro y181v
              refine simL_valg (q_eql rfl rfl rfl) rfl rfl rfl rfl rfl rfl ?_
              refine simL_val (q_pick rfl rfl rfl rfl rfl) rfl rfl rfl ?_
              refine simL_nil ?_
              exact nrm_cut (s := decide (s180v = (0 : Int))) () ⟨rfl, rfl, trivial⟩ (.sel 2 rfl (.sel 4 rfl (.sel 4 rfl (.nil _))))
            · rw [hb184v]
              refine simL_skipd rfl rfl rfl rfl rfl rfl ?_
              refine simL_skipd rfl rfl rfl rfl rfl rfl ?_
              refine simL_skipd rfl rfl rfl rfl rfl rfl ?_
              refine simL_val (q_pick rfl rfl rfl rfl rfl) rfl rfl rfl ?_
              refine simL_nil ?_
              exact nrm_cut (s := false) () ⟨rfl, rfl, trivial⟩ (.sel 2 rfl (.sel 4 rfl (.sel 4 rfl (.nil _))))
          · intro s178v y179v
            refine simL_val (q_move rfl rfl) rfl rfl rfl ?_
            refine simL_cut' 5 (S := Bool) (Unit) (fun s y => [(9, .pointer (some ⟨y63v.1, 0, none⟩)), (150, .bool s)]) (fun s y => [obj y63v.1 78 [.slice y63v.2.1 s62v.1.length y63v.2.2, .int .i64 s68v.2.2.1, .int .i64 s68v.2.2.2], Row 5 1 y63v.2.1 s62v.1.length y63v.2.2 (encB s62v.1), F]) ?_ ?_
            · refine simL_caseb (fun hb197v => ?_) (fun hb198v => ?_)
              · rw [hb197v]
                refine simL_valg (q_move rfl rfl) rfl rfl rfl rfl rfl rfl ?_
                refine simL_bind (fun s191v hs193v => ?_)
                refine simL_lend 1 rfl (fun hq187v hq188v hq189v hq190v => ?_)
                refine simL_effg (re_call (vs := [.pointer (some ⟨y63v.1, 0, none⟩)]) (cap := []) (A := [obj y63v.1 78 [.slice y63v.2.1 s62v.1.length y63v.2.2, .int .i64 s68v.2.2.1, .int .i64 s68v.2.2.2]]) (rst := [Row 5 1 y63v.2.1 s62v.1.length y63v.2.2 (encB s62v.1), F]) rfl rfl rfl rfl rfl rfl Try.call27 (.sel 0 rfl (.sel 0 rfl (.sel 0 rfl (.nil _)))) (wire_Reader_Done.calls _ _ y63v.1 y63v.2.1 y63v.2.2 s62v.1 s68v.2.2.1 s68v.2.2.2 (hq187v.lend 0 rfl) hq188v hq189v) hs193v) rfl rfl rfl rfl rfl rfl ?_
                intro y192v
                refine simL_bind (fun s194v hs196v => ?_)
                refine simL_effg (re_call (vs := [.int .i64 s191v]) (cap := []) (A := []) (rst := [obj y63v.1 78 [.slice y63v.2.1 s62v.1.length y63v.2.2, .int .i64 s68v.2.2.1, .int .i64 s68v.2.2.2], Row 5 1 y63v.2.1 s62v.1.length y63v.2.2 (encB s62v.1), F]) rfl rfl rfl rfl rfl rfl Try.call14 (.sel 0 rfl (.sel 0 rfl (.sel 0 rfl (.nil _)))) (synodref_Num.calls _ _ s191v ) hs196v) rfl rfl rfl rfl rfl rfl ?_
                intro y195v
                refine simL_valg (q_eql rfl rfl rfl) rfl rfl rfl rfl rfl rfl ?_
                refine simL_val (q_pick rfl rfl rfl rfl rfl) rfl rfl rfl ?_
                refine simL_nil ?_
                exact nrm_cut (s := decide (s194v = (0 : Int))) () ⟨rfl, rfl, trivial⟩ (.sel 0 rfl (.sel 0 rfl (.sel 0 rfl (.nil _))))
              · rw [hb198v]
                refine simL_skipd rfl rfl rfl rfl rfl rfl ?_
                refine simL_skipd rfl rfl rfl rfl rfl rfl ?_
                refine simL_skipd rfl rfl rfl rfl rfl rfl ?_
                refine simL_skipd rfl rfl rfl rfl rfl rfl ?_
                refine simL_val (q_pick rfl rfl rfl rfl rfl) rfl rfl rfl ?_
                refine simL_nil ?_
                exact nrm_cut (s := false) () ⟨rfl, rfl, trivial⟩ (.sel 0 rfl (.sel 0 rfl (.sel 0 rfl (.nil _))))
            · intro s185v y186v
              refine simL_val (q_move rfl rfl) rfl rfl rfl ?_
              refine simL_cut' 4 (S := Bool) (Unit) (fun s y => [(155, .bool s)]) (fun s y => [F]) ?_ ?_
              · refine simL_caseb (fun hb208v => ?_) (fun hb209v => ?_)
                · rw [hb208v]
                  refine simL_valg (q_move rfl rfl) rfl rfl rfl rfl rfl rfl ?_
                  refine simL_bind (fun s205v hs207v => ?_)
                  refine simL_lend 1 rfl (fun hq201v hq202v hq203v hq204v => ?_)
                  refine simL_effg (re_call (vs := [.pointer (some ⟨y63v.1, 0, none⟩)]) (cap := []) (A := [obj y63v.1 78 [.slice y63v.2.1 s62v.1.length y63v.2.2, .int .i64 s68v.2.2.1, .int .i64 s68v.2.2.2]]) (rst := [Row 5 1 y63v.2.1 s62v.1.length y63v.2.2 (encB s62v.1), F]) rfl rfl rfl rfl rfl rfl Try.call25 (.sel 0 rfl (.sel 0 rfl (.sel 0 rfl (.nil _)))) (wire_Reader_Left.calls _ _ y63v.1 y63v.2.1 y63v.2.2 s62v.1 s68v.2.2.1 s68v.2.2.2 (hq201v.lend 0 rfl) hq202v hq203v) hs207v) rfl rfl rfl rfl rfl rfl ?_
                  intro y206v
                  refine simL_valg (q_eql rfl rfl rfl) rfl rfl rfl rfl rfl rfl ?_
                  refine simL_val (q_pick rfl rfl rfl rfl rfl) rfl rfl rfl ?_
                  refine simL_nil ?_
                  exact nrm_cut (s := decide (s205v = (0 : Int))) () ⟨rfl, trivial⟩ (.sel 2 rfl (.nil _))
                · rw [hb209v]
                  refine simL_skipd rfl rfl rfl rfl rfl rfl ?_
                  refine simL_skipd rfl rfl rfl rfl rfl rfl ?_
                  refine simL_skipd rfl rfl rfl rfl rfl rfl ?_
                  refine simL_val (q_pick rfl rfl rfl rfl rfl) rfl rfl rfl ?_
                  refine simL_nil ?_
                  exact nrm_cut (s := false) () ⟨rfl, trivial⟩ (.sel 2 rfl (.nil _))
              · intro s199v y200v
                refine simL_val (q_asg rfl rfl) rfl rfl rfl ?_
                refine simL_nil ?_
                refine nrm_then ?_
                refine sim_rtn ?_
                exact rtn_fn () rfl rfl rfl (.sel 0 rfl (.nil _))
      · refine sim_seq ?_
        refine sim_region ?_
        refine simL_val (q_move rfl rfl) rfl rfl rfl ?_
        refine simL_val (q_len rfl rfl rfl Try.underlying23) rfl rfl rfl ?_
        refine simL_val (q_eql rfl rfl rfl) rfl rfl rfl ?_
        refine simL_val (q_asg rfl rfl) rfl rfl rfl ?_
        refine simL_nil ?_
        refine nrm_then ?_
        refine sim_rtn ?_
        refine rtn_then ?_
        exact rtn_fn () rfl rfl rfl (.sel 3 rfl (.nil _))
end Go.Proofs.Ytdolffamgbcokaa

/- Printed by gen.py: pure functions and the proofs that the Go functions simulate them. Conditions: as each theorem says. -/
import Derived.Test.YtdoghfenhoigmaaG5
namespace Go.Proofs.Ytdoghfenhoigmaa
open Go.RowKit
set_option linter.unusedVariables false
set_option maxRecDepth 20000
set_option maxHeartbeats 2000000
def synodref3_GetMessage.f (k : Nat) (x0 : List UInt8) : Option (Int × Int × Int × Int × Int × Int × Int × Int × Int × Bool × (List (Int × Int × Int × List UInt8)) × Int × Int × List UInt8 × Int) := (synodref1_Reader_Int.f k x0 (0 : Int) (0 : Int)).bind fun s3v => (((synodref3_within.f s3v.1 (1 : Int) (7 : Int)).bind fun s9v => (if (!s9v) = true then ((synodref3_fail.f x0 s3v.2.1 s3v.2.2 (6 : Int)).bind fun s14v => (some (s14v.1, s14v.2))) else (some (s3v.2.1, s3v.2.2)))).bind fun s7v => ((synodref1_Reader_Int.f k x0 s7v.1 s7v.2).bind fun s17v => ((synodref1_Reader_Int.f k x0 s17v.2.1 s17v.2.2).bind fun s20v => ((synodref1_Reader_Int.f k x0 s20v.2.1 s20v.2.2).bind fun s23v => ((if s3v.1 = (1 : Int) then ((synodref1_Reader_Int.f k x0 s23v.2.1 s23v.2.2).bind fun s30v => ((synodref1_Reader_Int.f k x0 s30v.2.1 s30v.2.2).bind fun s33v => (some (s33v.2.1, s33v.2.2, s30v.1, s33v.1, 0, 0, 0, false, ([] : List (Int × Int × Int × List UInt8)), 0, 0, ([] : List UInt8))))) else (if s3v.1 = (2 : Int) then ((synodref1_Reader_Bool.f k x0 s23v.2.1 s23v.2.2).bind fun s38v => (some (s38v.2.1, s38v.2.2, 0, 0, 0, 0, 0, s38v.1, ([] : List (Int × Int × Int × List UInt8)), 0, 0, ([] : List UInt8)))) else (if s3v.1 = (3 : Int) then ((synodref1_Reader_Int.f k x0 s23v.2.1 s23v.2.2).bind fun s43v => ((synodref1_Reader_Int.f k x0 s43v.2.1 s43v.2.2).bind fun s46v => ((synodref1_Reader_Int.f k x0 s46v.2.1 s46v.2.2).bind fun s49v => ((synodref3_entries.f k x0 s49v.2.1 s49v.2.2).bind fun s52v => (some (s52v.2.1, s52v.2.2, s43v.1, s46v.1, s49v.1, 0, 0, false, s52v.1, 0, 0, ([] : List UInt8))))))) else (if s3v.1 = (4 : Int) then ((synodref1_Reader_Int.f k x0 s23v.2.1 s23v.2.2).bind fun s57v => ((synodref1_Reader_Bool.f k x0 s57v.2.1 s57v.2.2).bind fun s60v => ((synodref1_Reader_Int.f k x0 s60v.2.1 s60v.2.2).bind fun s63v => (some (s63v.2.1, s63v.2.2, s57v.1, 0, 0, s63v.1, 0, s60v.1, ([] : List (Int × Int × Int × List UInt8)), 0, 0, ([] : List UInt8)))))) else (if s3v.1 = (5 : Int) then ((synodref1_Reader_Int.f k x0 s23v.2.1 s23v.2.2).bind fun s68v => ((synodref1_Reader_Int.f k x0 s68v.2.1 s68v.2.2).bind fun s71v => (some (s71v.2.1, s71v.2.2, 0, 0, s68v.1, 0, s71v.1, false, ([] : List (Int × Int × Int × List UInt8)), 0, 0, ([] : List UInt8))))) else (if s3v.1 = (6 : Int) then ((synodref1_Reader_Int.f k x0 s23v.2.1 s23v.2.2).bind fun s76v => (some (s76v.2.1, s76v.2.2, 0, 0, 0, 0, s76v.1, false, ([] : List (Int × Int × Int × List UInt8)), 0, 0, ([] : List UInt8)))) else (if s3v.1 = (7 : Int) then ((synodref1_Reader_Bytes.f k x0 s23v.2.1 s23v.2.2 (1048576 : Int)).bind fun s81v => (if s81v.2.2 = (0 : Int) then ((synodref3_GetSnap.f k s81v.1).bind fun s90v => ((synodref3_fail.f x0 s81v.2.1 s81v.2.2 s90v.2.2.2).bind fun s94v => (some (s94v.1, s94v.2, 0, 0, 0, 0, 0, false, ([] : List (Int × Int × Int × List UInt8)), s90v.1, s90v.2.1, s90v.2.2.1)))) else (some (s81v.2.1, s81v.2.2, 0, 0, 0, 0, 0, false, ([] : List (Int × Int × Int × List UInt8)), 0, 0, ([] : List UInt8))))) else (some (s23v.2.1, s23v.2.2, 0, 0, 0, 0, 0, false, ([] : List (Int × Int × Int × List UInt8)), 0, 0, ([] : List UInt8)))))))))).bind fun s26v => ((synodref1_Reader_Done.f x0 s26v.1 s26v.2.1).bind fun s97v => ((if s97v = (0 : Int) then ((synodref3_CheckMessage.f k s3v.1 s17v.1 s20v.1 s23v.1 s26v.2.2.1 s26v.2.2.2.1 s26v.2.2.2.2.1 s26v.2.2.2.2.2.1 s26v.2.2.2.2.2.2.1 s26v.2.2.2.2.2.2.2.1 s26v.2.2.2.2.2.2.2.2.1 s26v.2.2.2.2.2.2.2.2.2.1 s26v.2.2.2.2.2.2.2.2.2.2.1 s26v.2.2.2.2.2.2.2.2.2.2.2).bind fun s114v => (some s114v)) else (some s97v)).bind fun s100v => (if s100v = (0 : Int) then (some (s3v.1, s17v.1, s20v.1, s23v.1, s26v.2.2.1, s26v.2.2.2.1, s26v.2.2.2.2.1, s26v.2.2.2.2.2.1, s26v.2.2.2.2.2.2.1, s26v.2.2.2.2.2.2.2.1, s26v.2.2.2.2.2.2.2.2.1, s26v.2.2.2.2.2.2.2.2.2.1, s26v.2.2.2.2.2.2.2.2.2.2.1, s26v.2.2.2.2.2.2.2.2.2.2.2, s100v)) else (some (0, 0, 0, 0, 0, 0, 0, 0, 0, false, ([] : List (Int × Int × Int × List UInt8)), 0, 0, ([] : List UInt8), s100v))))))))))
theorem synodref3_GetMessage.calls (W : World) (F : HA) (k : Nat) (a0 : Option Addr) (c0 : Nat) (x0 : List UInt8) (h0 : Rd F a0 (encB x0)) (hc0 : x0.length ≤ c0) (hm0 : c0 ≤ maxLen) :
    Fn Try.prog W 61 [.slice a0 x0.length c0] [] F (synodref3_GetMessage.f k x0) (fun (r : Int × Int × Int × Int × Int × Int × Int × Int × Int × Bool × (List (Int × Int × Int × List UInt8)) × Int × Int × List UInt8 × Int) (y : Option Addr × Nat × HA × Option Addr × Nat) => .tuple #[.agg #[.int .i64 r.1, .int .i64 r.2.1, .int .i64 r.2.2.1, .int .i64 r.2.2.2.1, .int .i64 r.2.2.2.2.1, .int .i64 r.2.2.2.2.2.1, .int .i64 r.2.2.2.2.2.2.1, .int .i64 r.2.2.2.2.2.2.2.1, .int .i64 r.2.2.2.2.2.2.2.2.1, .bool r.2.2.2.2.2.2.2.2.2.1, .slice y.1 r.2.2.2.2.2.2.2.2.2.2.1.length y.2.1, .int .i64 r.2.2.2.2.2.2.2.2.2.2.2.1, .int .i64 r.2.2.2.2.2.2.2.2.2.2.2.2.1, .slice y.2.2.2.1 r.2.2.2.2.2.2.2.2.2.2.2.2.2.1.length y.2.2.2.2], .int .i64 r.2.2.2.2.2.2.2.2.2.2.2.2.2.2]) (fun r y => [RowV 61 4 (V61 (y.2.2.1)) y.1 r.2.2.2.2.2.2.2.2.2.2.1 y.2.1, y.2.2.1, Row 5 1 y.2.2.2.1 r.2.2.2.2.2.2.2.2.2.2.2.2.2.1.length y.2.2.2.2 (encB r.2.2.2.2.2.2.2.2.2.2.2.2.2.1)]) := by
 unfold synodref3_GetMessage.f
 refine fn_intro 115 Try.func61 rfl Try.ntmps61 rfl ?_
 refine sim_seq (sim_region ?_)
 refine simL_eff (re_alloc rfl Try.zeroValue31 rfl) rfl rfl rfl ?_
 intro b1v
 refine simL_val (q_asg rfl rfl) rfl rfl rfl (simL_nil (nrm_then (sim_seq (sim_region ?_))))
 refine simL_val (q_move rfl rfl) rfl rfl rfl ?_
 refine simL_val (q_build (v := .agg #[.slice a0 x0.length c0, .int .i64 0, .int .i64 0]) rfl rfl (fun _ => by kernel_rfl)) rfl rfl rfl ?_
 refine simL_eff (re_box rfl rfl rfl) rfl rfl rfl ?_
 intro b2v
 refine simL_val (q_asg rfl rfl) rfl rfl rfl (simL_nil (nrm_then (sim_seq (sim_region ?_))))
 refine simL_val (q_move rfl rfl) rfl rfl rfl ?_
 refine simL_bind (fun s3v hs5v => ?_)
 refine simL_eff (re_call (vs := [.pointer (some ⟨b2v, 0, none⟩)]) (cap := []) (A := [obj b2v 152 [.slice a0 x0.length c0, .int .i64 0, .int .i64 0]]) (rst := [obj b1v 31 [.int .i64 0, .int .i64 0, .int .i64 0, .int .i64 0, .int .i64 0, .int .i64 0, .int .i64 0, .int .i64 0, .int .i64 0, .bool false, .slice none 0 0, .int .i64 0, .int .i64 0, .slice none 0 0], F]) rfl rfl rfl rfl rfl rfl Try.call85 (.sel 0 rfl (.sel 0 rfl (.sel 0 rfl (.nil _)))) (synodref1_Reader_Int.calls _ _ k b2v a0 c0 x0 (0 : Int) (0 : Int) (h0.lend 1 rfl) hc0 hm0) hs5v) rfl rfl rfl ?_
 intro y4v
 refine simL_val (q_build (v := .agg #[.int .i64 s3v.1, .int .i64 0, .int .i64 0, .int .i64 0, .int .i64 0, .int .i64 0, .int .i64 0, .int .i64 0, .int .i64 0, .bool false, .slice none 0 0, .int .i64 0, .int .i64 0, .slice none 0 0]) rfl rfl (fun _ => by kernel_rfl)) rfl rfl rfl ?_
 refine simL_eff (re_alloc rfl Try.zeroValue31 rfl) rfl rfl rfl ?_
 intro b6v
 refine simL_do (re_store 0 rfl rfl rfl Try.sizeOf31 rfl rfl (one_of (by rfl)) rfl rfl) rfl rfl ?_
 intro _
 refine simL_ent (H' := [obj b6v 31 [.int .i64 s3v.1, .int .i64 0, .int .i64 0, .int .i64 0, .int .i64 0, .int .i64 0, .int .i64 0, .int .i64 0, .int .i64 0, .bool false, .slice none 0 0, .int .i64 0, .int .i64 0, .slice none 0 0], obj b2v 152 [.slice a0 x0.length c0, .int .i64 s3v.2.1, .int .i64 s3v.2.2], obj b1v 31 [.int .i64 0, .int .i64 0, .int .i64 0, .int .i64 0, .int .i64 0, .int .i64 0, .int .i64 0, .int .i64 0, .int .i64 0, .bool false, .slice none 0 0, .int .i64 0, .int .i64 0, .slice none 0 0], F]) (Ent.refl _) ?_
 refine simL_nil (nrm_then ?_)
 refine sim_cut (S := Int × Int) (Unit) (fun s y => [(2, .pointer (some ⟨b1v, 0, none⟩)), (4, .pointer (some ⟨b2v, 0, none⟩)), (5, .pointer (some ⟨b6v, 0, none⟩))]) (fun s y => [obj b2v 152 [.slice a0 x0.length c0, .int .i64 s.1, .int .i64 s.2], obj b6v 31 [.int .i64 s3v.1, .int .i64 0, .int .i64 0, .int .i64 0, .int .i64 0, .int .i64 0, .int .i64 0, .int .i64 0, .int .i64 0, .bool false, .slice none 0 0, .int .i64 0, .int .i64 0, .slice none 0 0], obj b1v 31 [.int .i64 0, .int .i64 0, .int .i64 0, .int .i64 0, .int .i64 0, .int .i64 0, .int .i64 0, .int .i64 0, .int .i64 0, .bool false, .slice none 0 0, .int .i64 0, .int .i64 0, .slice none 0 0], F]) ?_ ?_
 refine sim_seq (sim_region ?_)
 refine simL_val (q_fa rfl rfl Try.underlying31 rfl rfl Try.sizeOf3 rfl) rfl rfl rfl ?_
 refine simL_val (q_load rfl rfl Try.isAgg3 (.obj 0 rfl rfl)) rfl rfl rfl ?_
 refine simL_bind (fun s9v hs11v => ?_)
 refine simL_eff (re_call (vs := [.int .i64 s3v.1, .int .i64 1, .int .i64 7]) (cap := []) (A := []) (rst := [obj b6v 31 [.int .i64 s3v.1, .int .i64 0, .int .i64 0, .int .i64 0, .int .i64 0, .int .i64 0, .int .i64 0, .int .i64 0, .int .i64 0, .bool false, .slice none 0 0, .int .i64 0, .int .i64 0, .slice none 0 0], obj b2v 152 [.slice a0 x0.length c0, .int .i64 s3v.2.1, .int .i64 s3v.2.2], obj b1v 31 [.int .i64 0, .int .i64 0, .int .i64 0, .int .i64 0, .int .i64 0, .int .i64 0, .int .i64 0, .int .i64 0, .int .i64 0, .bool false, .slice none 0 0, .int .i64 0, .int .i64 0, .slice none 0 0], F]) rfl rfl rfl rfl rfl rfl Try.call69 (.sel 0 rfl (.sel 0 rfl (.sel 0 rfl (.sel 0 rfl (.nil _))))) (synodref3_within.calls _ _ s3v.1 (1 : Int) (7 : Int) ) hs11v) rfl rfl rfl ?_
 intro y10v
 refine simL_val (q_not rfl rfl) rfl rfl rfl (simL_nil (nrm_then ?_))
 refine sim_condb rfl (fun h12v => ?_) (fun h13v => ?_)
 refine sim_region ?_
 refine simL_val (q_move rfl rfl) rfl rfl rfl ?_
 refine simL_bind (fun s14v hs16v => ?_)
 refine simL_eff (re_call (vs := [.pointer (some ⟨b2v, 0, none⟩), .int .i64 6]) (cap := []) (A := [obj b2v 152 [.slice a0 x0.length c0, .int .i64 s3v.2.1, .int .i64 s3v.2.2]]) (rst := [obj b6v 31 [.int .i64 s3v.1, .int .i64 0, .int .i64 0, .int .i64 0, .int .i64 0, .int .i64 0, .int .i64 0, .int .i64 0, .int .i64 0, .bool false, .slice none 0 0, .int .i64 0, .int .i64 0, .slice none 0 0], obj b1v 31 [.int .i64 0, .int .i64 0, .int .i64 0, .int .i64 0, .int .i64 0, .int .i64 0, .int .i64 0, .int .i64 0, .int .i64 0, .bool false, .slice none 0 0, .int .i64 0, .int .i64 0, .slice none 0 0], F]) rfl rfl rfl rfl rfl rfl Try.call116 (.sel 1 rfl (.sel 0 rfl (.sel 0 rfl (.sel 0 rfl (.nil _))))) (synodref3_fail.calls _ _ b2v a0 c0 x0 s3v.2.1 s3v.2.2 (6 : Int) (h0.lend 2 rfl) hc0 hm0) hs16v) rfl rfl rfl ?_
 intro y15v
 refine simL_nil ?_
 exact nrm_cut (s := (s14v.1, s14v.2)) () ⟨rfl, rfl, rfl, trivial⟩ (.sel 0 rfl (.sel 0 rfl (.sel 0 rfl (.sel 0 rfl (.nil _)))))
 refine sim_skip ?_
 exact nrm_cut (s := (s3v.2.1, s3v.2.2)) () ⟨rfl, rfl, rfl, trivial⟩ (.sel 1 rfl (.sel 0 rfl (.sel 0 rfl (.sel 0 rfl (.nil _)))))
 intro s7v y8v
 refine sim_seq (sim_region ?_)
 refine simL_val (q_move rfl rfl) rfl rfl rfl ?_
 refine simL_bind (fun s17v hs19v => ?_)
 refine simL_eff (re_call (vs := [.pointer (some ⟨b2v, 0, none⟩)]) (cap := []) (A := [obj b2v 152 [.slice a0 x0.length c0, .int .i64 s7v.1, .int .i64 s7v.2]]) (rst := [obj b6v 31 [.int .i64 s3v.1, .int .i64 0, .int .i64 0, .int .i64 0, .int .i64 0, .int .i64 0, .int .i64 0, .int .i64 0, .int .i64 0, .bool false, .slice none 0 0, .int .i64 0, .int .i64 0, .slice none 0 0], obj b1v 31 [.int .i64 0, .int .i64 0, .int .i64 0, .int .i64 0, .int .i64 0, .int .i64 0, .int .i64 0, .int .i64 0, .int .i64 0, .bool false, .slice none 0 0, .int .i64 0, .int .i64 0, .slice none 0 0], F]) rfl rfl rfl rfl rfl rfl Try.call85 (.sel 0 rfl (.sel 0 rfl (.sel 0 rfl (.sel 0 rfl (.nil _))))) (synodref1_Reader_Int.calls _ _ k b2v a0 c0 x0 s7v.1 s7v.2 (h0.lend 2 rfl) hc0 hm0) hs19v) rfl rfl rfl ?_
 intro y18v
 refine simL_val (q_fa rfl rfl Try.underlying31 rfl rfl Try.sizeOf3 rfl) rfl rfl rfl ?_
 refine simL_do (re_store 1 rfl rfl rfl Try.sizeOf3 rfl rfl (one_of (by rfl)) rfl rfl) rfl rfl ?_
 intro _
 refine simL_ent (H' := [obj b2v 152 [.slice a0 x0.length c0, .int .i64 s17v.2.1, .int .i64 s17v.2.2], obj b6v 31 [.int .i64 s3v.1, .int .i64 s17v.1, .int .i64 0, .int .i64 0, .int .i64 0, .int .i64 0, .int .i64 0, .int .i64 0, .int .i64 0, .bool false, .slice none 0 0, .int .i64 0, .int .i64 0, .slice none 0 0], obj b1v 31 [.int .i64 0, .int .i64 0, .int .i64 0, .int .i64 0, .int .i64 0, .int .i64 0, .int .i64 0, .int .i64 0, .int .i64 0, .bool false, .slice none 0 0, .int .i64 0, .int .i64 0, .slice none 0 0], F]) (Ent.refl _) ?_
 refine simL_nil (nrm_then (sim_seq (sim_region ?_)))
 refine simL_val (q_move rfl rfl) rfl rfl rfl ?_
 refine simL_bind (fun s20v hs22v => ?_)
 refine simL_eff (re_call (vs := [.pointer (some ⟨b2v, 0, none⟩)]) (cap := []) (A := [obj b2v 152 [.slice a0 x0.length c0, .int .i64 s17v.2.1, .int .i64 s17v.2.2]]) (rst := [obj b6v 31 [.int .i64 s3v.1, .int .i64 s17v.1, .int .i64 0, .int .i64 0, .int .i64 0, .int .i64 0, .int .i64 0, .int .i64 0, .int .i64 0, .bool false, .slice none 0 0, .int .i64 0, .int .i64 0, .slice none 0 0], obj b1v 31 [.int .i64 0, .int .i64 0, .int .i64 0, .int .i64 0, .int .i64 0, .int .i64 0, .int .i64 0, .int .i64 0, .int .i64 0, .bool false, .slice none 0 0, .int .i64 0, .int .i64 0, .slice none 0 0], F]) rfl rfl rfl rfl rfl rfl Try.call85 (.sel 0 rfl (.sel 0 rfl (.sel 0 rfl (.sel 0 rfl (.nil _))))) (synodref1_Reader_Int.calls _ _ k b2v a0 c0 x0 s17v.2.1 s17v.2.2 (h0.lend 2 rfl) hc0 hm0) hs22v) rfl rfl rfl ?_
 intro y21v
 refine simL_val (q_fa rfl rfl Try.underlying31 rfl rfl Try.sizeOf3 rfl) rfl rfl rfl ?_
 refine simL_do (re_store 1 rfl rfl rfl Try.sizeOf3 rfl rfl (one_of (by rfl)) rfl rfl) rfl rfl ?_
 intro _
 refine simL_ent (H' := [obj b2v 152 [.slice a0 x0.length c0, .int .i64 s20v.2.1, .int .i64 s20v.2.2], obj b6v 31 [.int .i64 s3v.1, .int .i64 s17v.1, .int .i64 s20v.1, .int .i64 0, .int .i64 0, .int .i64 0, .int .i64 0, .int .i64 0, .int .i64 0, .bool false, .slice none 0 0, .int .i64 0, .int .i64 0, .slice none 0 0], obj b1v 31 [.int .i64 0, .int .i64 0, .int .i64 0, .int .i64 0, .int .i64 0, .int .i64 0, .int .i64 0, .int .i64 0, .int .i64 0, .bool false, .slice none 0 0, .int .i64 0, .int .i64 0, .slice none 0 0], F]) (Ent.refl _) ?_
 refine simL_nil (nrm_then (sim_seq (sim_region ?_)))
 refine simL_val (q_move rfl rfl) rfl rfl rfl ?_
 refine simL_bind (fun s23v hs25v => ?_)
 refine simL_eff (re_call (vs := [.pointer (some ⟨b2v, 0, none⟩)]) (cap := []) (A := [obj b2v 152 [.slice a0 x0.length c0, .int .i64 s20v.2.1, .int .i64 s20v.2.2]]) (rst := [obj b6v 31 [.int .i64 s3v.1, .int .i64 s17v.1, .int .i64 s20v.1, .int .i64 0, .int .i64 0, .int .i64 0, .int .i64 0, .int .i64 0, .int .i64 0, .bool false, .slice none 0 0, .int .i64 0, .int .i64 0, .slice none 0 0], obj b1v 31 [.int .i64 0, .int .i64 0, .int .i64 0, .int .i64 0, .int .i64 0, .int .i64 0, .int .i64 0, .int .i64 0, .int .i64 0, .bool false, .slice none 0 0, .int .i64 0, .int .i64 0, .slice none 0 0], F]) rfl rfl rfl rfl rfl rfl Try.call85 (.sel 0 rfl (.sel 0 rfl (.sel 0 rfl (.sel 0 rfl (.nil _))))) (synodref1_Reader_Int.calls _ _ k b2v a0 c0 x0 s20v.2.1 s20v.2.2 (h0.lend 2 rfl) hc0 hm0) hs25v) rfl rfl rfl ?_
 intro y24v
 refine simL_val (q_fa rfl rfl Try.underlying31 rfl rfl Try.sizeOf3 rfl) rfl rfl rfl ?_
 refine simL_do (re_store 1 rfl rfl rfl Try.sizeOf3 rfl rfl (one_of (by rfl)) rfl rfl) rfl rfl ?_
 intro _
 refine simL_ent (H' := [obj b2v 152 [.slice a0 x0.length c0, .int .i64 s23v.2.1, .int .i64 s23v.2.2], obj b6v 31 [.int .i64 s3v.1, .int .i64 s17v.1, .int .i64 s20v.1, .int .i64 s23v.1, .int .i64 0, .int .i64 0, .int .i64 0, .int .i64 0, .int .i64 0, .bool false, .slice none 0 0, .int .i64 0, .int .i64 0, .slice none 0 0], obj b1v 31 [.int .i64 0, .int .i64 0, .int .i64 0, .int .i64 0, .int .i64 0, .int .i64 0, .int .i64 0, .int .i64 0, .int .i64 0, .bool false, .slice none 0 0, .int .i64 0, .int .i64 0, .slice none 0 0], F]) (Ent.refl _) ?_
 refine simL_nil (nrm_then ?_)
 refine sim_cut (S := Int × Int × Int × Int × Int × Int × Int × Bool × (List (Int × Int × Int × List UInt8)) × Int × Int × List UInt8) (HA × Option Addr × Nat × Option Addr × Nat) (fun s y => [(2, .pointer (some ⟨b1v, 0, none⟩)), (4, .pointer (some ⟨b2v, 0, none⟩)), (5, .pointer (some ⟨b6v, 0, none⟩))]) (fun s y => [obj b2v 152 [.slice a0 x0.length c0, .int .i64 s.1, .int .i64 s.2.1], obj b6v 31 [.int .i64 s3v.1, .int .i64 s17v.1, .int .i64 s20v.1, .int .i64 s23v.1, .int .i64 s.2.2.1, .int .i64 s.2.2.2.1, .int .i64 s.2.2.2.2.1, .int .i64 s.2.2.2.2.2.1, .int .i64 s.2.2.2.2.2.2.1, .bool s.2.2.2.2.2.2.2.1, .slice y.2.1 s.2.2.2.2.2.2.2.2.1.length y.2.2.1, .int .i64 s.2.2.2.2.2.2.2.2.2.1, .int .i64 s.2.2.2.2.2.2.2.2.2.2.1, .slice y.2.2.2.1 s.2.2.2.2.2.2.2.2.2.2.2.length y.2.2.2.2], obj b1v 31 [.int .i64 0, .int .i64 0, .int .i64 0, .int .i64 0, .int .i64 0, .int .i64 0, .int .i64 0, .int .i64 0, .int .i64 0, .bool false, .slice none 0 0, .int .i64 0, .int .i64 0, .slice none 0 0], RowV 61 4 (V61 (y.1)) y.2.1 s.2.2.2.2.2.2.2.2.1 y.2.2.1, Row 5 1 y.2.2.2.1 s.2.2.2.2.2.2.2.2.2.2.2.length y.2.2.2.2 (encB s.2.2.2.2.2.2.2.2.2.2.2), y.1, F]) ?_ ?_
 refine sim_seq (sim_region ?_)
 refine simL_val (q_fa rfl rfl Try.underlying31 rfl rfl Try.sizeOf3 rfl) rfl rfl rfl ?_
 refine simL_val (q_load rfl rfl Try.isAgg3 (.obj 1 rfl rfl)) rfl rfl rfl (simL_nil (nrm_then ?_))
 refine sim_block ?_
 refine sim_seq (sim_region ?_)
 refine simL_val (q_eql rfl rfl rfl) rfl rfl rfl ?_
 refine simL_val (q_asg rfl rfl) rfl rfl rfl (simL_nil (nrm_then ?_))
 refine sim_cond rfl (fun h28v => ?_) (fun h29v => ?_)
 refine sim_seq (sim_region ?_)
 refine simL_val (q_move rfl rfl) rfl rfl rfl ?_
 refine simL_bind (fun s30v hs32v => ?_)
 refine simL_eff (re_call (vs := [.pointer (some ⟨b2v, 0, none⟩)]) (cap := []) (A := [obj b2v 152 [.slice a0 x0.length c0, .int .i64 s23v.2.1, .int .i64 s23v.2.2]]) (rst := [obj b6v 31 [.int .i64 s3v.1, .int .i64 s17v.1, .int .i64 s20v.1, .int .i64 s23v.1, .int .i64 0, .int .i64 0, .int .i64 0, .int .i64 0, .int .i64 0, .bool false, .slice none 0 0, .int .i64 0, .int .i64 0, .slice none 0 0], obj b1v 31 [.int .i64 0, .int .i64 0, .int .i64 0, .int .i64 0, .int .i64 0, .int .i64 0, .int .i64 0, .int .i64 0, .int .i64 0, .bool false, .slice none 0 0, .int .i64 0, .int .i64 0, .slice none 0 0], F]) rfl rfl rfl rfl rfl rfl Try.call85 (.sel 0 rfl (.sel 0 rfl (.sel 0 rfl (.sel 0 rfl (.nil _))))) (synodref1_Reader_Int.calls _ _ k b2v a0 c0 x0 s23v.2.1 s23v.2.2 (h0.lend 2 rfl) hc0 hm0) hs32v) rfl rfl rfl ?_
 intro y31v
 refine simL_val (q_fa rfl rfl Try.underlying31 rfl rfl Try.sizeOf3 rfl) rfl rfl rfl ?_
 refine simL_do (re_store 1 rfl rfl rfl Try.sizeOf3 rfl rfl (one_of (by rfl)) rfl rfl) rfl rfl ?_
 intro _
 refine simL_ent (H' := [obj b2v 152 [.slice a0 x0.length c0, .int .i64 s30v.2.1, .int .i64 s30v.2.2], obj b6v 31 [.int .i64 s3v.1, .int .i64 s17v.1, .int .i64 s20v.1, .int .i64 s23v.1, .int .i64 s30v.1, .int .i64 0, .int .i64 0, .int .i64 0, .int .i64 0, .bool false, .slice none 0 0, .int .i64 0, .int .i64 0, .slice none 0 0], obj b1v 31 [.int .i64 0, .int .i64 0, .int .i64 0, .int .i64 0, .int .i64 0, .int .i64 0, .int .i64 0, .int .i64 0, .int .i64 0, .bool false, .slice none 0 0, .int .i64 0, .int .i64 0, .slice none 0 0], F]) (Ent.refl _) ?_
 refine simL_nil (nrm_then (sim_region ?_))
 refine simL_val (q_move rfl rfl) rfl rfl rfl ?_
 refine simL_bind (fun s33v hs35v => ?_)
 refine simL_eff (re_call (vs := [.pointer (some ⟨b2v, 0, none⟩)]) (cap := []) (A := [obj b2v 152 [.slice a0 x0.length c0, .int .i64 s30v.2.1, .int .i64 s30v.2.2]]) (rst := [obj b6v 31 [.int .i64 s3v.1, .int .i64 s17v.1, .int .i64 s20v.1, .int .i64 s23v.1, .int .i64 s30v.1, .int .i64 0, .int .i64 0, .int .i64 0, .int .i64 0, .bool false, .slice none 0 0, .int .i64 0, .int .i64 0, .slice none 0 0], obj b1v 31 [.int .i64 0, .int .i64 0, .int .i64 0, .int .i64 0, .int .i64 0, .int .i64 0, .int .i64 0, .int .i64 0, .int .i64 0, .bool false, .slice none 0 0, .int .i64 0, .int .i64 0, .slice none 0 0], F]) rfl rfl rfl rfl rfl rfl Try.call85 (.sel 0 rfl (.sel 0 rfl (.sel 0 rfl (.sel 0 rfl (.nil _))))) (synodref1_Reader_Int.calls _ _ k b2v a0 c0 x0 s30v.2.1 s30v.2.2 (h0.lend 2 rfl) hc0 hm0) hs35v) rfl rfl rfl ?_
 intro y34v
 refine simL_val (q_fa rfl rfl Try.underlying31 rfl rfl Try.sizeOf3 rfl) rfl rfl rfl ?_
 refine simL_do (re_store 1 rfl rfl rfl Try.sizeOf3 rfl rfl (one_of (by rfl)) rfl rfl) rfl rfl ?_
 intro _
 refine simL_ent (H' := [obj b2v 152 [.slice a0 x0.length c0, .int .i64 s33v.2.1, .int .i64 s33v.2.2], obj b6v 31 [.int .i64 s3v.1, .int .i64 s17v.1, .int .i64 s20v.1, .int .i64 s23v.1, .int .i64 s30v.1, .int .i64 s33v.1, .int .i64 0, .int .i64 0, .int .i64 0, .bool false, .slice none 0 0, .int .i64 0, .int .i64 0, .slice none 0 0], obj b1v 31 [.int .i64 0, .int .i64 0, .int .i64 0, .int .i64 0, .int .i64 0, .int .i64 0, .int .i64 0, .int .i64 0, .int .i64 0, .bool false, .slice none 0 0, .int .i64 0, .int .i64 0, .slice none 0 0], F]) (Ent.refl _) ?_
 refine simL_nil (nrm_block ?_)
 exact nrm_cut (s := (s33v.2.1, s33v.2.2, s30v.1, s33v.1, 0, 0, 0, false, ([] : List (Int × Int × Int × List UInt8)), 0, 0, ([] : List UInt8))) (tt, none, 0, none, 0) ⟨rfl, rfl, rfl, trivial⟩ (.sel 0 rfl (.sel 0 rfl (.sel 0 rfl (.rowV_nil (.row_nil (.tt_in (.sel 0 rfl (.nil _))))))))
 refine sim_seq (sim_region ?_)
 refine simL_val (q_eql rfl rfl rfl) rfl rfl rfl ?_
 refine simL_val (q_asg rfl rfl) rfl rfl rfl (simL_nil (nrm_then ?_))
 refine sim_cond rfl (fun h36v => ?_) (fun h37v => ?_)
 refine sim_region ?_
 refine simL_val (q_move rfl rfl) rfl rfl rfl ?_
 refine simL_bind (fun s38v hs40v => ?_)
 refine simL_eff (re_call (vs := [.pointer (some ⟨b2v, 0, none⟩)]) (cap := []) (A := [obj b2v 152 [.slice a0 x0.length c0, .int .i64 s23v.2.1, .int .i64 s23v.2.2]]) (rst := [obj b6v 31 [.int .i64 s3v.1, .int .i64 s17v.1, .int .i64 s20v.1, .int .i64 s23v.1, .int .i64 0, .int .i64 0, .int .i64 0, .int .i64 0, .int .i64 0, .bool false, .slice none 0 0, .int .i64 0, .int .i64 0, .slice none 0 0], obj b1v 31 [.int .i64 0, .int .i64 0, .int .i64 0, .int .i64 0, .int .i64 0, .int .i64 0, .int .i64 0, .int .i64 0, .int .i64 0, .bool false, .slice none 0 0, .int .i64 0, .int .i64 0, .slice none 0 0], F]) rfl rfl rfl rfl rfl rfl Try.call117 (.sel 0 rfl (.sel 0 rfl (.sel 0 rfl (.sel 0 rfl (.nil _))))) (synodref1_Reader_Bool.calls _ _ k b2v a0 c0 x0 s23v.2.1 s23v.2.2 (h0.lend 2 rfl) hc0 hm0) hs40v) rfl rfl rfl ?_
 intro y39v
 refine simL_val (q_fa rfl rfl Try.underlying31 rfl rfl Try.sizeOf4 rfl) rfl rfl rfl ?_
 refine simL_do (re_store 1 rfl rfl rfl Try.sizeOf4 rfl rfl (one_of (by rfl)) rfl rfl) rfl rfl ?_
 intro _
 refine simL_ent (H' := [obj b2v 152 [.slice a0 x0.length c0, .int .i64 s38v.2.1, .int .i64 s38v.2.2], obj b6v 31 [.int .i64 s3v.1, .int .i64 s17v.1, .int .i64 s20v.1, .int .i64 s23v.1, .int .i64 0, .int .i64 0, .int .i64 0, .int .i64 0, .int .i64 0, .bool s38v.1, .slice none 0 0, .int .i64 0, .int .i64 0, .slice none 0 0], obj b1v 31 [.int .i64 0, .int .i64 0, .int .i64 0, .int .i64 0, .int .i64 0, .int .i64 0, .int .i64 0, .int .i64 0, .int .i64 0, .bool false, .slice none 0 0, .int .i64 0, .int .i64 0, .slice none 0 0], F]) (Ent.refl _) ?_
 refine simL_nil (nrm_block ?_)
 exact nrm_cut (s := (s38v.2.1, s38v.2.2, 0, 0, 0, 0, 0, s38v.1, ([] : List (Int × Int × Int × List UInt8)), 0, 0, ([] : List UInt8))) (tt, none, 0, none, 0) ⟨rfl, rfl, rfl, trivial⟩ (.sel 0 rfl (.sel 0 rfl (.sel 0 rfl (.rowV_nil (.row_nil (.tt_in (.sel 0 rfl (.nil _))))))))
 refine sim_seq (sim_region ?_)
 refine simL_val (q_eql rfl rfl rfl) rfl rfl rfl ?_
 refine simL_val (q_asg rfl rfl) rfl rfl rfl (simL_nil (nrm_then ?_))
 refine sim_cond rfl (fun h41v => ?_) (fun h42v => ?_)
 refine sim_seq (sim_region ?_)
 refine simL_val (q_move rfl rfl) rfl rfl rfl ?_
 refine simL_bind (fun s43v hs45v => ?_)
 refine simL_eff (re_call (vs := [.pointer (some ⟨b2v, 0, none⟩)]) (cap := []) (A := [obj b2v 152 [.slice a0 x0.length c0, .int .i64 s23v.2.1, .int .i64 s23v.2.2]]) (rst := [obj b6v 31 [.int .i64 s3v.1, .int .i64 s17v.1, .int .i64 s20v.1, .int .i64 s23v.1, .int .i64 0, .int .i64 0, .int .i64 0, .int .i64 0, .int .i64 0, .bool false, .slice none 0 0, .int .i64 0, .int .i64 0, .slice none 0 0], obj b1v 31 [.int .i64 0, .int .i64 0, .int .i64 0, .int .i64 0, .int .i64 0, .int .i64 0, .int .i64 0, .int .i64 0, .int .i64 0, .bool false, .slice none 0 0, .int .i64 0, .int .i64 0, .slice none 0 0], F]) rfl rfl rfl rfl rfl rfl Try.call85 (.sel 0 rfl (.sel 0 rfl (.sel 0 rfl (.sel 0 rfl (.nil _))))) (synodref1_Reader_Int.calls _ _ k b2v a0 c0 x0 s23v.2.1 s23v.2.2 (h0.lend 2 rfl) hc0 hm0) hs45v) rfl rfl rfl ?_
 intro y44v
 refine simL_val (q_fa rfl rfl Try.underlying31 rfl rfl Try.sizeOf3 rfl) rfl rfl rfl ?_
 refine simL_do (re_store 1 rfl rfl rfl Try.sizeOf3 rfl rfl (one_of (by rfl)) rfl rfl) rfl rfl ?_
 intro _
 refine simL_ent (H' := [obj b2v 152 [.slice a0 x0.length c0, .int .i64 s43v.2.1, .int .i64 s43v.2.2], obj b6v 31 [.int .i64 s3v.1, .int .i64 s17v.1, .int .i64 s20v.1, .int .i64 s23v.1, .int .i64 s43v.1, .int .i64 0, .int .i64 0, .int .i64 0, .int .i64 0, .bool false, .slice none 0 0, .int .i64 0, .int .i64 0, .slice none 0 0], obj b1v 31 [.int .i64 0, .int .i64 0, .int .i64 0, .int .i64 0, .int .i64 0, .int .i64 0, .int .i64 0, .int .i64 0, .int .i64 0, .bool false, .slice none 0 0, .int .i64 0, .int .i64 0, .slice none 0 0], F]) (Ent.refl _) ?_
 refine simL_nil (nrm_then (sim_seq (sim_region ?_)))
 refine simL_val (q_move rfl rfl) rfl rfl rfl ?_
 refine simL_bind (fun s46v hs48v => ?_)
 refine simL_eff (re_call (vs := [.pointer (some ⟨b2v, 0, none⟩)]) (cap := []) (A := [obj b2v 152 [.slice a0 x0.length c0, .int .i64 s43v.2.1, .int .i64 s43v.2.2]]) (rst := [obj b6v 31 [.int .i64 s3v.1, .int .i64 s17v.1, .int .i64 s20v.1, .int .i64 s23v.1, .int .i64 s43v.1, .int .i64 0, .int .i64 0, .int .i64 0, .int .i64 0, .bool false, .slice none 0 0, .int .i64 0, .int .i64 0, .slice none 0 0], obj b1v 31 [.int .i64 0, .int .i64 0, .int .i64 0, .int .i64 0, .int .i64 0, .int .i64 0, .int .i64 0, .int .i64 0, .int .i64 0, .bool false, .slice none 0 0, .int .i64 0, .int .i64 0, .slice none 0 0], F]) rfl rfl rfl rfl rfl rfl Try.call85 (.sel 0 rfl (.sel 0 rfl (.sel 0 rfl (.sel 0 rfl (.nil _))))) (synodref1_Reader_Int.calls _ _ k b2v a0 c0 x0 s43v.2.1 s43v.2.2 (h0.lend 2 rfl) hc0 hm0) hs48v) rfl rfl rfl ?_
 intro y47v
 refine simL_val (q_fa rfl rfl Try.underlying31 rfl rfl Try.sizeOf3 rfl) rfl rfl rfl ?_
 refine simL_do (re_store 1 rfl rfl rfl Try.sizeOf3 rfl rfl (one_of (by rfl)) rfl rfl) rfl rfl ?_
 intro _
 refine simL_ent (H' := [obj b2v 152 [.slice a0 x0.length c0, .int .i64 s46v.2.1, .int .i64 s46v.2.2], obj b6v 31 [.int .i64 s3v.1, .int .i64 s17v.1, .int .i64 s20v.1, .int .i64 s23v.1, .int .i64 s43v.1, .int .i64 s46v.1, .int .i64 0, .int .i64 0, .int .i64 0, .bool false, .slice none 0 0, .int .i64 0, .int .i64 0, .slice none 0 0], obj b1v 31 [.int .i64 0, .int .i64 0, .int .i64 0, .int .i64 0, .int .i64 0, .int .i64 0, .int .i64 0, .int .i64 0, .int .i64 0, .bool false, .slice none 0 0, .int .i64 0, .int .i64 0, .slice none 0 0], F]) (Ent.refl _) ?_
 refine simL_nil (nrm_then (sim_seq (sim_region ?_)))
 refine simL_val (q_move rfl rfl) rfl rfl rfl ?_
 refine simL_bind (fun s49v hs51v => ?_)
 refine simL_eff (re_call (vs := [.pointer (some ⟨b2v, 0, none⟩)]) (cap := []) (A := [obj b2v 152 [.slice a0 x0.length c0, .int .i64 s46v.2.1, .int .i64 s46v.2.2]]) (rst := [obj b6v 31 [.int .i64 s3v.1, .int .i64 s17v.1, .int .i64 s20v.1, .int .i64 s23v.1, .int .i64 s43v.1, .int .i64 s46v.1, .int .i64 0, .int .i64 0, .int .i64 0, .bool false, .slice none 0 0, .int .i64 0, .int .i64 0, .slice none 0 0], obj b1v 31 [.int .i64 0, .int .i64 0, .int .i64 0, .int .i64 0, .int .i64 0, .int .i64 0, .int .i64 0, .int .i64 0, .int .i64 0, .bool false, .slice none 0 0, .int .i64 0, .int .i64 0, .slice none 0 0], F]) rfl rfl rfl rfl rfl rfl Try.call85 (.sel 0 rfl (.sel 0 rfl (.sel 0 rfl (.sel 0 rfl (.nil _))))) (synodref1_Reader_Int.calls _ _ k b2v a0 c0 x0 s46v.2.1 s46v.2.2 (h0.lend 2 rfl) hc0 hm0) hs51v) rfl rfl rfl ?_
 intro y50v
 refine simL_val (q_fa rfl rfl Try.underlying31 rfl rfl Try.sizeOf3 rfl) rfl rfl rfl ?_
 refine simL_do (re_store 1 rfl rfl rfl Try.sizeOf3 rfl rfl (one_of (by rfl)) rfl rfl) rfl rfl ?_
 intro _
 refine simL_ent (H' := [obj b2v 152 [.slice a0 x0.length c0, .int .i64 s49v.2.1, .int .i64 s49v.2.2], obj b6v 31 [.int .i64 s3v.1, .int .i64 s17v.1, .int .i64 s20v.1, .int .i64 s23v.1, .int .i64 s43v.1, .int .i64 s46v.1, .int .i64 s49v.1, .int .i64 0, .int .i64 0, .bool false, .slice none 0 0, .int .i64 0, .int .i64 0, .slice none 0 0], obj b1v 31 [.int .i64 0, .int .i64 0, .int .i64 0, .int .i64 0, .int .i64 0, .int .i64 0, .int .i64 0, .int .i64 0, .int .i64 0, .bool false, .slice none 0 0, .int .i64 0, .int .i64 0, .slice none 0 0], F]) (Ent.refl _) ?_
 refine simL_nil (nrm_then (sim_region ?_))
 refine simL_val (q_move rfl rfl) rfl rfl rfl ?_
 refine simL_bind (fun s52v hs54v => ?_)
 refine simL_eff (re_call (vs := [.pointer (some ⟨b2v, 0, none⟩)]) (cap := []) (A := [obj b2v 152 [.slice a0 x0.length c0, .int .i64 s49v.2.1, .int .i64 s49v.2.2]]) (rst := [obj b6v 31 [.int .i64 s3v.1, .int .i64 s17v.1, .int .i64 s20v.1, .int .i64 s23v.1, .int .i64 s43v.1, .int .i64 s46v.1, .int .i64 s49v.1, .int .i64 0, .int .i64 0, .bool false, .slice none 0 0, .int .i64 0, .int .i64 0, .slice none 0 0], obj b1v 31 [.int .i64 0, .int .i64 0, .int .i64 0, .int .i64 0, .int .i64 0, .int .i64 0, .int .i64 0, .int .i64 0, .int .i64 0, .bool false, .slice none 0 0, .int .i64 0, .int .i64 0, .slice none 0 0], F]) rfl rfl rfl rfl rfl rfl Try.call118 (.sel 0 rfl (.sel 0 rfl (.sel 0 rfl (.sel 0 rfl (.nil _))))) (synodref3_entries.calls _ _ k b2v a0 c0 x0 s49v.2.1 s49v.2.2 (h0.lend 2 rfl) hc0 hm0) hs54v) rfl rfl rfl ?_
 intro y53v
 refine simL_val (q_fa rfl rfl Try.underlying31 rfl rfl Try.sizeOf26 rfl) rfl rfl rfl ?_
 refine simL_do (re_store 3 rfl rfl rfl Try.sizeOf26 rfl rfl (one_of (by rfl)) rfl rfl) rfl rfl ?_
 intro _
 refine simL_ent (H' := [RowV 61 4 (V61 (y53v.2.2)) y53v.1 s52v.1 y53v.2.1, y53v.2.2, obj b2v 152 [.slice a0 x0.length c0, .int .i64 s52v.2.1, .int .i64 s52v.2.2], obj b6v 31 [.int .i64 s3v.1, .int .i64 s17v.1, .int .i64 s20v.1, .int .i64 s23v.1, .int .i64 s43v.1, .int .i64 s46v.1, .int .i64 s49v.1, .int .i64 0, .int .i64 0, .bool false, .slice y53v.1 s52v.1.length y53v.2.1, .int .i64 0, .int .i64 0, .slice none 0 0], obj b1v 31 [.int .i64 0, .int .i64 0, .int .i64 0, .int .i64 0, .int .i64 0, .int .i64 0, .int .i64 0, .int .i64 0, .int .i64 0, .bool false, .slice none 0 0, .int .i64 0, .int .i64 0, .slice none 0 0], F]) (Ent.refl _) ?_
 refine simL_nil (nrm_block ?_)
 exact nrm_cut (s := (s52v.2.1, s52v.2.2, s43v.1, s46v.1, s49v.1, 0, 0, false, s52v.1, 0, 0, ([] : List UInt8))) (y53v.2.2, y53v.1, y53v.2.1, none, 0) ⟨rfl, rfl, rfl, trivial⟩ (.sel 2 rfl (.sel 2 rfl (.sel 2 rfl (.sel 0 rfl (.row_nil (.sel 0 rfl (.sel 0 rfl (.nil _))))))))
 refine sim_seq (sim_region ?_)
 refine simL_val (q_eql rfl rfl rfl) rfl rfl rfl ?_
 refine simL_val (q_asg rfl rfl) rfl rfl rfl (simL_nil (nrm_then ?_))
 refine sim_cond rfl (fun h55v => ?_) (fun h56v => ?_)
 refine sim_seq (sim_region ?_)
 refine simL_val (q_move rfl rfl) rfl rfl rfl ?_
 refine simL_bind (fun s57v hs59v => ?_)
 refine simL_eff (re_call (vs := [.pointer (some ⟨b2v, 0, none⟩)]) (cap := []) (A := [obj b2v 152 [.slice a0 x0.length c0, .int .i64 s23v.2.1, .int .i64 s23v.2.2]]) (rst := [obj b6v 31 [.int .i64 s3v.1, .int .i64 s17v.1, .int .i64 s20v.1, .int .i64 s23v.1, .int .i64 0, .int .i64 0, .int .i64 0, .int .i64 0, .int .i64 0, .bool false, .slice none 0 0, .int .i64 0, .int .i64 0, .slice none 0 0], obj b1v 31 [.int .i64 0, .int .i64 0, .int .i64 0, .int .i64 0, .int .i64 0, .int .i64 0, .int .i64 0, .int .i64 0, .int .i64 0, .bool false, .slice none 0 0, .int .i64 0, .int .i64 0, .slice none 0 0], F]) rfl rfl rfl rfl rfl rfl Try.call85 (.sel 0 rfl (.sel 0 rfl (.sel 0 rfl (.sel 0 rfl (.nil _))))) (synodref1_Reader_Int.calls _ _ k b2v a0 c0 x0 s23v.2.1 s23v.2.2 (h0.lend 2 rfl) hc0 hm0) hs59v) rfl rfl rfl ?_
 intro y58v
 refine simL_val (q_fa rfl rfl Try.underlying31 rfl rfl Try.sizeOf3 rfl) rfl rfl rfl ?_
 refine simL_do (re_store 1 rfl rfl rfl Try.sizeOf3 rfl rfl (one_of (by rfl)) rfl rfl) rfl rfl ?_
 intro _
 refine simL_ent (H' := [obj b2v 152 [.slice a0 x0.length c0, .int .i64 s57v.2.1, .int .i64 s57v.2.2], obj b6v 31 [.int .i64 s3v.1, .int .i64 s17v.1, .int .i64 s20v.1, .int .i64 s23v.1, .int .i64 s57v.1, .int .i64 0, .int .i64 0, .int .i64 0, .int .i64 0, .bool false, .slice none 0 0, .int .i64 0, .int .i64 0, .slice none 0 0], obj b1v 31 [.int .i64 0, .int .i64 0, .int .i64 0, .int .i64 0, .int .i64 0, .int .i64 0, .int .i64 0, .int .i64 0, .int .i64 0, .bool false, .slice none 0 0, .int .i64 0, .int .i64 0, .slice none 0 0], F]) (Ent.refl _) ?_
 refine simL_nil (nrm_then (sim_seq (sim_region ?_)))
 refine simL_val (q_move rfl rfl) rfl rfl rfl ?_
 refine simL_bind (fun s60v hs62v => ?_)
 refine simL_eff (re_call (vs := [.pointer (some ⟨b2v, 0, none⟩)]) (cap := []) (A := [obj b2v 152 [.slice a0 x0.length c0, .int .i64 s57v.2.1, .int .i64 s57v.2.2]]) (rst := [obj b6v 31 [.int .i64 s3v.1, .int .i64 s17v.1, .int .i64 s20v.1, .int .i64 s23v.1, .int .i64 s57v.1, .int .i64 0, .int .i64 0, .int .i64 0, .int .i64 0, .bool false, .slice none 0 0, .int .i64 0, .int .i64 0, .slice none 0 0], obj b1v 31 [.int .i64 0, .int .i64 0, .int .i64 0, .int .i64 0, .int .i64 0, .int .i64 0, .int .i64 0, .int .i64 0, .int .i64 0, .bool false, .slice none 0 0, .int .i64 0, .int .i64 0, .slice none 0 0], F]) rfl rfl rfl rfl rfl rfl Try.call117 (.sel 0 rfl (.sel 0 rfl (.sel 0 rfl (.sel 0 rfl (.nil _))))) (synodref1_Reader_Bool.calls _ _ k b2v a0 c0 x0 s57v.2.1 s57v.2.2 (h0.lend 2 rfl) hc0 hm0) hs62v) rfl rfl rfl ?_
 intro y61v
 refine simL_val (q_fa rfl rfl Try.underlying31 rfl rfl Try.sizeOf4 rfl) rfl rfl rfl ?_
 refine simL_do (re_store 1 rfl rfl rfl Try.sizeOf4 rfl rfl (one_of (by rfl)) rfl rfl) rfl rfl ?_
 intro _
 refine simL_ent (H' := [obj b2v 152 [.slice a0 x0.length c0, .int .i64 s60v.2.1, .int .i64 s60v.2.2], obj b6v 31 [.int .i64 s3v.1, .int .i64 s17v.1, .int .i64 s20v.1, .int .i64 s23v.1, .int .i64 s57v.1, .int .i64 0, .int .i64 0, .int .i64 0, .int .i64 0, .bool s60v.1, .slice none 0 0, .int .i64 0, .int .i64 0, .slice none 0 0], obj b1v 31 [.int .i64 0, .int .i64 0, .int .i64 0, .int .i64 0, .int .i64 0, .int .i64 0, .int .i64 0, .int .i64 0, .int .i64 0, .bool false, .slice none 0 0, .int .i64 0, .int .i64 0, .slice none 0 0], F]) (Ent.refl _) ?_
 refine simL_nil (nrm_then (sim_region ?_))
 refine simL_val (q_move rfl rfl) rfl rfl rfl ?_
 refine simL_bind (fun s63v hs65v => ?_)
 refine simL_eff (re_call (vs := [.pointer (some ⟨b2v, 0, none⟩)]) (cap := []) (A := [obj b2v 152 [.slice a0 x0.length c0, .int .i64 s60v.2.1, .int .i64 s60v.2.2]]) (rst := [obj b6v 31 [.int .i64 s3v.1, .int .i64 s17v.1, .int .i64 s20v.1, .int .i64 s23v.1, .int .i64 s57v.1, .int .i64 0, .int .i64 0, .int .i64 0, .int .i64 0, .bool s60v.1, .slice none 0 0, .int .i64 0, .int .i64 0, .slice none 0 0], obj b1v 31 [.int .i64 0, .int .i64 0, .int .i64 0, .int .i64 0, .int .i64 0, .int .i64 0, .int .i64 0, .int .i64 0, .int .i64 0, .bool false, .slice none 0 0, .int .i64 0, .int .i64 0, .slice none 0 0], F]) rfl rfl rfl rfl rfl rfl Try.call85 (.sel 0 rfl (.sel 0 rfl (.sel 0 rfl (.sel 0 rfl (.nil _))))) (synodref1_Reader_Int.calls _ _ k b2v a0 c0 x0 s60v.2.1 s60v.2.2 (h0.lend 2 rfl) hc0 hm0) hs65v) rfl rfl rfl ?_
 intro y64v
 refine simL_val (q_fa rfl rfl Try.underlying31 rfl rfl Try.sizeOf3 rfl) rfl rfl rfl ?_
 refine simL_do (re_store 1 rfl rfl rfl Try.sizeOf3 rfl rfl (one_of (by rfl)) rfl rfl) rfl rfl ?_
 intro _
 refine simL_ent (H' := [obj b2v 152 [.slice a0 x0.length c0, .int .i64 s63v.2.1, .int .i64 s63v.2.2], obj b6v 31 [.int .i64 s3v.1, .int .i64 s17v.1, .int .i64 s20v.1, .int .i64 s23v.1, .int .i64 s57v.1, .int .i64 0, .int .i64 0, .int .i64 s63v.1, .int .i64 0, .bool s60v.1, .slice none 0 0, .int .i64 0, .int .i64 0, .slice none 0 0], obj b1v 31 [.int .i64 0, .int .i64 0, .int .i64 0, .int .i64 0, .int .i64 0, .int .i64 0, .int .i64 0, .int .i64 0, .int .i64 0, .bool false, .slice none 0 0, .int .i64 0, .int .i64 0, .slice none 0 0], F]) (Ent.refl _) ?_
 refine simL_nil (nrm_block ?_)
 exact nrm_cut (s := (s63v.2.1, s63v.2.2, s57v.1, 0, 0, s63v.1, 0, s60v.1, ([] : List (Int × Int × Int × List UInt8)), 0, 0, ([] : List UInt8))) (tt, none, 0, none, 0) ⟨rfl, rfl, rfl, trivial⟩ (.sel 0 rfl (.sel 0 rfl (.sel 0 rfl (.rowV_nil (.row_nil (.tt_in (.sel 0 rfl (.nil _))))))))
 refine sim_seq (sim_region ?_)
 refine simL_val (q_eql rfl rfl rfl) rfl rfl rfl ?_
 refine simL_val (q_asg rfl rfl) rfl rfl rfl (simL_nil (nrm_then ?_))
 refine sim_cond rfl (fun h66v => ?_) (fun h67v => ?_)
 refine sim_seq (sim_region ?_)
 refine simL_val (q_move rfl rfl) rfl rfl rfl ?_
 refine simL_bind (fun s68v hs70v => ?_)
 refine simL_eff (re_call (vs := [.pointer (some ⟨b2v, 0, none⟩)]) (cap := []) (A := [obj b2v 152 [.slice a0 x0.length c0, .int .i64 s23v.2.1, .int .i64 s23v.2.2]]) (rst := [obj b6v 31 [.int .i64 s3v.1, .int .i64 s17v.1, .int .i64 s20v.1, .int .i64 s23v.1, .int .i64 0, .int .i64 0, .int .i64 0, .int .i64 0, .int .i64 0, .bool false, .slice none 0 0, .int .i64 0, .int .i64 0, .slice none 0 0], obj b1v 31 [.int .i64 0, .int .i64 0, .int .i64 0, .int .i64 0, .int .i64 0, .int .i64 0, .int .i64 0, .int .i64 0, .int .i64 0, .bool false, .slice none 0 0, .int .i64 0, .int .i64 0, .slice none 0 0], F]) rfl rfl rfl rfl rfl rfl Try.call85 (.sel 0 rfl (.sel 0 rfl (.sel 0 rfl (.sel 0 rfl (.nil _))))) (synodref1_Reader_Int.calls _ _ k b2v a0 c0 x0 s23v.2.1 s23v.2.2 (h0.lend 2 rfl) hc0 hm0) hs70v) rfl rfl rfl ?_
 intro y69v
 refine simL_val (q_fa rfl rfl Try.underlying31 rfl rfl Try.sizeOf3 rfl) rfl rfl rfl ?_
 refine simL_do (re_store 1 rfl rfl rfl Try.sizeOf3 rfl rfl (one_of (by rfl)) rfl rfl) rfl rfl ?_
 intro _
 refine simL_ent (H' := [obj b2v 152 [.slice a0 x0.length c0, .int .i64 s68v.2.1, .int .i64 s68v.2.2], obj b6v 31 [.int .i64 s3v.1, .int .i64 s17v.1, .int .i64 s20v.1, .int .i64 s23v.1, .int .i64 0, .int .i64 0, .int .i64 s68v.1, .int .i64 0, .int .i64 0, .bool false, .slice none 0 0, .int .i64 0, .int .i64 0, .slice none 0 0], obj b1v 31 [.int .i64 0, .int .i64 0, .int .i64 0, .int .i64 0, .int .i64 0, .int .i64 0, .int .i64 0, .int .i64 0, .int .i64 0, .bool false, .slice none 0 0, .int .i64 0, .int .i64 0, .slice none 0 0], F]) (Ent.refl _) ?_
 refine simL_nil (nrm_then (sim_region ?_))
 refine simL_val (q_move rfl rfl) rfl rfl rfl ?_
 refine simL_bind (fun s71v hs73v => ?_)
 refine simL_eff (re_call (vs := [.pointer (some ⟨b2v, 0, none⟩)]) (cap := []) (A := [obj b2v 152 [.slice a0 x0.length c0, .int .i64 s68v.2.1, .int .i64 s68v.2.2]]) (rst := [obj b6v 31 [.int .i64 s3v.1, .int .i64 s17v.1, .int .i64 s20v.1, .int .i64 s23v.1, .int .i64 0, .int .i64 0, .int .i64 s68v.1, .int .i64 0, .int .i64 0, .bool false, .slice none 0 0, .int .i64 0, .int .i64 0, .slice none 0 0], obj b1v 31 [.int .i64 0, .int .i64 0, .int .i64 0, .int .i64 0, .int .i64 0, .int .i64 0, .int .i64 0, .int .i64 0, .int .i64 0, .bool false, .slice none 0 0, .int .i64 0, .int .i64 0, .slice none 0 0], F]) rfl rfl rfl rfl rfl rfl Try.call85 (.sel 0 rfl (.sel 0 rfl (.sel 0 rfl (.sel 0 rfl (.nil _))))) (synodref1_Reader_Int.calls _ _ k b2v a0 c0 x0 s68v.2.1 s68v.2.2 (h0.lend 2 rfl) hc0 hm0) hs73v) rfl rfl rfl ?_
 intro y72v
 refine simL_val (q_fa rfl rfl Try.underlying31 rfl rfl Try.sizeOf3 rfl) rfl rfl rfl ?_
 refine simL_do (re_store 1 rfl rfl rfl Try.sizeOf3 rfl rfl (one_of (by rfl)) rfl rfl) rfl rfl ?_
 intro _
 refine simL_ent (H' := [obj b2v 152 [.slice a0 x0.length c0, .int .i64 s71v.2.1, .int .i64 s71v.2.2], obj b6v 31 [.int .i64 s3v.1, .int .i64 s17v.1, .int .i64 s20v.1, .int .i64 s23v.1, .int .i64 0, .int .i64 0, .int .i64 s68v.1, .int .i64 0, .int .i64 s71v.1, .bool false, .slice none 0 0, .int .i64 0, .int .i64 0, .slice none 0 0], obj b1v 31 [.int .i64 0, .int .i64 0, .int .i64 0, .int .i64 0, .int .i64 0, .int .i64 0, .int .i64 0, .int .i64 0, .int .i64 0, .bool false, .slice none 0 0, .int .i64 0, .int .i64 0, .slice none 0 0], F]) (Ent.refl _) ?_
 refine simL_nil (nrm_block ?_)
 exact nrm_cut (s := (s71v.2.1, s71v.2.2, 0, 0, s68v.1, 0, s71v.1, false, ([] : List (Int × Int × Int × List UInt8)), 0, 0, ([] : List UInt8))) (tt, none, 0, none, 0) ⟨rfl, rfl, rfl, trivial⟩ (.sel 0 rfl (.sel 0 rfl (.sel 0 rfl (.rowV_nil (.row_nil (.tt_in (.sel 0 rfl (.nil _))))))))
 refine sim_seq (sim_region ?_)
 refine simL_val (q_eql rfl rfl rfl) rfl rfl rfl ?_
 refine simL_val (q_asg rfl rfl) rfl rfl rfl (simL_nil (nrm_then ?_))
 refine sim_cond rfl (fun h74v => ?_) (fun h75v => ?_)
 refine sim_region ?_
 refine simL_val (q_move rfl rfl) rfl rfl rfl ?_
 refine simL_bind (fun s76v hs78v => ?_)
 refine simL_eff (re_call (vs := [.pointer (some ⟨b2v, 0, none⟩)]) (cap := []) (A := [obj b2v 152 [.slice a0 x0.length c0, .int .i64 s23v.2.1, .int .i64 s23v.2.2]]) (rst := [obj b6v 31 [.int .i64 s3v.1, .int .i64 s17v.1, .int .i64 s20v.1, .int .i64 s23v.1, .int .i64 0, .int .i64 0, .int .i64 0, .int .i64 0, .int .i64 0, .bool false, .slice none 0 0, .int .i64 0, .int .i64 0, .slice none 0 0], obj b1v 31 [.int .i64 0, .int .i64 0, .int .i64 0, .int .i64 0, .int .i64 0, .int .i64 0, .int .i64 0, .int .i64 0, .int .i64 0, .bool false, .slice none 0 0, .int .i64 0, .int .i64 0, .slice none 0 0], F]) rfl rfl rfl rfl rfl rfl Try.call85 (.sel 0 rfl (.sel 0 rfl (.sel 0 rfl (.sel 0 rfl (.nil _))))) (synodref1_Reader_Int.calls _ _ k b2v a0 c0 x0 s23v.2.1 s23v.2.2 (h0.lend 2 rfl) hc0 hm0) hs78v) rfl rfl rfl ?_
 intro y77v
 refine simL_val (q_fa rfl rfl Try.underlying31 rfl rfl Try.sizeOf3 rfl) rfl rfl rfl ?_
 refine simL_do (re_store 1 rfl rfl rfl Try.sizeOf3 rfl rfl (one_of (by rfl)) rfl rfl) rfl rfl ?_
 intro _
 refine simL_ent (H' := [obj b2v 152 [.slice a0 x0.length c0, .int .i64 s76v.2.1, .int .i64 s76v.2.2], obj b6v 31 [.int .i64 s3v.1, .int .i64 s17v.1, .int .i64 s20v.1, .int .i64 s23v.1, .int .i64 0, .int .i64 0, .int .i64 0, .int .i64 0, .int .i64 s76v.1, .bool false, .slice none 0 0, .int .i64 0, .int .i64 0, .slice none 0 0], obj b1v 31 [.int .i64 0, .int .i64 0, .int .i64 0, .int .i64 0, .int .i64 0, .int .i64 0, .int .i64 0, .int .i64 0, .int .i64 0, .bool false, .slice none 0 0, .int .i64 0, .int .i64 0, .slice none 0 0], F]) (Ent.refl _) ?_
 refine simL_nil (nrm_block ?_)
 exact nrm_cut (s := (s76v.2.1, s76v.2.2, 0, 0, 0, 0, s76v.1, false, ([] : List (Int × Int × Int × List UInt8)), 0, 0, ([] : List UInt8))) (tt, none, 0, none, 0) ⟨rfl, rfl, rfl, trivial⟩ (.sel 0 rfl (.sel 0 rfl (.sel 0 rfl (.rowV_nil (.row_nil (.tt_in (.sel 0 rfl (.nil _))))))))
 refine sim_seq (sim_region ?_)
 refine simL_val (q_eql rfl rfl rfl) rfl rfl rfl ?_
 refine simL_val (q_asg rfl rfl) rfl rfl rfl (simL_nil (nrm_then ?_))
 refine sim_cond rfl (fun h79v => ?_) (fun h80v => ?_)
 refine sim_seq (sim_region ?_)
 refine simL_val (q_move rfl rfl) rfl rfl rfl ?_
 refine simL_bind (fun s81v hs83v => ?_)
 refine simL_eff (re_call (vs := [.pointer (some ⟨b2v, 0, none⟩), .int .i64 1048576]) (cap := []) (A := [obj b2v 152 [.slice a0 x0.length c0, .int .i64 s23v.2.1, .int .i64 s23v.2.2]]) (rst := [obj b6v 31 [.int .i64 s3v.1, .int .i64 s17v.1, .int .i64 s20v.1, .int .i64 s23v.1, .int .i64 0, .int .i64 0, .int .i64 0, .int .i64 0, .int .i64 0, .bool false, .slice none 0 0, .int .i64 0, .int .i64 0, .slice none 0 0], obj b1v 31 [.int .i64 0, .int .i64 0, .int .i64 0, .int .i64 0, .int .i64 0, .int .i64 0, .int .i64 0, .int .i64 0, .int .i64 0, .bool false, .slice none 0 0, .int .i64 0, .int .i64 0, .slice none 0 0], F]) rfl rfl rfl rfl rfl rfl Try.call92 (.sel 0 rfl (.sel 0 rfl (.sel 0 rfl (.sel 0 rfl (.nil _))))) (synodref1_Reader_Bytes.calls _ _ k b2v a0 c0 x0 s23v.2.1 s23v.2.2 (1048576 : Int) (h0.lend 2 rfl) hc0 hm0) hs83v) rfl rfl rfl ?_
 intro y82v
 refine simL_val (q_asg rfl rfl) rfl rfl rfl (simL_nil (nrm_then (sim_seq (sim_region ?_))))
 refine simL_val (q_move rfl rfl) rfl rfl rfl ?_
 refine simL_val (q_nil rfl rfl) rfl rfl rfl ?_
 refine simL_val (q_fa rfl rfl Try.underlying152 rfl rfl Try.sizeOf3 rfl) rfl rfl rfl ?_
 refine simL_val (q_load rfl rfl Try.isAgg3 (.obj 1 rfl rfl)) rfl rfl rfl ?_
 refine simL_val (q_eql rfl rfl rfl) rfl rfl rfl (simL_nil (nrm_then ?_))
 refine sim_cond rfl (fun h84v => ?_) (fun h85v => ?_)
 refine sim_seq (sim_region ?_)
 refine simL_val (q_move rfl rfl) rfl rfl rfl ?_
 refine simL_bind (fun s90v hs92v => ?_)
 refine simL_lend 0 rfl (fun hq86v hq87v hq88v hq89v => ?_)
 refine simL_eff (re_call (vs := [.slice y82v.1 s81v.1.length y82v.2]) (cap := []) (A := []) (rst := [Row 5 1 y82v.1 s81v.1.length y82v.2 (encB s81v.1), obj b2v 152 [.slice a0 x0.length c0, .int .i64 s81v.2.1, .int .i64 s81v.2.2], obj b6v 31 [.int .i64 s3v.1, .int .i64 s17v.1, .int .i64 s20v.1, .int .i64 s23v.1, .int .i64 0, .int .i64 0, .int .i64 0, .int .i64 0, .int .i64 0, .bool false, .slice none 0 0, .int .i64 0, .int .i64 0, .slice none 0 0], obj b1v 31 [.int .i64 0, .int .i64 0, .int .i64 0, .int .i64 0, .int .i64 0, .int .i64 0, .int .i64 0, .int .i64 0, .int .i64 0, .bool false, .slice none 0 0, .int .i64 0, .int .i64 0, .slice none 0 0], F]) rfl rfl rfl rfl rfl rfl Try.call44 (.sel 0 rfl (.sel 0 rfl (.sel 0 rfl (.sel 0 rfl (.sel 0 rfl (.nil _)))))) (synodref3_GetSnap.calls _ _ k y82v.1 y82v.2 s81v.1 (hq86v.lend 0 rfl) hq87v hq88v) hs92v) rfl rfl rfl ?_
 intro y91v
 refine simL_val (q_move rfl rfl) rfl rfl rfl ?_
 refine simL_val (q_ext rfl rfl rfl) rfl rfl rfl ?_
 refine simL_val (q_ext rfl rfl rfl) rfl rfl rfl ?_
 refine simL_eff (re_alloc rfl Try.zeroValue29 rfl) rfl rfl rfl ?_
 intro b93v
 refine simL_do (re_store 0 rfl rfl rfl Try.sizeOf29 rfl rfl (one_of (by rfl)) rfl rfl) rfl rfl ?_
 intro _
 refine simL_val (q_asg rfl rfl) rfl rfl rfl (simL_nil (nrm_then (sim_seq (sim_region ?_))))
 refine simL_val (q_move rfl rfl) rfl rfl rfl ?_
 refine simL_val (q_move rfl rfl) rfl rfl rfl ?_
 refine simL_bind (fun s94v hs96v => ?_)
 refine simL_eff (re_call (vs := [.pointer (some ⟨b2v, 0, none⟩), .int .i64 s90v.2.2.2]) (cap := []) (A := [obj b2v 152 [.slice a0 x0.length c0, .int .i64 s81v.2.1, .int .i64 s81v.2.2]]) (rst := [obj b93v 29 [.int .i64 s90v.1, .int .i64 s90v.2.1, .slice y91v.1 s90v.2.2.1.length y91v.2], Row 5 1 y91v.1 s90v.2.2.1.length y91v.2 (encB s90v.2.2.1), Row 5 1 y82v.1 s81v.1.length y82v.2 (encB s81v.1), obj b6v 31 [.int .i64 s3v.1, .int .i64 s17v.1, .int .i64 s20v.1, .int .i64 s23v.1, .int .i64 0, .int .i64 0, .int .i64 0, .int .i64 0, .int .i64 0, .bool false, .slice none 0 0, .int .i64 0, .int .i64 0, .slice none 0 0], obj b1v 31 [.int .i64 0, .int .i64 0, .int .i64 0, .int .i64 0, .int .i64 0, .int .i64 0, .int .i64 0, .int .i64 0, .int .i64 0, .bool false, .slice none 0 0, .int .i64 0, .int .i64 0, .slice none 0 0], F]) rfl rfl rfl rfl rfl rfl Try.call116 (.sel 3 rfl (.sel 0 rfl (.sel 0 rfl (.sel 0 rfl (.sel 0 rfl (.sel 0 rfl (.sel 0 rfl (.nil _)))))))) (synodref3_fail.calls _ _ b2v a0 c0 x0 s81v.2.1 s81v.2.2 s90v.2.2.2 (h0.lend 5 rfl) hc0 hm0) hs96v) rfl rfl rfl ?_
 intro y95v
 refine simL_nil (nrm_then (sim_region ?_))
 refine simL_val (q_loado 1 rfl rfl Try.isAgg29 Try.sizeOf29 rfl rfl) rfl rfl rfl ?_
 refine simL_val (q_fa rfl rfl Try.underlying31 rfl rfl Try.sizeOf29 rfl) rfl rfl rfl ?_
 refine simL_do (re_store 4 rfl rfl rfl Try.sizeOf29 rfl rfl (one_of (by rfl)) rfl rfl) rfl rfl ?_
 intro _
 refine simL_ent (H' := [obj b2v 152 [.slice a0 x0.length c0, .int .i64 s94v.1, .int .i64 s94v.2], obj b93v 29 [.int .i64 s90v.1, .int .i64 s90v.2.1, .slice y91v.1 s90v.2.2.1.length y91v.2], Row 5 1 y91v.1 s90v.2.2.1.length y91v.2 (encB s90v.2.2.1), Row 5 1 y82v.1 s81v.1.length y82v.2 (encB s81v.1), obj b6v 31 [.int .i64 s3v.1, .int .i64 s17v.1, .int .i64 s20v.1, .int .i64 s23v.1, .int .i64 0, .int .i64 0, .int .i64 0, .int .i64 0, .int .i64 0, .bool false, .slice none 0 0, .int .i64 s90v.1, .int .i64 s90v.2.1, .slice y91v.1 s90v.2.2.1.length y91v.2], obj b1v 31 [.int .i64 0, .int .i64 0, .int .i64 0, .int .i64 0, .int .i64 0, .int .i64 0, .int .i64 0, .int .i64 0, .int .i64 0, .bool false, .slice none 0 0, .int .i64 0, .int .i64 0, .slice none 0 0], F]) (Ent.refl _) ?_
 refine simL_nil (nrm_block ?_)
 exact nrm_cut (s := (s94v.1, s94v.2, 0, 0, 0, 0, 0, false, ([] : List (Int × Int × Int × List UInt8)), s90v.1, s90v.2.1, s90v.2.2.1)) (tt, none, 0, y91v.1, y91v.2) ⟨rfl, rfl, rfl, trivial⟩ (.sel 0 rfl (.sel 3 rfl (.sel 3 rfl (.rowV_nil (.sel 1 rfl (.tt_in (.sel 2 rfl (.nil _))))))))
 refine sim_skip ?_
 refine nrm_block ?_
 exact nrm_cut (s := (s81v.2.1, s81v.2.2, 0, 0, 0, 0, 0, false, ([] : List (Int × Int × Int × List UInt8)), 0, 0, ([] : List UInt8))) (tt, none, 0, none, 0) ⟨rfl, rfl, rfl, trivial⟩ (.sel 1 rfl (.sel 1 rfl (.sel 1 rfl (.rowV_nil (.row_nil (.tt_in (.sel 1 rfl (.nil _))))))))
 refine sim_skip ?_
 refine nrm_block ?_
 exact nrm_cut (s := (s23v.2.1, s23v.2.2, 0, 0, 0, 0, 0, false, ([] : List (Int × Int × Int × List UInt8)), 0, 0, ([] : List UInt8))) (tt, none, 0, none, 0) ⟨rfl, rfl, rfl, trivial⟩ (.sel 0 rfl (.sel 0 rfl (.sel 0 rfl (.rowV_nil (.row_nil (.tt_in (.sel 0 rfl (.nil _))))))))
 intro s26v y27v
 refine sim_seq (sim_region ?_)
 refine simL_val (q_move rfl rfl) rfl rfl rfl ?_
 refine simL_bind (fun s97v hs99v => ?_)
 refine simL_eff (re_call (vs := [.pointer (some ⟨b2v, 0, none⟩)]) (cap := []) (A := [obj b2v 152 [.slice a0 x0.length c0, .int .i64 s26v.1, .int .i64 s26v.2.1]]) (rst := [obj b6v 31 [.int .i64 s3v.1, .int .i64 s17v.1, .int .i64 s20v.1, .int .i64 s23v.1, .int .i64 s26v.2.2.1, .int .i64 s26v.2.2.2.1, .int .i64 s26v.2.2.2.2.1, .int .i64 s26v.2.2.2.2.2.1, .int .i64 s26v.2.2.2.2.2.2.1, .bool s26v.2.2.2.2.2.2.2.1, .slice y27v.2.1 s26v.2.2.2.2.2.2.2.2.1.length y27v.2.2.1, .int .i64 s26v.2.2.2.2.2.2.2.2.2.1, .int .i64 s26v.2.2.2.2.2.2.2.2.2.2.1, .slice y27v.2.2.2.1 s26v.2.2.2.2.2.2.2.2.2.2.2.length y27v.2.2.2.2], obj b1v 31 [.int .i64 0, .int .i64 0, .int .i64 0, .int .i64 0, .int .i64 0, .int .i64 0, .int .i64 0, .int .i64 0, .int .i64 0, .bool false, .slice none 0 0, .int .i64 0, .int .i64 0, .slice none 0 0], RowV 61 4 (V61 (y27v.1)) y27v.2.1 s26v.2.2.2.2.2.2.2.2.1 y27v.2.2.1, Row 5 1 y27v.2.2.2.1 s26v.2.2.2.2.2.2.2.2.2.2.2.length y27v.2.2.2.2 (encB s26v.2.2.2.2.2.2.2.2.2.2.2), y27v.1, F]) rfl rfl rfl rfl rfl rfl Try.call86 (.sel 0 rfl (.sel 0 rfl (.sel 0 rfl (.sel 0 rfl (.sel 0 rfl (.sel 0 rfl (.sel 0 rfl (.nil _)))))))) (synodref1_Reader_Done.calls _ _ b2v a0 c0 x0 s26v.1 s26v.2.1 (h0.lend 5 rfl) hc0 hm0) hs99v) rfl rfl rfl ?_
 intro y98v
 refine simL_val (q_asg rfl rfl) rfl rfl rfl (simL_nil (nrm_then ?_))
 refine sim_cut (S := Int) (HA) (fun s y => [(2, .pointer (some ⟨b1v, 0, none⟩)), (5, .pointer (some ⟨b6v, 0, none⟩)), (9, .int .i64 s)]) (fun s y => [obj b6v 31 [.int .i64 s3v.1, .int .i64 s17v.1, .int .i64 s20v.1, .int .i64 s23v.1, .int .i64 s26v.2.2.1, .int .i64 s26v.2.2.2.1, .int .i64 s26v.2.2.2.2.1, .int .i64 s26v.2.2.2.2.2.1, .int .i64 s26v.2.2.2.2.2.2.1, .bool s26v.2.2.2.2.2.2.2.1, .slice y27v.2.1 s26v.2.2.2.2.2.2.2.2.1.length y27v.2.2.1, .int .i64 s26v.2.2.2.2.2.2.2.2.2.1, .int .i64 s26v.2.2.2.2.2.2.2.2.2.2.1, .slice y27v.2.2.2.1 s26v.2.2.2.2.2.2.2.2.2.2.2.length y27v.2.2.2.2], obj b1v 31 [.int .i64 0, .int .i64 0, .int .i64 0, .int .i64 0, .int .i64 0, .int .i64 0, .int .i64 0, .int .i64 0, .int .i64 0, .bool false, .slice none 0 0, .int .i64 0, .int .i64 0, .slice none 0 0], RowV 61 4 (V61 (y)) y27v.2.1 s26v.2.2.2.2.2.2.2.2.1 y27v.2.2.1, Row 5 1 y27v.2.2.2.1 s26v.2.2.2.2.2.2.2.2.2.2.2.length y27v.2.2.2.2 (encB s26v.2.2.2.2.2.2.2.2.2.2.2), y, F]) ?_ ?_
 refine sim_seq (sim_region ?_)
 refine simL_val (q_move rfl rfl) rfl rfl rfl ?_
 refine simL_val (q_eql rfl rfl rfl) rfl rfl rfl (simL_nil (nrm_then ?_))
 refine sim_cond rfl (fun h102v => ?_) (fun h103v => ?_)
 refine sim_region ?_
 refine simL_val (q_loado 1 rfl rfl Try.isAgg31 Try.sizeOf31 rfl rfl) rfl rfl rfl ?_
 refine simL_openV 3 rfl (fun rs104v hl105v => ?_)
 refine simL_bind (fun s114v hs116v => ?_)
 refine simL_lend 3 rfl (fun hq106v hq107v hq108v hq109v => ?_)
 refine simL_lend 4 rfl (fun hq110v hq111v hq112v hq113v => ?_)
 refine simL_eff (re_call (vs := [.agg #[.int .i64 s3v.1, .int .i64 s17v.1, .int .i64 s20v.1, .int .i64 s23v.1, .int .i64 s26v.2.2.1, .int .i64 s26v.2.2.2.1, .int .i64 s26v.2.2.2.2.1, .int .i64 s26v.2.2.2.2.2.1, .int .i64 s26v.2.2.2.2.2.2.1, .bool s26v.2.2.2.2.2.2.2.1, .slice y27v.2.1 s26v.2.2.2.2.2.2.2.2.1.length y27v.2.2.1, .int .i64 s26v.2.2.2.2.2.2.2.2.2.1, .int .i64 s26v.2.2.2.2.2.2.2.2.2.2.1, .slice y27v.2.2.2.1 s26v.2.2.2.2.2.2.2.2.2.2.2.length y27v.2.2.2.2]]) (cap := []) (A := []) (rst := [obj b2v 152 [.slice a0 x0.length c0, .int .i64 s26v.1, .int .i64 s26v.2.1], obj b6v 31 [.int .i64 s3v.1, .int .i64 s17v.1, .int .i64 s20v.1, .int .i64 s23v.1, .int .i64 s26v.2.2.1, .int .i64 s26v.2.2.2.1, .int .i64 s26v.2.2.2.2.1, .int .i64 s26v.2.2.2.2.2.1, .int .i64 s26v.2.2.2.2.2.2.1, .bool s26v.2.2.2.2.2.2.2.1, .slice y27v.2.1 s26v.2.2.2.2.2.2.2.2.1.length y27v.2.2.1, .int .i64 s26v.2.2.2.2.2.2.2.2.2.1, .int .i64 s26v.2.2.2.2.2.2.2.2.2.2.1, .slice y27v.2.2.2.1 s26v.2.2.2.2.2.2.2.2.2.2.2.length y27v.2.2.2.2], obj b1v 31 [.int .i64 0, .int .i64 0, .int .i64 0, .int .i64 0, .int .i64 0, .int .i64 0, .int .i64 0, .int .i64 0, .int .i64 0, .bool false, .slice none 0 0, .int .i64 0, .int .i64 0, .slice none 0 0], Row 61 4 y27v.2.1 s26v.2.2.2.2.2.2.2.2.1.length y27v.2.2.1 rs104v.flatten, Row 5 1 y27v.2.2.2.1 s26v.2.2.2.2.2.2.2.2.2.2.2.length y27v.2.2.2.2 (encB s26v.2.2.2.2.2.2.2.2.2.2.2), y27v.1, F]) rfl rfl rfl rfl rfl rfl Try.call19 (.sel 0 rfl (.sel 0 rfl (.sel 0 rfl (.sel 0 rfl (.sel 0 rfl (.sel 0 rfl (.sel 0 rfl (.nil _)))))))) (synodref3_CheckMessage.calls _ _ k s3v.1 s17v.1 s20v.1 s23v.1 s26v.2.2.1 s26v.2.2.2.1 s26v.2.2.2.2.1 s26v.2.2.2.2.2.1 s26v.2.2.2.2.2.2.1 s26v.2.2.2.2.2.2.2.1 y27v.2.1 y27v.2.2.1 s26v.2.2.2.2.2.2.2.2.1 s26v.2.2.2.2.2.2.2.2.2.1 s26v.2.2.2.2.2.2.2.2.2.2.1 y27v.2.2.2.1 y27v.2.2.2.2 s26v.2.2.2.2.2.2.2.2.2.2.2 ((Rd.asV hl105v hq106v).up (Up.lend 3 rfl) (V61.up (Up.lend 5 rfl))) hq107v hq108v (hq110v.lend 4 rfl) hq111v hq112v) hs116v) rfl rfl rfl ?_
 intro y115v
 refine simL_val (q_asg rfl rfl) rfl rfl rfl (simL_nil ?_)
 exact nrm_cut (s := s114v) y27v.1 ⟨rfl, rfl, rfl, trivial⟩ (.sel 1 rfl (.sel 1 rfl (.sel' 1 rfl (RowV.mk hl105v) (.sel 1 rfl (.sel 1 rfl (.sel 1 rfl (.nil _)))))))
 refine sim_skip ?_
 exact nrm_cut (s := s97v) y27v.1 ⟨rfl, rfl, rfl, trivial⟩ (.sel 1 rfl (.sel 1 rfl (.sel 1 rfl (.sel 1 rfl (.sel 1 rfl (.sel 1 rfl (.nil _)))))))
 intro s100v y101v
 refine sim_seq (sim_seq (sim_region ?_))
 refine simL_val (q_move rfl rfl) rfl rfl rfl ?_
 refine simL_val (q_neq rfl rfl rfl) rfl rfl rfl (simL_nil (nrm_then ?_))
 refine sim_condn rfl (fun h117v => ?_) (fun h118v => ?_)
 refine sim_skip ?_
 refine nrm_then (sim_seq (sim_region ?_))
 refine simL_val (q_loado 0 rfl rfl Try.isAgg31 Try.sizeOf31 rfl rfl) rfl rfl rfl ?_
 refine simL_val (q_move rfl rfl) rfl rfl rfl ?_
 refine simL_do (re_store 1 rfl rfl rfl Try.sizeOf31 rfl rfl (one_of (by rfl)) rfl rfl) rfl rfl ?_
 intro _
 refine simL_ent (H' := [obj b6v 31 [.int .i64 s3v.1, .int .i64 s17v.1, .int .i64 s20v.1, .int .i64 s23v.1, .int .i64 s26v.2.2.1, .int .i64 s26v.2.2.2.1, .int .i64 s26v.2.2.2.2.1, .int .i64 s26v.2.2.2.2.2.1, .int .i64 s26v.2.2.2.2.2.2.1, .bool s26v.2.2.2.2.2.2.2.1, .slice y27v.2.1 s26v.2.2.2.2.2.2.2.2.1.length y27v.2.2.1, .int .i64 s26v.2.2.2.2.2.2.2.2.2.1, .int .i64 s26v.2.2.2.2.2.2.2.2.2.2.1, .slice y27v.2.2.2.1 s26v.2.2.2.2.2.2.2.2.2.2.2.length y27v.2.2.2.2], obj b1v 31 [.int .i64 s3v.1, .int .i64 s17v.1, .int .i64 s20v.1, .int .i64 s23v.1, .int .i64 s26v.2.2.1, .int .i64 s26v.2.2.2.1, .int .i64 s26v.2.2.2.2.1, .int .i64 s26v.2.2.2.2.2.1, .int .i64 s26v.2.2.2.2.2.2.1, .bool s26v.2.2.2.2.2.2.2.1, .slice y27v.2.1 s26v.2.2.2.2.2.2.2.2.1.length y27v.2.2.1, .int .i64 s26v.2.2.2.2.2.2.2.2.2.1, .int .i64 s26v.2.2.2.2.2.2.2.2.2.2.1, .slice y27v.2.2.2.1 s26v.2.2.2.2.2.2.2.2.2.2.2.length y27v.2.2.2.2], RowV 61 4 (V61 (y101v)) y27v.2.1 s26v.2.2.2.2.2.2.2.2.1 y27v.2.2.1, Row 5 1 y27v.2.2.2.1 s26v.2.2.2.2.2.2.2.2.2.2.2.length y27v.2.2.2.2 (encB s26v.2.2.2.2.2.2.2.2.2.2.2), y101v, F]) (Ent.refl _) ?_
 refine simL_val (q_asg rfl rfl) rfl rfl rfl (simL_nil (nrm_then (sim_rtn ?_)))
 exact rtn_fnC (vs := [.agg #[.int .i64 s3v.1, .int .i64 s17v.1, .int .i64 s20v.1, .int .i64 s23v.1, .int .i64 s26v.2.2.1, .int .i64 s26v.2.2.2.1, .int .i64 s26v.2.2.2.2.1, .int .i64 s26v.2.2.2.2.2.1, .int .i64 s26v.2.2.2.2.2.2.1, .bool s26v.2.2.2.2.2.2.2.1, .slice y27v.2.1 s26v.2.2.2.2.2.2.2.2.1.length y27v.2.2.1, .int .i64 s26v.2.2.2.2.2.2.2.2.2.1, .int .i64 s26v.2.2.2.2.2.2.2.2.2.2.1, .slice y27v.2.2.2.1 s26v.2.2.2.2.2.2.2.2.2.2.2.length y27v.2.2.2.2], .int .i64 s100v]) (y27v.2.1, y27v.2.2.1, y101v, y27v.2.2.2.1, y27v.2.2.2.2) rfl ⟨⟨b1v, rfl, load_agg 1 Try.isAgg31 Try.sizeOf31 rfl rfl⟩, rfl, trivial⟩ rfl (.sel 2 rfl (.sel 3 rfl (.sel 2 rfl (.sel 2 rfl (.nil _)))))
 refine sim_seq (sim_region ?_)
 refine simL_val (q_build (v := .agg #[.int .i64 0, .int .i64 0, .int .i64 0, .int .i64 0, .int .i64 0, .int .i64 0, .int .i64 0, .int .i64 0, .int .i64 0, .bool false, .slice none 0 0, .int .i64 0, .int .i64 0, .slice none 0 0]) rfl rfl (fun _ => by kernel_rfl)) rfl rfl rfl ?_
 refine simL_val (q_move rfl rfl) rfl rfl rfl ?_
 refine simL_do (re_store 1 rfl rfl rfl Try.sizeOf31 rfl rfl (one_of (by rfl)) rfl rfl) rfl rfl ?_
 intro _
 refine simL_ent (H' := [obj b6v 31 [.int .i64 s3v.1, .int .i64 s17v.1, .int .i64 s20v.1, .int .i64 s23v.1, .int .i64 s26v.2.2.1, .int .i64 s26v.2.2.2.1, .int .i64 s26v.2.2.2.2.1, .int .i64 s26v.2.2.2.2.2.1, .int .i64 s26v.2.2.2.2.2.2.1, .bool s26v.2.2.2.2.2.2.2.1, .slice y27v.2.1 s26v.2.2.2.2.2.2.2.2.1.length y27v.2.2.1, .int .i64 s26v.2.2.2.2.2.2.2.2.2.1, .int .i64 s26v.2.2.2.2.2.2.2.2.2.2.1, .slice y27v.2.2.2.1 s26v.2.2.2.2.2.2.2.2.2.2.2.length y27v.2.2.2.2], obj b1v 31 [.int .i64 0, .int .i64 0, .int .i64 0, .int .i64 0, .int .i64 0, .int .i64 0, .int .i64 0, .int .i64 0, .int .i64 0, .bool false, .slice none 0 0, .int .i64 0, .int .i64 0, .slice none 0 0], RowV 61 4 (V61 (y101v)) y27v.2.1 s26v.2.2.2.2.2.2.2.2.1 y27v.2.2.1, Row 5 1 y27v.2.2.2.1 s26v.2.2.2.2.2.2.2.2.2.2.2.length y27v.2.2.2.2 (encB s26v.2.2.2.2.2.2.2.2.2.2.2), y101v, F]) (Ent.refl _) ?_
 refine simL_val (q_asg rfl rfl) rfl rfl rfl (simL_nil (nrm_then (sim_rtn ?_)))
 refine rtn_then ?_
 exact rtn_fnC (vs := [.agg #[.int .i64 0, .int .i64 0, .int .i64 0, .int .i64 0, .int .i64 0, .int .i64 0, .int .i64 0, .int .i64 0, .int .i64 0, .bool false, .slice none 0 0, .int .i64 0, .int .i64 0, .slice none 0 0], .int .i64 s100v]) (none, 0, tt, none, 0) rfl ⟨⟨b1v, rfl, load_agg 1 Try.isAgg31 Try.sizeOf31 rfl rfl⟩, rfl, trivial⟩ rfl (.rowV_nil (.tt_in (.row_nil (.sel 5 rfl (.nil _)))))
end Go.Proofs.Ytdoghfenhoigmaa

/- Printed by gen.py: pure functions and the proofs that the Go functions simulate them. Conditions: as each theorem says. -/
import Derived.Test.YtdaedoklkmdhcaaGreatG2
namespace Go.Proofs.YtdaedoklkmdhcaaGreat
open Go.RowKit
set_option linter.unusedVariables false
set_option linter.unusedSimpArgs false
set_option maxRecDepth 20000
set_option maxHeartbeats 20000000
def kv_is_int_wire_Reader_Int_kv_reader_clients_3.f (k : Nat) (xp1_0 : List UInt8) (xp1_1 : Int) (xp1_2 : Int) (xp0_1 : Int) (x3 : Int) : Option (Int × Bool × Int × Int × Int) := (wire_Reader_At.f xp1_0 xp1_1 xp1_2).bind fun s1v => ((wire_Reader_Int.f k xp1_0 xp1_1 xp1_2).bind fun s4v => ((wire_Reader_At.f xp1_0 s4v.2.1 s4v.2.2).bind fun s7v => (if s7v = s1v then ((wire_Reader_Done.f xp1_0 s4v.2.1 s4v.2.2).bind fun s12v => (some (s4v.1, decide (s12v = (0 : Int)), s4v.2.1, s4v.2.2, s12v))) else ((kv_reader_clients_3.f s4v.1).bind fun s16v => (if (!s16v) = true then (some (s4v.1, decide (x3 = (0 : Int)), s4v.2.1, s4v.2.2, x3)) else (some (s4v.1, decide (xp0_1 = (0 : Int)), s4v.2.1, s4v.2.2, xp0_1)))))))
theorem kv_is_int_wire_Reader_Int_kv_reader_clients_3.calls (W : World) (F : HA) (k : Nat) (bp0 : Nat) (bp1 : Nat) (ap1_0 : Option Addr) (cp1_0 : Nat) (xp1_0 : List UInt8) (xp1_1 : Int) (xp1_2 : Int) (xp0_1 : Int) (x3 : Int) (hp1_0 : Rd F ap1_0 (encB xp1_0)) (hcp1_0 : xp1_0.length ≤ cp1_0) (hmp1_0 : cp1_0 ≤ maxLen) :
    Fn Tryz.prog W 58 [.pointer (some ⟨bp0, 0, none⟩), .func (.func 59) #[.pointer (some ⟨bp1, 0, none⟩)] #[], .func (.func 69) #[] #[], .int .i64 x3] [obj bp1 125 [.slice ap1_0 xp1_0.length cp1_0, .int .i64 xp1_1, .int .i64 xp1_2], obj bp0 76 [.pointer (some ⟨bp1, 0, none⟩), .int .i64 xp0_1]] F (kv_is_int_wire_Reader_Int_kv_reader_clients_3.f k xp1_0 xp1_1 xp1_2 xp0_1 x3) (fun (r : Int × Bool × Int × Int × Int) (y : Unit) => .tuple #[.int .i64 r.1, .bool r.2.1]) (fun r y => [obj bp1 125 [.slice ap1_0 xp1_0.length cp1_0, .int .i64 r.2.2.1, .int .i64 r.2.2.2.1], obj bp0 76 [.pointer (some ⟨bp1, 0, none⟩), .int .i64 r.2.2.2.2]]) := by
 unfold kv_is_int_wire_Reader_Int_kv_reader_clients_3.f
 refine fn_intro 50 Tryz.func58 rfl Tryz.ntmps58 rfl ?_
 refine sr ?_
 refine va rfl rfl ?_
 refine va rfl rfl (nx ?_)
 refine vm rfl rfl ?_
 refine vn rfl rfl ?_
 refine vq (q_fa rfl rfl Tryz.underlying76 rfl rfl Tryz.sizeOf73 rfl) rfl ?_
 refine vq (q_load rfl rfl Tryz.isAgg73 (.obj 1 rfl rfl)) rfl ?_
 refine simL_bind (fun s1v hs2v => ?_)
 refine simL_eff (re_call (vs := [.pointer (some ⟨bp1, 0, none⟩)]) (cap := []) (A := [obj bp1 125 [.slice ap1_0 xp1_0.length cp1_0, .int .i64 xp1_1, .int .i64 xp1_2]]) (rst := [obj bp0 76 [.pointer (some ⟨bp1, 0, none⟩), .int .i64 xp0_1], F]) rfl rfl rfl rfl rfl rfl Tryz.call94 (.sel 0 rfl (.sel 0 rfl (.sel 0 rfl (.nil _)))) (wire_Reader_At.calls _ _ bp1 ap1_0 cp1_0 xp1_0 xp1_1 xp1_2 (hp1_0.lend 1 rfl) hcp1_0 hmp1_0) hs2v) rfl rfl rfl ?_
 intro y3v
 refine va rfl rfl (nx ?_)
 refine vm rfl rfl ?_
 refine simL_bind (fun s4v hs5v => ?_)
 refine simL_eff (re_callf (fst := [.pointer (some ⟨bp1, 0, none⟩)]) (vs := []) (cap := []) (A := [obj bp1 125 [.slice ap1_0 xp1_0.length cp1_0, .int .i64 xp1_1, .int .i64 xp1_2]]) (rst := [obj bp0 76 [.pointer (some ⟨bp1, 0, none⟩), .int .i64 xp0_1], F]) rfl rfl rfl rfl rfl rfl Tryz.call59 (.sel 0 rfl (.sel 0 rfl (.sel 0 rfl (.nil _)))) (wire_Reader_Int.calls _ _ k bp1 ap1_0 cp1_0 xp1_0 xp1_1 xp1_2 (hp1_0.lend 1 rfl) hcp1_0 hmp1_0) hs5v) rfl rfl rfl ?_
 intro y6v
 refine va rfl rfl (simL_nil (nrm_then (sim_seq ?_)))
 refine sim_block ?_
 refine sr ?_
 refine vm rfl rfl ?_
 refine vn rfl rfl ?_
 refine vq (q_fa rfl rfl Tryz.underlying76 rfl rfl Tryz.sizeOf73 rfl) rfl ?_
 refine vq (q_load rfl rfl Tryz.isAgg73 (.obj 1 rfl rfl)) rfl ?_
 refine simL_bind (fun s7v hs8v => ?_)
 refine simL_eff (re_call (vs := [.pointer (some ⟨bp1, 0, none⟩)]) (cap := []) (A := [obj bp1 125 [.slice ap1_0 xp1_0.length cp1_0, .int .i64 s4v.2.1, .int .i64 s4v.2.2]]) (rst := [obj bp0 76 [.pointer (some ⟨bp1, 0, none⟩), .int .i64 xp0_1], F]) rfl rfl rfl rfl rfl rfl Tryz.call94 (.sel 0 rfl (.sel 0 rfl (.sel 0 rfl (.nil _)))) (wire_Reader_At.calls _ _ bp1 ap1_0 cp1_0 xp1_0 s4v.2.1 s4v.2.2 (hp1_0.lend 1 rfl) hcp1_0 hmp1_0) hs8v) rfl rfl rfl ?_
 intro y9v
 refine vm rfl rfl ?_
 refine vq (q_eql rfl rfl rfl) rfl ?_
 refine va rfl rfl (simL_nil (nrm_then ?_))
 refine sim_cond rfl (fun h10v => ?_) (fun h11v => ?_)
 refine sim_region ?_
 refine vm rfl rfl ?_
 refine vm rfl rfl ?_
 refine vn rfl rfl ?_
 refine vq (q_fa rfl rfl Tryz.underlying76 rfl rfl Tryz.sizeOf73 rfl) rfl ?_
 refine vq (q_load rfl rfl Tryz.isAgg73 (.obj 1 rfl rfl)) rfl ?_
 refine simL_bind (fun s12v hs13v => ?_)
 refine simL_eff (re_call (vs := [.pointer (some ⟨bp1, 0, none⟩)]) (cap := []) (A := [obj bp1 125 [.slice ap1_0 xp1_0.length cp1_0, .int .i64 s4v.2.1, .int .i64 s4v.2.2]]) (rst := [obj bp0 76 [.pointer (some ⟨bp1, 0, none⟩), .int .i64 xp0_1], F]) rfl rfl rfl rfl rfl rfl Tryz.call33 (.sel 0 rfl (.sel 0 rfl (.sel 0 rfl (.nil _)))) (wire_Reader_Done.calls _ _ bp1 ap1_0 cp1_0 xp1_0 s4v.2.1 s4v.2.2 (hp1_0.lend 1 rfl) hcp1_0 hmp1_0) hs13v) rfl rfl rfl ?_
 intro y14v
 refine vn rfl rfl ?_
 refine vq (q_fa rfl rfl Tryz.underlying76 rfl rfl Tryz.sizeOf31 rfl) rfl ?_
 refine simL_do (re_store 1 rfl rfl rfl Tryz.sizeOf31 rfl rfl (one_of (by rfl)) rfl rfl) rfl rfl ?_
 intro _
 refine simL_nil (nrm_block (nrm_then (sim_seq ?_)))
 refine sim_draw (Γ := Unit) () [[], [], [1], [1, 2], [1, 2, 3], [1, 2, 3, 4], [0], rL 7] [] [0, 1, 2, 3, 4, 5, 6, 7] (fun i => [[0], [0], [0], [0], [0], [0], [0], [0]].getD i []) (fun i => [[], [], [], [], [], [], [], []].getD i []) (fun γ i => [.int .i64 s4v.1, .pointer (some ⟨bp0, 0, none⟩), .pointer (some ⟨bp0, 0, none⟩), .pointer (some ⟨bp0, 1, none⟩), .int .i64 s12v, .bool (decide (s12v = (0 : Int))), .int .i64 s4v.1, .bool (decide (s12v = (0 : Int)))].getD i undef) (fun j γ => [[obj bp1 125 [.slice ap1_0 xp1_0.length cp1_0, .int .i64 s4v.2.1, .int .i64 s4v.2.2], obj bp0 76 [.pointer (some ⟨bp1, 0, none⟩), .int .i64 s12v], F]].getD j []) (fun γ => [(8, .int .i64 s4v.1), (9, .bool (decide (s12v = (0 : Int))))]) mixed (by decide) (by decide) (by decide) (by decide) (by decide) (by decide) (by decide) 50 rfl (by decide) (by decide) (by decide) (Ent.refl _) ?_ ?_ (fun _ => ⟨rfl, rfl, trivial⟩) ?_
 exact (aq rfl (fun γ => qm rfl (.o (s := 11) rfl (by decide) .nil) rfl) (aq rfl (fun γ => qm rfl (.o (s := 0) rfl (by decide) .nil) rfl) (aq rfl (fun γ => qp rfl rfl (.v 1 rfl rfl .nil) (q_nil rfl rfl) rfl) (aq rfl (fun γ => qp rfl rfl (.v 2 rfl rfl .nil) (q_fa rfl rfl Tryz.underlying76 rfl rfl Tryz.sizeOf31 rfl) rfl) (aq rfl (fun γ => qp rfl rfl (.v 3 rfl rfl .nil) (q_load rfl rfl Tryz.isAgg31 (.obj 1 rfl rfl)) rfl) (aq rfl (fun γ => qp rfl rfl (.v 4 rfl rfl .nil) (q_eql rfl rfl rfl) rfl) (aq rfl (fun γ => qp rfl rfl (.v 0 rfl rfl .nil) (q_asg rfl rfl) rfl) (aq rfl (fun γ => qp rfl rfl (.v 5 rfl rfl .nil) (q_asg rfl rfl) rfl) zA))))))))
 exact zA
 intro g15v
 refine nrm_then (sim_rtn ?_)
 exact rtn_fn () rfl rfl rfl (.sel 0 rfl (.sel 0 rfl (.sel 0 rfl (.nil _))))
 refine sr ?_
 refine vm rfl rfl ?_
 refine vm rfl rfl ?_
 refine simL_bind (fun s16v hs17v => ?_)
 refine simL_eff (re_call (vs := [.int .i64 s4v.1]) (cap := []) (A := []) (rst := [obj bp1 125 [.slice ap1_0 xp1_0.length cp1_0, .int .i64 s4v.2.1, .int .i64 s4v.2.2], obj bp0 76 [.pointer (some ⟨bp1, 0, none⟩), .int .i64 xp0_1], F]) rfl rfl rfl rfl rfl rfl Tryz.call69 (.sel 0 rfl (.sel 0 rfl (.sel 0 rfl (.nil _)))) (kv_reader_clients_3.calls _ _ s4v.1 ) hs17v) rfl rfl rfl ?_
 intro y18v
 refine vq (q_not rfl rfl) rfl ?_
 refine va rfl rfl (simL_nil (nrm_then ?_))
 refine sim_condb rfl (fun h19v => ?_) (fun h20v => ?_)
 refine sim_region ?_
 refine vm rfl rfl ?_
 refine vm rfl rfl ?_
 refine vn rfl rfl ?_
 refine vq (q_fa rfl rfl Tryz.underlying76 rfl rfl Tryz.sizeOf31 rfl) rfl ?_
 refine simL_do (re_store 1 rfl rfl rfl Tryz.sizeOf31 rfl rfl (one_of (by rfl)) rfl rfl) rfl rfl ?_
 intro _
 refine simL_nil (nrm_block (nrm_then (sim_seq ?_)))
 refine sim_draw (Γ := Unit) () [[], [], [1], [1, 2], [1, 2, 3], [1, 2, 3, 4], [0], rL 7] [] [0, 1, 2, 3, 4, 5, 6, 7] (fun i => [[0], [0], [0], [0], [0], [0], [0], [0]].getD i []) (fun i => [[], [], [], [], [], [], [], []].getD i []) (fun γ i => [.int .i64 s4v.1, .pointer (some ⟨bp0, 0, none⟩), .pointer (some ⟨bp0, 0, none⟩), .pointer (some ⟨bp0, 1, none⟩), .int .i64 x3, .bool (decide (x3 = (0 : Int))), .int .i64 s4v.1, .bool (decide (x3 = (0 : Int)))].getD i undef) (fun j γ => [[obj bp1 125 [.slice ap1_0 xp1_0.length cp1_0, .int .i64 s4v.2.1, .int .i64 s4v.2.2], obj bp0 76 [.pointer (some ⟨bp1, 0, none⟩), .int .i64 x3], F]].getD j []) (fun γ => [(8, .int .i64 s4v.1), (9, .bool (decide (x3 = (0 : Int))))]) mixed (by decide) (by decide) (by decide) (by decide) (by decide) (by decide) (by decide) 50 rfl (by decide) (by decide) (by decide) (Ent.refl _) ?_ ?_ (fun _ => ⟨rfl, rfl, trivial⟩) ?_
 exact (aq rfl (fun γ => qm rfl (.o (s := 11) rfl (by decide) .nil) rfl) (aq rfl (fun γ => qm rfl (.o (s := 0) rfl (by decide) .nil) rfl) (aq rfl (fun γ => qp rfl rfl (.v 1 rfl rfl .nil) (q_nil rfl rfl) rfl) (aq rfl (fun γ => qp rfl rfl (.v 2 rfl rfl .nil) (q_fa rfl rfl Tryz.underlying76 rfl rfl Tryz.sizeOf31 rfl) rfl) (aq rfl (fun γ => qp rfl rfl (.v 3 rfl rfl .nil) (q_load rfl rfl Tryz.isAgg31 (.obj 1 rfl rfl)) rfl) (aq rfl (fun γ => qp rfl rfl (.v 4 rfl rfl .nil) (q_eql rfl rfl rfl) rfl) (aq rfl (fun γ => qp rfl rfl (.v 0 rfl rfl .nil) (q_asg rfl rfl) rfl) (aq rfl (fun γ => qp rfl rfl (.v 5 rfl rfl .nil) (q_asg rfl rfl) rfl) zA))))))))
 exact zA
 intro g21v
 refine nrm_then (sim_rtn ?_)
 exact rtn_fn () rfl rfl rfl (.sel 0 rfl (.sel 0 rfl (.sel 0 rfl (.nil _))))
 refine sim_skip ?_
 refine nrm_block (nrm_then (sim_seq ?_))
 refine sim_draw (Γ := Unit) () [[], [], [1], [1, 2], [1, 2, 3], [1, 2, 3, 4], [0], rL 7] [] [0, 1, 2, 3, 4, 5, 6, 7] (fun i => [[0], [0], [0], [0], [0], [0], [0], [0]].getD i []) (fun i => [[], [], [], [], [], [], [], []].getD i []) (fun γ i => [.int .i64 s4v.1, .pointer (some ⟨bp0, 0, none⟩), .pointer (some ⟨bp0, 0, none⟩), .pointer (some ⟨bp0, 1, none⟩), .int .i64 xp0_1, .bool (decide (xp0_1 = (0 : Int))), .int .i64 s4v.1, .bool (decide (xp0_1 = (0 : Int)))].getD i undef) (fun j γ => [[obj bp1 125 [.slice ap1_0 xp1_0.length cp1_0, .int .i64 s4v.2.1, .int .i64 s4v.2.2], obj bp0 76 [.pointer (some ⟨bp1, 0, none⟩), .int .i64 xp0_1], F]].getD j []) (fun γ => [(8, .int .i64 s4v.1), (9, .bool (decide (xp0_1 = (0 : Int))))]) mixed (by decide) (by decide) (by decide) (by decide) (by decide) (by decide) (by decide) 50 rfl (by decide) (by decide) (by decide) (Ent.refl _) ?_ ?_ (fun _ => ⟨rfl, rfl, trivial⟩) ?_
 exact (aq rfl (fun γ => qm rfl (.o (s := 11) rfl (by decide) .nil) rfl) (aq rfl (fun γ => qm rfl (.o (s := 0) rfl (by decide) .nil) rfl) (aq rfl (fun γ => qp rfl rfl (.v 1 rfl rfl .nil) (q_nil rfl rfl) rfl) (aq rfl (fun γ => qp rfl rfl (.v 2 rfl rfl .nil) (q_fa rfl rfl Tryz.underlying76 rfl rfl Tryz.sizeOf31 rfl) rfl) (aq rfl (fun γ => qp rfl rfl (.v 3 rfl rfl .nil) (q_load rfl rfl Tryz.isAgg31 (.obj 1 rfl rfl)) rfl) (aq rfl (fun γ => qp rfl rfl (.v 4 rfl rfl .nil) (q_eql rfl rfl rfl) rfl) (aq rfl (fun γ => qp rfl rfl (.v 0 rfl rfl .nil) (q_asg rfl rfl) rfl) (aq rfl (fun γ => qp rfl rfl (.v 5 rfl rfl .nil) (q_asg rfl rfl) rfl) zA))))))))
 exact zA
 intro g22v
 refine nrm_then (sim_rtn ?_)
 exact rtn_fn () rfl rfl rfl (.sel 0 rfl (.sel 0 rfl (.sel 0 rfl (.nil _))))

def kv_is_int_wire_Reader_Int_kv_kept.f (k : Nat) (xp1_0 : List UInt8) (xp1_1 : Int) (xp1_2 : Int) (xp0_1 : Int) (x3 : Int) : Option (Int × Bool × Int × Int × Int) := (wire_Reader_At.f xp1_0 xp1_1 xp1_2).bind fun s1v => ((wire_Reader_Int.f k xp1_0 xp1_1 xp1_2).bind fun s4v => ((wire_Reader_At.f xp1_0 s4v.2.1 s4v.2.2).bind fun s7v => (if s7v = s1v then ((wire_Reader_Done.f xp1_0 s4v.2.1 s4v.2.2).bind fun s12v => (some (s4v.1, decide (s12v = (0 : Int)), s4v.2.1, s4v.2.2, s12v))) else ((kv_kept.f s4v.1).bind fun s16v => (if (!s16v) = true then (some (s4v.1, decide (x3 = (0 : Int)), s4v.2.1, s4v.2.2, x3)) else (some (s4v.1, decide (xp0_1 = (0 : Int)), s4v.2.1, s4v.2.2, xp0_1)))))))
theorem kv_is_int_wire_Reader_Int_kv_kept.calls (W : World) (F : HA) (k : Nat) (bp0 : Nat) (bp1 : Nat) (ap1_0 : Option Addr) (cp1_0 : Nat) (xp1_0 : List UInt8) (xp1_1 : Int) (xp1_2 : Int) (xp0_1 : Int) (x3 : Int) (hp1_0 : Rd F ap1_0 (encB xp1_0)) (hcp1_0 : xp1_0.length ≤ cp1_0) (hmp1_0 : cp1_0 ≤ maxLen) :
    Fn Tryz.prog W 58 [.pointer (some ⟨bp0, 0, none⟩), .func (.func 59) #[.pointer (some ⟨bp1, 0, none⟩)] #[], .func (.func 70) #[] #[], .int .i64 x3] [obj bp1 125 [.slice ap1_0 xp1_0.length cp1_0, .int .i64 xp1_1, .int .i64 xp1_2], obj bp0 76 [.pointer (some ⟨bp1, 0, none⟩), .int .i64 xp0_1]] F (kv_is_int_wire_Reader_Int_kv_kept.f k xp1_0 xp1_1 xp1_2 xp0_1 x3) (fun (r : Int × Bool × Int × Int × Int) (y : Unit) => .tuple #[.int .i64 r.1, .bool r.2.1]) (fun r y => [obj bp1 125 [.slice ap1_0 xp1_0.length cp1_0, .int .i64 r.2.2.1, .int .i64 r.2.2.2.1], obj bp0 76 [.pointer (some ⟨bp1, 0, none⟩), .int .i64 r.2.2.2.2]]) := by
 unfold kv_is_int_wire_Reader_Int_kv_kept.f
 refine fn_intro 50 Tryz.func58 rfl Tryz.ntmps58 rfl ?_
 refine sr ?_
 refine va rfl rfl ?_
 refine va rfl rfl (nx ?_)
 refine vm rfl rfl ?_
 refine vn rfl rfl ?_
 refine vq (q_fa rfl rfl Tryz.underlying76 rfl rfl Tryz.sizeOf73 rfl) rfl ?_
 refine vq (q_load rfl rfl Tryz.isAgg73 (.obj 1 rfl rfl)) rfl ?_
 refine simL_bind (fun s1v hs2v => ?_)
 refine simL_eff (re_call (vs := [.pointer (some ⟨bp1, 0, none⟩)]) (cap := []) (A := [obj bp1 125 [.slice ap1_0 xp1_0.length cp1_0, .int .i64 xp1_1, .int .i64 xp1_2]]) (rst := [obj bp0 76 [.pointer (some ⟨bp1, 0, none⟩), .int .i64 xp0_1], F]) rfl rfl rfl rfl rfl rfl Tryz.call94 (.sel 0 rfl (.sel 0 rfl (.sel 0 rfl (.nil _)))) (wire_Reader_At.calls _ _ bp1 ap1_0 cp1_0 xp1_0 xp1_1 xp1_2 (hp1_0.lend 1 rfl) hcp1_0 hmp1_0) hs2v) rfl rfl rfl ?_
 intro y3v
 refine va rfl rfl (nx ?_)
 refine vm rfl rfl ?_
 refine simL_bind (fun s4v hs5v => ?_)
 refine simL_eff (re_callf (fst := [.pointer (some ⟨bp1, 0, none⟩)]) (vs := []) (cap := []) (A := [obj bp1 125 [.slice ap1_0 xp1_0.length cp1_0, .int .i64 xp1_1, .int .i64 xp1_2]]) (rst := [obj bp0 76 [.pointer (some ⟨bp1, 0, none⟩), .int .i64 xp0_1], F]) rfl rfl rfl rfl rfl rfl Tryz.call59 (.sel 0 rfl (.sel 0 rfl (.sel 0 rfl (.nil _)))) (wire_Reader_Int.calls _ _ k bp1 ap1_0 cp1_0 xp1_0 xp1_1 xp1_2 (hp1_0.lend 1 rfl) hcp1_0 hmp1_0) hs5v) rfl rfl rfl ?_
 intro y6v
 refine va rfl rfl (simL_nil (nrm_then (sim_seq ?_)))
 refine sim_block ?_
 refine sr ?_
 refine vm rfl rfl ?_
 refine vn rfl rfl ?_
 refine vq (q_fa rfl rfl Tryz.underlying76 rfl rfl Tryz.sizeOf73 rfl) rfl ?_
 refine vq (q_load rfl rfl Tryz.isAgg73 (.obj 1 rfl rfl)) rfl ?_
 refine simL_bind (fun s7v hs8v => ?_)
 refine simL_eff (re_call (vs := [.pointer (some ⟨bp1, 0, none⟩)]) (cap := []) (A := [obj bp1 125 [.slice ap1_0 xp1_0.length cp1_0, .int .i64 s4v.2.1, .int .i64 s4v.2.2]]) (rst := [obj bp0 76 [.pointer (some ⟨bp1, 0, none⟩), .int .i64 xp0_1], F]) rfl rfl rfl rfl rfl rfl Tryz.call94 (.sel 0 rfl (.sel 0 rfl (.sel 0 rfl (.nil _)))) (wire_Reader_At.calls _ _ bp1 ap1_0 cp1_0 xp1_0 s4v.2.1 s4v.2.2 (hp1_0.lend 1 rfl) hcp1_0 hmp1_0) hs8v) rfl rfl rfl ?_
 intro y9v
 refine vm rfl rfl ?_
 refine vq (q_eql rfl rfl rfl) rfl ?_
 refine va rfl rfl (simL_nil (nrm_then ?_))
 refine sim_cond rfl (fun h10v => ?_) (fun h11v => ?_)
 refine sim_region ?_
 refine vm rfl rfl ?_
 refine vm rfl rfl ?_
 refine vn rfl rfl ?_
 refine vq (q_fa rfl rfl Tryz.underlying76 rfl rfl Tryz.sizeOf73 rfl) rfl ?_
 refine vq (q_load rfl rfl Tryz.isAgg73 (.obj 1 rfl rfl)) rfl ?_
 refine simL_bind (fun s12v hs13v => ?_)
 refine simL_eff (re_call (vs := [.pointer (some ⟨bp1, 0, none⟩)]) (cap := []) (A := [obj bp1 125 [.slice ap1_0 xp1_0.length cp1_0, .int .i64 s4v.2.1, .int .i64 s4v.2.2]]) (rst := [obj bp0 76 [.pointer (some ⟨bp1, 0, none⟩), .int .i64 xp0_1], F]) rfl rfl rfl rfl rfl rfl Tryz.call33 (.sel 0 rfl (.sel 0 rfl (.sel 0 rfl (.nil _)))) (wire_Reader_Done.calls _ _ bp1 ap1_0 cp1_0 xp1_0 s4v.2.1 s4v.2.2 (hp1_0.lend 1 rfl) hcp1_0 hmp1_0) hs13v) rfl rfl rfl ?_
 intro y14v
 refine vn rfl rfl ?_
 refine vq (q_fa rfl rfl Tryz.underlying76 rfl rfl Tryz.sizeOf31 rfl) rfl ?_
 refine simL_do (re_store 1 rfl rfl rfl Tryz.sizeOf31 rfl rfl (one_of (by rfl)) rfl rfl) rfl rfl ?_
 intro _
 refine simL_nil (nrm_block (nrm_then (sim_seq ?_)))
 refine sim_draw (Γ := Unit) () [[], [], [1], [1, 2], [1, 2, 3], [1, 2, 3, 4], [0], rL 7] [] [0, 1, 2, 3, 4, 5, 6, 7] (fun i => [[0], [0], [0], [0], [0], [0], [0], [0]].getD i []) (fun i => [[], [], [], [], [], [], [], []].getD i []) (fun γ i => [.int .i64 s4v.1, .pointer (some ⟨bp0, 0, none⟩), .pointer (some ⟨bp0, 0, none⟩), .pointer (some ⟨bp0, 1, none⟩), .int .i64 s12v, .bool (decide (s12v = (0 : Int))), .int .i64 s4v.1, .bool (decide (s12v = (0 : Int)))].getD i undef) (fun j γ => [[obj bp1 125 [.slice ap1_0 xp1_0.length cp1_0, .int .i64 s4v.2.1, .int .i64 s4v.2.2], obj bp0 76 [.pointer (some ⟨bp1, 0, none⟩), .int .i64 s12v], F]].getD j []) (fun γ => [(8, .int .i64 s4v.1), (9, .bool (decide (s12v = (0 : Int))))]) mixed (by decide) (by decide) (by decide) (by decide) (by decide) (by decide) (by decide) 50 rfl (by decide) (by decide) (by decide) (Ent.refl _) ?_ ?_ (fun _ => ⟨rfl, rfl, trivial⟩) ?_
 exact (aq rfl (fun γ => qm rfl (.o (s := 11) rfl (by decide) .nil) rfl) (aq rfl (fun γ => qm rfl (.o (s := 0) rfl (by decide) .nil) rfl) (aq rfl (fun γ => qp rfl rfl (.v 1 rfl rfl .nil) (q_nil rfl rfl) rfl) (aq rfl (fun γ => qp rfl rfl (.v 2 rfl rfl .nil) (q_fa rfl rfl Tryz.underlying76 rfl rfl Tryz.sizeOf31 rfl) rfl) (aq rfl (fun γ => qp rfl rfl (.v 3 rfl rfl .nil) (q_load rfl rfl Tryz.isAgg31 (.obj 1 rfl rfl)) rfl) (aq rfl (fun γ => qp rfl rfl (.v 4 rfl rfl .nil) (q_eql rfl rfl rfl) rfl) (aq rfl (fun γ => qp rfl rfl (.v 0 rfl rfl .nil) (q_asg rfl rfl) rfl) (aq rfl (fun γ => qp rfl rfl (.v 5 rfl rfl .nil) (q_asg rfl rfl) rfl) zA))))))))
 exact zA
 intro g15v
 refine nrm_then (sim_rtn ?_)
 exact rtn_fn () rfl rfl rfl (.sel 0 rfl (.sel 0 rfl (.sel 0 rfl (.nil _))))
 refine sr ?_
 refine vm rfl rfl ?_
 refine vm rfl rfl ?_
 refine simL_bind (fun s16v hs17v => ?_)
 refine simL_eff (re_call (vs := [.int .i64 s4v.1]) (cap := []) (A := []) (rst := [obj bp1 125 [.slice ap1_0 xp1_0.length cp1_0, .int .i64 s4v.2.1, .int .i64 s4v.2.2], obj bp0 76 [.pointer (some ⟨bp1, 0, none⟩), .int .i64 xp0_1], F]) rfl rfl rfl rfl rfl rfl Tryz.call70 (.sel 0 rfl (.sel 0 rfl (.sel 0 rfl (.nil _)))) (kv_kept.calls _ _ s4v.1 ) hs17v) rfl rfl rfl ?_
 intro y18v
 refine vq (q_not rfl rfl) rfl ?_
 refine va rfl rfl (simL_nil (nrm_then ?_))
 refine sim_condb rfl (fun h19v => ?_) (fun h20v => ?_)
 refine sim_region ?_
 refine vm rfl rfl ?_
 refine vm rfl rfl ?_
 refine vn rfl rfl ?_
 refine vq (q_fa rfl rfl Tryz.underlying76 rfl rfl Tryz.sizeOf31 rfl) rfl ?_
 refine simL_do (re_store 1 rfl rfl rfl Tryz.sizeOf31 rfl rfl (one_of (by rfl)) rfl rfl) rfl rfl ?_
 intro _
 refine simL_nil (nrm_block (nrm_then (sim_seq ?_)))
 refine sim_draw (Γ := Unit) () [[], [], [1], [1, 2], [1, 2, 3], [1, 2, 3, 4], [0], rL 7] [] [0, 1, 2, 3, 4, 5, 6, 7] (fun i => [[0], [0], [0], [0], [0], [0], [0], [0]].getD i []) (fun i => [[], [], [], [], [], [], [], []].getD i []) (fun γ i => [.int .i64 s4v.1, .pointer (some ⟨bp0, 0, none⟩), .pointer (some ⟨bp0, 0, none⟩), .pointer (some ⟨bp0, 1, none⟩), .int .i64 x3, .bool (decide (x3 = (0 : Int))), .int .i64 s4v.1, .bool (decide (x3 = (0 : Int)))].getD i undef) (fun j γ => [[obj bp1 125 [.slice ap1_0 xp1_0.length cp1_0, .int .i64 s4v.2.1, .int .i64 s4v.2.2], obj bp0 76 [.pointer (some ⟨bp1, 0, none⟩), .int .i64 x3], F]].getD j []) (fun γ => [(8, .int .i64 s4v.1), (9, .bool (decide (x3 = (0 : Int))))]) mixed (by decide) (by decide) (by decide) (by decide) (by decide) (by decide) (by decide) 50 rfl (by decide) (by decide) (by decide) (Ent.refl _) ?_ ?_ (fun _ => ⟨rfl, rfl, trivial⟩) ?_
 exact (aq rfl (fun γ => qm rfl (.o (s := 11) rfl (by decide) .nil) rfl) (aq rfl (fun γ => qm rfl (.o (s := 0) rfl (by decide) .nil) rfl) (aq rfl (fun γ => qp rfl rfl (.v 1 rfl rfl .nil) (q_nil rfl rfl) rfl) (aq rfl (fun γ => qp rfl rfl (.v 2 rfl rfl .nil) (q_fa rfl rfl Tryz.underlying76 rfl rfl Tryz.sizeOf31 rfl) rfl) (aq rfl (fun γ => qp rfl rfl (.v 3 rfl rfl .nil) (q_load rfl rfl Tryz.isAgg31 (.obj 1 rfl rfl)) rfl) (aq rfl (fun γ => qp rfl rfl (.v 4 rfl rfl .nil) (q_eql rfl rfl rfl) rfl) (aq rfl (fun γ => qp rfl rfl (.v 0 rfl rfl .nil) (q_asg rfl rfl) rfl) (aq rfl (fun γ => qp rfl rfl (.v 5 rfl rfl .nil) (q_asg rfl rfl) rfl) zA))))))))
 exact zA
 intro g21v
 refine nrm_then (sim_rtn ?_)
 exact rtn_fn () rfl rfl rfl (.sel 0 rfl (.sel 0 rfl (.sel 0 rfl (.nil _))))
 refine sim_skip ?_
 refine nrm_block (nrm_then (sim_seq ?_))
 refine sim_draw (Γ := Unit) () [[], [], [1], [1, 2], [1, 2, 3], [1, 2, 3, 4], [0], rL 7] [] [0, 1, 2, 3, 4, 5, 6, 7] (fun i => [[0], [0], [0], [0], [0], [0], [0], [0]].getD i []) (fun i => [[], [], [], [], [], [], [], []].getD i []) (fun γ i => [.int .i64 s4v.1, .pointer (some ⟨bp0, 0, none⟩), .pointer (some ⟨bp0, 0, none⟩), .pointer (some ⟨bp0, 1, none⟩), .int .i64 xp0_1, .bool (decide (xp0_1 = (0 : Int))), .int .i64 s4v.1, .bool (decide (xp0_1 = (0 : Int)))].getD i undef) (fun j γ => [[obj bp1 125 [.slice ap1_0 xp1_0.length cp1_0, .int .i64 s4v.2.1, .int .i64 s4v.2.2], obj bp0 76 [.pointer (some ⟨bp1, 0, none⟩), .int .i64 xp0_1], F]].getD j []) (fun γ => [(8, .int .i64 s4v.1), (9, .bool (decide (xp0_1 = (0 : Int))))]) mixed (by decide) (by decide) (by decide) (by decide) (by decide) (by decide) (by decide) 50 rfl (by decide) (by decide) (by decide) (Ent.refl _) ?_ ?_ (fun _ => ⟨rfl, rfl, trivial⟩) ?_
 exact (aq rfl (fun γ => qm rfl (.o (s := 11) rfl (by decide) .nil) rfl) (aq rfl (fun γ => qm rfl (.o (s := 0) rfl (by decide) .nil) rfl) (aq rfl (fun γ => qp rfl rfl (.v 1 rfl rfl .nil) (q_nil rfl rfl) rfl) (aq rfl (fun γ => qp rfl rfl (.v 2 rfl rfl .nil) (q_fa rfl rfl Tryz.underlying76 rfl rfl Tryz.sizeOf31 rfl) rfl) (aq rfl (fun γ => qp rfl rfl (.v 3 rfl rfl .nil) (q_load rfl rfl Tryz.isAgg31 (.obj 1 rfl rfl)) rfl) (aq rfl (fun γ => qp rfl rfl (.v 4 rfl rfl .nil) (q_eql rfl rfl rfl) rfl) (aq rfl (fun γ => qp rfl rfl (.v 0 rfl rfl .nil) (q_asg rfl rfl) rfl) (aq rfl (fun γ => qp rfl rfl (.v 5 rfl rfl .nil) (q_asg rfl rfl) rfl) zA))))))))
 exact zA
 intro g22v
 refine nrm_then (sim_rtn ?_)
 exact rtn_fn () rfl rfl rfl (.sel 0 rfl (.sel 0 rfl (.sel 0 rfl (.nil _))))

def kv_reader_clients_4_s.f (k : Nat) (xp2_0 : List UInt8) (xp2_1 : Int) (xp2_2 : Int) (xp1_1 : Int) : Option (List UInt8 × Int × Int) := (wire_Reader_Text.f k xp2_0 xp2_1 xp2_2 (1024 : Int)).bind fun s1v => (some (s1v.1, s1v.2.1, s1v.2.2))
theorem kv_reader_clients_4_s.calls (W : World) (F : HA) (k : Nat) (bp0 : Nat) (bp1 : Nat) (bp2 : Nat) (ap2_0 : Option Addr) (cp2_0 : Nat) (xp2_0 : List UInt8) (xp2_1 : Int) (xp2_2 : Int) (xp1_1 : Int) (hp2_0 : Rd F ap2_0 (encB xp2_0)) (hcp2_0 : xp2_0.length ≤ cp2_0) (hmp2_0 : cp2_0 ≤ maxLen) :
    Fn Tryz.prog W 71 [.pointer (some ⟨bp0, 0, none⟩)] [obj bp2 125 [.slice ap2_0 xp2_0.length cp2_0, .int .i64 xp2_1, .int .i64 xp2_2], obj bp1 76 [.pointer (some ⟨bp2, 0, none⟩), .int .i64 xp1_1], obj bp0 72 [.pointer (some ⟨bp1, 0, none⟩)]] F (kv_reader_clients_4_s.f k xp2_0 xp2_1 xp2_2 xp1_1) (fun (r : List UInt8 × Int × Int) (y : Unit) => str r.1) (fun r y => [obj bp2 125 [.slice ap2_0 xp2_0.length cp2_0, .int .i64 r.2.1, .int .i64 r.2.2], obj bp1 76 [.pointer (some ⟨bp2, 0, none⟩), .int .i64 xp1_1], obj bp0 72 [.pointer (some ⟨bp1, 0, none⟩)]]) := by
 unfold kv_reader_clients_4_s.f
 refine fn_intro 7 Tryz.func71 rfl Tryz.ntmps71 rfl ?_
 refine sr ?_
 refine va rfl rfl (nx ?_)
 refine vq (q_load rfl rfl Tryz.isAgg72 (.obj 2 rfl rfl)) rfl ?_
 refine vn rfl rfl ?_
 refine vq (q_fa rfl rfl Tryz.underlying76 rfl rfl Tryz.sizeOf73 rfl) rfl ?_
 refine vq (q_load rfl rfl Tryz.isAgg73 (.obj 1 rfl rfl)) rfl ?_
 refine simL_bind (fun s1v hs2v => ?_)
 refine simL_eff (re_call (vs := [.pointer (some ⟨bp2, 0, none⟩), .int .i64 1024]) (cap := []) (A := [obj bp2 125 [.slice ap2_0 xp2_0.length cp2_0, .int .i64 xp2_1, .int .i64 xp2_2]]) (rst := [obj bp1 76 [.pointer (some ⟨bp2, 0, none⟩), .int .i64 xp1_1], obj bp0 72 [.pointer (some ⟨bp1, 0, none⟩)], F]) rfl rfl rfl rfl rfl rfl Tryz.call63 (.sel 0 rfl (.sel 0 rfl (.sel 0 rfl (.sel 0 rfl (.nil _))))) (wire_Reader_Text.calls _ _ k bp2 ap2_0 cp2_0 xp2_0 xp2_1 xp2_2 (1024 : Int) (hp2_0.lend 2 rfl) hcp2_0 hmp2_0) hs2v) rfl rfl rfl ?_
 intro y3v
 refine va rfl rfl (simL_nil (nrm_then (sim_rtn ?_)))
 exact rtn_fn () rfl rfl rfl (.sel 0 rfl (.sel 0 rfl (.sel 0 rfl (.sel 0 rfl (.nil _)))))

def kv_is_string_kv_reader_clients_4_kv_reader_clients_5.f (k : Nat) (xp1_0 : List UInt8) (xp1_1 : Int) (xp1_2 : Int) (xp0_1 : Int) (xp3_0 : Int) (xp3_1 : Int) (xp3_2 : Int) (xp3_3 : List UInt8) (x3 : Int) : Option (List UInt8 × Bool × Int × Int × Int) := (wire_Reader_At.f xp1_0 xp1_1 xp1_2).bind fun s1v => ((kv_reader_clients_4_s.f k xp1_0 xp1_1 xp1_2 xp0_1).bind fun s4v => ((wire_Reader_At.f xp1_0 s4v.2.1 s4v.2.2).bind fun s7v => (if s7v = s1v then ((wire_Reader_Done.f xp1_0 s4v.2.1 s4v.2.2).bind fun s12v => (some (s4v.1, decide (s12v = (0 : Int)), s4v.2.1, s4v.2.2, s12v))) else ((kv_reader_clients_5.f s4v.1 xp3_0 xp3_1 xp3_2 xp3_3).bind fun s16v => (if (!s16v) = true then (some (s4v.1, decide (x3 = (0 : Int)), s4v.2.1, s4v.2.2, x3)) else (some (s4v.1, decide (xp0_1 = (0 : Int)), s4v.2.1, s4v.2.2, xp0_1)))))))
theorem kv_is_string_kv_reader_clients_4_kv_reader_clients_5.calls (W : World) (F : HA) (k : Nat) (bp0 : Nat) (bp1 : Nat) (ap1_0 : Option Addr) (cp1_0 : Nat) (xp1_0 : List UInt8) (xp1_1 : Int) (xp1_2 : Int) (xp0_1 : Int) (bp2 : Nat) (bp3 : Nat) (xp3_0 : Int) (xp3_1 : Int) (xp3_2 : Int) (xp3_3 : List UInt8) (x3 : Int) (hp1_0 : Rd F ap1_0 (encB xp1_0)) (hcp1_0 : xp1_0.length ≤ cp1_0) (hmp1_0 : cp1_0 ≤ maxLen) :
    Fn Tryz.prog W 61 [.pointer (some ⟨bp0, 0, none⟩), .func (.func 71) #[] #[.pointer (some ⟨bp2, 0, none⟩)], .func (.func 72) #[] #[.pointer (some ⟨bp3, 0, none⟩)], .int .i64 x3] [obj bp1 125 [.slice ap1_0 xp1_0.length cp1_0, .int .i64 xp1_1, .int .i64 xp1_2], obj bp0 76 [.pointer (some ⟨bp1, 0, none⟩), .int .i64 xp0_1], obj bp2 72 [.pointer (some ⟨bp0, 0, none⟩)], obj bp3 69 [.int .i64 xp3_0, .int .i64 xp3_1, .int .i64 xp3_2, str xp3_3]] F (kv_is_string_kv_reader_clients_4_kv_reader_clients_5.f k xp1_0 xp1_1 xp1_2 xp0_1 xp3_0 xp3_1 xp3_2 xp3_3 x3) (fun (r : List UInt8 × Bool × Int × Int × Int) (y : Unit) => .tuple #[str r.1, .bool r.2.1]) (fun r y => [obj bp1 125 [.slice ap1_0 xp1_0.length cp1_0, .int .i64 r.2.2.1, .int .i64 r.2.2.2.1], obj bp0 76 [.pointer (some ⟨bp1, 0, none⟩), .int .i64 r.2.2.2.2], obj bp2 72 [.pointer (some ⟨bp0, 0, none⟩)], obj bp3 69 [.int .i64 xp3_0, .int .i64 xp3_1, .int .i64 xp3_2, str xp3_3]]) := by
 unfold kv_is_string_kv_reader_clients_4_kv_reader_clients_5.f
 refine fn_intro 50 Tryz.func61 rfl Tryz.ntmps61 rfl ?_
 refine sr ?_
 refine va rfl rfl ?_
 refine va rfl rfl (nx ?_)
 refine vm rfl rfl ?_
 refine vn rfl rfl ?_
 refine vq (q_fa rfl rfl Tryz.underlying76 rfl rfl Tryz.sizeOf73 rfl) rfl ?_
 refine vq (q_load rfl rfl Tryz.isAgg73 (.obj 1 rfl rfl)) rfl ?_
 refine simL_bind (fun s1v hs2v => ?_)
 refine simL_eff (re_call (vs := [.pointer (some ⟨bp1, 0, none⟩)]) (cap := []) (A := [obj bp1 125 [.slice ap1_0 xp1_0.length cp1_0, .int .i64 xp1_1, .int .i64 xp1_2]]) (rst := [obj bp0 76 [.pointer (some ⟨bp1, 0, none⟩), .int .i64 xp0_1], obj bp2 72 [.pointer (some ⟨bp0, 0, none⟩)], obj bp3 69 [.int .i64 xp3_0, .int .i64 xp3_1, .int .i64 xp3_2, str xp3_3], F]) rfl rfl rfl rfl rfl rfl Tryz.call94 (.sel 0 rfl (.sel 0 rfl (.sel 0 rfl (.sel 0 rfl (.sel 0 rfl (.nil _)))))) (wire_Reader_At.calls _ _ bp1 ap1_0 cp1_0 xp1_0 xp1_1 xp1_2 (hp1_0.lend 3 rfl) hcp1_0 hmp1_0) hs2v) rfl rfl rfl ?_
 intro y3v
 refine va rfl rfl (nx ?_)
 refine vm rfl rfl ?_
 refine simL_bind (fun s4v hs5v => ?_)
 refine simL_eff (re_call (vs := []) (cap := [.pointer (some ⟨bp2, 0, none⟩)]) (A := [obj bp1 125 [.slice ap1_0 xp1_0.length cp1_0, .int .i64 xp1_1, .int .i64 xp1_2], obj bp0 76 [.pointer (some ⟨bp1, 0, none⟩), .int .i64 xp0_1], obj bp2 72 [.pointer (some ⟨bp0, 0, none⟩)]]) (rst := [obj bp3 69 [.int .i64 xp3_0, .int .i64 xp3_1, .int .i64 xp3_2, str xp3_3], F]) rfl rfl rfl rfl rfl rfl Tryz.call71 (.sel 0 rfl (.sel 0 rfl (.sel 0 rfl (.sel 0 rfl (.sel 0 rfl (.nil _)))))) (kv_reader_clients_4_s.calls _ _ k bp2 bp0 bp1 ap1_0 cp1_0 xp1_0 xp1_1 xp1_2 xp0_1 (hp1_0.lend 1 rfl) hcp1_0 hmp1_0) hs5v) rfl rfl rfl ?_
 intro y6v
 refine va rfl rfl (simL_nil (nrm_then (sim_seq ?_)))
 refine sim_block ?_
 refine sr ?_
 refine vm rfl rfl ?_
 refine vn rfl rfl ?_
 refine vq (q_fa rfl rfl Tryz.underlying76 rfl rfl Tryz.sizeOf73 rfl) rfl ?_
 refine vq (q_load rfl rfl Tryz.isAgg73 (.obj 1 rfl rfl)) rfl ?_
 refine simL_bind (fun s7v hs8v => ?_)
 refine simL_eff (re_call (vs := [.pointer (some ⟨bp1, 0, none⟩)]) (cap := []) (A := [obj bp1 125 [.slice ap1_0 xp1_0.length cp1_0, .int .i64 s4v.2.1, .int .i64 s4v.2.2]]) (rst := [obj bp0 76 [.pointer (some ⟨bp1, 0, none⟩), .int .i64 xp0_1], obj bp2 72 [.pointer (some ⟨bp0, 0, none⟩)], obj bp3 69 [.int .i64 xp3_0, .int .i64 xp3_1, .int .i64 xp3_2, str xp3_3], F]) rfl rfl rfl rfl rfl rfl Tryz.call94 (.sel 0 rfl (.sel 0 rfl (.sel 0 rfl (.sel 0 rfl (.sel 0 rfl (.nil _)))))) (wire_Reader_At.calls _ _ bp1 ap1_0 cp1_0 xp1_0 s4v.2.1 s4v.2.2 (hp1_0.lend 3 rfl) hcp1_0 hmp1_0) hs8v) rfl rfl rfl ?_
 intro y9v
 refine vm rfl rfl ?_
 refine vq (q_eql rfl rfl rfl) rfl ?_
 refine va rfl rfl (simL_nil (nrm_then ?_))
 refine sim_cond rfl (fun h10v => ?_) (fun h11v => ?_)
 refine sim_region ?_
 refine vm rfl rfl ?_
 refine vm rfl rfl ?_
 refine vn rfl rfl ?_
 refine vq (q_fa rfl rfl Tryz.underlying76 rfl rfl Tryz.sizeOf73 rfl) rfl ?_
 refine vq (q_load rfl rfl Tryz.isAgg73 (.obj 1 rfl rfl)) rfl ?_
 refine simL_bind (fun s12v hs13v => ?_)
 refine simL_eff (re_call (vs := [.pointer (some ⟨bp1, 0, none⟩)]) (cap := []) (A := [obj bp1 125 [.slice ap1_0 xp1_0.length cp1_0, .int .i64 s4v.2.1, .int .i64 s4v.2.2]]) (rst := [obj bp0 76 [.pointer (some ⟨bp1, 0, none⟩), .int .i64 xp0_1], obj bp2 72 [.pointer (some ⟨bp0, 0, none⟩)], obj bp3 69 [.int .i64 xp3_0, .int .i64 xp3_1, .int .i64 xp3_2, str xp3_3], F]) rfl rfl rfl rfl rfl rfl Tryz.call33 (.sel 0 rfl (.sel 0 rfl (.sel 0 rfl (.sel 0 rfl (.sel 0 rfl (.nil _)))))) (wire_Reader_Done.calls _ _ bp1 ap1_0 cp1_0 xp1_0 s4v.2.1 s4v.2.2 (hp1_0.lend 3 rfl) hcp1_0 hmp1_0) hs13v) rfl rfl rfl ?_
 intro y14v
 refine vn rfl rfl ?_
 refine vq (q_fa rfl rfl Tryz.underlying76 rfl rfl Tryz.sizeOf31 rfl) rfl ?_
 refine simL_do (re_store 1 rfl rfl rfl Tryz.sizeOf31 rfl rfl (one_of (by rfl)) rfl rfl) rfl rfl ?_
 intro _
 refine simL_nil (nrm_block (nrm_then (sim_seq ?_)))
 refine sim_draw (Γ := Unit) () [[], [], [1], [1, 2], [1, 2, 3], [1, 2, 3, 4], [0], rL 7] [] [0, 1, 2, 3, 4, 5, 6, 7] (fun i => [[0], [0], [0], [0], [0], [0], [0], [0]].getD i []) (fun i => [[], [], [], [], [], [], [], []].getD i []) (fun γ i => [str s4v.1, .pointer (some ⟨bp0, 0, none⟩), .pointer (some ⟨bp0, 0, none⟩), .pointer (some ⟨bp0, 1, none⟩), .int .i64 s12v, .bool (decide (s12v = (0 : Int))), str s4v.1, .bool (decide (s12v = (0 : Int)))].getD i undef) (fun j γ => [[obj bp1 125 [.slice ap1_0 xp1_0.length cp1_0, .int .i64 s4v.2.1, .int .i64 s4v.2.2], obj bp0 76 [.pointer (some ⟨bp1, 0, none⟩), .int .i64 s12v], obj bp2 72 [.pointer (some ⟨bp0, 0, none⟩)], obj bp3 69 [.int .i64 xp3_0, .int .i64 xp3_1, .int .i64 xp3_2, str xp3_3], F]].getD j []) (fun γ => [(8, str s4v.1), (9, .bool (decide (s12v = (0 : Int))))]) mixed (by decide) (by decide) (by decide) (by decide) (by decide) (by decide) (by decide) 50 rfl (by decide) (by decide) (by decide) (Ent.refl _) ?_ ?_ (fun _ => ⟨rfl, rfl, trivial⟩) ?_
 exact (aq rfl (fun γ => qm rfl (.o (s := 11) rfl (by decide) .nil) rfl) (aq rfl (fun γ => qm rfl (.o (s := 0) rfl (by decide) .nil) rfl) (aq rfl (fun γ => qp rfl rfl (.v 1 rfl rfl .nil) (q_nil rfl rfl) rfl) (aq rfl (fun γ => qp rfl rfl (.v 2 rfl rfl .nil) (q_fa rfl rfl Tryz.underlying76 rfl rfl Tryz.sizeOf31 rfl) rfl) (aq rfl (fun γ => qp rfl rfl (.v 3 rfl rfl .nil) (q_load rfl rfl Tryz.isAgg31 (.obj 1 rfl rfl)) rfl) (aq rfl (fun γ => qp rfl rfl (.v 4 rfl rfl .nil) (q_eql rfl rfl rfl) rfl) (aq rfl (fun γ => qp rfl rfl (.v 0 rfl rfl .nil) (q_asg rfl rfl) rfl) (aq rfl (fun γ => qp rfl rfl (.v 5 rfl rfl .nil) (q_asg rfl rfl) rfl) zA))))))))
 exact zA
 intro g15v
 refine nrm_then (sim_rtn ?_)
 exact rtn_fn () rfl rfl rfl (.sel 0 rfl (.sel 0 rfl (.sel 0 rfl (.sel 0 rfl (.sel 0 rfl (.nil _))))))
 refine sr ?_
 refine vm rfl rfl ?_
 refine vm rfl rfl ?_
 refine simL_bind (fun s16v hs17v => ?_)
 refine simL_eff (re_call (vs := [str s4v.1]) (cap := [.pointer (some ⟨bp3, 0, none⟩)]) (A := [obj bp3 69 [.int .i64 xp3_0, .int .i64 xp3_1, .int .i64 xp3_2, str xp3_3]]) (rst := [obj bp1 125 [.slice ap1_0 xp1_0.length cp1_0, .int .i64 s4v.2.1, .int .i64 s4v.2.2], obj bp0 76 [.pointer (some ⟨bp1, 0, none⟩), .int .i64 xp0_1], obj bp2 72 [.pointer (some ⟨bp0, 0, none⟩)], F]) rfl rfl rfl rfl rfl rfl Tryz.call72 (.sel 3 rfl (.sel 0 rfl (.sel 0 rfl (.sel 0 rfl (.sel 0 rfl (.nil _)))))) (kv_reader_clients_5.calls _ _ s4v.1 bp3 xp3_0 xp3_1 xp3_2 xp3_3 ) hs17v) rfl rfl rfl ?_
 intro y18v
 refine vq (q_not rfl rfl) rfl ?_
 refine va rfl rfl (simL_nil (nrm_then ?_))
 refine sim_condb rfl (fun h19v => ?_) (fun h20v => ?_)
 refine sim_region ?_
 refine vm rfl rfl ?_
 refine vm rfl rfl ?_
 refine vn rfl rfl ?_
 refine vq (q_fa rfl rfl Tryz.underlying76 rfl rfl Tryz.sizeOf31 rfl) rfl ?_
 refine simL_do (re_store 2 rfl rfl rfl Tryz.sizeOf31 rfl rfl (one_of (by rfl)) rfl rfl) rfl rfl ?_
 intro _
 refine simL_nil (nrm_block (nrm_then (sim_seq ?_)))
 refine sim_draw (Γ := Unit) () [[], [], [1], [1, 2], [1, 2, 3], [1, 2, 3, 4], [0], rL 7] [] [0, 1, 2, 3, 4, 5, 6, 7] (fun i => [[0], [0], [0], [0], [0], [0], [0], [0]].getD i []) (fun i => [[], [], [], [], [], [], [], []].getD i []) (fun γ i => [str s4v.1, .pointer (some ⟨bp0, 0, none⟩), .pointer (some ⟨bp0, 0, none⟩), .pointer (some ⟨bp0, 1, none⟩), .int .i64 x3, .bool (decide (x3 = (0 : Int))), str s4v.1, .bool (decide (x3 = (0 : Int)))].getD i undef) (fun j γ => [[obj bp3 69 [.int .i64 xp3_0, .int .i64 xp3_1, .int .i64 xp3_2, str xp3_3], obj bp1 125 [.slice ap1_0 xp1_0.length cp1_0, .int .i64 s4v.2.1, .int .i64 s4v.2.2], obj bp0 76 [.pointer (some ⟨bp1, 0, none⟩), .int .i64 x3], obj bp2 72 [.pointer (some ⟨bp0, 0, none⟩)], F]].getD j []) (fun γ => [(8, str s4v.1), (9, .bool (decide (x3 = (0 : Int))))]) mixed (by decide) (by decide) (by decide) (by decide) (by decide) (by decide) (by decide) 50 rfl (by decide) (by decide) (by decide) (Ent.refl _) ?_ ?_ (fun _ => ⟨rfl, rfl, trivial⟩) ?_
 exact (aq rfl (fun γ => qm rfl (.o (s := 11) rfl (by decide) .nil) rfl) (aq rfl (fun γ => qm rfl (.o (s := 0) rfl (by decide) .nil) rfl) (aq rfl (fun γ => qp rfl rfl (.v 1 rfl rfl .nil) (q_nil rfl rfl) rfl) (aq rfl (fun γ => qp rfl rfl (.v 2 rfl rfl .nil) (q_fa rfl rfl Tryz.underlying76 rfl rfl Tryz.sizeOf31 rfl) rfl) (aq rfl (fun γ => qp rfl rfl (.v 3 rfl rfl .nil) (q_load rfl rfl Tryz.isAgg31 (.obj 2 rfl rfl)) rfl) (aq rfl (fun γ => qp rfl rfl (.v 4 rfl rfl .nil) (q_eql rfl rfl rfl) rfl) (aq rfl (fun γ => qp rfl rfl (.v 0 rfl rfl .nil) (q_asg rfl rfl) rfl) (aq rfl (fun γ => qp rfl rfl (.v 5 rfl rfl .nil) (q_asg rfl rfl) rfl) zA))))))))
 exact zA
 intro g21v
 refine nrm_then (sim_rtn ?_)
 exact rtn_fn () rfl rfl rfl (.sel 1 rfl (.sel 1 rfl (.sel 1 rfl (.sel 0 rfl (.sel 0 rfl (.nil _))))))
 refine sim_skip ?_
 refine nrm_block (nrm_then (sim_seq ?_))
 refine sim_draw (Γ := Unit) () [[], [], [1], [1, 2], [1, 2, 3], [1, 2, 3, 4], [0], rL 7] [] [0, 1, 2, 3, 4, 5, 6, 7] (fun i => [[0], [0], [0], [0], [0], [0], [0], [0]].getD i []) (fun i => [[], [], [], [], [], [], [], []].getD i []) (fun γ i => [str s4v.1, .pointer (some ⟨bp0, 0, none⟩), .pointer (some ⟨bp0, 0, none⟩), .pointer (some ⟨bp0, 1, none⟩), .int .i64 xp0_1, .bool (decide (xp0_1 = (0 : Int))), str s4v.1, .bool (decide (xp0_1 = (0 : Int)))].getD i undef) (fun j γ => [[obj bp3 69 [.int .i64 xp3_0, .int .i64 xp3_1, .int .i64 xp3_2, str xp3_3], obj bp1 125 [.slice ap1_0 xp1_0.length cp1_0, .int .i64 s4v.2.1, .int .i64 s4v.2.2], obj bp0 76 [.pointer (some ⟨bp1, 0, none⟩), .int .i64 xp0_1], obj bp2 72 [.pointer (some ⟨bp0, 0, none⟩)], F]].getD j []) (fun γ => [(8, str s4v.1), (9, .bool (decide (xp0_1 = (0 : Int))))]) mixed (by decide) (by decide) (by decide) (by decide) (by decide) (by decide) (by decide) 50 rfl (by decide) (by decide) (by decide) (Ent.refl _) ?_ ?_ (fun _ => ⟨rfl, rfl, trivial⟩) ?_
 exact (aq rfl (fun γ => qm rfl (.o (s := 11) rfl (by decide) .nil) rfl) (aq rfl (fun γ => qm rfl (.o (s := 0) rfl (by decide) .nil) rfl) (aq rfl (fun γ => qp rfl rfl (.v 1 rfl rfl .nil) (q_nil rfl rfl) rfl) (aq rfl (fun γ => qp rfl rfl (.v 2 rfl rfl .nil) (q_fa rfl rfl Tryz.underlying76 rfl rfl Tryz.sizeOf31 rfl) rfl) (aq rfl (fun γ => qp rfl rfl (.v 3 rfl rfl .nil) (q_load rfl rfl Tryz.isAgg31 (.obj 2 rfl rfl)) rfl) (aq rfl (fun γ => qp rfl rfl (.v 4 rfl rfl .nil) (q_eql rfl rfl rfl) rfl) (aq rfl (fun γ => qp rfl rfl (.v 0 rfl rfl .nil) (q_asg rfl rfl) rfl) (aq rfl (fun γ => qp rfl rfl (.v 5 rfl rfl .nil) (q_asg rfl rfl) rfl) zA))))))))
 exact zA
 intro g22v
 refine nrm_then (sim_rtn ?_)
 exact rtn_fn () rfl rfl rfl (.sel 1 rfl (.sel 1 rfl (.sel 1 rfl (.sel 0 rfl (.sel 0 rfl (.nil _))))))

def kv_reader_clients_s.l0 (xp1_0 : List UInt8) (s2v : Int × Bool × Int × Int × Int) : Nat → Bool → Int → Int → Int → Int → Int → List ((Int) × (Ty69)) → Option (Bool × Int × Int × Int × (List ((Int) × (Ty69))))
  | 0, _, _, _, _, _, _, _ => none
  | k + 1, z11v, z12v, z13v, z14v, z15v, z16v, z17v => if (z11v && (decide (z12v < s2v.1))) = true then ((kv_is_int_wire_Reader_Int_kv_reader_clients_2.f k xp1_0 z14v z15v z16v z13v (4 : Int)).bind fun s21v => ((if s21v.2.1 = true then ((kv_is_int_wire_Reader_Int_kv_reader_clients_3.f k xp1_0 s21v.2.2.1 s21v.2.2.2.1 s21v.2.2.2.2 (4 : Int)).bind fun s29v => (some (s29v.2.1, s29v.2.2.1, s29v.2.2.2.1, s29v.2.2.2.2, s29v.1))) else (some (s21v.2.1, s21v.2.2.1, s21v.2.2.2.1, s21v.2.2.2.2, 0))).bind fun s25v => ((if s25v.1 = true then ((kv_is_int_wire_Reader_Int_kv_kept.f k xp1_0 s25v.2.1 s25v.2.2.1 s25v.2.2.2.1 (4 : Int)).bind fun s37v => (some (s37v.2.1, s37v.2.2.1, s37v.2.2.2.1, s37v.2.2.2.2, s37v.1))) else (some (s25v.1, s25v.2.1, s25v.2.2.1, s25v.2.2.2.1, 0))).bind fun s33v => ((if s33v.1 = true then ((kv_is_string_kv_reader_clients_4_kv_reader_clients_5.f k xp1_0 s33v.2.1 s33v.2.2.1 s33v.2.2.2.1 s21v.1 s25v.2.2.2.2 s33v.2.2.2.2 ([] : List UInt8) (4 : Int)).bind fun s45v => (some (s45v.2.1, s45v.2.2.1, s45v.2.2.2.1, s45v.2.2.2.2, s45v.1))) else (some (s33v.1, s33v.2.1, s33v.2.2.1, s33v.2.2.2.1, ([] : List UInt8)))).bind fun s41v => (kv_reader_clients_s.l0 xp1_0 s2v k s41v.1 (IntKind.i64.wrap (z12v + 1)) s21v.1 s41v.2.1 s41v.2.2.1 s41v.2.2.2.1 (mput z17v s21v.1 (s21v.1, s25v.2.2.2.2, s33v.2.2.2.2, s41v.2.2.2.2))))))) else (some (z11v, z14v, z15v, z16v, z17v))
def kv_reader_clients_s.f (k : Nat) (xp1_0 : List UInt8) (xp1_1 : Int) (xp1_2 : Int) (xp0_1 : Int) (xp2_0 : List ((List UInt8) × (List UInt8))) (xp2_1 : List ((Int) × (Ty69))) : Option (Bool × Int × Int × Int × (List ((List UInt8) × (List UInt8))) × (List ((Int) × (Ty69)))) := (kv_is_int_wire_Reader_Int_kv_reader_clients_1.f k xp1_0 xp1_1 xp1_2 xp0_1 (23 : Int)).bind fun s2v => ((kv_reader_clients_s.l0 xp1_0 s2v k s2v.2.1 0 0 s2v.2.2.1 s2v.2.2.2.1 s2v.2.2.2.2 xp2_1).bind fun s7v => (some (s7v.1, s7v.2.1, s7v.2.2.1, s7v.2.2.2.1, xp2_0, s7v.2.2.2.2)))
theorem kv_reader_clients_s.calls (W : World) (F : HA) (k : Nat) (bp0 : Nat) (bp1 : Nat) (ap1_0 : Option Addr) (cp1_0 : Nat) (xp1_0 : List UInt8) (xp1_1 : Int) (xp1_2 : Int) (xp0_1 : Int) (bp2 : Nat) (mp2_0 : Nat) (xp2_0 : List ((List UInt8) × (List UInt8))) (mp2_1 : Nat) (xp2_1 : List ((Int) × (Ty69))) (hp1_0 : Rd F ap1_0 (encB xp1_0)) (hcp1_0 : xp1_0.length ≤ cp1_0) (hmp1_0 : cp1_0 ≤ maxLen) :
    Fn Tryz.prog W 32 [.pointer (some ⟨bp0, 0, none⟩), .pointer (some ⟨bp2, 0, none⟩)] [obj bp1 125 [.slice ap1_0 xp1_0.length cp1_0, .int .i64 xp1_1, .int .i64 xp1_2], obj bp0 76 [.pointer (some ⟨bp1, 0, none⟩), .int .i64 xp0_1], obj bp2 58 [.map (some mp2_0), .map (some mp2_1)], mapO mp2_0 enc9 enc9 xp2_0, mapO mp2_1 enc3 enc69 xp2_1] F (kv_reader_clients_s.f k xp1_0 xp1_1 xp1_2 xp0_1 xp2_0 xp2_1) (fun (r : Bool × Int × Int × Int × (List ((List UInt8) × (List UInt8))) × (List ((Int) × (Ty69)))) (y : Nat × Nat) => .bool r.1) (fun r y => [obj bp1 125 [.slice ap1_0 xp1_0.length cp1_0, .int .i64 r.2.1, .int .i64 r.2.2.1], obj bp0 76 [.pointer (some ⟨bp1, 0, none⟩), .int .i64 r.2.2.2.1], obj bp2 58 [.map (some y.1), .map (some y.2)], mapO y.1 enc9 enc9 r.2.2.2.2.1, mapO y.2 enc3 enc69 r.2.2.2.2.2]) := by
 unfold kv_reader_clients_s.f
 refine fn_intro 86 Tryz.func32 rfl Tryz.ntmps32 rfl ?_
 refine sr ?_
 refine simL_eff (re_box rfl rfl rfl) rfl rfl rfl ?_
 intro b1v
 refine va rfl rfl (simL_nil (nrm_then (sim_seq ?_)))
 refine sim_bind (fun s2v hs3v => ?_)
 refine sim_draw (Γ := Unit) () [[], [], [1], [1, 2], [1, 2, 3], [1, 2, 3, 4], rL 6, rL 7, rL 8, rL 8, rL 9, rL 11] [6] [0, 1, 2, 3, 4, 5, 7, 8, 9, 10, 11] (fun i => [[0], [0], [0], [0], [0], [0], [], [1], [1], [1], [1], [1]].getD i []) (fun i => [[], [], [], [], [], [], rL 6, [], [], [], [], []].getD i []) (fun γ i => [.pointer (some ⟨bp0, 0, none⟩), .pointer (some ⟨bp0, 0, none⟩), .pointer (some ⟨bp0, 0, none⟩), .pointer (some ⟨bp0, 0, none⟩), .pointer (some ⟨bp1, 0, none⟩), .func (.func 59) #[.pointer (some ⟨bp1, 0, none⟩)] #[], .tuple #[.int .i64 s2v.1, .bool s2v.2.1], .tuple #[.int .i64 s2v.1, .bool s2v.2.1], .int .i64 s2v.1, .bool s2v.2.1, .int .i64 s2v.1, .bool s2v.2.1].getD i undef) (fun j γ => [[obj b1v 72 [.pointer (some ⟨bp0, 0, none⟩)], obj bp1 125 [.slice ap1_0 xp1_0.length cp1_0, .int .i64 xp1_1, .int .i64 xp1_2], obj bp0 76 [.pointer (some ⟨bp1, 0, none⟩), .int .i64 xp0_1], obj bp2 58 [.map (some mp2_0), .map (some mp2_1)], mapO mp2_0 enc9 enc9 xp2_0, mapO mp2_1 enc3 enc69 xp2_1, F], [obj bp1 125 [.slice ap1_0 xp1_0.length cp1_0, .int .i64 s2v.2.2.1, .int .i64 s2v.2.2.2.1], obj bp0 76 [.pointer (some ⟨bp1, 0, none⟩), .int .i64 s2v.2.2.2.2], obj b1v 72 [.pointer (some ⟨bp0, 0, none⟩)], obj bp2 58 [.map (some mp2_0), .map (some mp2_1)], mapO mp2_0 enc9 enc9 xp2_0, mapO mp2_1 enc3 enc69 xp2_1, F]].getD j []) (fun γ => [(1, .pointer (some ⟨bp2, 0, none⟩)), (2, .pointer (some ⟨b1v, 0, none⟩)), (5, .int .i64 s2v.1), (6, .bool s2v.2.1)]) mixed (by decide) (by decide) (by decide) (by decide) (by decide) (by decide) (by decide) 86 rfl (by decide) (by decide) (by decide) (Ent.refl _) ?_ ?_ (fun _ => ⟨rfl, rfl, rfl, rfl, trivial⟩) ?_
 exact (aq rfl (fun γ => qp rfl rfl (.o (s := 2) rfl (by decide) .nil) (q_load rfl rfl Tryz.isAgg72 (.obj 0 rfl rfl)) rfl) (aq rfl (fun γ => qp rfl rfl (.o (s := 2) rfl (by decide) .nil) (q_load rfl rfl Tryz.isAgg72 (.obj 0 rfl rfl)) rfl) (aq rfl (fun γ => qp rfl rfl (.v 1 rfl rfl .nil) (q_nil rfl rfl) rfl) (aq rfl (fun γ => qp rfl rfl (.v 2 rfl rfl .nil) (q_fa rfl rfl Tryz.underlying76 rfl rfl Tryz.sizeOf73 rfl) rfl) (aq rfl (fun γ => qp rfl rfl (.v 3 rfl rfl .nil) (q_load rfl rfl Tryz.isAgg73 (.obj 2 rfl rfl)) rfl) (aq rfl (fun γ => qp rfl rfl (.v 4 rfl rfl .nil) (q_mkfn rfl rfl rfl) rfl) (aq rfl (fun γ => qm rfl (.v 6 rfl rfl .nil) rfl) (aq rfl (fun γ => qp rfl rfl (.v 7 rfl rfl .nil) (q_ext rfl rfl rfl) rfl) (aq rfl (fun γ => qp rfl rfl (.v 7 rfl rfl .nil) (q_ext rfl rfl rfl) rfl) (aq rfl (fun γ => qp rfl rfl (.v 8 rfl rfl .nil) (q_asg rfl rfl) rfl) (aq rfl (fun γ => qp rfl rfl (.v 9 rfl rfl .nil) (q_asg rfl rfl) rfl) zA)))))))))))
 exact (ac (fun γ => eo (Z := Unit) (fun z => ()) rfl rfl (.v 0 rfl rfl (.v 5 rfl rfl .nil)) (re_call (vs := [.pointer (some ⟨bp0, 0, none⟩), .func (.func 59) #[.pointer (some ⟨bp1, 0, none⟩)] #[], .func (.func 67) #[] #[], .int .i64 23]) (cap := []) (A := [obj bp1 125 [.slice ap1_0 xp1_0.length cp1_0, .int .i64 xp1_1, .int .i64 xp1_2], obj bp0 76 [.pointer (some ⟨bp1, 0, none⟩), .int .i64 xp0_1]]) (rst := [obj b1v 72 [.pointer (some ⟨bp0, 0, none⟩)], obj bp2 58 [.map (some mp2_0), .map (some mp2_1)], mapO mp2_0 enc9 enc9 xp2_0, mapO mp2_1 enc3 enc69 xp2_1, F]) rfl rfl rfl rfl rfl rfl Tryz.call58 (.sel 1 rfl (.sel 1 rfl (.sel 0 rfl (.sel 0 rfl (.sel 0 rfl (.sel 0 rfl (.sel 0 rfl (.nil _)))))))) (kv_is_int_wire_Reader_Int_kv_reader_clients_1.calls _ _ k bp0 bp1 ap1_0 cp1_0 xp1_0 xp1_1 xp1_2 xp0_1 (23 : Int) (hp1_0.lend 4 rfl) hcp1_0 hmp1_0) hs3v) (fun _ => ⟨rfl, rfl, rfl, rfl, rfl, rfl, trivial⟩) (fun _ => .inr rfl) (fun z => Ent.refl _)) zA)
 intro g5v
 refine nrm_then (sr ?_)
 refine simL_eff (re_alloc rfl Tryz.zeroValue3 rfl) rfl rfl rfl ?_
 intro b6v
 refine simL_do (re_store 0 rfl rfl rfl Tryz.sizeOf3 rfl rfl (one_of (by rfl)) rfl rfl) rfl rfl ?_
 intro _
 refine simL_nil (nrm_then ?_)
 refine sim_cut (S := Bool × Int × Int × Int × (List ((Int) × (Ty69)))) (Unit) (fun s y => [(6, .bool s.1)]) (fun s y => [obj bp1 125 [.slice ap1_0 xp1_0.length cp1_0, .int .i64 s.2.1, .int .i64 s.2.2.1], obj bp0 76 [.pointer (some ⟨bp1, 0, none⟩), .int .i64 s.2.2.2.1], obj bp2 58 [.map (some mp2_0), .map (some mp2_1)], mapO mp2_0 enc9 enc9 xp2_0, mapO mp2_1 enc3 enc69 s.2.2.2.2, F]) ?_ ?_
 refine sr ?_
 refine va rfl rfl (simL_nil (nrm_then ?_))
 refine sim_block ?_
 refine sim_loop (S := Bool × Int × Int × Int × Int × Int × (List ((Int) × (Ty69)))) (Unit) (fun k s => kv_reader_clients_s.l0 xp1_0 s2v k s.1 s.2.1 s.2.2.1 s.2.2.2.1 s.2.2.2.2.1 s.2.2.2.2.2.1 s.2.2.2.2.2.2) (fun s y => [(1, .pointer (some ⟨bp2, 0, none⟩)), (2, .pointer (some ⟨b1v, 0, none⟩)), (5, .int .i64 s2v.1), (6, .bool s.1), (7, .pointer (some ⟨b6v, 0, none⟩)), (8, .int .i64 s.2.1)]) (fun s y => [obj b6v 3 [.int .i64 s.2.2.1], obj bp1 125 [.slice ap1_0 xp1_0.length cp1_0, .int .i64 s.2.2.2.1, .int .i64 s.2.2.2.2.1], obj bp0 76 [.pointer (some ⟨bp1, 0, none⟩), .int .i64 s.2.2.2.2.2.1], obj b1v 72 [.pointer (some ⟨bp0, 0, none⟩)], obj bp2 58 [.map (some mp2_0), .map (some mp2_1)], mapO mp2_0 enc9 enc9 xp2_0, mapO mp2_1 enc3 enc69 s.2.2.2.2.2.2, F]) (fun _ => by rw [kv_reader_clients_s.l0]) ?_ k (s2v.2.1, 0, 0, s2v.2.2.1, s2v.2.2.2.1, s2v.2.2.2.2, xp2_1) () ⟨rfl, rfl, rfl, rfl, rfl, rfl, trivial⟩ (.sel 0 rfl (.sel 0 rfl (.sel 0 rfl (.sel 0 rfl (.sel 0 rfl (.sel 0 rfl (.sel 0 rfl (.sel 0 rfl (.nil _)))))))))
 intro k s9v y10v
 refine sim_eq (by rw [kv_reader_clients_s.l0]) ?_
 refine sim_seq (sr ?_)
 refine vm rfl rfl ?_
 refine vm rfl rfl ?_
 refine simL_valc (b := s9v.1) (fun hb51v => RQ.sub (E' := [(8, .int .i64 s9v.2.1)]) ⟨rfl, trivial⟩ (q_move rfl rfl)) rfl rfl rfl rfl rfl ?_
 refine simL_valc (b := s9v.1) (fun hb50v => RQ.sub (E' := [(5, .int .i64 s2v.1)]) ⟨rfl, trivial⟩ (q_move rfl rfl)) rfl rfl rfl rfl rfl ?_
 refine simL_valc (b := s9v.1) (fun hb49v => RQ.sub (E' := [(22, .int .i64 s9v.2.1), (23, .int .i64 s2v.1)]) ⟨lk_cv rfl hb49v, lk_cv rfl hb49v, trivial⟩ (q_lss rfl rfl rfl)) rfl rfl rfl rfl rfl ?_
 refine vq (q_and rfl rfl rfl) rfl (simL_nil (nrm_then ?_))
 refine sim_condb rfl (fun h18v => ?_) (fun h19v => ?_)
 refine sim_skip ?_
 refine nrm_then (sim_seq ?_)
 refine sim_block ?_
 refine sr ?_
 refine vq (q_build (v := .agg #[.int .i64 0, .int .i64 0, .int .i64 0, str ([] : List UInt8)]) rfl rfl (fun _ => by kernel_rfl)) rfl ?_
 refine simL_eff (re_alloc rfl Tryz.zeroValue69 rfl) rfl rfl rfl ?_
 intro b20v
 refine simL_do (re_store 0 rfl rfl rfl Tryz.sizeOf69 rfl rfl (one_of (by rfl)) rfl rfl) rfl rfl ?_
 intro _
 refine simL_nil (nrm_then (sim_seq ?_))
 refine sim_bind (fun s21v hs22v => ?_)
 refine sim_draw (Γ := Unit) () [[], [], [1], [1, 2], [1, 2, 3], [1, 2, 3, 4], [], rL 7, rL 8, rL 9, rL 9, rL 10, [0, 1, 2, 3, 4, 5, 6, 7, 8, 9, 11], rL 13] [7, 12] [0, 1, 2, 3, 4, 5, 6, 8, 9, 10, 11, 13] (fun i => [[0], [0], [0], [0], [0], [0], [0], [], [1], [1], [1, 2], [1], [], [2]].getD i []) (fun i => [[], [], [], [], [], [], [], rL 7, [], [], [], [], rL 12, []].getD i []) (fun γ i => [.pointer (some ⟨bp0, 0, none⟩), .pointer (some ⟨bp0, 0, none⟩), .pointer (some ⟨bp0, 0, none⟩), .pointer (some ⟨bp0, 0, none⟩), .pointer (some ⟨bp1, 0, none⟩), .func (.func 59) #[.pointer (some ⟨bp1, 0, none⟩)] #[], .func (.func 68) #[] #[.pointer (some ⟨b6v, 0, none⟩)], .tuple #[.int .i64 s21v.1, .bool s21v.2.1], .tuple #[.int .i64 s21v.1, .bool s21v.2.1], .int .i64 s21v.1, .bool s21v.2.1, .pointer (some ⟨b20v, 0, none⟩), undef, .bool s21v.2.1].getD i undef) (fun j γ => [[obj b20v 69 [.int .i64 0, .int .i64 0, .int .i64 0, str ([] : List UInt8)], obj b6v 3 [.int .i64 s9v.2.2.1], obj bp1 125 [.slice ap1_0 xp1_0.length cp1_0, .int .i64 s9v.2.2.2.1, .int .i64 s9v.2.2.2.2.1], obj bp0 76 [.pointer (some ⟨bp1, 0, none⟩), .int .i64 s9v.2.2.2.2.2.1], obj b1v 72 [.pointer (some ⟨bp0, 0, none⟩)], obj bp2 58 [.map (some mp2_0), .map (some mp2_1)], mapO mp2_0 enc9 enc9 xp2_0, mapO mp2_1 enc3 enc69 s9v.2.2.2.2.2.2, F], [obj bp1 125 [.slice ap1_0 xp1_0.length cp1_0, .int .i64 s21v.2.2.1, .int .i64 s21v.2.2.2.1], obj bp0 76 [.pointer (some ⟨bp1, 0, none⟩), .int .i64 s21v.2.2.2.2], obj b6v 3 [.int .i64 s9v.2.2.1], obj b20v 69 [.int .i64 0, .int .i64 0, .int .i64 0, str ([] : List UInt8)], obj b1v 72 [.pointer (some ⟨bp0, 0, none⟩)], obj bp2 58 [.map (some mp2_0), .map (some mp2_1)], mapO mp2_0 enc9 enc9 xp2_0, mapO mp2_1 enc3 enc69 s9v.2.2.2.2.2.2, F], [obj bp1 125 [.slice ap1_0 xp1_0.length cp1_0, .int .i64 s21v.2.2.1, .int .i64 s21v.2.2.2.1], obj bp0 76 [.pointer (some ⟨bp1, 0, none⟩), .int .i64 s21v.2.2.2.2], obj b6v 3 [.int .i64 s9v.2.2.1], obj b20v 69 [.int .i64 s21v.1, .int .i64 0, .int .i64 0, str ([] : List UInt8)], obj b1v 72 [.pointer (some ⟨bp0, 0, none⟩)], obj bp2 58 [.map (some mp2_0), .map (some mp2_1)], mapO mp2_0 enc9 enc9 xp2_0, mapO mp2_1 enc3 enc69 s9v.2.2.2.2.2.2, F]].getD j []) (fun γ => [(1, .pointer (some ⟨bp2, 0, none⟩)), (2, .pointer (some ⟨b1v, 0, none⟩)), (5, .int .i64 s2v.1), (6, .bool s21v.2.1), (7, .pointer (some ⟨b6v, 0, none⟩)), (8, .int .i64 s9v.2.1), (9, .pointer (some ⟨b20v, 0, none⟩)), (22, cv (s9v.1 == true) (.int .i64 s9v.2.1)), (23, cv (s9v.1 == true) (.int .i64 s2v.1)), (24, cv (s9v.1 == true) (.bool (decide (s9v.2.1 < s2v.1))))]) mixed (by decide) (by decide) (by decide) (by decide) (by decide) (by decide) (by decide) 86 rfl (by decide) (by decide) (by decide) (Ent.refl _) ?_ ?_ (fun _ => ⟨rfl, rfl, rfl, rfl, rfl, rfl, rfl, rfl, rfl, rfl, trivial⟩) ?_
 exact (aq rfl (fun γ => qp rfl rfl (.o (s := 2) rfl (by decide) .nil) (q_load rfl rfl Tryz.isAgg72 (.obj 4 rfl rfl)) rfl) (aq rfl (fun γ => qp rfl rfl (.o (s := 2) rfl (by decide) .nil) (q_load rfl rfl Tryz.isAgg72 (.obj 4 rfl rfl)) rfl) (aq rfl (fun γ => qp rfl rfl (.v 1 rfl rfl .nil) (q_nil rfl rfl) rfl) (aq rfl (fun γ => qp rfl rfl (.v 2 rfl rfl .nil) (q_fa rfl rfl Tryz.underlying76 rfl rfl Tryz.sizeOf73 rfl) rfl) (aq rfl (fun γ => qp rfl rfl (.v 3 rfl rfl .nil) (q_load rfl rfl Tryz.isAgg73 (.obj 3 rfl rfl)) rfl) (aq rfl (fun γ => qp rfl rfl (.v 4 rfl rfl .nil) (q_mkfn rfl rfl rfl) rfl) (aq rfl (fun γ => qp rfl rfl (.o (s := 7) rfl (by decide) .nil) (q_mkfn rfl rfl rfl) rfl) (aq rfl (fun γ => qm rfl (.v 7 rfl rfl .nil) rfl) (aq rfl (fun γ => qp rfl rfl (.v 8 rfl rfl .nil) (q_ext rfl rfl rfl) rfl) (ac (fun γ => (ac (qp rfl rfl (.v 8 rfl rfl .nil) (q_ext rfl rfl rfl) rfl) (ac (qp rfl rfl (.v 8 rfl rfl .nil) (q_ext rfl rfl rfl) rfl) zA))) (aq rfl (fun γ => qp rfl rfl (.o (s := 9) rfl (by decide) .nil) (q_fa rfl rfl Tryz.underlying69 rfl rfl Tryz.sizeOf3 rfl) rfl) (aq rfl (fun γ => qp rfl rfl (.v 10 rfl rfl .nil) (q_asg rfl rfl) rfl) zA))))))))))))
 exact (ac (fun γ => eo (Z := Unit) (fun z => ()) rfl rfl (.v 0 rfl rfl (.v 5 rfl rfl (.v 6 rfl rfl .nil))) (re_call (vs := [.pointer (some ⟨bp0, 0, none⟩), .func (.func 59) #[.pointer (some ⟨bp1, 0, none⟩)] #[], .func (.func 68) #[] #[.pointer (some ⟨b6v, 0, none⟩)], .int .i64 4]) (cap := []) (A := [obj bp1 125 [.slice ap1_0 xp1_0.length cp1_0, .int .i64 s9v.2.2.2.1, .int .i64 s9v.2.2.2.2.1], obj bp0 76 [.pointer (some ⟨bp1, 0, none⟩), .int .i64 s9v.2.2.2.2.2.1], obj b6v 3 [.int .i64 s9v.2.2.1]]) (rst := [obj b20v 69 [.int .i64 0, .int .i64 0, .int .i64 0, str ([] : List UInt8)], obj b1v 72 [.pointer (some ⟨bp0, 0, none⟩)], obj bp2 58 [.map (some mp2_0), .map (some mp2_1)], mapO mp2_0 enc9 enc9 xp2_0, mapO mp2_1 enc3 enc69 s9v.2.2.2.2.2.2, F]) rfl rfl rfl rfl rfl rfl Tryz.call58 (.sel 2 rfl (.sel 2 rfl (.sel 1 rfl (.sel 0 rfl (.sel 0 rfl (.sel 0 rfl (.sel 0 rfl (.sel 0 rfl (.sel 0 rfl (.nil _)))))))))) (kv_is_int_wire_Reader_Int_kv_reader_clients_2.calls _ _ k bp0 bp1 ap1_0 cp1_0 xp1_0 s9v.2.2.2.1 s9v.2.2.2.2.1 s9v.2.2.2.2.2.1 b6v s9v.2.2.1 (4 : Int) (hp1_0.lend 5 rfl) hcp1_0 hmp1_0) hs22v) (fun _ => ⟨rfl, rfl, rfl, rfl, rfl, rfl, rfl, trivial⟩) (fun _ => .inr rfl) (fun z => Ent.refl _)) (ac (fun γ => eo (Z := Unit) (fun z => ()) rfl rfl (.v 9 rfl rfl (.v 11 rfl rfl .nil)) (re_store 3 rfl rfl rfl Tryz.sizeOf3 rfl rfl (one_of (by rfl)) rfl rfl) (fun _ => ⟨rfl, rfl, rfl, rfl, rfl, rfl, rfl, rfl, rfl, rfl, rfl, rfl, trivial⟩) (fun _ => .inl rfl) (fun z => Ent.refl _)) zA))
 intro g24v
 refine nrm_then ?_
 refine sim_cut (S := Bool × Int × Int × Int × Int) (Unit) (fun s y => [(1, .pointer (some ⟨bp2, 0, none⟩)), (2, .pointer (some ⟨b1v, 0, none⟩)), (5, .int .i64 s2v.1), (6, .bool s.1), (7, .pointer (some ⟨b6v, 0, none⟩)), (8, .int .i64 s9v.2.1), (9, .pointer (some ⟨b20v, 0, none⟩))]) (fun s y => [obj bp1 125 [.slice ap1_0 xp1_0.length cp1_0, .int .i64 s.2.1, .int .i64 s.2.2.1], obj bp0 76 [.pointer (some ⟨bp1, 0, none⟩), .int .i64 s.2.2.2.1], obj b6v 3 [.int .i64 s9v.2.2.1], obj b20v 69 [.int .i64 s21v.1, .int .i64 s.2.2.2.2, .int .i64 0, str ([] : List UInt8)], obj b1v 72 [.pointer (some ⟨bp0, 0, none⟩)], obj bp2 58 [.map (some mp2_0), .map (some mp2_1)], mapO mp2_0 enc9 enc9 xp2_0, mapO mp2_1 enc3 enc69 s9v.2.2.2.2.2.2, F]) ?_ ?_
 refine sr ?_
 refine vm rfl rfl (simL_nil (nrm_then ?_))
 refine sim_condb rfl (fun h27v => ?_) (fun h28v => ?_)
 refine sim_bind (fun s29v hs30v => ?_)
 refine sim_draw (Γ := Unit) () [[], [], [1], [1, 2], [1, 2, 3], [1, 2, 3, 4], rL 6, rL 7, rL 8, rL 8, rL 9, [0, 1, 2, 3, 4, 5, 6, 7, 8, 10], rL 12] [6, 11] [0, 1, 2, 3, 4, 5, 7, 8, 9, 10, 12] (fun i => [[0], [0], [0], [0], [0], [0], [], [1], [1], [1, 2], [1], [], [2]].getD i []) (fun i => [[], [], [], [], [], [], rL 6, [], [], [], [], rL 11, []].getD i []) (fun γ i => [.pointer (some ⟨bp0, 0, none⟩), .pointer (some ⟨bp0, 0, none⟩), .pointer (some ⟨bp0, 0, none⟩), .pointer (some ⟨bp0, 0, none⟩), .pointer (some ⟨bp1, 0, none⟩), .func (.func 59) #[.pointer (some ⟨bp1, 0, none⟩)] #[], .tuple #[.int .i64 s29v.1, .bool s29v.2.1], .tuple #[.int .i64 s29v.1, .bool s29v.2.1], .int .i64 s29v.1, .bool s29v.2.1, .pointer (some ⟨b20v, 1, none⟩), undef, .bool s29v.2.1].getD i undef) (fun j γ => [[obj bp1 125 [.slice ap1_0 xp1_0.length cp1_0, .int .i64 s21v.2.2.1, .int .i64 s21v.2.2.2.1], obj bp0 76 [.pointer (some ⟨bp1, 0, none⟩), .int .i64 s21v.2.2.2.2], obj b6v 3 [.int .i64 s9v.2.2.1], obj b20v 69 [.int .i64 s21v.1, .int .i64 0, .int .i64 0, str ([] : List UInt8)], obj b1v 72 [.pointer (some ⟨bp0, 0, none⟩)], obj bp2 58 [.map (some mp2_0), .map (some mp2_1)], mapO mp2_0 enc9 enc9 xp2_0, mapO mp2_1 enc3 enc69 s9v.2.2.2.2.2.2, F], [obj bp1 125 [.slice ap1_0 xp1_0.length cp1_0, .int .i64 s29v.2.2.1, .int .i64 s29v.2.2.2.1], obj bp0 76 [.pointer (some ⟨bp1, 0, none⟩), .int .i64 s29v.2.2.2.2], obj b6v 3 [.int .i64 s9v.2.2.1], obj b20v 69 [.int .i64 s21v.1, .int .i64 0, .int .i64 0, str ([] : List UInt8)], obj b1v 72 [.pointer (some ⟨bp0, 0, none⟩)], obj bp2 58 [.map (some mp2_0), .map (some mp2_1)], mapO mp2_0 enc9 enc9 xp2_0, mapO mp2_1 enc3 enc69 s9v.2.2.2.2.2.2, F], [obj bp1 125 [.slice ap1_0 xp1_0.length cp1_0, .int .i64 s29v.2.2.1, .int .i64 s29v.2.2.2.1], obj bp0 76 [.pointer (some ⟨bp1, 0, none⟩), .int .i64 s29v.2.2.2.2], obj b6v 3 [.int .i64 s9v.2.2.1], obj b20v 69 [.int .i64 s21v.1, .int .i64 s29v.1, .int .i64 0, str ([] : List UInt8)], obj b1v 72 [.pointer (some ⟨bp0, 0, none⟩)], obj bp2 58 [.map (some mp2_0), .map (some mp2_1)], mapO mp2_0 enc9 enc9 xp2_0, mapO mp2_1 enc3 enc69 s9v.2.2.2.2.2.2, F]].getD j []) (fun γ => [(1, .pointer (some ⟨bp2, 0, none⟩)), (2, .pointer (some ⟨b1v, 0, none⟩)), (5, .int .i64 s2v.1), (6, .bool s29v.2.1), (7, .pointer (some ⟨b6v, 0, none⟩)), (8, .int .i64 s9v.2.1), (9, .pointer (some ⟨b20v, 0, none⟩)), (22, cv (s9v.1 == true) (.int .i64 s9v.2.1)), (23, cv (s9v.1 == true) (.int .i64 s2v.1)), (24, cv (s9v.1 == true) (.bool (decide (s9v.2.1 < s2v.1))))]) mixed (by decide) (by decide) (by decide) (by decide) (by decide) (by decide) (by decide) 86 rfl (by decide) (by decide) (by decide) (Ent.refl _) ?_ ?_ (fun _ => ⟨rfl, rfl, rfl, rfl, rfl, rfl, rfl, rfl, rfl, rfl, trivial⟩) ?_
 exact (aq rfl (fun γ => qp rfl rfl (.o (s := 2) rfl (by decide) .nil) (q_load rfl rfl Tryz.isAgg72 (.obj 4 rfl rfl)) rfl) (aq rfl (fun γ => qp rfl rfl (.o (s := 2) rfl (by decide) .nil) (q_load rfl rfl Tryz.isAgg72 (.obj 4 rfl rfl)) rfl) (aq rfl (fun γ => qp rfl rfl (.v 1 rfl rfl .nil) (q_nil rfl rfl) rfl) (aq rfl (fun γ => qp rfl rfl (.v 2 rfl rfl .nil) (q_fa rfl rfl Tryz.underlying76 rfl rfl Tryz.sizeOf73 rfl) rfl) (aq rfl (fun γ => qp rfl rfl (.v 3 rfl rfl .nil) (q_load rfl rfl Tryz.isAgg73 (.obj 1 rfl rfl)) rfl) (aq rfl (fun γ => qp rfl rfl (.v 4 rfl rfl .nil) (q_mkfn rfl rfl rfl) rfl) (aq rfl (fun γ => qm rfl (.v 6 rfl rfl .nil) rfl) (aq rfl (fun γ => qp rfl rfl (.v 7 rfl rfl .nil) (q_ext rfl rfl rfl) rfl) (ac (fun γ => (ac (qp rfl rfl (.v 7 rfl rfl .nil) (q_ext rfl rfl rfl) rfl) (ac (qp rfl rfl (.v 7 rfl rfl .nil) (q_ext rfl rfl rfl) rfl) zA))) (aq rfl (fun γ => qp rfl rfl (.o (s := 9) rfl (by decide) .nil) (q_fa rfl rfl Tryz.underlying69 rfl rfl Tryz.sizeOf3 rfl) rfl) (aq rfl (fun γ => qp rfl rfl (.v 9 rfl rfl .nil) (q_asg rfl rfl) rfl) zA)))))))))))
 exact (ac (fun γ => eo (Z := Unit) (fun z => ()) rfl rfl (.v 0 rfl rfl (.v 5 rfl rfl .nil)) (re_call (vs := [.pointer (some ⟨bp0, 0, none⟩), .func (.func 59) #[.pointer (some ⟨bp1, 0, none⟩)] #[], .func (.func 69) #[] #[], .int .i64 4]) (cap := []) (A := [obj bp1 125 [.slice ap1_0 xp1_0.length cp1_0, .int .i64 s21v.2.2.1, .int .i64 s21v.2.2.2.1], obj bp0 76 [.pointer (some ⟨bp1, 0, none⟩), .int .i64 s21v.2.2.2.2]]) (rst := [obj b6v 3 [.int .i64 s9v.2.2.1], obj b20v 69 [.int .i64 s21v.1, .int .i64 0, .int .i64 0, str ([] : List UInt8)], obj b1v 72 [.pointer (some ⟨bp0, 0, none⟩)], obj bp2 58 [.map (some mp2_0), .map (some mp2_1)], mapO mp2_0 enc9 enc9 xp2_0, mapO mp2_1 enc3 enc69 s9v.2.2.2.2.2.2, F]) rfl rfl rfl rfl rfl rfl Tryz.call58 (.sel 0 rfl (.sel 0 rfl (.sel 0 rfl (.sel 0 rfl (.sel 0 rfl (.sel 0 rfl (.sel 0 rfl (.sel 0 rfl (.sel 0 rfl (.nil _)))))))))) (kv_is_int_wire_Reader_Int_kv_reader_clients_3.calls _ _ k bp0 bp1 ap1_0 cp1_0 xp1_0 s21v.2.2.1 s21v.2.2.2.1 s21v.2.2.2.2 (4 : Int) (hp1_0.lend 6 rfl) hcp1_0 hmp1_0) hs30v) (fun _ => ⟨rfl, rfl, rfl, rfl, rfl, rfl, trivial⟩) (fun _ => .inr rfl) (fun z => Ent.refl _)) (ac (fun γ => eo (Z := Unit) (fun z => ()) rfl rfl (.v 8 rfl rfl (.v 10 rfl rfl .nil)) (re_store 3 rfl rfl rfl Tryz.sizeOf3 rfl rfl (one_of (by rfl)) rfl rfl) (fun _ => ⟨rfl, rfl, rfl, rfl, rfl, rfl, rfl, rfl, rfl, rfl, rfl, trivial⟩) (fun _ => .inl rfl) (fun z => Ent.refl _)) zA))
 intro g32v
 exact nrm_cut (s := (s29v.2.1, s29v.2.2.1, s29v.2.2.2.1, s29v.2.2.2.2, s29v.1)) () ⟨rfl, rfl, rfl, rfl, rfl, rfl, rfl, trivial⟩ (.sel 0 rfl (.sel 0 rfl (.sel 0 rfl (.sel 0 rfl (.sel 0 rfl (.sel 0 rfl (.sel 0 rfl (.sel 0 rfl (.sel 0 rfl (.nil _))))))))))
 refine sim_skip ?_
 exact nrm_cut (s := (s21v.2.1, s21v.2.2.1, s21v.2.2.2.1, s21v.2.2.2.2, 0)) () ⟨rfl, rfl, rfl, rfl, rfl, rfl, rfl, trivial⟩ (.sel 0 rfl (.sel 0 rfl (.sel 0 rfl (.sel 0 rfl (.sel 0 rfl (.sel 0 rfl (.sel 0 rfl (.sel 0 rfl (.sel 0 rfl (.nil _))))))))))
 intro s25v y26v
 refine sim_cut (S := Bool × Int × Int × Int × Int) (Unit) (fun s y => [(1, .pointer (some ⟨bp2, 0, none⟩)), (2, .pointer (some ⟨b1v, 0, none⟩)), (5, .int .i64 s2v.1), (6, .bool s.1), (7, .pointer (some ⟨b6v, 0, none⟩)), (8, .int .i64 s9v.2.1), (9, .pointer (some ⟨b20v, 0, none⟩))]) (fun s y => [obj bp1 125 [.slice ap1_0 xp1_0.length cp1_0, .int .i64 s.2.1, .int .i64 s.2.2.1], obj bp0 76 [.pointer (some ⟨bp1, 0, none⟩), .int .i64 s.2.2.2.1], obj b6v 3 [.int .i64 s9v.2.2.1], obj b20v 69 [.int .i64 s21v.1, .int .i64 s25v.2.2.2.2, .int .i64 s.2.2.2.2, str ([] : List UInt8)], obj b1v 72 [.pointer (some ⟨bp0, 0, none⟩)], obj bp2 58 [.map (some mp2_0), .map (some mp2_1)], mapO mp2_0 enc9 enc9 xp2_0, mapO mp2_1 enc3 enc69 s9v.2.2.2.2.2.2, F]) ?_ ?_
 refine sr ?_
 refine vm rfl rfl (simL_nil (nrm_then ?_))
 refine sim_condb rfl (fun h35v => ?_) (fun h36v => ?_)
 refine sim_bind (fun s37v hs38v => ?_)
 refine sim_draw (Γ := Unit) () [[], [], [1], [1, 2], [1, 2, 3], [1, 2, 3, 4], rL 6, rL 7, rL 8, rL 8, rL 9, [0, 1, 2, 3, 4, 5, 6, 7, 8, 10], [0, 1, 2, 3, 4, 5, 6, 7, 8, 10, 11], rL 13] [6, 12] [0, 1, 2, 3, 4, 5, 7, 8, 9, 10, 11, 13] (fun i => [[0], [0], [0], [0], [0], [0], [], [1], [1], [1, 2], [1], [1], [], [2]].getD i []) (fun i => [[], [], [], [], [], [], rL 6, [], [], [], [], [], rL 12, []].getD i []) (fun γ i => [.pointer (some ⟨bp0, 0, none⟩), .pointer (some ⟨bp0, 0, none⟩), .pointer (some ⟨bp0, 0, none⟩), .pointer (some ⟨bp0, 0, none⟩), .pointer (some ⟨bp1, 0, none⟩), .func (.func 59) #[.pointer (some ⟨bp1, 0, none⟩)] #[], .tuple #[.int .i64 s37v.1, .bool s37v.2.1], .tuple #[.int .i64 s37v.1, .bool s37v.2.1], .int .i64 s37v.1, .bool s37v.2.1, .pointer (some ⟨b20v, 2, none⟩), .pointer (some ⟨b20v, 2, none⟩), undef, .bool s37v.2.1].getD i undef) (fun j γ => [[obj bp1 125 [.slice ap1_0 xp1_0.length cp1_0, .int .i64 s25v.2.1, .int .i64 s25v.2.2.1], obj bp0 76 [.pointer (some ⟨bp1, 0, none⟩), .int .i64 s25v.2.2.2.1], obj b6v 3 [.int .i64 s9v.2.2.1], obj b20v 69 [.int .i64 s21v.1, .int .i64 s25v.2.2.2.2, .int .i64 0, str ([] : List UInt8)], obj b1v 72 [.pointer (some ⟨bp0, 0, none⟩)], obj bp2 58 [.map (some mp2_0), .map (some mp2_1)], mapO mp2_0 enc9 enc9 xp2_0, mapO mp2_1 enc3 enc69 s9v.2.2.2.2.2.2, F], [obj bp1 125 [.slice ap1_0 xp1_0.length cp1_0, .int .i64 s37v.2.2.1, .int .i64 s37v.2.2.2.1], obj bp0 76 [.pointer (some ⟨bp1, 0, none⟩), .int .i64 s37v.2.2.2.2], obj b6v 3 [.int .i64 s9v.2.2.1], obj b20v 69 [.int .i64 s21v.1, .int .i64 s25v.2.2.2.2, .int .i64 0, str ([] : List UInt8)], obj b1v 72 [.pointer (some ⟨bp0, 0, none⟩)], obj bp2 58 [.map (some mp2_0), .map (some mp2_1)], mapO mp2_0 enc9 enc9 xp2_0, mapO mp2_1 enc3 enc69 s9v.2.2.2.2.2.2, F], [obj bp1 125 [.slice ap1_0 xp1_0.length cp1_0, .int .i64 s37v.2.2.1, .int .i64 s37v.2.2.2.1], obj bp0 76 [.pointer (some ⟨bp1, 0, none⟩), .int .i64 s37v.2.2.2.2], obj b6v 3 [.int .i64 s9v.2.2.1], obj b20v 69 [.int .i64 s21v.1, .int .i64 s25v.2.2.2.2, .int .i64 s37v.1, str ([] : List UInt8)], obj b1v 72 [.pointer (some ⟨bp0, 0, none⟩)], obj bp2 58 [.map (some mp2_0), .map (some mp2_1)], mapO mp2_0 enc9 enc9 xp2_0, mapO mp2_1 enc3 enc69 s9v.2.2.2.2.2.2, F]].getD j []) (fun γ => [(1, .pointer (some ⟨bp2, 0, none⟩)), (2, .pointer (some ⟨b1v, 0, none⟩)), (5, .int .i64 s2v.1), (6, .bool s37v.2.1), (7, .pointer (some ⟨b6v, 0, none⟩)), (8, .int .i64 s9v.2.1), (9, .pointer (some ⟨b20v, 0, none⟩))]) mixed (by decide) (by decide) (by decide) (by decide) (by decide) (by decide) (by decide) 86 rfl (by decide) (by decide) (by decide) (Ent.refl _) ?_ ?_ (fun _ => ⟨rfl, rfl, rfl, rfl, rfl, rfl, rfl, trivial⟩) ?_
 exact (aq rfl (fun γ => qp rfl rfl (.o (s := 2) rfl (by decide) .nil) (q_load rfl rfl Tryz.isAgg72 (.obj 4 rfl rfl)) rfl) (aq rfl (fun γ => qp rfl rfl (.o (s := 2) rfl (by decide) .nil) (q_load rfl rfl Tryz.isAgg72 (.obj 4 rfl rfl)) rfl) (aq rfl (fun γ => qp rfl rfl (.v 1 rfl rfl .nil) (q_nil rfl rfl) rfl) (aq rfl (fun γ => qp rfl rfl (.v 2 rfl rfl .nil) (q_fa rfl rfl Tryz.underlying76 rfl rfl Tryz.sizeOf73 rfl) rfl) (aq rfl (fun γ => qp rfl rfl (.v 3 rfl rfl .nil) (q_load rfl rfl Tryz.isAgg73 (.obj 1 rfl rfl)) rfl) (aq rfl (fun γ => qp rfl rfl (.v 4 rfl rfl .nil) (q_mkfn rfl rfl rfl) rfl) (aq rfl (fun γ => qm rfl (.v 6 rfl rfl .nil) rfl) (aq rfl (fun γ => qp rfl rfl (.v 7 rfl rfl .nil) (q_ext rfl rfl rfl) rfl) (ac (fun γ => (ac (qp rfl rfl (.v 7 rfl rfl .nil) (q_ext rfl rfl rfl) rfl) (ac (qp rfl rfl (.v 7 rfl rfl .nil) (q_ext rfl rfl rfl) rfl) zA))) (aq rfl (fun γ => qp rfl rfl (.o (s := 9) rfl (by decide) .nil) (q_fa rfl rfl Tryz.underlying69 rfl rfl Tryz.sizeOf45 rfl) rfl) (aq rfl (fun γ => qp rfl rfl (.v 10 rfl rfl .nil) (q_fa rfl rfl Tryz.underlying45 rfl rfl Tryz.sizeOf3 rfl) rfl) (aq rfl (fun γ => qp rfl rfl (.v 9 rfl rfl .nil) (q_asg rfl rfl) rfl) zA))))))))))))
 exact (ac (fun γ => eo (Z := Unit) (fun z => ()) rfl rfl (.v 0 rfl rfl (.v 5 rfl rfl .nil)) (re_call (vs := [.pointer (some ⟨bp0, 0, none⟩), .func (.func 59) #[.pointer (some ⟨bp1, 0, none⟩)] #[], .func (.func 70) #[] #[], .int .i64 4]) (cap := []) (A := [obj bp1 125 [.slice ap1_0 xp1_0.length cp1_0, .int .i64 s25v.2.1, .int .i64 s25v.2.2.1], obj bp0 76 [.pointer (some ⟨bp1, 0, none⟩), .int .i64 s25v.2.2.2.1]]) (rst := [obj b6v 3 [.int .i64 s9v.2.2.1], obj b20v 69 [.int .i64 s21v.1, .int .i64 s25v.2.2.2.2, .int .i64 0, str ([] : List UInt8)], obj b1v 72 [.pointer (some ⟨bp0, 0, none⟩)], obj bp2 58 [.map (some mp2_0), .map (some mp2_1)], mapO mp2_0 enc9 enc9 xp2_0, mapO mp2_1 enc3 enc69 s9v.2.2.2.2.2.2, F]) rfl rfl rfl rfl rfl rfl Tryz.call58 (.sel 0 rfl (.sel 0 rfl (.sel 0 rfl (.sel 0 rfl (.sel 0 rfl (.sel 0 rfl (.sel 0 rfl (.sel 0 rfl (.sel 0 rfl (.nil _)))))))))) (kv_is_int_wire_Reader_Int_kv_kept.calls _ _ k bp0 bp1 ap1_0 cp1_0 xp1_0 s25v.2.1 s25v.2.2.1 s25v.2.2.2.1 (4 : Int) (hp1_0.lend 6 rfl) hcp1_0 hmp1_0) hs38v) (fun _ => ⟨rfl, rfl, rfl, rfl, rfl, rfl, trivial⟩) (fun _ => .inr rfl) (fun z => Ent.refl _)) (ac (fun γ => eo (Z := Unit) (fun z => ()) rfl rfl (.v 8 rfl rfl (.v 11 rfl rfl .nil)) (re_store 3 rfl rfl rfl Tryz.sizeOf3 rfl rfl (one_of (by rfl)) rfl rfl) (fun _ => ⟨rfl, rfl, rfl, rfl, rfl, rfl, rfl, rfl, rfl, rfl, rfl, rfl, trivial⟩) (fun _ => .inl rfl) (fun z => Ent.refl _)) zA))
 intro g40v
 exact nrm_cut (s := (s37v.2.1, s37v.2.2.1, s37v.2.2.2.1, s37v.2.2.2.2, s37v.1)) () ⟨rfl, rfl, rfl, rfl, rfl, rfl, rfl, trivial⟩ (.sel 0 rfl (.sel 0 rfl (.sel 0 rfl (.sel 0 rfl (.sel 0 rfl (.sel 0 rfl (.sel 0 rfl (.sel 0 rfl (.sel 0 rfl (.nil _))))))))))
 refine sim_skip ?_
 exact nrm_cut (s := (s25v.1, s25v.2.1, s25v.2.2.1, s25v.2.2.2.1, 0)) () ⟨rfl, rfl, rfl, rfl, rfl, rfl, rfl, trivial⟩ (.sel 0 rfl (.sel 0 rfl (.sel 0 rfl (.sel 0 rfl (.sel 0 rfl (.sel 0 rfl (.sel 0 rfl (.sel 0 rfl (.sel 0 rfl (.nil _))))))))))
 intro s33v y34v
 refine sim_cut (S := Bool × Int × Int × Int × List UInt8) (Unit) (fun s y => [(1, .pointer (some ⟨bp2, 0, none⟩)), (2, .pointer (some ⟨b1v, 0, none⟩)), (5, .int .i64 s2v.1), (6, .bool s.1), (7, .pointer (some ⟨b6v, 0, none⟩)), (8, .int .i64 s9v.2.1), (9, .pointer (some ⟨b20v, 0, none⟩))]) (fun s y => [obj bp1 125 [.slice ap1_0 xp1_0.length cp1_0, .int .i64 s.2.1, .int .i64 s.2.2.1], obj bp0 76 [.pointer (some ⟨bp1, 0, none⟩), .int .i64 s.2.2.2.1], obj b1v 72 [.pointer (some ⟨bp0, 0, none⟩)], obj b20v 69 [.int .i64 s21v.1, .int .i64 s25v.2.2.2.2, .int .i64 s33v.2.2.2.2, str s.2.2.2.2], obj b6v 3 [.int .i64 s9v.2.2.1], obj bp2 58 [.map (some mp2_0), .map (some mp2_1)], mapO mp2_0 enc9 enc9 xp2_0, mapO mp2_1 enc3 enc69 s9v.2.2.2.2.2.2, F]) ?_ ?_
 refine sr ?_
 refine vm rfl rfl (simL_nil (nrm_then ?_))
 refine sim_condb rfl (fun h43v => ?_) (fun h44v => ?_)
 refine sim_region ?_
 refine vq (q_load rfl rfl Tryz.isAgg72 (.obj 4 rfl rfl)) rfl ?_
 refine vq (q_mkfn rfl rfl rfl) rfl ?_
 refine vq (q_mkfn rfl rfl rfl) rfl ?_
 refine simL_bind (fun s45v hs46v => ?_)
 refine simL_eff (re_call (vs := [.pointer (some ⟨bp0, 0, none⟩), .func (.func 71) #[] #[.pointer (some ⟨b1v, 0, none⟩)], .func (.func 72) #[] #[.pointer (some ⟨b20v, 0, none⟩)], .int .i64 4]) (cap := []) (A := [obj bp1 125 [.slice ap1_0 xp1_0.length cp1_0, .int .i64 s33v.2.1, .int .i64 s33v.2.2.1], obj bp0 76 [.pointer (some ⟨bp1, 0, none⟩), .int .i64 s33v.2.2.2.1], obj b1v 72 [.pointer (some ⟨bp0, 0, none⟩)], obj b20v 69 [.int .i64 s21v.1, .int .i64 s25v.2.2.2.2, .int .i64 s33v.2.2.2.2, str ([] : List UInt8)]]) (rst := [obj b6v 3 [.int .i64 s9v.2.2.1], obj bp2 58 [.map (some mp2_0), .map (some mp2_1)], mapO mp2_0 enc9 enc9 xp2_0, mapO mp2_1 enc3 enc69 s9v.2.2.2.2.2.2, F]) rfl rfl rfl rfl rfl rfl Tryz.call61 (.sel 0 rfl (.sel 0 rfl (.sel 2 rfl (.sel 1 rfl (.sel 0 rfl (.sel 0 rfl (.sel 0 rfl (.sel 0 rfl (.sel 0 rfl (.nil _)))))))))) (kv_is_string_kv_reader_clients_4_kv_reader_clients_5.calls _ _ k bp0 bp1 ap1_0 cp1_0 xp1_0 s33v.2.1 s33v.2.2.1 s33v.2.2.2.1 b1v b20v s21v.1 s25v.2.2.2.2 s33v.2.2.2.2 ([] : List UInt8) (4 : Int) (hp1_0.lend 4 rfl) hcp1_0 hmp1_0) hs46v) rfl rfl rfl ?_
 intro y47v
 refine vm rfl rfl ?_
 refine vq (q_ext rfl rfl rfl) rfl ?_
 refine vq (q_ext rfl rfl rfl) rfl ?_
 refine vq (q_fa rfl rfl Tryz.underlying69 rfl rfl Tryz.sizeOf45 rfl) rfl ?_
 refine vq (q_fa rfl rfl Tryz.underlying45 rfl rfl Tryz.sizeOf9 rfl) rfl ?_
 refine simL_do (re_store 3 rfl rfl rfl Tryz.sizeOf9 rfl rfl (one_of (by rfl)) rfl rfl) rfl rfl ?_
 intro _
 refine va rfl rfl (simL_nil ?_)
 exact nrm_cut (s := (s45v.2.1, s45v.2.2.1, s45v.2.2.2.1, s45v.2.2.2.2, s45v.1)) () ⟨rfl, rfl, rfl, rfl, rfl, rfl, rfl, trivial⟩ (.sel 0 rfl (.sel 0 rfl (.sel 0 rfl (.sel 0 rfl (.sel 0 rfl (.sel 0 rfl (.sel 0 rfl (.sel 0 rfl (.sel 0 rfl (.nil _))))))))))
 refine sim_skip ?_
 exact nrm_cut (s := (s33v.1, s33v.2.1, s33v.2.2.1, s33v.2.2.2.1, ([] : List UInt8))) () ⟨rfl, rfl, rfl, rfl, rfl, rfl, rfl, trivial⟩ (.sel 0 rfl (.sel 0 rfl (.sel 2 rfl (.sel 1 rfl (.sel 0 rfl (.sel 0 rfl (.sel 0 rfl (.sel 0 rfl (.sel 0 rfl (.nil _))))))))))
 intro s41v y42v
 refine sr ?_
 refine vq (q_fa rfl rfl Tryz.underlying69 rfl rfl Tryz.sizeOf3 rfl) rfl ?_
 refine vq (q_load rfl rfl Tryz.isAgg3 (.obj 3 rfl rfl)) rfl ?_
 refine simL_do (re_store 4 rfl rfl rfl Tryz.sizeOf3 rfl rfl (one_of (by rfl)) rfl rfl) rfl rfl ?_
 intro _
 refine simL_nil (nrm_then ?_)
 refine sim_draw (Γ := Unit) () [[], [0], [0, 1], [0, 1, 2], [], [4], [], rL 7] [7] [0, 1, 2, 3, 4, 5, 6] (fun i => [[0], [0], [0], [0], [0], [0], [0], []].getD i []) (fun i => [[], [], [], [], [], [], [], rL 7].getD i []) (fun γ i => [.pointer (some ⟨bp2, 0, none⟩), .pointer (some ⟨bp2, 0, none⟩), .pointer (some ⟨bp2, 1, none⟩), .map (some mp2_1), .pointer (some ⟨b20v, 0, none⟩), .int .i64 s21v.1, .agg #[.int .i64 s21v.1, .int .i64 s25v.2.2.2.2, .int .i64 s33v.2.2.2.2, str s41v.2.2.2.2], undef].getD i undef) (fun j γ => [[obj bp1 125 [.slice ap1_0 xp1_0.length cp1_0, .int .i64 s41v.2.1, .int .i64 s41v.2.2.1], obj bp0 76 [.pointer (some ⟨bp1, 0, none⟩), .int .i64 s41v.2.2.2.1], obj b1v 72 [.pointer (some ⟨bp0, 0, none⟩)], obj b20v 69 [.int .i64 s21v.1, .int .i64 s25v.2.2.2.2, .int .i64 s33v.2.2.2.2, str s41v.2.2.2.2], obj b6v 3 [.int .i64 s21v.1], obj bp2 58 [.map (some mp2_0), .map (some mp2_1)], mapO mp2_0 enc9 enc9 xp2_0, mapO mp2_1 enc3 enc69 s9v.2.2.2.2.2.2, F], [obj bp1 125 [.slice ap1_0 xp1_0.length cp1_0, .int .i64 s41v.2.1, .int .i64 s41v.2.2.1], obj bp0 76 [.pointer (some ⟨bp1, 0, none⟩), .int .i64 s41v.2.2.2.1], obj b1v 72 [.pointer (some ⟨bp0, 0, none⟩)], obj b20v 69 [.int .i64 s21v.1, .int .i64 s25v.2.2.2.2, .int .i64 s33v.2.2.2.2, str s41v.2.2.2.2], obj b6v 3 [.int .i64 s21v.1], obj bp2 58 [.map (some mp2_0), .map (some mp2_1)], mapO mp2_0 enc9 enc9 xp2_0, mapO mp2_1 enc3 enc69 (mput s9v.2.2.2.2.2.2 s21v.1 (s21v.1, s25v.2.2.2.2, s33v.2.2.2.2, s41v.2.2.2.2)), F]].getD j []) (fun γ => [(1, .pointer (some ⟨bp2, 0, none⟩)), (2, .pointer (some ⟨b1v, 0, none⟩)), (5, .int .i64 s2v.1), (6, .bool s41v.1), (7, .pointer (some ⟨b6v, 0, none⟩)), (8, .int .i64 s9v.2.1)]) mixed (by decide) (by decide) (by decide) (by decide) (by decide) (by decide) (by decide) 86 rfl (by decide) (by decide) (by decide) (Ent.refl _) ?_ ?_ (fun _ => ⟨rfl, rfl, rfl, rfl, rfl, rfl, trivial⟩) ?_
 exact (aq rfl (fun γ => qm rfl (.o (s := 1) rfl (by decide) .nil) rfl) (aq rfl (fun γ => qp rfl rfl (.v 0 rfl rfl .nil) (q_nil rfl rfl) rfl) (aq rfl (fun γ => qp rfl rfl (.v 1 rfl rfl .nil) (q_fa rfl rfl Tryz.underlying58 rfl rfl Tryz.sizeOf56 rfl) rfl) (aq rfl (fun γ => qp rfl rfl (.v 2 rfl rfl .nil) (q_load rfl rfl Tryz.isAgg56 (.obj 5 rfl rfl)) rfl) (aq rfl (fun γ => qp rfl rfl (.o (s := 9) rfl (by decide) .nil) (q_fa rfl rfl Tryz.underlying69 rfl rfl Tryz.sizeOf3 rfl) rfl) (aq rfl (fun γ => qp rfl rfl (.v 4 rfl rfl .nil) (q_load rfl rfl Tryz.isAgg3 (.obj 3 rfl rfl)) rfl) (aq rfl (fun γ => qp rfl rfl (.o (s := 9) rfl (by decide) .nil) (q_loado 3 rfl rfl Tryz.isAgg69 Tryz.sizeOf69 rfl rfl) rfl) zA)))))))
 exact (ac (fun γ => eo (Z := Unit) (fun z => ()) rfl rfl (.v 3 rfl rfl (.v 5 rfl rfl (.v 6 rfl rfl .nil))) (re_mput (ek := enc3) (ev := enc69) 7 s21v.1 (s21v.1, s25v.2.2.2.2, s33v.2.2.2.2, s41v.2.2.2.2) rfl rfl rfl rfl Tryz.underlying56 key3 rfl) (fun _ => ⟨rfl, rfl, rfl, rfl, rfl, rfl, rfl, trivial⟩) (fun _ => .inl rfl) (fun z => Ent.refl _)) zA)
 intro g48v
 refine nrm_block (nrm_then (sim_region ?_))
 refine vm rfl rfl ?_
 refine vq (q_add rfl rfl rfl) rfl ?_
 refine va rfl rfl (simL_nil ?_)
 exact nrm_again (s := (s41v.1, IntKind.i64.wrap (s9v.2.1 + 1), s21v.1, s41v.2.1, s41v.2.2.1, s41v.2.2.2.1, mput s9v.2.2.2.2.2.2 s21v.1 (s21v.1, s25v.2.2.2.2, s33v.2.2.2.2, s41v.2.2.2.2))) () ⟨rfl, rfl, rfl, rfl, rfl, rfl, trivial⟩ (.sel 4 rfl (.sel 0 rfl (.sel 0 rfl (.sel 0 rfl (.sel 1 rfl (.sel 1 rfl (.sel 1 rfl (.sel 1 rfl (.nil _)))))))))
 refine sim_exi ?_
 refine exi_then ?_
 refine exi_loop ?_
 refine exi_here ?_
 exact nrm_cut (s := (s9v.1, s9v.2.2.2.1, s9v.2.2.2.2.1, s9v.2.2.2.2.2.1, s9v.2.2.2.2.2.2)) () ⟨rfl, trivial⟩ (.sel 1 rfl (.sel 1 rfl (.sel 2 rfl (.sel 2 rfl (.sel 2 rfl (.sel 2 rfl (.nil _)))))))
 intro s7v y8v
 refine sr ?_
 refine vm rfl rfl ?_
 refine va rfl rfl (simL_nil (nrm_then (sim_rtn ?_)))
 exact rtn_fn (mp2_0, mp2_1) rfl rfl rfl (.sel 0 rfl (.sel 0 rfl (.sel 0 rfl (.sel 0 rfl (.sel 0 rfl (.sel 0 rfl (.nil _)))))))

def kv_Restore.f (k : Nat) (x0 : List UInt8) : Option (Bool × (List ((List UInt8) × (List UInt8))) × (List ((Int) × (Ty69))) × Int) := (wire_NewReader.f x0).bind fun s1v => ((kv_New.f).bind fun s5v => ((kv_reader_pairs_s.f k s1v.1 s1v.2.1 s1v.2.2 (0 : Int) s5v.1 s5v.2).bind fun s12v => ((if (!s12v.1) = true then (some (true, s12v.2.1, s12v.2.2.1, s12v.2.2.2.1, s12v.2.2.2.2.1, s12v.2.2.2.2.2)) else ((kv_reader_clients_s.f k s1v.1 s12v.2.1 s12v.2.2.1 s12v.2.2.2.1 s12v.2.2.2.2.1 s12v.2.2.2.2.2).bind fun s21v => (some (!s21v.1, s21v.2.1, s21v.2.2.1, s21v.2.2.2.1, s21v.2.2.2.2.1, s21v.2.2.2.2.2)))).bind fun s15v => (if s15v.1 = true then (some (false, ([] : List ((List UInt8) × (List UInt8))), ([] : List ((Int) × (Ty69))), s15v.2.2.2.1)) else ((wire_Reader_Done.f s1v.1 s15v.2.1 s15v.2.2.1).bind fun s33v => (if s33v = (0 : Int) then (some (true, s15v.2.2.2.2.1, s15v.2.2.2.2.2, 0)) else (some (false, ([] : List ((List UInt8) × (List UInt8))), ([] : List ((Int) × (Ty69))), s33v))))))))
theorem kv_Restore.calls (W : World) (F : HA) (k : Nat) (a0 : Option Addr) (c0 : Nat) (x0 : List UInt8) (h0 : Rd F a0 (encB x0)) (hc0 : x0.length ≤ c0) (hm0 : c0 ≤ maxLen) :
    Fn Tryz.prog W 10 [.slice a0 x0.length c0] [] F (kv_Restore.f k x0) (fun (r : Bool × (List ((List UInt8) × (List UInt8))) × (List ((Int) × (Ty69))) × Int) (y : Nat × Nat × Nat) => .tuple #[.pointer (optA r.1 y.1), .int .i64 r.2.2.2]) (fun r y => [whenA r.1 [obj y.1 58 [.map (some y.2.1), .map (some y.2.2)], mapO y.2.1 enc9 enc9 r.2.1, mapO y.2.2 enc3 enc69 r.2.2.1]]) := by
 unfold kv_Restore.f
 refine fn_intro 35 Tryz.func10 rfl Tryz.ntmps10 rfl ?_
 refine sr ?_
 refine va rfl rfl ?_
 refine va rfl rfl (nx ?_)
 refine vm rfl rfl ?_
 refine simL_bind (fun s1v hs2v => ?_)
 refine simL_eff (re_call (vs := [.slice a0 x0.length c0]) (cap := []) (A := []) (rst := [F]) rfl rfl rfl rfl rfl rfl Tryz.call30 (.sel 0 rfl (.nil _)) (wire_NewReader.calls _ _ a0 c0 x0 (h0.lend 0 rfl) hc0 hm0) hs2v) rfl rfl rfl ?_
 intro y3v
 refine vq (q_build (v := .agg #[.pointer (some ⟨y3v.1, 0, none⟩), .int .i64 0]) rfl rfl (fun _ => by kernel_rfl)) rfl ?_
 refine simL_eff (re_box rfl rfl rfl) rfl rfl rfl ?_
 intro b4v
 refine va rfl rfl (nx ?_)
 refine simL_bind (fun s5v hs6v => ?_)
 refine simL_eff (re_call (vs := []) (cap := []) (A := []) (rst := [obj b4v 76 [.pointer (some ⟨y3v.1, 0, none⟩), .int .i64 0], obj y3v.1 125 [.slice y3v.2.1 s1v.1.length y3v.2.2, .int .i64 s1v.2.1, .int .i64 s1v.2.2], Row 5 1 y3v.2.1 s1v.1.length y3v.2.2 (encB s1v.1), F]) rfl rfl rfl rfl rfl rfl Tryz.call7 (.sel 0 rfl (.sel 0 rfl (.sel 0 rfl (.sel 0 rfl (.nil _))))) (kv_New.calls _ _  ) hs6v) rfl rfl rfl ?_
 intro y7v
 refine va rfl rfl (simL_nil (nrm_then (sim_seq (sr ?_))))
 refine vm rfl rfl ?_
 refine vm rfl rfl ?_
 refine simL_bind (fun s12v hs13v => ?_)
 refine simL_lend 5 rfl (fun hq8v hq9v hq10v hq11v => ?_)
 refine simL_eff (re_call (vs := [.pointer (some ⟨b4v, 0, none⟩), .pointer (some ⟨y7v.1, 0, none⟩)]) (cap := []) (A := [obj y3v.1 125 [.slice y3v.2.1 s1v.1.length y3v.2.2, .int .i64 s1v.2.1, .int .i64 s1v.2.2], obj b4v 76 [.pointer (some ⟨y3v.1, 0, none⟩), .int .i64 0], obj y7v.1 58 [.map (some y7v.2.1), .map (some y7v.2.2)], mapO y7v.2.1 enc9 enc9 s5v.1, mapO y7v.2.2 enc3 enc69 s5v.2]) (rst := [Row 5 1 y3v.2.1 s1v.1.length y3v.2.2 (encB s1v.1), F]) rfl rfl rfl rfl rfl rfl Tryz.call31 (.sel 4 rfl (.sel 3 rfl (.sel 0 rfl (.sel 0 rfl (.sel 0 rfl (.sel 0 rfl (.sel 0 rfl (.nil _)))))))) (kv_reader_pairs_s.calls _ _ k b4v y3v.1 y3v.2.1 y3v.2.2 s1v.1 s1v.2.1 s1v.2.2 (0 : Int) y7v.1 y7v.2.1 s5v.1 y7v.2.2 s5v.2 (hq8v.lend 0 rfl) hq9v hq10v) hs13v) rfl rfl rfl ?_
 intro y14v
 refine vq (q_not rfl rfl) rfl ?_
 refine vm rfl rfl ?_
 refine simL_cut' 5 (S := Bool × Int × Int × Int × (List ((List UInt8) × (List UInt8))) × (List ((Int) × (Ty69)))) (Nat × Nat) (fun s y => [(4, .pointer (some ⟨b4v, 0, none⟩)), (5, .pointer (some ⟨y7v.1, 0, none⟩)), (21, .bool s.1)]) (fun s y => [obj y3v.1 125 [.slice y3v.2.1 s1v.1.length y3v.2.2, .int .i64 s.2.1, .int .i64 s.2.2.1], obj b4v 76 [.pointer (some ⟨y3v.1, 0, none⟩), .int .i64 s.2.2.2.1], obj y7v.1 58 [.map (some y.1), .map (some y.2)], Row 5 1 y3v.2.1 s1v.1.length y3v.2.2 (encB s1v.1), mapO y.1 enc9 enc9 s.2.2.2.2.1, mapO y.2 enc3 enc69 s.2.2.2.2.2, F]) ?_ ?_
 refine simL_caseb (fun hb24v => ?_) (fun hb25v => ?_)
 rw [hb24v]
 refine simL_skipd rfl rfl rfl rfl rfl rfl ?_
 refine simL_skipd rfl rfl rfl rfl rfl rfl ?_
 refine simL_skipd rfl rfl rfl rfl rfl rfl ?_
 refine simL_skipd rfl rfl rfl rfl rfl rfl ?_
 refine vq (q_pick rfl rfl rfl rfl rfl) rfl (simL_nil ?_)
 exact nrm_cut (s := (true, s12v.2.1, s12v.2.2.1, s12v.2.2.2.1, s12v.2.2.2.2.1, s12v.2.2.2.2.2)) (y14v.1, y14v.2) ⟨rfl, rfl, rfl, trivial⟩ (.sel 0 rfl (.sel 0 rfl (.sel 0 rfl (.sel 2 rfl (.sel 0 rfl (.sel 0 rfl (.sel 0 rfl (.nil _))))))))
 rw [hb25v]
 refine simL_valg (q_move rfl rfl) rfl rfl rfl rfl rfl rfl ?_
 refine simL_valg (q_move rfl rfl) rfl rfl rfl rfl rfl rfl ?_
 refine simL_bind (fun s21v hs22v => ?_)
 refine simL_lend 5 rfl (fun hq17v hq18v hq19v hq20v => ?_)
 refine simL_effg (re_call (vs := [.pointer (some ⟨b4v, 0, none⟩), .pointer (some ⟨y7v.1, 0, none⟩)]) (cap := []) (A := [obj y3v.1 125 [.slice y3v.2.1 s1v.1.length y3v.2.2, .int .i64 s12v.2.1, .int .i64 s12v.2.2.1], obj b4v 76 [.pointer (some ⟨y3v.1, 0, none⟩), .int .i64 s12v.2.2.2.1], obj y7v.1 58 [.map (some y14v.1), .map (some y14v.2)], mapO y14v.1 enc9 enc9 s12v.2.2.2.2.1, mapO y14v.2 enc3 enc69 s12v.2.2.2.2.2]) (rst := [Row 5 1 y3v.2.1 s1v.1.length y3v.2.2 (encB s1v.1), F]) rfl rfl rfl rfl rfl rfl Tryz.call32 (.sel 0 rfl (.sel 0 rfl (.sel 0 rfl (.sel 0 rfl (.sel 0 rfl (.sel 0 rfl (.sel 0 rfl (.nil _)))))))) (kv_reader_clients_s.calls _ _ k b4v y3v.1 y3v.2.1 y3v.2.2 s1v.1 s12v.2.1 s12v.2.2.1 s12v.2.2.2.1 y7v.1 y14v.1 s12v.2.2.2.2.1 y14v.2 s12v.2.2.2.2.2 (hq17v.lend 0 rfl) hq18v hq19v) hs22v) rfl rfl rfl rfl rfl rfl ?_
 intro y23v
 refine simL_valg (q_not rfl rfl) rfl rfl rfl rfl rfl rfl ?_
 refine vq (q_pick rfl rfl rfl rfl rfl) rfl (simL_nil ?_)
 exact nrm_cut (s := (!s21v.1, s21v.2.1, s21v.2.2.1, s21v.2.2.2.1, s21v.2.2.2.2.1, s21v.2.2.2.2.2)) (y23v.1, y23v.2) ⟨rfl, rfl, rfl, trivial⟩ (.sel 0 rfl (.sel 0 rfl (.sel 0 rfl (.sel 2 rfl (.sel 0 rfl (.sel 0 rfl (.sel 0 rfl (.nil _))))))))
 intro s15v y16v
 refine simL_nil (nrm_then ?_)
 refine sim_condb rfl (fun h26v => ?_) (fun h27v => ?_)
 refine sim_seq ?_
 refine sim_draw (Γ := Unit) () [[], [0], [0, 1], [0, 1, 2], [], rL 5] [] [0, 1, 2, 3, 4, 5] (fun i => [[0], [0], [0], [0], [0], [0]].getD i []) (fun i => [[], [], [], [], [], []].getD i []) (fun γ i => [.pointer (some ⟨b4v, 0, none⟩), .pointer (some ⟨b4v, 0, none⟩), .pointer (some ⟨b4v, 1, none⟩), .int .i64 s15v.2.2.2.1, .pointer none, .int .i64 s15v.2.2.2.1].getD i undef) (fun j γ => [[obj y3v.1 125 [.slice y3v.2.1 s1v.1.length y3v.2.2, .int .i64 s15v.2.1, .int .i64 s15v.2.2.1], obj b4v 76 [.pointer (some ⟨y3v.1, 0, none⟩), .int .i64 s15v.2.2.2.1], obj y7v.1 58 [.map (some y16v.1), .map (some y16v.2)], Row 5 1 y3v.2.1 s1v.1.length y3v.2.2 (encB s1v.1), mapO y16v.1 enc9 enc9 s15v.2.2.2.2.1, mapO y16v.2 enc3 enc69 s15v.2.2.2.2.2, F]].getD j []) (fun γ => [(2, .pointer none), (3, .int .i64 s15v.2.2.2.1)]) mixed (by decide) (by decide) (by decide) (by decide) (by decide) (by decide) (by decide) 35 rfl (by decide) (by decide) (by decide) (Ent.refl _) ?_ ?_ (fun _ => ⟨rfl, rfl, trivial⟩) ?_
 exact (aq rfl (fun γ => qm rfl (.o (s := 4) rfl (by decide) .nil) rfl) (aq rfl (fun γ => qp rfl rfl (.v 0 rfl rfl .nil) (q_nil rfl rfl) rfl) (aq rfl (fun γ => qp rfl rfl (.v 1 rfl rfl .nil) (q_fa rfl rfl Tryz.underlying76 rfl rfl Tryz.sizeOf31 rfl) rfl) (aq rfl (fun γ => qp rfl rfl (.v 2 rfl rfl .nil) (q_load rfl rfl Tryz.isAgg31 (.obj 1 rfl rfl)) rfl) (aq rfl (fun γ => qp rfl rfl .nil (q_asg rfl rfl) rfl) (aq rfl (fun γ => qp rfl rfl (.v 3 rfl rfl .nil) (q_asg rfl rfl) rfl) zA))))))
 exact zA
 intro g28v
 refine nrm_then (sim_rtn ?_)
 refine rtn_then ?_
 exact rtn_fn (0, 0, 0) rfl rfl rfl (.when_no rfl (.sel 6 rfl (.nil _)))
 refine sim_skip ?_
 refine nrm_then (sim_seq (sr ?_))
 refine vm rfl rfl ?_
 refine vn rfl rfl ?_
 refine vq (q_fa rfl rfl Tryz.underlying76 rfl rfl Tryz.sizeOf73 rfl) rfl ?_
 refine vq (q_load rfl rfl Tryz.isAgg73 (.obj 1 rfl rfl)) rfl ?_
 refine simL_bind (fun s33v hs34v => ?_)
 refine simL_lend 3 rfl (fun hq29v hq30v hq31v hq32v => ?_)
 refine simL_eff (re_call (vs := [.pointer (some ⟨y3v.1, 0, none⟩)]) (cap := []) (A := [obj y3v.1 125 [.slice y3v.2.1 s1v.1.length y3v.2.2, .int .i64 s15v.2.1, .int .i64 s15v.2.2.1]]) (rst := [obj b4v 76 [.pointer (some ⟨y3v.1, 0, none⟩), .int .i64 s15v.2.2.2.1], obj y7v.1 58 [.map (some y16v.1), .map (some y16v.2)], Row 5 1 y3v.2.1 s1v.1.length y3v.2.2 (encB s1v.1), mapO y16v.1 enc9 enc9 s15v.2.2.2.2.1, mapO y16v.2 enc3 enc69 s15v.2.2.2.2.2, F]) rfl rfl rfl rfl rfl rfl Tryz.call33 (.sel 0 rfl (.sel 0 rfl (.sel 0 rfl (.sel 0 rfl (.sel 0 rfl (.sel 0 rfl (.sel 0 rfl (.nil _)))))))) (wire_Reader_Done.calls _ _ y3v.1 y3v.2.1 y3v.2.2 s1v.1 s15v.2.1 s15v.2.2.1 (hq29v.lend 2 rfl) hq30v hq31v) hs34v) rfl rfl rfl ?_
 intro y35v
 refine va rfl rfl (nx ?_)
 refine vm rfl rfl ?_
 refine vq (q_neq rfl rfl rfl) rfl (simL_nil (nrm_then ?_))
 refine sim_condn rfl (fun h36v => ?_) (fun h37v => ?_)
 refine sim_skip ?_
 refine nrm_then (sr ?_)
 refine vm rfl rfl ?_
 refine va rfl rfl ?_
 refine va rfl rfl (simL_nil (nrm_then (sim_rtn ?_)))
 exact rtn_fn (y7v.1, y16v.1, y16v.2) rfl rfl rfl (.when_yes rfl (.sel 2 rfl (.sel 3 rfl (.sel 3 rfl (.sel 3 rfl (.nil _))))))
 refine sr ?_
 refine vm rfl rfl ?_
 refine va rfl rfl ?_
 refine va rfl rfl (simL_nil (nrm_then (sim_rtn ?_)))
 refine rtn_then ?_
 exact rtn_fn (0, 0, 0) rfl rfl rfl (.when_no rfl (.sel 6 rfl (.nil _)))
theorem kv_Restore.callsT (W : World) (F : HA) (k : Nat) (a0 : Option Addr) (c0 : Nat) (x0 : List UInt8) (h0 : Rd F a0 (encB x0)) (hc0 : x0.length ≤ c0) (hm0 : c0 ≤ maxLen) :
    Fn Tryz.prog W 10 [.slice a0 x0.length c0] [] F ((kv_Restore.f k x0).filter fun (r : Bool × (List ((List UInt8) × (List UInt8))) × (List ((Int) × (Ty69))) × Int) => r.1 == true) (fun (r : Bool × (List ((List UInt8) × (List UInt8))) × (List ((Int) × (Ty69))) × Int) (y : Nat × Nat × Nat) => .tuple #[.pointer (some ⟨y.1, 0, none⟩), .int .i64 r.2.2.2]) (fun r y => [obj y.1 58 [.map (some y.2.1), .map (some y.2.2)], mapO y.2.1 enc9 enc9 r.2.1, mapO y.2.2 enc3 enc69 r.2.2.1]) :=
  Fn.when (kv_Restore.calls W F k a0 c0 x0 h0 hc0 hm0) _ true (fun r y h => by simp only [h]; rfl) (fun r y h => (Ent.when_yo h _))
theorem kv_Restore.callsN (W : World) (F : HA) (k : Nat) (a0 : Option Addr) (c0 : Nat) (x0 : List UInt8) (h0 : Rd F a0 (encB x0)) (hc0 : x0.length ≤ c0) (hm0 : c0 ≤ maxLen) :
    Fn Tryz.prog W 10 [.slice a0 x0.length c0] [] F ((kv_Restore.f k x0).filter fun (r : Bool × (List ((List UInt8) × (List UInt8))) × (List ((Int) × (Ty69))) × Int) => r.1 == false) (fun (r : Bool × (List ((List UInt8) × (List UInt8))) × (List ((Int) × (Ty69))) × Int) (y : Nat × Nat × Nat) => .tuple #[.pointer none, .int .i64 r.2.2.2]) (fun r y => []) :=
  Fn.when (kv_Restore.calls W F k a0 c0 x0 h0 hc0 hm0) _ false (fun r y h => by simp only [h]; rfl) (fun r y h => (Ent.when_no_ h _))

def synodref_SameBytes.l0 (x0 : List UInt8) (x1 : List UInt8) : Nat → Int → Option ((Unit) ⊕ (Bool))
  | 0, _ => none
  | k + 1, z7v => if z7v < (x0.length : Int) then (if 0 ≤ z7v ∧ z7v < (x0.length : Int) then (if 0 ≤ z7v ∧ z7v < (x1.length : Int) then (if ((x0.getD z7v.toNat 0).toNat : Int) = ((x1.getD z7v.toNat 0).toNat : Int) then (synodref_SameBytes.l0 x0 x1 k (IntKind.i64.wrap (z7v + 1))) else (some (.inr false))) else none) else none) else (some (.inl ()))
def synodref_SameBytes.f (k : Nat) (x0 : List UInt8) (x1 : List UInt8) : Option (Bool) := if (x0.length : Int) = (x1.length : Int) then (orR (synodref_SameBytes.l0 x0 x1 k 0) fun s3v => (some true)) else (some false)
theorem synodref_SameBytes.calls (W : World) (F : HA) (k : Nat) (a0 : Option Addr) (c0 : Nat) (x0 : List UInt8) (a1 : Option Addr) (c1 : Nat) (x1 : List UInt8) (h0 : Rd F a0 (encB x0)) (hc0 : x0.length ≤ c0) (hm0 : c0 ≤ maxLen) (h1 : Rd F a1 (encB x1)) (hc1 : x1.length ≤ c1) (hm1 : c1 ≤ maxLen) :
    Fn Tryz.prog W 12 [.slice a0 x0.length c0, .slice a1 x1.length c1] [] F (synodref_SameBytes.f k x0 x1) (fun (r : Bool) (y : Unit) => .bool r) (fun r y => []) := by
 unfold synodref_SameBytes.f
 refine fn_intro 26 Tryz.func12 rfl Tryz.ntmps12 rfl ?_
 refine sr ?_
 refine va rfl rfl (simL_nil (nrm_then (sim_seq (sr ?_))))
 refine vm rfl rfl ?_
 refine vq (q_len rfl rfl rfl Tryz.underlying23) rfl ?_
 refine vm rfl rfl ?_
 refine vq (q_len rfl rfl rfl Tryz.underlying23) rfl ?_
 refine vq (q_neq rfl rfl rfl) rfl (simL_nil (nrm_then ?_))
 refine sim_condn rfl (fun h1v => ?_) (fun h2v => ?_)
 refine sim_skip ?_
 refine nrm_then ?_
 refine sim_cutR (S := Unit) (Unit) (fun s y => []) (fun s y => [F]) ?_ ?_
 refine sr ?_
 refine va rfl rfl (simL_nil (nrm_then ?_))
 refine sim_block ?_
 refine sim_loop (S := Int) (Unit) (fun k s => synodref_SameBytes.l0 x0 x1 k s) (fun s y => [(0, .slice a0 x0.length c0), (1, .slice a1 x1.length c1), (5, .int .i64 s)]) (fun s y => [F]) (fun _ => by rw [synodref_SameBytes.l0]) ?_ k 0 () ⟨rfl, rfl, rfl, trivial⟩ (.sel 0 rfl (.nil _))
 intro k s5v y6v
 refine sim_eq (by rw [synodref_SameBytes.l0]) ?_
 refine sim_seq (sr ?_)
 refine vm rfl rfl ?_
 refine vm rfl rfl ?_
 refine vq (q_len rfl rfl rfl Tryz.underlying23) rfl ?_
 refine vq (q_lss rfl rfl rfl) rfl (simL_nil (nrm_then ?_))
 refine sim_cond rfl (fun h8v => ?_) (fun h9v => ?_)
 refine sim_skip ?_
 refine nrm_then (sim_seq ?_)
 refine sim_block ?_
 refine sim_seq ?_
 refine sim_ask (fun hi10v => ?_)
 obtain ⟨b11v, b11vo, ha12v⟩ := h0.pos (encB_ne (j := s5v.toNat) (by omega))
 refine sim_ask (fun hi14v => ?_)
 obtain ⟨b15v, b15vo, ha16v⟩ := h1.pos (encB_ne (j := s5v.toNat) (by omega))
 refine sim_draw (Γ := Unit) () [[], [], [0, 1], [0, 1, 2], [], [], [4, 5], [4, 5, 6], rL 8] [] [0, 1, 2, 3, 4, 5, 6, 7, 8] (fun i => [[0], [0], [0], [0], [0], [0], [0], [0], [0]].getD i []) (fun i => [[], [], [], [], [], [], [], [], []].getD i []) (fun γ i => [.slice a0 x0.length c0, .int .i64 s5v, .pointer (some ⟨b11v, b11vo + s5v.toNat, none⟩), .int .u8 ((x0.getD s5v.toNat 0).toNat : Int), .slice a1 x1.length c1, .int .i64 s5v, .pointer (some ⟨b15v, b15vo + s5v.toNat, none⟩), .int .u8 ((x1.getD s5v.toNat 0).toNat : Int), .bool (!decide (((x0.getD s5v.toNat 0).toNat : Int) = ((x1.getD s5v.toNat 0).toNat : Int)))].getD i undef) (fun j γ => [[F]].getD j []) (fun γ => [(0, .slice a0 x0.length c0), (1, .slice a1 x1.length c1), (5, .int .i64 s5v), (25, .bool (!decide (((x0.getD s5v.toNat 0).toNat : Int) = ((x1.getD s5v.toNat 0).toNat : Int))))]) mixed (by decide) (by decide) (by decide) (by decide) (by decide) (by decide) (by decide) 26 rfl (by decide) (by decide) (by decide) (Ent.refl _) ?_ ?_ (fun _ => ⟨rfl, rfl, rfl, rfl, trivial⟩) ?_
 exact (aq rfl (fun γ => qm rfl (.o (s := 0) rfl (by decide) .nil) rfl) (aq rfl (fun γ => qm rfl (.o (s := 5) rfl (by decide) .nil) rfl) (aq rfl (fun γ => qp rfl rfl (.v 0 rfl rfl (.v 1 rfl rfl .nil)) (q_idx1 rfl rfl rfl ha12v Tryz.underlying23 Tryz.sizeOf5 hi10v.1 hi10v.2) rfl) (aq rfl (fun γ => qp rfl rfl (.v 2 rfl rfl .nil) (q_load rfl rfl Tryz.isAgg5 (h0.cell 0 rfl ha12v (encB_get (by omega)))) rfl) (aq rfl (fun γ => qm rfl (.o (s := 1) rfl (by decide) .nil) rfl) (aq rfl (fun γ => qm rfl (.o (s := 5) rfl (by decide) .nil) rfl) (aq rfl (fun γ => qp rfl rfl (.v 4 rfl rfl (.v 5 rfl rfl .nil)) (q_idx1 rfl rfl rfl ha16v Tryz.underlying23 Tryz.sizeOf5 hi14v.1 hi14v.2) rfl) (aq rfl (fun γ => qp rfl rfl (.v 6 rfl rfl .nil) (q_load rfl rfl Tryz.isAgg5 (h1.cell 0 rfl ha16v (encB_get (by omega)))) rfl) (aq rfl (fun γ => qp rfl rfl (.v 3 rfl rfl (.v 7 rfl rfl .nil)) (q_neq rfl rfl rfl) rfl) zA)))))))))
 exact zA
 intro g18v
 refine nrm_then ?_
 refine sim_condn rfl (fun h19v => ?_) (fun h20v => ?_)
 refine sim_skip ?_
 refine nrm_block (nrm_then (sim_region ?_))
 refine vm rfl rfl ?_
 refine vq (q_add rfl rfl rfl) rfl ?_
 refine va rfl rfl (simL_nil ?_)
 exact nrm_again (s := IntKind.i64.wrap (s5v + 1)) () ⟨rfl, rfl, rfl, trivial⟩ (.sel 0 rfl (.nil _))
 refine sr ?_
 refine va rfl rfl (simL_nil (nrm_then (sim_rtn ?_)))
 refine rtn_block ?_
 refine rtn_then ?_
 refine rtn_loop ?_
 refine rtn_block ?_
 refine rtn_cutR ?_
 exact rtn_fn () rfl rfl rfl (.sel 0 rfl (.nil _))
 refine sim_exi ?_
 refine exi_then ?_
 refine exi_loop ?_
 refine exi_here ?_
 exact nrm_cutR (s := ()) () trivial (.sel 0 rfl (.nil _))
 intro s3v y4v
 refine sr ?_
 refine va rfl rfl (simL_nil (nrm_then (sim_rtn ?_)))
 exact rtn_fn () rfl rfl rfl (.sel 0 rfl (.nil _))
 refine sr ?_
 refine va rfl rfl (simL_nil (nrm_then (sim_rtn ?_)))
 refine rtn_then ?_
 exact rtn_fn () rfl rfl rfl (.sel 0 rfl (.nil _))

def synodlaw11_same.l0 (x0 : List (Ty45)) (x1 : List (Ty45)) : Nat → Int → Option ((Unit) ⊕ (Bool))
  | 0, _ => none
  | k + 1, z7v => if z7v < (x0.length : Int) then (if 0 ≤ z7v ∧ z7v < (x0.length : Int) then (if 0 ≤ z7v ∧ z7v < (x1.length : Int) then (if (!(decide ((x0.getD z7v.toNat dz45).1 = (x1.getD z7v.toNat dz45).1) && (decide (((x0.getD z7v.toNat dz45).2) = ((x1.getD z7v.toNat dz45).2))))) = true then (some (.inr false)) else (synodlaw11_same.l0 x0 x1 k (IntKind.i64.wrap (z7v + 1)))) else none) else none) else (some (.inl ()))
def synodlaw11_same.f (k : Nat) (x0 : List (Ty45)) (x1 : List (Ty45)) : Option (Bool) := if (x0.length : Int) = (x1.length : Int) then (orR (synodlaw11_same.l0 x0 x1 k 0) fun s3v => (some true)) else (some false)
theorem synodlaw11_same.calls (W : World) (F : HA) (k : Nat) (a0 : Option Addr) (c0 : Nat) (x0 : List (Ty45)) (a1 : Option Addr) (c1 : Nat) (x1 : List (Ty45)) (h0 : RdV F 2 (V45 tt) a0 x0) (hc0 : x0.length ≤ c0) (hm0 : c0 ≤ maxLen) (h1 : RdV F 2 (V45 tt) a1 x1) (hc1 : x1.length ≤ c1) (hm1 : c1 ≤ maxLen) :
    Fn Tryz.prog W 13 [.slice a0 x0.length c0, .slice a1 x1.length c1] [] F (synodlaw11_same.f k x0 x1) (fun (r : Bool) (y : Unit) => .bool r) (fun r y => []) := by
 unfold synodlaw11_same.f
 refine fn_intro 26 Tryz.func13 rfl Tryz.ntmps13 rfl ?_
 refine sr ?_
 refine va rfl rfl (simL_nil (nrm_then (sim_seq (sr ?_))))
 refine vm rfl rfl ?_
 refine vq (q_len rfl rfl rfl Tryz.underlying28) rfl ?_
 refine vm rfl rfl ?_
 refine vq (q_len rfl rfl rfl Tryz.underlying28) rfl ?_
 refine vq (q_neq rfl rfl rfl) rfl (simL_nil (nrm_then ?_))
 refine sim_condn rfl (fun h1v => ?_) (fun h2v => ?_)
 refine sim_skip ?_
 refine nrm_then ?_
 refine sim_cutR (S := Unit) (Unit) (fun s y => []) (fun s y => [F]) ?_ ?_
 refine sr ?_
 refine va rfl rfl (simL_nil (nrm_then ?_))
 refine sim_block ?_
 refine sim_loop (S := Int) (Unit) (fun k s => synodlaw11_same.l0 x0 x1 k s) (fun s y => [(0, .slice a0 x0.length c0), (1, .slice a1 x1.length c1), (5, .int .i64 s)]) (fun s y => [F]) (fun _ => by rw [synodlaw11_same.l0]) ?_ k 0 () ⟨rfl, rfl, rfl, trivial⟩ (.sel 0 rfl (.nil _))
 intro k s5v y6v
 refine sim_eq (by rw [synodlaw11_same.l0]) ?_
 refine sim_seq (sr ?_)
 refine vm rfl rfl ?_
 refine vm rfl rfl ?_
 refine vq (q_len rfl rfl rfl Tryz.underlying28) rfl ?_
 refine vq (q_lss rfl rfl rfl) rfl (simL_nil (nrm_then ?_))
 refine sim_cond rfl (fun h8v => ?_) (fun h9v => ?_)
 refine sim_skip ?_
 refine nrm_then (sim_seq ?_)
 refine sim_block ?_
 refine sim_seq ?_
 refine sim_ask (fun hi10v => ?_)
 obtain ⟨b11v, b11vo, r14v, ha12v, hV15v, hlr16v, hcell17v⟩ := RdV.pos h0 (Up.refl _) rfl (i := s5v.toNat) (by omega) dz45
 obtain rfl := hV15v
 refine sim_ask (fun hi18v => ?_)
 obtain ⟨b19v, b19vo, r22v, ha20v, hV23v, hlr24v, hcell25v⟩ := RdV.pos h1 (Up.refl _) rfl (i := s5v.toNat) (by omega) dz45
 obtain rfl := hV23v
 refine sim_draw (Γ := Unit) () [[], [], [0, 1], [0, 1, 2], [], [], [4, 5], [4, 5, 6], rL 8] [] [0, 1, 2, 3, 4, 5, 6, 7, 8] (fun i => [[0], [0], [0], [0], [0], [0], [0], [0], [0]].getD i []) (fun i => [[], [], [], [], [], [], [], [], []].getD i []) (fun γ i => [.slice a0 x0.length c0, .int .i64 s5v, .pointer (some ⟨b11v, b11vo + s5v.toNat * 2, none⟩), .agg #[.int .i64 ((x0.getD s5v.toNat dz45).1), str ((x0.getD s5v.toNat dz45).2)], .slice a1 x1.length c1, .int .i64 s5v, .pointer (some ⟨b19v, b19vo + s5v.toNat * 2, none⟩), .agg #[.int .i64 ((x1.getD s5v.toNat dz45).1), str ((x1.getD s5v.toNat dz45).2)], .bool (!(decide ((x0.getD s5v.toNat dz45).1 = (x1.getD s5v.toNat dz45).1) && (decide (((x0.getD s5v.toNat dz45).2) = ((x1.getD s5v.toNat dz45).2)))))].getD i undef) (fun j γ => [[F]].getD j []) (fun γ => [(0, .slice a0 x0.length c0), (1, .slice a1 x1.length c1), (5, .int .i64 s5v), (25, .bool (!(decide ((x0.getD s5v.toNat dz45).1 = (x1.getD s5v.toNat dz45).1) && (decide (((x0.getD s5v.toNat dz45).2) = ((x1.getD s5v.toNat dz45).2))))))]) mixed (by decide) (by decide) (by decide) (by decide) (by decide) (by decide) (by decide) 26 rfl (by decide) (by decide) (by decide) (Ent.refl _) ?_ ?_ (fun _ => ⟨rfl, rfl, rfl, rfl, trivial⟩) ?_
 exact (aq rfl (fun γ => qm rfl (.o (s := 0) rfl (by decide) .nil) rfl) (aq rfl (fun γ => qm rfl (.o (s := 5) rfl (by decide) .nil) rfl) (aq rfl (fun γ => qp rfl rfl (.v 0 rfl rfl (.v 1 rfl rfl .nil)) (q_idx rfl rfl rfl ha12v Tryz.underlying28 Tryz.sizeOf45 hi10v.1 hi10v.2) rfl) (aq rfl (fun γ => qp rfl rfl (.v 2 rfl rfl .nil) (q_loads rfl rfl Tryz.isAgg45 Tryz.sizeOf45 rfl (fun j v hj => hcell17v 0 rfl j v hj)) rfl) (aq rfl (fun γ => qm rfl (.o (s := 1) rfl (by decide) .nil) rfl) (aq rfl (fun γ => qm rfl (.o (s := 5) rfl (by decide) .nil) rfl) (aq rfl (fun γ => qp rfl rfl (.v 4 rfl rfl (.v 5 rfl rfl .nil)) (q_idx rfl rfl rfl ha20v Tryz.underlying28 Tryz.sizeOf45 hi18v.1 hi18v.2) rfl) (aq rfl (fun γ => qp rfl rfl (.v 6 rfl rfl .nil) (q_loads rfl rfl Tryz.isAgg45 Tryz.sizeOf45 rfl (fun j v hj => hcell25v 0 rfl j v hj)) rfl) (aq rfl (fun γ => qp rfl rfl (.v 3 rfl rfl (.v 7 rfl rfl .nil)) (q_neagg rfl rfl rfl (by kernel_rfl) (fun d w => eqi_struct Tryz.underlying45 (by kernel_rfl) (eqf_cons (by rfl) (part_of Tryz.isAgg3 rfl) (part_of Tryz.isAgg3 rfl) (eqi_int Tryz.underlying3) (eqf_last (by rfl) (part_of Tryz.isAgg9 rfl) (part_of Tryz.isAgg9 rfl) (eqi_str Tryz.underlying9))))) rfl) zA)))))))))
 exact zA
 intro g26v
 refine nrm_then ?_
 refine sim_condb rfl (fun h27v => ?_) (fun h28v => ?_)
 refine sr ?_
 refine va rfl rfl (simL_nil (nrm_then (sim_rtn ?_)))
 refine rtn_block ?_
 refine rtn_then ?_
 refine rtn_loop ?_
 refine rtn_block ?_
 refine rtn_cutR ?_
 exact rtn_fn () rfl rfl rfl (.sel 0 rfl (.nil _))
 refine sim_skip ?_
 refine nrm_block (nrm_then (sim_region ?_))
 refine vm rfl rfl ?_
 refine vq (q_add rfl rfl rfl) rfl ?_
 refine va rfl rfl (simL_nil ?_)
 exact nrm_again (s := IntKind.i64.wrap (s5v + 1)) () ⟨rfl, rfl, rfl, trivial⟩ (.sel 0 rfl (.nil _))
 refine sim_exi ?_
 refine exi_then ?_
 refine exi_loop ?_
 refine exi_here ?_
 exact nrm_cutR (s := ()) () trivial (.sel 0 rfl (.nil _))
 intro s3v y4v
 refine sr ?_
 refine va rfl rfl (simL_nil (nrm_then (sim_rtn ?_)))
 exact rtn_fn () rfl rfl rfl (.sel 0 rfl (.nil _))
 refine sr ?_
 refine va rfl rfl (simL_nil (nrm_then (sim_rtn ?_)))
 refine rtn_then ?_
 exact rtn_fn () rfl rfl rfl (.sel 0 rfl (.nil _))

def kv_Store_Snapshot_s.f  : Option (List UInt8) := (wire_NewWriter.f).bind fun s1v => (none)
theorem kv_Store_Snapshot_s.calls (W : World) (F : HA)   :
    Fn Tryz.prog W 9 [.pointer none] [] F (kv_Store_Snapshot_s.f ) (fun (r : List UInt8) (y : Option Addr × Nat) => .slice y.1 r.length y.2) (fun r y => [Row 5 1 y.1 r.length y.2 (encB r)]) := by
 unfold kv_Store_Snapshot_s.f
 refine fn_introM 67 Tryz.func9 rfl Tryz.ntmps9 rfl ?_
 refine sr ?_
 refine va rfl rfl (nx ?_)
 refine simL_bind (fun s1v hs2v => ?_)
 refine simL_eff (re_call (vs := []) (cap := []) (A := []) (rst := [F]) rfl rfl rfl rfl rfl rfl Tryz.call24 (.sel 0 rfl (.nil _)) (wire_NewWriter.calls _ _  ) hs2v) rfl rfl rfl ?_
 intro y3v
 refine simL_eff (re_alloc rfl Tryz.zeroValue59 rfl) rfl rfl rfl ?_
 intro b4v
 refine simL_do (re_store 0 rfl rfl rfl Tryz.sizeOf59 rfl rfl (one_of (by rfl)) rfl rfl) rfl rfl ?_
 intro _
 refine simL_nil (nrm_then (sim_seq ?_))
 exact sim_none

def synodlaw11_KvBack.f (k : Nat) (x0 : List (Ty49)) (x1 : List (Ty49)) (x2 : List UInt8) : Option (Bool) := (synodlaw11_first.f).bind fun s1v => ((synodlaw11_few.f k x0).bind fun s4v => ((if s4v = true then ((synodlaw11_few.f k x1).bind fun s9v => (some s9v)) else (some false)).bind fun s7v => (if (((!s1v) || (!s7v)) || (decide ((40000 : Int) < (x2.length : Int)))) = true then (some s1v) else ((kv_New.f).bind fun s16v => ((synodlaw11_does.f k s16v.1 s16v.2 x0).bind fun s19v => ((kv_Store_Snapshot.f k s19v.2.1 s19v.2.2).bind fun s22v => ((kv_Restore.f k s22v).bind fun s29v => (if s29v.1 = true then ((synodref_Num.f s29v.2.2.2).bind fun s33v => (if s33v = (0 : Int) then ((kv_Store_Snapshot.f k s29v.2.1 s29v.2.2.1).bind fun s38v => ((synodref_SameBytes.f k s38v s22v).bind fun s49v => ((synodlaw11_does.f k s19v.2.1 s19v.2.2 x1).bind fun s52v => ((synodlaw11_does.f k s29v.2.1 s29v.2.2.1 x1).bind fun s55v => ((synodlaw11_same.f k s52v.1 s55v.1).bind fun s70v => ((kv_Store_Snapshot.f k s55v.2.1 s55v.2.2).bind fun s73v => ((kv_Store_Snapshot.f k s52v.2.1 s52v.2.2).bind fun s76v => ((synodref_SameBytes.f k s73v s76v).bind fun s87v => ((kv_Restore.f k x2).bind fun s90v => (if s90v.1 = true then ((synodref_Num.f s90v.2.2.2).bind fun s94v => (if s94v = (0 : Int) then ((if (((s49v && s70v) && s87v) && true) = true then ((kv_Store_Snapshot.f k s90v.2.1 s90v.2.2.1).bind fun s101v => ((synodref_SameBytes.f k s101v x2).bind fun s108v => (some s108v))) else (some false)).bind fun s99v => (some s99v)) else (some (((s49v && s70v) && s87v) && false)))) else ((synodref_Num.f s90v.2.2.2).bind fun s122v => (if s122v = (0 : Int) then ((if (((s49v && s70v) && s87v) && false) = true then ((kv_Store_Snapshot_s.f).bind fun s129v => ((synodref_SameBytes.f k s129v x2).bind fun s136v => (some s136v))) else (some false)).bind fun s127v => (some s127v)) else (some (((s49v && s70v) && s87v) && true)))))))))))))) else (some false))) else (some false)))))))))
theorem synodlaw11_KvBack.calls (W : World) (F : HA) (k : Nat) (a0 : Option Addr) (c0 : Nat) (x0 : List (Ty49)) (a1 : Option Addr) (c1 : Nat) (x1 : List (Ty49)) (a2 : Option Addr) (c2 : Nat) (x2 : List UInt8) (h0 : RdV F 6 (V49 tt) a0 x0) (hc0 : x0.length ≤ c0) (hm0 : c0 ≤ maxLen) (h1 : RdV F 6 (V49 tt) a1 x1) (hc1 : x1.length ≤ c1) (hm1 : c1 ≤ maxLen) (h2 : Rd F a2 (encB x2)) (hc2 : x2.length ≤ c2) (hm2 : c2 ≤ maxLen) :
    Fn Tryz.prog W 3 [.slice a0 x0.length c0, .slice a1 x1.length c1, .slice a2 x2.length c2] [] F (synodlaw11_KvBack.f k x0 x1 x2) (fun (r : Bool) (y : Unit) => .bool r) (fun r y => []) := by
 unfold synodlaw11_KvBack.f
 refine fn_intro 107 Tryz.func3 rfl Tryz.ntmps3 rfl ?_
 refine sr ?_
 refine va rfl rfl (nx ?_)
 refine simL_bind (fun s1v hs2v => ?_)
 refine simL_eff (re_call (vs := []) (cap := []) (A := []) (rst := [F]) rfl rfl rfl rfl rfl rfl Tryz.call5 (.sel 0 rfl (.nil _)) (synodlaw11_first.calls _ _  ) hs2v) rfl rfl rfl ?_
 intro y3v
 refine va rfl rfl (nx ?_)
 refine vm rfl rfl ?_
 refine simL_bind (fun s4v hs5v => ?_)
 refine simL_eff (re_call (vs := [.slice a0 x0.length c0]) (cap := []) (A := []) (rst := [F]) rfl rfl rfl rfl rfl rfl Tryz.call6 (.sel 0 rfl (.nil _)) (synodlaw11_few.calls _ _ k a0 c0 x0 (h0.up (Up.lend 0 rfl) (fun _ _ h => h)) hc0 hm0) hs5v) rfl rfl rfl ?_
 intro y6v
 refine vm rfl rfl ?_
 refine simL_cut' 3 (S := Bool) (Unit) (fun s y => [(0, .slice a0 x0.length c0), (1, .slice a1 x1.length c1), (2, .slice a2 x2.length c2), (7, .bool s1v), (24, .bool s)]) (fun s y => [F]) ?_ ?_
 refine simL_caseb (fun hb12v => ?_) (fun hb13v => ?_)
 rw [hb12v]
 refine simL_valg (q_move rfl rfl) rfl rfl rfl rfl rfl rfl ?_
 refine simL_bind (fun s9v hs10v => ?_)
 refine simL_effg (re_call (vs := [.slice a1 x1.length c1]) (cap := []) (A := []) (rst := [F]) rfl rfl rfl rfl rfl rfl Tryz.call6 (.sel 0 rfl (.nil _)) (synodlaw11_few.calls _ _ k a1 c1 x1 (h1.up (Up.lend 0 rfl) (fun _ _ h => h)) hc1 hm1) hs10v) rfl rfl rfl rfl rfl rfl ?_
 intro y11v
 refine vq (q_pick rfl rfl rfl rfl rfl) rfl (simL_nil ?_)
 exact nrm_cut (s := s9v) () ⟨rfl, rfl, rfl, rfl, rfl, trivial⟩ (.sel 0 rfl (.nil _))
 rw [hb13v]
 refine simL_skipd rfl rfl rfl rfl rfl rfl ?_
 refine simL_skipd rfl rfl rfl rfl rfl rfl ?_
 refine vq (q_pick rfl rfl rfl rfl rfl) rfl (simL_nil ?_)
 exact nrm_cut (s := false) () ⟨rfl, rfl, rfl, rfl, rfl, trivial⟩ (.sel 0 rfl (.nil _))
 intro s7v y8v
 refine va rfl rfl (simL_nil (nrm_then (sim_seq (sr ?_))))
 refine vm rfl rfl ?_
 refine vq (q_not rfl rfl) rfl ?_
 refine vm rfl rfl ?_
 refine simL_valc (b := !s1v) (fun hb154v => RQ.sub (E' := [(8, .bool s7v)]) ⟨rfl, trivial⟩ (q_move rfl rfl)) rfl rfl rfl rfl rfl ?_
 refine simL_valc (b := !s1v) (fun hb153v => RQ.sub (E' := [(28, .bool s7v)]) ⟨lk_cv rfl hb153v, trivial⟩ (q_not rfl rfl)) rfl rfl rfl rfl rfl ?_
 refine vq (q_or rfl rfl rfl) rfl ?_
 refine vm rfl rfl ?_
 refine simL_valc (b := (!s1v) || (!s7v)) (fun hb152v => RQ.sub (E' := [(2, .slice a2 x2.length c2)]) ⟨rfl, trivial⟩ (q_move rfl rfl)) rfl rfl rfl rfl rfl ?_
 refine simL_valc (b := (!s1v) || (!s7v)) (fun hb151v => RQ.sub (E' := [(32, .slice a2 x2.length c2)]) ⟨lk_cv rfl hb151v, trivial⟩ (q_len rfl rfl rfl Tryz.underlying23)) rfl rfl rfl rfl rfl ?_
 refine simL_valc (b := (!s1v) || (!s7v)) (fun hb150v => RQ.sub (E' := [(33, .int .i64 (x2.length : Int))]) ⟨lk_cv rfl hb150v, trivial⟩ (q_gtr rfl rfl rfl)) rfl rfl rfl rfl rfl ?_
 refine vq (q_or rfl rfl rfl) rfl (simL_nil (nrm_then ?_))
 refine sim_condb rfl (fun h14v => ?_) (fun h15v => ?_)
 refine sr ?_
 refine vm rfl rfl ?_
 refine va rfl rfl (simL_nil (nrm_then (sim_rtn ?_)))
 refine rtn_then ?_
 exact rtn_fn () rfl rfl rfl (.sel 0 rfl (.nil _))
 refine sim_skip ?_
 refine nrm_then (sr ?_)
 refine simL_bind (fun s16v hs17v => ?_)
 refine simL_eff (re_call (vs := []) (cap := []) (A := []) (rst := [F]) rfl rfl rfl rfl rfl rfl Tryz.call7 (.sel 0 rfl (.nil _)) (kv_New.calls _ _  ) hs17v) rfl rfl rfl ?_
 intro y18v
 refine va rfl rfl (nx ?_)
 refine vm rfl rfl ?_
 refine vm rfl rfl ?_
 refine simL_bind (fun s19v hs20v => ?_)
 refine simL_eff (re_call (vs := [.pointer (some ⟨y18v.1, 0, none⟩), .slice a0 x0.length c0]) (cap := []) (A := [obj y18v.1 58 [.map (some y18v.2.1), .map (some y18v.2.2)], mapO y18v.2.1 enc9 enc9 s16v.1, mapO y18v.2.2 enc3 enc69 s16v.2]) (rst := [F]) rfl rfl rfl rfl rfl rfl Tryz.call8 (.sel 0 rfl (.sel 0 rfl (.sel 0 rfl (.sel 0 rfl (.nil _))))) (synodlaw11_does.calls _ _ k y18v.1 y18v.2.1 s16v.1 y18v.2.2 s16v.2 a0 c0 x0 (h0.up (Up.lend 0 rfl) (fun _ _ h => h)) hc0 hm0) hs20v) rfl rfl rfl ?_
 intro y21v
 refine nx ?_
 refine vm rfl rfl ?_
 refine simL_bind (fun s22v hs23v => ?_)
 refine simL_eff (re_call (vs := [.pointer (some ⟨y18v.1, 0, none⟩)]) (cap := []) (A := [obj y18v.1 58 [.map (some y21v.2.2.1), .map (some y21v.2.2.2)], mapO y21v.2.2.1 enc9 enc9 s19v.2.1, mapO y21v.2.2.2 enc3 enc69 s19v.2.2]) (rst := [RowV 45 2 (V45 tt) y21v.1 s19v.1 y21v.2.1, F]) rfl rfl rfl rfl rfl rfl Tryz.call9 (.sel 1 rfl (.sel 1 rfl (.sel 1 rfl (.sel 0 rfl (.sel 0 rfl (.nil _)))))) (kv_Store_Snapshot.calls _ _ k y18v.1 y21v.2.2.1 s19v.2.1 y21v.2.2.2 s19v.2.2 ) hs23v) rfl rfl rfl ?_
 intro y24v
 refine va rfl rfl (nx ?_)
 refine vm rfl rfl ?_
 refine simL_bind (fun s29v hs30v => ?_)
 refine simL_if (fun hb31v => ?_) (fun hb31v => ?_)
 refine simL_lend 0 rfl (fun hq25v hq26v hq27v hq28v => ?_)
 refine simL_eff (re_call (vs := [.slice y24v.1 s22v.length y24v.2]) (cap := []) (A := []) (rst := [Row 5 1 y24v.1 s22v.length y24v.2 (encB s22v), obj y18v.1 58 [.map (some y21v.2.2.1), .map (some y21v.2.2.2)], mapO y21v.2.2.1 enc9 enc9 s19v.2.1, mapO y21v.2.2.2 enc3 enc69 s19v.2.2, RowV 45 2 (V45 tt) y21v.1 s19v.1 y21v.2.1, F]) rfl rfl rfl rfl rfl rfl Tryz.call10 (.sel 0 rfl (.sel 0 rfl (.sel 0 rfl (.sel 0 rfl (.sel 0 rfl (.sel 0 rfl (.nil _))))))) (kv_Restore.callsT _ _ k y24v.1 y24v.2 s22v (hq25v.lend 0 rfl) hq26v hq27v) (filt_of hs30v hb31v)) rfl rfl rfl ?_
 intro y32v
 refine vm rfl rfl ?_
 refine vq (q_ext rfl rfl rfl) rfl ?_
 refine vq (q_ext rfl rfl rfl) rfl ?_
 refine va rfl rfl ?_
 refine va rfl rfl (simL_nil (nrm_then (sim_seq (sr ?_))))
 refine vm rfl rfl ?_
 refine vq (q_eqp rfl rfl rfl Tryz.underlying26) rfl ?_
 refine vm rfl rfl ?_
 refine simL_valg (q_move rfl rfl) rfl rfl rfl rfl rfl rfl ?_
 refine simL_bind (fun s33v hs34v => ?_)
 refine simL_effg (re_call (vs := [.int .i64 s29v.2.2.2]) (cap := []) (A := []) (rst := [obj y32v.1 58 [.map (some y32v.2.1), .map (some y32v.2.2)], mapO y32v.2.1 enc9 enc9 s29v.2.1, mapO y32v.2.2 enc3 enc69 s29v.2.2.1, Row 5 1 y24v.1 s22v.length y24v.2 (encB s22v), obj y18v.1 58 [.map (some y21v.2.2.1), .map (some y21v.2.2.2)], mapO y21v.2.2.1 enc9 enc9 s19v.2.1, mapO y21v.2.2.2 enc3 enc69 s19v.2.2, RowV 45 2 (V45 tt) y21v.1 s19v.1 y21v.2.1, F]) rfl rfl rfl rfl rfl rfl Tryz.call11 (.sel 0 rfl (.sel 0 rfl (.sel 0 rfl (.sel 0 rfl (.sel 0 rfl (.sel 0 rfl (.sel 0 rfl (.sel 0 rfl (.sel 0 rfl (.nil _)))))))))) (synodref_Num.calls _ _ s29v.2.2.2 ) hs34v) rfl rfl rfl rfl rfl rfl ?_
 intro y35v
 refine simL_valg (q_neq rfl rfl rfl) rfl rfl rfl rfl rfl rfl ?_
 refine vq (q_pick rfl rfl rfl rfl rfl) rfl (simL_nil (nrm_then ?_))
 refine sim_condn rfl (fun h36v => ?_) (fun h37v => ?_)
 refine sim_skip ?_
 refine nrm_then (sr ?_)
 refine vm rfl rfl ?_
 refine simL_bind (fun s38v hs39v => ?_)
 refine simL_eff (re_call (vs := [.pointer (some ⟨y32v.1, 0, none⟩)]) (cap := []) (A := [obj y32v.1 58 [.map (some y32v.2.1), .map (some y32v.2.2)], mapO y32v.2.1 enc9 enc9 s29v.2.1, mapO y32v.2.2 enc3 enc69 s29v.2.2.1]) (rst := [Row 5 1 y24v.1 s22v.length y24v.2 (encB s22v), obj y18v.1 58 [.map (some y21v.2.2.1), .map (some y21v.2.2.2)], mapO y21v.2.2.1 enc9 enc9 s19v.2.1, mapO y21v.2.2.2 enc3 enc69 s19v.2.2, RowV 45 2 (V45 tt) y21v.1 s19v.1 y21v.2.1, F]) rfl rfl rfl rfl rfl rfl Tryz.call9 (.sel 0 rfl (.sel 0 rfl (.sel 0 rfl (.sel 0 rfl (.sel 0 rfl (.sel 0 rfl (.sel 0 rfl (.sel 0 rfl (.sel 0 rfl (.nil _)))))))))) (kv_Store_Snapshot.calls _ _ k y32v.1 y32v.2.1 s29v.2.1 y32v.2.2 s29v.2.2.1 ) hs39v) rfl rfl rfl ?_
 intro y40v
 refine vm rfl rfl ?_
 refine simL_bind (fun s49v hs50v => ?_)
 refine simL_lend 0 rfl (fun hq41v hq42v hq43v hq44v => ?_)
 refine simL_lend 4 rfl (fun hq45v hq46v hq47v hq48v => ?_)
 refine simL_eff (re_call (vs := [.slice y40v.1 s38v.length y40v.2, .slice y24v.1 s22v.length y24v.2]) (cap := []) (A := []) (rst := [Row 5 1 y40v.1 s38v.length y40v.2 (encB s38v), obj y32v.1 58 [.map (some y32v.2.1), .map (some y32v.2.2)], mapO y32v.2.1 enc9 enc9 s29v.2.1, mapO y32v.2.2 enc3 enc69 s29v.2.2.1, Row 5 1 y24v.1 s22v.length y24v.2 (encB s22v), obj y18v.1 58 [.map (some y21v.2.2.1), .map (some y21v.2.2.2)], mapO y21v.2.2.1 enc9 enc9 s19v.2.1, mapO y21v.2.2.2 enc3 enc69 s19v.2.2, RowV 45 2 (V45 tt) y21v.1 s19v.1 y21v.2.1, F]) rfl rfl rfl rfl rfl rfl Tryz.call12 (.sel 0 rfl (.sel 0 rfl (.sel 0 rfl (.sel 0 rfl (.sel 0 rfl (.sel 0 rfl (.sel 0 rfl (.sel 0 rfl (.sel 0 rfl (.sel 0 rfl (.nil _))))))))))) (synodref_SameBytes.calls _ _ k y40v.1 y40v.2 s38v y24v.1 y24v.2 s22v (hq41v.lend 0 rfl) hq42v hq43v (hq45v.lend 4 rfl) hq46v hq47v) hs50v) rfl rfl rfl ?_
 intro y51v
 refine va rfl rfl (nx ?_)
 refine vm rfl rfl ?_
 refine vm rfl rfl ?_
 refine simL_bind (fun s52v hs53v => ?_)
 refine simL_eff (re_call (vs := [.pointer (some ⟨y18v.1, 0, none⟩), .slice a1 x1.length c1]) (cap := []) (A := [obj y18v.1 58 [.map (some y21v.2.2.1), .map (some y21v.2.2.2)], mapO y21v.2.2.1 enc9 enc9 s19v.2.1, mapO y21v.2.2.2 enc3 enc69 s19v.2.2]) (rst := [Row 5 1 y40v.1 s38v.length y40v.2 (encB s38v), obj y32v.1 58 [.map (some y32v.2.1), .map (some y32v.2.2)], mapO y32v.2.1 enc9 enc9 s29v.2.1, mapO y32v.2.2 enc3 enc69 s29v.2.2.1, Row 5 1 y24v.1 s22v.length y24v.2 (encB s22v), RowV 45 2 (V45 tt) y21v.1 s19v.1 y21v.2.1, F]) rfl rfl rfl rfl rfl rfl Tryz.call8 (.sel 5 rfl (.sel 5 rfl (.sel 5 rfl (.sel 0 rfl (.sel 0 rfl (.sel 0 rfl (.sel 0 rfl (.sel 0 rfl (.sel 0 rfl (.sel 0 rfl (.nil _))))))))))) (synodlaw11_does.calls _ _ k y18v.1 y21v.2.2.1 s19v.2.1 y21v.2.2.2 s19v.2.2 a1 c1 x1 (h1.up (Up.lend 6 rfl) (fun _ _ h => h)) hc1 hm1) hs53v) rfl rfl rfl ?_
 intro y54v
 refine vm rfl rfl ?_
 refine vm rfl rfl ?_
 refine simL_bind (fun s55v hs56v => ?_)
 refine simL_eff (re_call (vs := [.pointer (some ⟨y32v.1, 0, none⟩), .slice a1 x1.length c1]) (cap := []) (A := [obj y32v.1 58 [.map (some y32v.2.1), .map (some y32v.2.2)], mapO y32v.2.1 enc9 enc9 s29v.2.1, mapO y32v.2.2 enc3 enc69 s29v.2.2.1]) (rst := [RowV 45 2 (V45 tt) y54v.1 s52v.1 y54v.2.1, obj y18v.1 58 [.map (some y54v.2.2.1), .map (some y54v.2.2.2)], mapO y54v.2.2.1 enc9 enc9 s52v.2.1, mapO y54v.2.2.2 enc3 enc69 s52v.2.2, Row 5 1 y40v.1 s38v.length y40v.2 (encB s38v), Row 5 1 y24v.1 s22v.length y24v.2 (encB s22v), RowV 45 2 (V45 tt) y21v.1 s19v.1 y21v.2.1, F]) rfl rfl rfl rfl rfl rfl Tryz.call8 (.sel 5 rfl (.sel 5 rfl (.sel 5 rfl (.sel 0 rfl (.sel 0 rfl (.sel 0 rfl (.sel 0 rfl (.sel 0 rfl (.sel 0 rfl (.sel 0 rfl (.sel 0 rfl (.nil _)))))))))))) (synodlaw11_does.calls _ _ k y32v.1 y32v.2.1 s29v.2.1 y32v.2.2 s29v.2.2.1 a1 c1 x1 (h1.up (Up.lend 7 rfl) (fun _ _ h => h)) hc1 hm1) hs56v) rfl rfl rfl ?_
 intro y57v
 refine simL_openV 0 rfl (fun rs58v hl59v => ?_)
 refine simL_openV 4 rfl (fun rs60v hl61v => ?_)
 refine simL_bind (fun s70v hs71v => ?_)
 refine simL_lend 4 rfl (fun hq62v hq63v hq64v hq65v => ?_)
 refine simL_lend 0 rfl (fun hq66v hq67v hq68v hq69v => ?_)
 refine simL_eff (re_call (vs := [.slice y54v.1 s52v.1.length y54v.2.1, .slice y57v.1 s55v.1.length y57v.2.1]) (cap := []) (A := []) (rst := [Row 45 2 y57v.1 s55v.1.length y57v.2.1 rs58v.flatten, obj y32v.1 58 [.map (some y57v.2.2.1), .map (some y57v.2.2.2)], mapO y57v.2.2.1 enc9 enc9 s55v.2.1, mapO y57v.2.2.2 enc3 enc69 s55v.2.2, Row 45 2 y54v.1 s52v.1.length y54v.2.1 rs60v.flatten, obj y18v.1 58 [.map (some y54v.2.2.1), .map (some y54v.2.2.2)], mapO y54v.2.2.1 enc9 enc9 s52v.2.1, mapO y54v.2.2.2 enc3 enc69 s52v.2.2, Row 5 1 y40v.1 s38v.length y40v.2 (encB s38v), Row 5 1 y24v.1 s22v.length y24v.2 (encB s22v), RowV 45 2 (V45 tt) y21v.1 s19v.1 y21v.2.1, F]) rfl rfl rfl rfl rfl rfl Tryz.call13 (.sel 0 rfl (.sel 0 rfl (.sel 0 rfl (.sel 0 rfl (.sel 0 rfl (.sel 0 rfl (.sel 0 rfl (.sel 0 rfl (.sel 0 rfl (.sel 0 rfl (.sel 0 rfl (.sel 0 rfl (.nil _))))))))))))) (synodlaw11_same.calls _ _ k y54v.1 y54v.2.1 s52v.1 y57v.1 y57v.2.1 s55v.1 ((Rd.asV hl61v hq62v).up (Up.lend 4 rfl) (fun _ _ h => h)) hq63v hq64v ((Rd.asV hl59v hq66v).up (Up.lend 0 rfl) (fun _ _ h => h)) hq67v hq68v) hs71v) rfl rfl rfl ?_
 intro y72v
 refine va rfl rfl (nx ?_)
 refine vm rfl rfl ?_
 refine simL_bind (fun s73v hs74v => ?_)
 refine simL_eff (re_call (vs := [.pointer (some ⟨y32v.1, 0, none⟩)]) (cap := []) (A := [obj y32v.1 58 [.map (some y57v.2.2.1), .map (some y57v.2.2.2)], mapO y57v.2.2.1 enc9 enc9 s55v.2.1, mapO y57v.2.2.2 enc3 enc69 s55v.2.2]) (rst := [Row 45 2 y57v.1 s55v.1.length y57v.2.1 rs58v.flatten, Row 45 2 y54v.1 s52v.1.length y54v.2.1 rs60v.flatten, obj y18v.1 58 [.map (some y54v.2.2.1), .map (some y54v.2.2.2)], mapO y54v.2.2.1 enc9 enc9 s52v.2.1, mapO y54v.2.2.2 enc3 enc69 s52v.2.2, Row 5 1 y40v.1 s38v.length y40v.2 (encB s38v), Row 5 1 y24v.1 s22v.length y24v.2 (encB s22v), RowV 45 2 (V45 tt) y21v.1 s19v.1 y21v.2.1, F]) rfl rfl rfl rfl rfl rfl Tryz.call9 (.sel 1 rfl (.sel 1 rfl (.sel 1 rfl (.sel 0 rfl (.sel 0 rfl (.sel 0 rfl (.sel 0 rfl (.sel 0 rfl (.sel 0 rfl (.sel 0 rfl (.sel 0 rfl (.sel 0 rfl (.nil _))))))))))))) (kv_Store_Snapshot.calls _ _ k y32v.1 y57v.2.2.1 s55v.2.1 y57v.2.2.2 s55v.2.2 ) hs74v) rfl rfl rfl ?_
 intro y75v
 refine vm rfl rfl ?_
 refine simL_bind (fun s76v hs77v => ?_)
 refine simL_eff (re_call (vs := [.pointer (some ⟨y18v.1, 0, none⟩)]) (cap := []) (A := [obj y18v.1 58 [.map (some y54v.2.2.1), .map (some y54v.2.2.2)], mapO y54v.2.2.1 enc9 enc9 s52v.2.1, mapO y54v.2.2.2 enc3 enc69 s52v.2.2]) (rst := [Row 5 1 y75v.1 s73v.length y75v.2 (encB s73v), obj y32v.1 58 [.map (some y57v.2.2.1), .map (some y57v.2.2.2)], mapO y57v.2.2.1 enc9 enc9 s55v.2.1, mapO y57v.2.2.2 enc3 enc69 s55v.2.2, Row 45 2 y57v.1 s55v.1.length y57v.2.1 rs58v.flatten, Row 45 2 y54v.1 s52v.1.length y54v.2.1 rs60v.flatten, Row 5 1 y40v.1 s38v.length y40v.2 (encB s38v), Row 5 1 y24v.1 s22v.length y24v.2 (encB s22v), RowV 45 2 (V45 tt) y21v.1 s19v.1 y21v.2.1, F]) rfl rfl rfl rfl rfl rfl Tryz.call9 (.sel 6 rfl (.sel 6 rfl (.sel 6 rfl (.sel 0 rfl (.sel 0 rfl (.sel 0 rfl (.sel 0 rfl (.sel 0 rfl (.sel 0 rfl (.sel 0 rfl (.sel 0 rfl (.sel 0 rfl (.sel 0 rfl (.nil _)))))))))))))) (kv_Store_Snapshot.calls _ _ k y18v.1 y54v.2.2.1 s52v.2.1 y54v.2.2.2 s52v.2.2 ) hs77v) rfl rfl rfl ?_
 intro y78v
 refine simL_bind (fun s87v hs88v => ?_)
 refine simL_lend 4 rfl (fun hq79v hq80v hq81v hq82v => ?_)
 refine simL_lend 0 rfl (fun hq83v hq84v hq85v hq86v => ?_)
 refine simL_eff (re_call (vs := [.slice y75v.1 s73v.length y75v.2, .slice y78v.1 s76v.length y78v.2]) (cap := []) (A := []) (rst := [Row 5 1 y78v.1 s76v.length y78v.2 (encB s76v), obj y18v.1 58 [.map (some y54v.2.2.1), .map (some y54v.2.2.2)], mapO y54v.2.2.1 enc9 enc9 s52v.2.1, mapO y54v.2.2.2 enc3 enc69 s52v.2.2, Row 5 1 y75v.1 s73v.length y75v.2 (encB s73v), obj y32v.1 58 [.map (some y57v.2.2.1), .map (some y57v.2.2.2)], mapO y57v.2.2.1 enc9 enc9 s55v.2.1, mapO y57v.2.2.2 enc3 enc69 s55v.2.2, Row 45 2 y57v.1 s55v.1.length y57v.2.1 rs58v.flatten, Row 45 2 y54v.1 s52v.1.length y54v.2.1 rs60v.flatten, Row 5 1 y40v.1 s38v.length y40v.2 (encB s38v), Row 5 1 y24v.1 s22v.length y24v.2 (encB s22v), RowV 45 2 (V45 tt) y21v.1 s19v.1 y21v.2.1, F]) rfl rfl rfl rfl rfl rfl Tryz.call12 (.sel 0 rfl (.sel 0 rfl (.sel 0 rfl (.sel 0 rfl (.sel 0 rfl (.sel 0 rfl (.sel 0 rfl (.sel 0 rfl (.sel 0 rfl (.sel 0 rfl (.sel 0 rfl (.sel 0 rfl (.sel 0 rfl (.sel 0 rfl (.nil _))))))))))))))) (synodref_SameBytes.calls _ _ k y75v.1 y75v.2 s73v y78v.1 y78v.2 s76v (hq79v.lend 4 rfl) hq80v hq81v (hq83v.lend 0 rfl) hq84v hq85v) hs88v) rfl rfl rfl ?_
 intro y89v
 refine va rfl rfl (nx ?_)
 refine vm rfl rfl ?_
 refine simL_bind (fun s90v hs91v => ?_)
 refine simL_if (fun hb92v => ?_) (fun hb92v => ?_)
 refine simL_eff (re_call (vs := [.slice a2 x2.length c2]) (cap := []) (A := []) (rst := [Row 5 1 y78v.1 s76v.length y78v.2 (encB s76v), obj y18v.1 58 [.map (some y54v.2.2.1), .map (some y54v.2.2.2)], mapO y54v.2.2.1 enc9 enc9 s52v.2.1, mapO y54v.2.2.2 enc3 enc69 s52v.2.2, Row 5 1 y75v.1 s73v.length y75v.2 (encB s73v), obj y32v.1 58 [.map (some y57v.2.2.1), .map (some y57v.2.2.2)], mapO y57v.2.2.1 enc9 enc9 s55v.2.1, mapO y57v.2.2.2 enc3 enc69 s55v.2.2, Row 45 2 y57v.1 s55v.1.length y57v.2.1 rs58v.flatten, Row 45 2 y54v.1 s52v.1.length y54v.2.1 rs60v.flatten, Row 5 1 y40v.1 s38v.length y40v.2 (encB s38v), Row 5 1 y24v.1 s22v.length y24v.2 (encB s22v), RowV 45 2 (V45 tt) y21v.1 s19v.1 y21v.2.1, F]) rfl rfl rfl rfl rfl rfl Tryz.call10 (.sel 0 rfl (.sel 0 rfl (.sel 0 rfl (.sel 0 rfl (.sel 0 rfl (.sel 0 rfl (.sel 0 rfl (.sel 0 rfl (.sel 0 rfl (.sel 0 rfl (.sel 0 rfl (.sel 0 rfl (.sel 0 rfl (.sel 0 rfl (.nil _))))))))))))))) (kv_Restore.callsT _ _ k a2 c2 x2 (h2.lend 13 rfl) hc2 hm2) (filt_of hs91v hb92v)) rfl rfl rfl ?_
 intro y93v
 refine vm rfl rfl ?_
 refine vq (q_ext rfl rfl rfl) rfl ?_
 refine vq (q_ext rfl rfl rfl) rfl ?_
 refine va rfl rfl ?_
 refine va rfl rfl (simL_nil (nrm_then (sim_seq (sr ?_))))
 refine vm rfl rfl ?_
 refine simL_bind (fun s94v hs95v => ?_)
 refine simL_eff (re_call (vs := [.int .i64 s90v.2.2.2]) (cap := []) (A := []) (rst := [obj y93v.1 58 [.map (some y93v.2.1), .map (some y93v.2.2)], mapO y93v.2.1 enc9 enc9 s90v.2.1, mapO y93v.2.2 enc3 enc69 s90v.2.2.1, Row 5 1 y78v.1 s76v.length y78v.2 (encB s76v), obj y18v.1 58 [.map (some y54v.2.2.1), .map (some y54v.2.2.2)], mapO y54v.2.2.1 enc9 enc9 s52v.2.1, mapO y54v.2.2.2 enc3 enc69 s52v.2.2, Row 5 1 y75v.1 s73v.length y75v.2 (encB s73v), obj y32v.1 58 [.map (some y57v.2.2.1), .map (some y57v.2.2.2)], mapO y57v.2.2.1 enc9 enc9 s55v.2.1, mapO y57v.2.2.2 enc3 enc69 s55v.2.2, Row 45 2 y57v.1 s55v.1.length y57v.2.1 rs58v.flatten, Row 45 2 y54v.1 s52v.1.length y54v.2.1 rs60v.flatten, Row 5 1 y40v.1 s38v.length y40v.2 (encB s38v), Row 5 1 y24v.1 s22v.length y24v.2 (encB s22v), RowV 45 2 (V45 tt) y21v.1 s19v.1 y21v.2.1, F]) rfl rfl rfl rfl rfl rfl Tryz.call11 (.sel 0 rfl (.sel 0 rfl (.sel 0 rfl (.sel 0 rfl (.sel 0 rfl (.sel 0 rfl (.sel 0 rfl (.sel 0 rfl (.sel 0 rfl (.sel 0 rfl (.sel 0 rfl (.sel 0 rfl (.sel 0 rfl (.sel 0 rfl (.sel 0 rfl (.sel 0 rfl (.sel 0 rfl (.nil _)))))))))))))))))) (synodref_Num.calls _ _ s90v.2.2.2 ) hs95v) rfl rfl rfl ?_
 intro y96v
 refine vq (q_neq rfl rfl rfl) rfl (simL_nil (nrm_then ?_))
 refine sim_condn rfl (fun h97v => ?_) (fun h98v => ?_)
 refine sim_skip ?_
 refine nrm_then (sr ?_)
 refine vm rfl rfl ?_
 refine vm rfl rfl ?_
 refine simL_valc (b := s49v) (fun hb116v => RQ.sub (E' := [(14, .bool s70v)]) ⟨rfl, trivial⟩ (q_move rfl rfl)) rfl rfl rfl rfl rfl ?_
 refine vq (q_and rfl rfl rfl) rfl ?_
 refine vm rfl rfl ?_
 refine simL_valc (b := s49v && s70v) (fun hb115v => RQ.sub (E' := [(15, .bool s87v)]) ⟨rfl, trivial⟩ (q_move rfl rfl)) rfl rfl rfl rfl rfl ?_
 refine vq (q_and rfl rfl rfl) rfl ?_
 refine vm rfl rfl ?_
 refine simL_valc (b := (s49v && s70v) && s87v) (fun hb114v => RQ.sub (E' := [(16, .pointer (some ⟨y93v.1, 0, none⟩))]) ⟨rfl, trivial⟩ (q_move rfl rfl)) rfl rfl rfl rfl rfl ?_
 refine simL_valc (b := (s49v && s70v) && s87v) (fun hb113v => RQ.sub (E' := [(98, .pointer (some ⟨y93v.1, 0, none⟩))]) ⟨lk_cv rfl hb113v, trivial⟩ (q_nep rfl rfl rfl Tryz.underlying26)) rfl rfl rfl rfl rfl ?_
 refine vq (q_and rfl rfl rfl) rfl ?_
 refine vm rfl rfl ?_
 refine simL_cut' 5 (S := Bool) (Unit) (fun s y => [(106, .bool s)]) (fun s y => [F]) ?_ ?_
 refine simL_caseb (fun hb111v => ?_) (fun hb112v => ?_)
 rw [hb111v]
 refine simL_valg (q_move rfl rfl) rfl rfl rfl rfl rfl rfl ?_
 refine simL_bind (fun s101v hs102v => ?_)
 refine simL_effg (re_call (vs := [.pointer (some ⟨y93v.1, 0, none⟩)]) (cap := []) (A := [obj y93v.1 58 [.map (some y93v.2.1), .map (some y93v.2.2)], mapO y93v.2.1 enc9 enc9 s90v.2.1, mapO y93v.2.2 enc3 enc69 s90v.2.2.1]) (rst := [Row 5 1 y78v.1 s76v.length y78v.2 (encB s76v), obj y18v.1 58 [.map (some y54v.2.2.1), .map (some y54v.2.2.2)], mapO y54v.2.2.1 enc9 enc9 s52v.2.1, mapO y54v.2.2.2 enc3 enc69 s52v.2.2, Row 5 1 y75v.1 s73v.length y75v.2 (encB s73v), obj y32v.1 58 [.map (some y57v.2.2.1), .map (some y57v.2.2.2)], mapO y57v.2.2.1 enc9 enc9 s55v.2.1, mapO y57v.2.2.2 enc3 enc69 s55v.2.2, Row 45 2 y57v.1 s55v.1.length y57v.2.1 rs58v.flatten, Row 45 2 y54v.1 s52v.1.length y54v.2.1 rs60v.flatten, Row 5 1 y40v.1 s38v.length y40v.2 (encB s38v), Row 5 1 y24v.1 s22v.length y24v.2 (encB s22v), RowV 45 2 (V45 tt) y21v.1 s19v.1 y21v.2.1, F]) rfl rfl rfl rfl rfl rfl Tryz.call9 (.sel 0 rfl (.sel 0 rfl (.sel 0 rfl (.sel 0 rfl (.sel 0 rfl (.sel 0 rfl (.sel 0 rfl (.sel 0 rfl (.sel 0 rfl (.sel 0 rfl (.sel 0 rfl (.sel 0 rfl (.sel 0 rfl (.sel 0 rfl (.sel 0 rfl (.sel 0 rfl (.sel 0 rfl (.nil _)))))))))))))))))) (kv_Store_Snapshot.calls _ _ k y93v.1 y93v.2.1 s90v.2.1 y93v.2.2 s90v.2.2.1 ) hs102v) rfl rfl rfl rfl rfl rfl ?_
 intro y103v
 refine simL_valg (q_move rfl rfl) rfl rfl rfl rfl rfl rfl ?_
 refine simL_bind (fun s108v hs109v => ?_)
 refine simL_lend 0 rfl (fun hq104v hq105v hq106v hq107v => ?_)
 refine simL_effg (re_call (vs := [.slice y103v.1 s101v.length y103v.2, .slice a2 x2.length c2]) (cap := []) (A := []) (rst := [Row 5 1 y103v.1 s101v.length y103v.2 (encB s101v), obj y93v.1 58 [.map (some y93v.2.1), .map (some y93v.2.2)], mapO y93v.2.1 enc9 enc9 s90v.2.1, mapO y93v.2.2 enc3 enc69 s90v.2.2.1, Row 5 1 y78v.1 s76v.length y78v.2 (encB s76v), obj y18v.1 58 [.map (some y54v.2.2.1), .map (some y54v.2.2.2)], mapO y54v.2.2.1 enc9 enc9 s52v.2.1, mapO y54v.2.2.2 enc3 enc69 s52v.2.2, Row 5 1 y75v.1 s73v.length y75v.2 (encB s73v), obj y32v.1 58 [.map (some y57v.2.2.1), .map (some y57v.2.2.2)], mapO y57v.2.2.1 enc9 enc9 s55v.2.1, mapO y57v.2.2.2 enc3 enc69 s55v.2.2, Row 45 2 y57v.1 s55v.1.length y57v.2.1 rs58v.flatten, Row 45 2 y54v.1 s52v.1.length y54v.2.1 rs60v.flatten, Row 5 1 y40v.1 s38v.length y40v.2 (encB s38v), Row 5 1 y24v.1 s22v.length y24v.2 (encB s22v), RowV 45 2 (V45 tt) y21v.1 s19v.1 y21v.2.1, F]) rfl rfl rfl rfl rfl rfl Tryz.call12 (.sel 0 rfl (.sel 0 rfl (.sel 0 rfl (.sel 0 rfl (.sel 0 rfl (.sel 0 rfl (.sel 0 rfl (.sel 0 rfl (.sel 0 rfl (.sel 0 rfl (.sel 0 rfl (.sel 0 rfl (.sel 0 rfl (.sel 0 rfl (.sel 0 rfl (.sel 0 rfl (.sel 0 rfl (.sel 0 rfl (.nil _))))))))))))))))))) (synodref_SameBytes.calls _ _ k y103v.1 y103v.2 s101v a2 c2 x2 (hq104v.lend 0 rfl) hq105v hq106v (h2.lend 17 rfl) hc2 hm2) hs109v) rfl rfl rfl rfl rfl rfl ?_
 intro y110v
 refine vq (q_pick rfl rfl rfl rfl rfl) rfl (simL_nil ?_)
 exact nrm_cut (s := s108v) () ⟨rfl, trivial⟩ (.sel 17 rfl (.nil _))
 rw [hb112v]
 refine simL_skipd rfl rfl rfl rfl rfl rfl ?_
 refine simL_skipd rfl rfl rfl rfl rfl rfl ?_
 refine simL_skipd rfl rfl rfl rfl rfl rfl ?_
 refine simL_skipd rfl rfl rfl rfl rfl rfl ?_
 refine vq (q_pick rfl rfl rfl rfl rfl) rfl (simL_nil ?_)
 exact nrm_cut (s := false) () ⟨rfl, trivial⟩ (.sel 16 rfl (.nil _))
 intro s99v y100v
 refine va rfl rfl (simL_nil (nrm_then (sim_rtn ?_)))
 exact rtn_fn () rfl rfl rfl (.sel 0 rfl (.nil _))
 refine sr ?_
 refine vm rfl rfl ?_
 refine vm rfl rfl ?_
 refine simL_valc (b := s49v) (fun hb120v => RQ.sub (E' := [(14, .bool s70v)]) ⟨rfl, trivial⟩ (q_move rfl rfl)) rfl rfl rfl rfl rfl ?_
 refine vq (q_and rfl rfl rfl) rfl ?_
 refine vm rfl rfl ?_
 refine simL_valc (b := s49v && s70v) (fun hb119v => RQ.sub (E' := [(15, .bool s87v)]) ⟨rfl, trivial⟩ (q_move rfl rfl)) rfl rfl rfl rfl rfl ?_
 refine vq (q_and rfl rfl rfl) rfl ?_
 refine vm rfl rfl ?_
 refine simL_valc (b := (s49v && s70v) && s87v) (fun hb118v => RQ.sub (E' := [(16, .pointer (some ⟨y93v.1, 0, none⟩))]) ⟨rfl, trivial⟩ (q_move rfl rfl)) rfl rfl rfl rfl rfl ?_
 refine simL_valc (b := (s49v && s70v) && s87v) (fun hb117v => RQ.sub (E' := [(87, .pointer (some ⟨y93v.1, 0, none⟩))]) ⟨lk_cv rfl hb117v, trivial⟩ (q_eqp rfl rfl rfl Tryz.underlying26)) rfl rfl rfl rfl rfl ?_
 refine vq (q_and rfl rfl rfl) rfl ?_
 refine va rfl rfl (simL_nil (nrm_then (sim_rtn ?_)))
 refine rtn_then ?_
 exact rtn_fn () rfl rfl rfl (.sel 16 rfl (.nil _))
 refine simL_eff (re_call (vs := [.slice a2 x2.length c2]) (cap := []) (A := []) (rst := [Row 5 1 y78v.1 s76v.length y78v.2 (encB s76v), obj y18v.1 58 [.map (some y54v.2.2.1), .map (some y54v.2.2.2)], mapO y54v.2.2.1 enc9 enc9 s52v.2.1, mapO y54v.2.2.2 enc3 enc69 s52v.2.2, Row 5 1 y75v.1 s73v.length y75v.2 (encB s73v), obj y32v.1 58 [.map (some y57v.2.2.1), .map (some y57v.2.2.2)], mapO y57v.2.2.1 enc9 enc9 s55v.2.1, mapO y57v.2.2.2 enc3 enc69 s55v.2.2, Row 45 2 y57v.1 s55v.1.length y57v.2.1 rs58v.flatten, Row 45 2 y54v.1 s52v.1.length y54v.2.1 rs60v.flatten, Row 5 1 y40v.1 s38v.length y40v.2 (encB s38v), Row 5 1 y24v.1 s22v.length y24v.2 (encB s22v), RowV 45 2 (V45 tt) y21v.1 s19v.1 y21v.2.1, F]) rfl rfl rfl rfl rfl rfl Tryz.call10 (.sel 0 rfl (.sel 0 rfl (.sel 0 rfl (.sel 0 rfl (.sel 0 rfl (.sel 0 rfl (.sel 0 rfl (.sel 0 rfl (.sel 0 rfl (.sel 0 rfl (.sel 0 rfl (.sel 0 rfl (.sel 0 rfl (.sel 0 rfl (.nil _))))))))))))))) (kv_Restore.callsN _ _ k a2 c2 x2 (h2.lend 13 rfl) hc2 hm2) (filt_of hs91v (eq_false_of_ne_true hb92v))) rfl rfl rfl ?_
 intro y121v
 refine vm rfl rfl ?_
 refine vq (q_ext rfl rfl rfl) rfl ?_
 refine vq (q_ext rfl rfl rfl) rfl ?_
 refine va rfl rfl ?_
 refine va rfl rfl (simL_nil (nrm_then (sim_seq (sr ?_))))
 refine vm rfl rfl ?_
 refine simL_bind (fun s122v hs123v => ?_)
 refine simL_eff (re_call (vs := [.int .i64 s90v.2.2.2]) (cap := []) (A := []) (rst := [Row 5 1 y78v.1 s76v.length y78v.2 (encB s76v), obj y18v.1 58 [.map (some y54v.2.2.1), .map (some y54v.2.2.2)], mapO y54v.2.2.1 enc9 enc9 s52v.2.1, mapO y54v.2.2.2 enc3 enc69 s52v.2.2, Row 5 1 y75v.1 s73v.length y75v.2 (encB s73v), obj y32v.1 58 [.map (some y57v.2.2.1), .map (some y57v.2.2.2)], mapO y57v.2.2.1 enc9 enc9 s55v.2.1, mapO y57v.2.2.2 enc3 enc69 s55v.2.2, Row 45 2 y57v.1 s55v.1.length y57v.2.1 rs58v.flatten, Row 45 2 y54v.1 s52v.1.length y54v.2.1 rs60v.flatten, Row 5 1 y40v.1 s38v.length y40v.2 (encB s38v), Row 5 1 y24v.1 s22v.length y24v.2 (encB s22v), RowV 45 2 (V45 tt) y21v.1 s19v.1 y21v.2.1, F]) rfl rfl rfl rfl rfl rfl Tryz.call11 (.sel 0 rfl (.sel 0 rfl (.sel 0 rfl (.sel 0 rfl (.sel 0 rfl (.sel 0 rfl (.sel 0 rfl (.sel 0 rfl (.sel 0 rfl (.sel 0 rfl (.sel 0 rfl (.sel 0 rfl (.sel 0 rfl (.sel 0 rfl (.nil _))))))))))))))) (synodref_Num.calls _ _ s90v.2.2.2 ) hs123v) rfl rfl rfl ?_
 intro y124v
 refine vq (q_neq rfl rfl rfl) rfl (simL_nil (nrm_then ?_))
 refine sim_condn rfl (fun h125v => ?_) (fun h126v => ?_)
 refine sim_skip ?_
 refine nrm_then (sr ?_)
 refine vm rfl rfl ?_
 refine vm rfl rfl ?_
 refine simL_valc (b := s49v) (fun hb144v => RQ.sub (E' := [(14, .bool s70v)]) ⟨rfl, trivial⟩ (q_move rfl rfl)) rfl rfl rfl rfl rfl ?_
 refine vq (q_and rfl rfl rfl) rfl ?_
 refine vm rfl rfl ?_
 refine simL_valc (b := s49v && s70v) (fun hb143v => RQ.sub (E' := [(15, .bool s87v)]) ⟨rfl, trivial⟩ (q_move rfl rfl)) rfl rfl rfl rfl rfl ?_
 refine vq (q_and rfl rfl rfl) rfl ?_
 refine vm rfl rfl ?_
 refine simL_valc (b := (s49v && s70v) && s87v) (fun hb142v => RQ.sub (E' := [(16, .pointer none)]) ⟨rfl, trivial⟩ (q_move rfl rfl)) rfl rfl rfl rfl rfl ?_
 refine simL_valc (b := (s49v && s70v) && s87v) (fun hb141v => RQ.sub (E' := [(98, .pointer none)]) ⟨lk_cv rfl hb141v, trivial⟩ (q_nenn rfl rfl rfl Tryz.underlying26)) rfl rfl rfl rfl rfl ?_
 refine vq (q_and rfl rfl rfl) rfl ?_
 refine vm rfl rfl ?_
 refine simL_cut' 5 (S := Bool) (Unit) (fun s y => [(106, .bool s)]) (fun s y => [F]) ?_ ?_
 refine simL_caseb (fun hb139v => ?_) (fun hb140v => ?_)
 rw [hb139v]
 refine simL_valg (q_move rfl rfl) rfl rfl rfl rfl rfl rfl ?_
 refine simL_bind (fun s129v hs130v => ?_)
 refine simL_effg (re_call (vs := [.pointer none]) (cap := []) (A := []) (rst := [Row 5 1 y78v.1 s76v.length y78v.2 (encB s76v), obj y18v.1 58 [.map (some y54v.2.2.1), .map (some y54v.2.2.2)], mapO y54v.2.2.1 enc9 enc9 s52v.2.1, mapO y54v.2.2.2 enc3 enc69 s52v.2.2, Row 5 1 y75v.1 s73v.length y75v.2 (encB s73v), obj y32v.1 58 [.map (some y57v.2.2.1), .map (some y57v.2.2.2)], mapO y57v.2.2.1 enc9 enc9 s55v.2.1, mapO y57v.2.2.2 enc3 enc69 s55v.2.2, Row 45 2 y57v.1 s55v.1.length y57v.2.1 rs58v.flatten, Row 45 2 y54v.1 s52v.1.length y54v.2.1 rs60v.flatten, Row 5 1 y40v.1 s38v.length y40v.2 (encB s38v), Row 5 1 y24v.1 s22v.length y24v.2 (encB s22v), RowV 45 2 (V45 tt) y21v.1 s19v.1 y21v.2.1, F]) rfl rfl rfl rfl rfl rfl Tryz.call9 (.sel 0 rfl (.sel 0 rfl (.sel 0 rfl (.sel 0 rfl (.sel 0 rfl (.sel 0 rfl (.sel 0 rfl (.sel 0 rfl (.sel 0 rfl (.sel 0 rfl (.sel 0 rfl (.sel 0 rfl (.sel 0 rfl (.sel 0 rfl (.nil _))))))))))))))) (kv_Store_Snapshot_s.calls _ _  ) hs130v) rfl rfl rfl rfl rfl rfl ?_
 intro y131v
 refine simL_valg (q_move rfl rfl) rfl rfl rfl rfl rfl rfl ?_
 refine simL_bind (fun s136v hs137v => ?_)
 refine simL_lend 0 rfl (fun hq132v hq133v hq134v hq135v => ?_)
 refine simL_effg (re_call (vs := [.slice y131v.1 s129v.length y131v.2, .slice a2 x2.length c2]) (cap := []) (A := []) (rst := [Row 5 1 y131v.1 s129v.length y131v.2 (encB s129v), Row 5 1 y78v.1 s76v.length y78v.2 (encB s76v), obj y18v.1 58 [.map (some y54v.2.2.1), .map (some y54v.2.2.2)], mapO y54v.2.2.1 enc9 enc9 s52v.2.1, mapO y54v.2.2.2 enc3 enc69 s52v.2.2, Row 5 1 y75v.1 s73v.length y75v.2 (encB s73v), obj y32v.1 58 [.map (some y57v.2.2.1), .map (some y57v.2.2.2)], mapO y57v.2.2.1 enc9 enc9 s55v.2.1, mapO y57v.2.2.2 enc3 enc69 s55v.2.2, Row 45 2 y57v.1 s55v.1.length y57v.2.1 rs58v.flatten, Row 45 2 y54v.1 s52v.1.length y54v.2.1 rs60v.flatten, Row 5 1 y40v.1 s38v.length y40v.2 (encB s38v), Row 5 1 y24v.1 s22v.length y24v.2 (encB s22v), RowV 45 2 (V45 tt) y21v.1 s19v.1 y21v.2.1, F]) rfl rfl rfl rfl rfl rfl Tryz.call12 (.sel 0 rfl (.sel 0 rfl (.sel 0 rfl (.sel 0 rfl (.sel 0 rfl (.sel 0 rfl (.sel 0 rfl (.sel 0 rfl (.sel 0 rfl (.sel 0 rfl (.sel 0 rfl (.sel 0 rfl (.sel 0 rfl (.sel 0 rfl (.sel 0 rfl (.nil _)))))))))))))))) (synodref_SameBytes.calls _ _ k y131v.1 y131v.2 s129v a2 c2 x2 (hq132v.lend 0 rfl) hq133v hq134v (h2.lend 14 rfl) hc2 hm2) hs137v) rfl rfl rfl rfl rfl rfl ?_
 intro y138v
 refine vq (q_pick rfl rfl rfl rfl rfl) rfl (simL_nil ?_)
 exact nrm_cut (s := s136v) () ⟨rfl, trivial⟩ (.sel 14 rfl (.nil _))
 rw [hb140v]
 refine simL_skipd rfl rfl rfl rfl rfl rfl ?_
 refine simL_skipd rfl rfl rfl rfl rfl rfl ?_
 refine simL_skipd rfl rfl rfl rfl rfl rfl ?_
 refine simL_skipd rfl rfl rfl rfl rfl rfl ?_
 refine vq (q_pick rfl rfl rfl rfl rfl) rfl (simL_nil ?_)
 exact nrm_cut (s := false) () ⟨rfl, trivial⟩ (.sel 13 rfl (.nil _))
 intro s127v y128v
 refine va rfl rfl (simL_nil (nrm_then (sim_rtn ?_)))
 exact rtn_fn () rfl rfl rfl (.sel 0 rfl (.nil _))
 refine sr ?_
 refine vm rfl rfl ?_
 refine vm rfl rfl ?_
 refine simL_valc (b := s49v) (fun hb148v => RQ.sub (E' := [(14, .bool s70v)]) ⟨rfl, trivial⟩ (q_move rfl rfl)) rfl rfl rfl rfl rfl ?_
 refine vq (q_and rfl rfl rfl) rfl ?_
 refine vm rfl rfl ?_
 refine simL_valc (b := s49v && s70v) (fun hb147v => RQ.sub (E' := [(15, .bool s87v)]) ⟨rfl, trivial⟩ (q_move rfl rfl)) rfl rfl rfl rfl rfl ?_
 refine vq (q_and rfl rfl rfl) rfl ?_
 refine vm rfl rfl ?_
 refine simL_valc (b := (s49v && s70v) && s87v) (fun hb146v => RQ.sub (E' := [(16, .pointer none)]) ⟨rfl, trivial⟩ (q_move rfl rfl)) rfl rfl rfl rfl rfl ?_
 refine simL_valc (b := (s49v && s70v) && s87v) (fun hb145v => RQ.sub (E' := [(87, .pointer none)]) ⟨lk_cv rfl hb145v, trivial⟩ (q_eqnn rfl rfl rfl Tryz.underlying26)) rfl rfl rfl rfl rfl ?_
 refine vq (q_and rfl rfl rfl) rfl ?_
 refine va rfl rfl (simL_nil (nrm_then (sim_rtn ?_)))
 refine rtn_then ?_
 exact rtn_fn () rfl rfl rfl (.sel 13 rfl (.nil _))
 refine sr ?_
 refine va rfl rfl (simL_nil (nrm_then (sim_rtn ?_)))
 refine rtn_then ?_
 exact rtn_fn () rfl rfl rfl (.sel 8 rfl (.nil _))
 refine simL_lend 0 rfl (fun hq25v hq26v hq27v hq28v => ?_)
 refine simL_eff (re_call (vs := [.slice y24v.1 s22v.length y24v.2]) (cap := []) (A := []) (rst := [Row 5 1 y24v.1 s22v.length y24v.2 (encB s22v), obj y18v.1 58 [.map (some y21v.2.2.1), .map (some y21v.2.2.2)], mapO y21v.2.2.1 enc9 enc9 s19v.2.1, mapO y21v.2.2.2 enc3 enc69 s19v.2.2, RowV 45 2 (V45 tt) y21v.1 s19v.1 y21v.2.1, F]) rfl rfl rfl rfl rfl rfl Tryz.call10 (.sel 0 rfl (.sel 0 rfl (.sel 0 rfl (.sel 0 rfl (.sel 0 rfl (.sel 0 rfl (.nil _))))))) (kv_Restore.callsN _ _ k y24v.1 y24v.2 s22v (hq25v.lend 0 rfl) hq26v hq27v) (filt_of hs30v (eq_false_of_ne_true hb31v))) rfl rfl rfl ?_
 intro y149v
 refine vm rfl rfl ?_
 refine vq (q_ext rfl rfl rfl) rfl ?_
 refine vq (q_ext rfl rfl rfl) rfl ?_
 refine va rfl rfl ?_
 refine va rfl rfl (simL_nil (nrm_then (sim_seq (sr ?_))))
 refine vm rfl rfl ?_
 refine vq (q_eqnn rfl rfl rfl Tryz.underlying26) rfl ?_
 refine vm rfl rfl ?_
 refine simL_skipd rfl rfl rfl rfl rfl rfl ?_
 refine simL_skipd rfl rfl rfl rfl rfl rfl ?_
 refine simL_skipd rfl rfl rfl rfl rfl rfl ?_
 refine vq (q_pick rfl rfl rfl rfl rfl) rfl (simL_nil (nrm_then ?_))
 refine sim_true rfl ?_
 refine sr ?_
 refine va rfl rfl (simL_nil (nrm_then (sim_rtn ?_)))
 refine rtn_then ?_
 exact rtn_fn () rfl rfl rfl (.sel 5 rfl (.nil _))
end Go.Proofs.YtdaedoklkmdhcaaGreat

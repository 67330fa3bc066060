/- Printed by gen.py: pure functions and the proofs that the Go functions simulate them. Conditions: as each theorem says. -/
import Derived.Test.YtkkbgcocpkipjaaG2
namespace Go.Proofs.Ytkkbgcocpkipjaa
open Go.RowKit
set_option linter.unusedVariables false
set_option linter.unusedSimpArgs false
set_option maxRecDepth 20000
set_option maxHeartbeats 20000000
def synodlaw4_Does.l1 : Nat → List UInt8 → Int → Option (Unit)
  | 0, _, _ => none
  | k + 1, z174v, z175v => if z175v < (z174v.length : Int) then (if 0 ≤ z175v ∧ z175v < (z174v.length : Int) then (synodlaw4_Does.l1 k (z174v.set z175v.toNat 98) (IntKind.i64.wrap (z175v + 1))) else none) else (some ())
def synodlaw4_Does.l0 : Nat → List UInt8 → Int → Option (Unit)
  | 0, _, _ => none
  | k + 1, z42v, z43v => if z43v < (z42v.length : Int) then (if 0 ≤ z43v ∧ z43v < (z42v.length : Int) then (synodlaw4_Does.l0 k (z42v.set z43v.toNat 99) (IntKind.i64.wrap (z43v + 1))) else none) else (some ())
def synodlaw4_Does.f (k : Nat) (x0_0 : List ((List UInt8) × (List UInt8 × Int))) (x0_1 : List UInt8) (x0_2 : Int) (x0_3 : Bool) (x1_0 : List (Ty36)) (x1_1 : Int) (x1_2 : Bool) (x1_3 : List UInt8) (x2_0 : Int) (x2_1 : Int) (x2_2 : List UInt8) (x2_3 : List UInt8) (x2_4 : List UInt8) : Option (Bool × (List ((List UInt8) × (List UInt8 × Int))) × List UInt8 × Int × Bool × (List (Ty36)) × Int × Bool × List UInt8) := if x2_0 = (0 : Int) then ((disk_Disk_Create.f k x0_0 x0_1 x0_2 x0_3 x2_2).bind fun s6v => ((synodref4_Disk_Create.f k x1_0 x1_1 x1_2 x1_3 x2_2).bind fun s12v => (some (decide ((synodref_Num.v s6v.1) = s12v.1), s6v.2.1, s6v.2.2.1, s6v.2.2.2.1, s6v.2.2.2.2, s12v.2.1, s12v.2.2.1, s12v.2.2.2.1, s12v.2.2.2.2)))) else (if x2_0 = (1 : Int) then ((synodref_Lent.f x2_4).bind fun s21v => ((disk_Disk_Append.f x0_0 x0_1 x0_2 x0_3 x2_2 s21v.1).bind fun s28v => ((synodref_Kept.f k s21v.1 s21v.2 x2_4).bind fun s35v => ((synodlaw4_Does.l0 k s21v.1 0).bind fun s38v => ((synodref4_Disk_Append.f k x1_0 x1_1 x1_2 x1_3 x2_2 x2_4).bind fun s56v => (some ((decide ((synodref_Num.v s28v.1) = s56v.1)) && s35v, s28v.2.1, s28v.2.2.1, s28v.2.2.2.1, s28v.2.2.2.2, s56v.2.1, s56v.2.2.1, s56v.2.2.2.1, s56v.2.2.2.2))))))) else (if x2_0 = (2 : Int) then ((disk_Disk_Sync.f x0_0 x0_1 x0_2 x0_3 x2_2).bind fun s68v => ((synodref4_Disk_Sync.f k x1_0 x1_1 x1_2 x1_3 x2_2).bind fun s74v => (some (decide ((synodref_Num.v s68v.1) = s74v.1), s68v.2.1, s68v.2.2.1, s68v.2.2.2.1, s68v.2.2.2.2, s74v.2.1, s74v.2.2.1, s74v.2.2.2.1, s74v.2.2.2.2)))) else (if x2_0 = (3 : Int) then ((disk_Disk_Cut.f x0_0 x0_1 x0_2 x0_3 x2_2 x2_1).bind fun s85v => ((synodref4_Disk_Cut.f k x1_0 x1_1 x1_2 x1_3 x2_2 x2_1).bind fun s91v => (some (decide ((synodref_Num.v s85v.1) = s91v.1), s85v.2.1, s85v.2.2.1, s85v.2.2.2.1, s85v.2.2.2.2, s91v.2.1, s91v.2.2.1, s91v.2.2.2.1, s91v.2.2.2.2)))) else (if x2_0 = (4 : Int) then ((disk_Disk_Rename.f k x0_0 x0_1 x0_2 x0_3 x2_2 x2_3).bind fun s102v => ((synodref4_Disk_Rename.f k x1_0 x1_1 x1_2 x1_3 x2_2 x2_3).bind fun s108v => (some (decide ((synodref_Num.v s102v.1) = s108v.1), s102v.2.1, s102v.2.2.1, s102v.2.2.2.1, s102v.2.2.2.2, s108v.2.1, s108v.2.2.1, s108v.2.2.2.1, s108v.2.2.2.2)))) else (if x2_0 = (5 : Int) then ((disk_Disk_Remove.f x0_0 x0_1 x0_2 x0_3 x2_2).bind fun s119v => ((synodref4_Disk_Remove.f k x1_0 x1_1 x1_2 x1_3 x2_2).bind fun s125v => (some (decide ((synodref_Num.v s119v.1) = s125v.1), s119v.2.1, s119v.2.2.1, s119v.2.2.2.1, s119v.2.2.2.2, s125v.2.1, s125v.2.2.1, s125v.2.2.2.1, s125v.2.2.2.2)))) else (if x2_0 = (6 : Int) then ((disk_Disk_Arm.f x0_0 x0_1 x0_2 x0_3 x2_1).bind fun s134v => (some (true, x0_0, s134v.1, s134v.2.1, s134v.2.2, x1_0, max x2_1 (0 : Int), x1_2, x1_3))) else (if x2_0 = (7 : Int) then ((disk_Disk_Crash.f x0_0 x0_1 x0_2 x0_3 x2_1).bind fun s139v => ((synodref4_Disk_Crash.f k x1_0 x1_1 x1_2 x1_3 x2_1).bind fun s144v => (some (true, s139v.1, s139v.2.1, s139v.2.2.1, s139v.2.2.2, s144v.1, s144v.2.1, s144v.2.2.1, s144v.2.2.2)))) else ((disk_Disk_Read.f x0_0 x0_1 x0_2 x0_3 x2_2).bind fun s147v => ((synodref4_Disk_Read.f k x1_0 x1_1 x1_2 x1_3 x2_2).bind fun s156v => ((synodref_SameBytes.f k s147v.1 s156v.1).bind fun s167v => ((synodlaw4_Does.l1 k s147v.1 0).bind fun s170v => ((if s167v = true then ((synodref_Num.f s147v.2).bind fun s185v => (some (decide (s185v = s156v.2)))) else (some false)).bind fun s183v => ((if s183v = true then ((disk_Disk_Has.f x0_0 x0_1 x0_2 x0_3 x2_2).bind fun s192v => (some (s192v == (decide (s156v.2 = (0 : Int)))))) else (some false)).bind fun s190v => (some (s190v, x0_0, x0_1, x0_2, x0_3, x1_0, x1_1, x1_2, x1_3)))))))))))))))
theorem synodlaw4_Does.calls (W : World) (F : HA) (k : Nat) (b0 : Nat) (m0_0 : Nat) (q0_0 : Kps) (x0_0 : List ((List UInt8) × (List UInt8 × Int))) (x0_1 : List UInt8) (x0_2 : Int) (x0_3 : Bool) (b1 : Nat) (a1_0 : Option Addr) (c1_0 : Nat) (x1_0 : List (Ty36)) (z1_0 : HA) (x1_1 : Int) (x1_2 : Bool) (x1_3 : List UInt8) (x2_0 : Int) (x2_1 : Int) (x2_2 : List UInt8) (x2_3 : List UInt8) (a2_4 : Option Addr) (c2_4 : Nat) (x2_4 : List UInt8) (h2_4 : Rd F a2_4 (encB x2_4)) (hc2_4 : x2_4.length ≤ c2_4) (hm2_4 : c2_4 ≤ maxLen) :
    Fn Try.prog W 27 [.pointer (some ⟨b0, 0, none⟩), .pointer (some ⟨b1, 0, none⟩), .agg #[.int .i64 x2_0, .int .i64 x2_1, str x2_2, str x2_3, .slice a2_4 x2_4.length c2_4]] [obj b0 64 [.map (some m0_0), str x0_1, .int .i64 x0_2, .bool x0_3], mapF (mapO m0_0 enc9 encP q0_0) FA68 q0_0 x0_0, obj b1 29 [.slice a1_0 x1_0.length c1_0, .int .i64 x1_1, .bool x1_2, str x1_3], RowV 36 3 (V36 z1_0) a1_0 x1_0 c1_0, z1_0] F (synodlaw4_Does.f k x0_0 x0_1 x0_2 x0_3 x1_0 x1_1 x1_2 x1_3 x2_0 x2_1 x2_2 x2_3 x2_4) (fun (r : Bool × (List ((List UInt8) × (List UInt8 × Int))) × List UInt8 × Int × Bool × (List (Ty36)) × Int × Bool × List UInt8) (y : Nat × Kps × Option Addr × Nat × HA) => .bool r.1) (fun r y => [obj b0 64 [.map (some y.1), str r.2.2.1, .int .i64 r.2.2.2.1, .bool r.2.2.2.2.1], mapF (mapO y.1 enc9 encP y.2.1) FA68 y.2.1 r.2.1, obj b1 29 [.slice y.2.2.1 r.2.2.2.2.2.1.length y.2.2.2.1, .int .i64 r.2.2.2.2.2.2.1, .bool r.2.2.2.2.2.2.2.1, str r.2.2.2.2.2.2.2.2], RowV 36 3 (V36 (y.2.2.2.2)) y.2.2.1 r.2.2.2.2.2.1 y.2.2.2.1, y.2.2.2.2]) := by
 unfold synodlaw4_Does.f
 refine fn_intro 186 Try.func27 rfl Try.ntmps27 rfl ?_
 refine sr ?_
 refine simL_eff (re_box rfl rfl rfl) rfl rfl rfl ?_
 intro b1v
 refine va rfl rfl (simL_nil (nrm_then (sim_seq (sr ?_))))
 refine vq (q_fa rfl rfl Try.underlying52 rfl rfl Try.sizeOf3 rfl) rfl ?_
 refine vq (q_load rfl rfl Try.isAgg3 (.obj 0 rfl rfl)) rfl (simL_nil (nrm_then ?_))
 refine sim_block ?_
 refine sr ?_
 refine vq (q_eql rfl rfl rfl) rfl ?_
 refine va rfl rfl (simL_nil (nrm_then ?_))
 refine sim_cond rfl (fun h2v => ?_) (fun h3v => ?_)
 refine sim_seq ?_
 refine sim_openV 4 rfl (fun rs4v hl5v => ?_)
 refine sim_bind (fun s6v hs7v => ?_)
 refine sim_bind (fun s12v hs13v => ?_)
 refine sim_draw (Γ := (Nat × Kps) × (Option Addr × Nat × HA)) ((0, ([] : Kps)), (none, 0, tt)) [[], [], [1], [0, 1, 2], rL 4, [], [], [6], rL 8, rL 9, rL 10] [3, 8] [0, 1, 2, 4, 5, 6, 7, 9, 10] (fun i => [[0], [0], [0], [], [1], [0, 1], [0, 1], [0, 1], [], [2], [2]].getD i []) (fun i => [[], [], [], [0, 1, 2, 5, 6, 7], [], [], [], [], rL 8, [], []].getD i []) (fun γ i => [.pointer (some ⟨b0, 0, none⟩), .pointer (some ⟨b1v, 2, none⟩), str x2_2, .int .i64 s6v.1, .int .i64 (synodref_Num.v s6v.1), .pointer (some ⟨b1, 0, none⟩), .pointer (some ⟨b1v, 2, none⟩), str x2_2, .int .i64 s12v.1, .bool (decide ((synodref_Num.v s6v.1) = s12v.1)), .bool (decide ((synodref_Num.v s6v.1) = s12v.1))].getD i undef) (fun j γ => [[obj b1v 52 [.int .i64 x2_0, .int .i64 x2_1, str x2_2, str x2_3, .slice a2_4 x2_4.length c2_4], obj b0 64 [.map (some m0_0), str x0_1, .int .i64 x0_2, .bool x0_3], mapF (mapO m0_0 enc9 encP q0_0) FA68 q0_0 x0_0, obj b1 29 [.slice a1_0 x1_0.length c1_0, .int .i64 x1_1, .bool x1_2, str x1_3], Row 36 3 a1_0 x1_0.length c1_0 rs4v.flatten, z1_0, F], [obj b0 64 [.map (some γ.1.1), str s6v.2.2.1, .int .i64 s6v.2.2.2.1, .bool s6v.2.2.2.2], mapF (mapO γ.1.1 enc9 encP γ.1.2) FA68 γ.1.2 s6v.2.1, obj b1v 52 [.int .i64 x2_0, .int .i64 x2_1, str x2_2, str x2_3, .slice a2_4 x2_4.length c2_4], obj b1 29 [.slice a1_0 x1_0.length c1_0, .int .i64 x1_1, .bool x1_2, str x1_3], Row 36 3 a1_0 x1_0.length c1_0 rs4v.flatten, z1_0, F], [obj b1 29 [.slice γ.2.1 s12v.2.1.length γ.2.2.1, .int .i64 s12v.2.2.1, .bool s12v.2.2.2.1, str s12v.2.2.2.2], RowV 36 3 (V36 (γ.2.2.2)) γ.2.1 s12v.2.1 γ.2.2.1, γ.2.2.2, obj b0 64 [.map (some γ.1.1), str s6v.2.2.1, .int .i64 s6v.2.2.2.1, .bool s6v.2.2.2.2], mapF (mapO γ.1.1 enc9 encP γ.1.2) FA68 γ.1.2 s6v.2.1, obj b1v 52 [.int .i64 x2_0, .int .i64 x2_1, str x2_2, str x2_3, .slice a2_4 x2_4.length c2_4], F]].getD j []) (fun γ => [(6, .bool (decide ((synodref_Num.v s6v.1) = s12v.1)))]) mixed (by decide) (by decide) (by decide) (by decide) (by decide) (by decide) (by decide) 186 rfl (by decide) (by decide) (by decide) (Ent.refl _) ?_ ?_ (fun _ => ⟨rfl, trivial⟩) ?_
 exact (aq rfl (fun γ => qm rfl (.o (s := 0) rfl (by decide) .nil) rfl) (aq rfl (fun γ => qp rfl rfl (.o (s := 5) rfl (by decide) .nil) (q_fa rfl rfl Try.underlying52 rfl rfl Try.sizeOf9 rfl) rfl) (aq rfl (fun γ => qp rfl rfl (.v 1 rfl rfl .nil) (q_load rfl rfl Try.isAgg9 (.obj 0 rfl rfl)) rfl) (aq rfl (fun γ => qp rfl rfl (.v 3 rfl rfl .nil) (RE.rq (re_call (vs := [.int .i64 s6v.1]) (cap := []) (A := []) (rst := [obj b0 64 [.map (some γ.1.1), str s6v.2.2.1, .int .i64 s6v.2.2.2.1, .bool s6v.2.2.2.2], mapF (mapO γ.1.1 enc9 encP γ.1.2) FA68 γ.1.2 s6v.2.1, obj b1v 52 [.int .i64 x2_0, .int .i64 x2_1, str x2_2, str x2_3, .slice a2_4 x2_4.length c2_4], obj b1 29 [.slice a1_0 x1_0.length c1_0, .int .i64 x1_1, .bool x1_2, str x1_3], Row 36 3 a1_0 x1_0.length c1_0 rs4v.flatten, z1_0, F]) rfl rfl rfl rfl rfl rfl Try.call11 (.sel 0 rfl (.sel 0 rfl (.sel 0 rfl (.sel 0 rfl (.sel 0 rfl (.sel 0 rfl (.sel 0 rfl (.nil _)))))))) (synodref_Num.calls _ _ s6v.1 ) (synodref_Num.tot s6v.1)) (fun _ => rfl) (fun _ => (.sel 0 rfl (.sel 0 rfl (.sel 0 rfl (.sel 0 rfl (.sel 0 rfl (.sel 0 rfl (.sel 0 rfl (.nil _)))))))))) rfl) (ac (fun γ => (ac (qm rfl (.o (s := 1) rfl (by decide) .nil) rfl) (ac (qm rfl (.o (s := 1) rfl (by decide) .nil) rfl) zA))) (ac (fun γ => (ac (qp rfl rfl (.o (s := 5) rfl (by decide) .nil) (q_fa rfl rfl Try.underlying52 rfl rfl Try.sizeOf9 rfl) rfl) (ac (qp rfl rfl (.o (s := 5) rfl (by decide) .nil) (q_fa rfl rfl Try.underlying52 rfl rfl Try.sizeOf9 rfl) rfl) zA))) (ac (fun γ => (ac (qp rfl rfl (.v 6 rfl rfl .nil) (q_load rfl rfl Try.isAgg9 (.obj 0 rfl rfl)) rfl) (ac (qp rfl rfl (.v 6 rfl rfl .nil) (q_load rfl rfl Try.isAgg9 (.obj 2 rfl rfl)) rfl) zA))) (aq rfl (fun γ => qp rfl rfl (.v 4 rfl rfl (.v 8 rfl rfl .nil)) (q_eql rfl rfl rfl) rfl) (aq rfl (fun γ => qp rfl rfl (.v 9 rfl rfl .nil) (q_asg rfl rfl) rfl) zA)))))))))
 exact (ac (fun γ => eo (Z := Nat × Kps) (fun z => (z, γ.2)) rfl rfl (.v 0 rfl rfl (.v 2 rfl rfl .nil)) (re_call (vs := [.pointer (some ⟨b0, 0, none⟩), str x2_2]) (cap := []) (A := [obj b0 64 [.map (some m0_0), str x0_1, .int .i64 x0_2, .bool x0_3], mapF (mapO m0_0 enc9 encP q0_0) FA68 q0_0 x0_0]) (rst := [obj b1v 52 [.int .i64 x2_0, .int .i64 x2_1, str x2_2, str x2_3, .slice a2_4 x2_4.length c2_4], obj b1 29 [.slice a1_0 x1_0.length c1_0, .int .i64 x1_1, .bool x1_2, str x1_3], Row 36 3 a1_0 x1_0.length c1_0 rs4v.flatten, z1_0, F]) rfl rfl rfl rfl rfl rfl Try.call12 (.sel 1 rfl (.sel 1 rfl (.sel 0 rfl (.sel 0 rfl (.sel 0 rfl (.sel 0 rfl (.sel 0 rfl (.nil _)))))))) (disk_Disk_Create.calls _ _ k b0 m0_0 q0_0 x0_0 x0_1 x0_2 x0_3 x2_2 ) hs7v) (fun _ => ⟨rfl, rfl, rfl, rfl, rfl, rfl, trivial⟩) (fun _ => .inr rfl) (fun z => Ent.refl _)) (ac (fun γ => eo (Z := Option Addr × Nat × HA) (fun z => (γ.1, z)) rfl rfl (.v 5 rfl rfl (.v 7 rfl rfl .nil)) (re_call (vs := [.pointer (some ⟨b1, 0, none⟩), str x2_2]) (cap := []) (A := [obj b1 29 [.slice a1_0 x1_0.length c1_0, .int .i64 x1_1, .bool x1_2, str x1_3], RowV 36 3 (V36 z1_0) a1_0 x1_0 c1_0, z1_0]) (rst := [obj b0 64 [.map (some γ.1.1), str s6v.2.2.1, .int .i64 s6v.2.2.2.1, .bool s6v.2.2.2.2], mapF (mapO γ.1.1 enc9 encP γ.1.2) FA68 γ.1.2 s6v.2.1, obj b1v 52 [.int .i64 x2_0, .int .i64 x2_1, str x2_2, str x2_3, .slice a2_4 x2_4.length c2_4], F]) rfl rfl rfl rfl rfl rfl Try.call13 (.sel 3 rfl (.sel' 3 rfl (RowV.mk hl5v) (.sel 3 rfl (.sel 0 rfl (.sel 0 rfl (.sel 0 rfl (.sel 0 rfl (.nil _)))))))) (synodref4_Disk_Create.calls _ _ k b1 a1_0 c1_0 x1_0 z1_0 x1_1 x1_2 x1_3 x2_2 ) hs13v) (fun _ => ⟨rfl, rfl, rfl, rfl, rfl, rfl, rfl, rfl, trivial⟩) (fun _ => .inr rfl) (fun z => Ent.refl _)) zA))
 intro g18v
 refine nrm_then (sim_rtn ?_)
 refine rtn_block ?_
 refine rtn_then ?_
 exact rtn_fn (g18v.1.1, g18v.1.2, g18v.2.1, g18v.2.2.1, g18v.2.2.2) rfl rfl rfl (.sel 3 rfl (.sel 3 rfl (.sel 0 rfl (.sel 0 rfl (.sel 0 rfl (.sel 1 rfl (.nil _)))))))
 refine sr ?_
 refine vq (q_eql rfl rfl rfl) rfl ?_
 refine va rfl rfl (simL_nil (nrm_then ?_))
 refine sim_cond rfl (fun h19v => ?_) (fun h20v => ?_)
 refine sr ?_
 refine vq (q_fa rfl rfl Try.underlying52 rfl rfl Try.sizeOf34 rfl) rfl ?_
 refine vq (q_load rfl rfl Try.isAgg34 (.obj 0 rfl rfl)) rfl ?_
 refine simL_bind (fun s21v hs22v => ?_)
 refine simL_eff (re_call (vs := [.slice a2_4 x2_4.length c2_4]) (cap := []) (A := []) (rst := [obj b1v 52 [.int .i64 x2_0, .int .i64 x2_1, str x2_2, str x2_3, .slice a2_4 x2_4.length c2_4], obj b0 64 [.map (some m0_0), str x0_1, .int .i64 x0_2, .bool x0_3], mapF (mapO m0_0 enc9 encP q0_0) FA68 q0_0 x0_0, obj b1 29 [.slice a1_0 x1_0.length c1_0, .int .i64 x1_1, .bool x1_2, str x1_3], RowV 36 3 (V36 z1_0) a1_0 x1_0 c1_0, z1_0, F]) rfl rfl rfl rfl rfl rfl Try.call48 (.sel 0 rfl (.sel 0 rfl (.sel 0 rfl (.sel 0 rfl (.sel 0 rfl (.sel 0 rfl (.sel 0 rfl (.nil _)))))))) (synodref_Lent.calls _ _ a2_4 c2_4 x2_4 (h2_4.lend 6 rfl) hc2_4 hm2_4) hs22v) rfl rfl rfl ?_
 intro y23v
 refine va rfl rfl (nx ?_)
 refine vm rfl rfl ?_
 refine vq (q_fa rfl rfl Try.underlying52 rfl rfl Try.sizeOf9 rfl) rfl ?_
 refine vq (q_load rfl rfl Try.isAgg9 (.obj 1 rfl rfl)) rfl ?_
 refine vm rfl rfl ?_
 refine simL_bind (fun s28v hs29v => ?_)
 refine simL_lend 0 rfl (fun hq24v hq25v hq26v hq27v => ?_)
 refine simL_eff (re_call (vs := [.pointer (some ⟨b0, 0, none⟩), str x2_2, .slice y23v.1 s21v.1.length y23v.2]) (cap := []) (A := [obj b0 64 [.map (some m0_0), str x0_1, .int .i64 x0_2, .bool x0_3], mapF (mapO m0_0 enc9 encP q0_0) FA68 q0_0 x0_0]) (rst := [Row 5 1 y23v.1 s21v.1.length y23v.2 (encB (s21v.1 ++ s21v.2)), obj b1v 52 [.int .i64 x2_0, .int .i64 x2_1, str x2_2, str x2_3, .slice a2_4 x2_4.length c2_4], obj b1 29 [.slice a1_0 x1_0.length c1_0, .int .i64 x1_1, .bool x1_2, str x1_3], RowV 36 3 (V36 z1_0) a1_0 x1_0 c1_0, z1_0, F]) rfl rfl rfl rfl rfl rfl Try.call14 (.sel 2 rfl (.sel 2 rfl (.sel 0 rfl (.sel 0 rfl (.sel 0 rfl (.sel 0 rfl (.sel 0 rfl (.sel 0 rfl (.nil _))))))))) (disk_Disk_Append.calls _ _ b0 m0_0 q0_0 x0_0 x0_1 x0_2 x0_3 x2_2 y23v.1 y23v.2 s21v.1 ((rd_front hq24v).lend 0 rfl) hq25v hq26v) hs29v) rfl rfl rfl ?_
 intro y30v
 refine va rfl rfl (nx ?_)
 refine vm rfl rfl ?_
 refine vq (q_fa rfl rfl Try.underlying52 rfl rfl Try.sizeOf34 rfl) rfl ?_
 refine vq (q_load rfl rfl Try.isAgg34 (.obj 3 rfl rfl)) rfl ?_
 refine simL_bind (fun s35v hs36v => ?_)
 refine simL_lendt 2 rfl (fun hq31v hq32v hq33v => ?_)
 refine simL_eff (re_call (vs := [.slice y23v.1 s21v.1.length y23v.2, .slice a2_4 x2_4.length c2_4]) (cap := []) (A := []) (rst := [obj b0 64 [.map (some y30v.1), str s28v.2.2.1, .int .i64 s28v.2.2.2.1, .bool s28v.2.2.2.2], mapF (mapO y30v.1 enc9 encP y30v.2) FA68 y30v.2 s28v.2.1, Row 5 1 y23v.1 s21v.1.length y23v.2 (encB (s21v.1 ++ s21v.2)), obj b1v 52 [.int .i64 x2_0, .int .i64 x2_1, str x2_2, str x2_3, .slice a2_4 x2_4.length c2_4], obj b1 29 [.slice a1_0 x1_0.length c1_0, .int .i64 x1_1, .bool x1_2, str x1_3], RowV 36 3 (V36 z1_0) a1_0 x1_0 c1_0, z1_0, F]) rfl rfl rfl rfl rfl rfl Try.call49 (.sel 0 rfl (.sel 0 rfl (.sel 0 rfl (.sel 0 rfl (.sel 0 rfl (.sel 0 rfl (.sel 0 rfl (.sel 0 rfl (.nil _))))))))) (synodref_Kept.calls _ _ k y23v.1 y23v.2 s21v.1 s21v.2 a2_4 c2_4 x2_4 (hq31v.lend 2 rfl) (by rw [encB_length, Nat.mul_one] at hq32v; exact hq32v) hq33v (h2_4.lend 7 rfl) hc2_4 hm2_4) hs36v) rfl rfl rfl ?_
 intro y37v
 refine va rfl rfl (simL_nil (nrm_then ?_))
 refine sim_cut (S := Unit) (Unit) (fun s y => [(1, .pointer (some ⟨b1, 0, none⟩)), (5, .pointer (some ⟨b1v, 0, none⟩)), (8, .int .i64 s28v.1), (9, .bool s35v)]) (fun s y => [obj b0 64 [.map (some y30v.1), str s28v.2.2.1, .int .i64 s28v.2.2.2.1, .bool s28v.2.2.2.2], obj b1v 52 [.int .i64 x2_0, .int .i64 x2_1, str x2_2, str x2_3, .slice a2_4 x2_4.length c2_4], obj b1 29 [.slice a1_0 x1_0.length c1_0, .int .i64 x1_1, .bool x1_2, str x1_3], mapF (mapO y30v.1 enc9 encP y30v.2) FA68 y30v.2 s28v.2.1, RowV 36 3 (V36 (z1_0)) a1_0 x1_0 c1_0, z1_0, F]) ?_ ?_
 refine sr ?_
 refine va rfl rfl (simL_nil (nrm_then ?_))
 refine sim_block ?_
 refine sim_loop (S := List UInt8 × Int) (Unit) (fun k s => synodlaw4_Does.l0 k s.1 s.2) (fun s y => [(1, .pointer (some ⟨b1, 0, none⟩)), (5, .pointer (some ⟨b1v, 0, none⟩)), (7, .slice y23v.1 s.1.length y23v.2), (8, .int .i64 s28v.1), (9, .bool s35v), (10, .int .i64 s.2)]) (fun s y => [obj b0 64 [.map (some y30v.1), str s28v.2.2.1, .int .i64 s28v.2.2.2.1, .bool s28v.2.2.2.2], obj b1v 52 [.int .i64 x2_0, .int .i64 x2_1, str x2_2, str x2_3, .slice a2_4 x2_4.length c2_4], obj b1 29 [.slice a1_0 x1_0.length c1_0, .int .i64 x1_1, .bool x1_2, str x1_3], Row 5 1 y23v.1 s.1.length y23v.2 (encB (s.1 ++ s21v.2)), mapF (mapO y30v.1 enc9 encP y30v.2) FA68 y30v.2 s28v.2.1, RowV 36 3 (V36 (z1_0)) a1_0 x1_0 c1_0, z1_0, F]) (fun _ => by rw [synodlaw4_Does.l0]) ?_ k (s21v.1, 0) () ⟨rfl, rfl, rfl, rfl, rfl, rfl, trivial⟩ (.sel 0 rfl (.sel 2 rfl (.sel 2 rfl (.sel 1 rfl (.sel 0 rfl (.sel 0 rfl (.sel 0 rfl (.sel 0 rfl (.nil _)))))))))
 intro k s40v y41v
 refine sim_eq (by rw [synodlaw4_Does.l0]) ?_
 refine sim_seq (sr ?_)
 refine vm rfl rfl ?_
 refine vm rfl rfl ?_
 refine vq (q_len rfl rfl rfl Try.underlying34) rfl ?_
 refine vq (q_lss rfl rfl rfl) rfl (simL_nil (nrm_then ?_))
 refine sim_cond rfl (fun h44v => ?_) (fun h45v => ?_)
 refine sim_skip ?_
 refine nrm_then (sim_seq ?_)
 refine sim_block ?_
 refine sim_region ?_
 refine vm rfl rfl ?_
 refine vm rfl rfl ?_
 refine simL_ask (fun hi46v => ?_)
 refine simL_row 3 rfl (encB_ne (j := s40v.2.toNat) (by rw [List.length_append]; omega)) (fun b47v b47vo ha48v => ?_)
 refine vq (q_idx1 rfl rfl rfl ha48v Try.underlying34 Try.sizeOf5 hi46v.1 hi46v.2) rfl ?_
 refine simL_do (re_storebk 99 3 rfl rfl rfl Try.sizeOf5 rfl ha48v hi46v.2 hi46v.1 rfl) rfl rfl ?_
 intro _
 refine simL_ren (.slice y23v.1 ((s40v.1.set s40v.2.toNat 99).length) y23v.2) (d := 7) rfl (slc_len (by simp)) ?_
 refine simL_ren (.slice y23v.1 ((s40v.1.set s40v.2.toNat 99).length) y23v.2) (d := 46) rfl (slc_len (by simp)) ?_
 refine simL_ren (.slice y23v.1 ((s40v.1.set s40v.2.toNat 99).length) y23v.2) (d := 51) rfl (slc_len (by simp)) ?_
 refine simL_nil (nrm_block (nrm_then (sim_region ?_)))
 refine vm rfl rfl ?_
 refine vq (q_add rfl rfl rfl) rfl ?_
 refine va rfl rfl (simL_nil ?_)
 exact nrm_again (s := (s40v.1.set s40v.2.toNat 99, IntKind.i64.wrap (s40v.2 + 1))) () ⟨rfl, rfl, rfl, rfl, rfl, rfl, trivial⟩ (.sel 0 rfl (.sel 0 rfl (.sel 0 rfl (.sel 0 rfl (.sel 0 rfl (.sel 0 rfl (.sel 0 rfl (.sel 0 rfl (.nil _)))))))))
 refine sim_exi ?_
 refine exi_then ?_
 refine exi_loop ?_
 refine exi_here ?_
 exact nrm_cut (s := ()) () ⟨rfl, rfl, rfl, rfl, trivial⟩ (.sel 0 rfl (.sel 0 rfl (.sel 0 rfl (.sel 1 rfl (.sel 1 rfl (.sel 1 rfl (.sel 1 rfl (.nil _))))))))
 intro s38v y39v
 refine sim_seq ?_
 refine sim_openV 4 rfl (fun rs51v hl52v => ?_)
 refine sim_bind (fun s56v hs57v => ?_)
 refine sim_draw (Γ := (Option Addr × Nat × HA)) (none, 0, tt) [[], [0], [], [], [3], [], [5], rL 7, rL 8, rL 9, rL 10, rL 11, rL 12] [7] [0, 1, 2, 3, 4, 5, 6, 8, 9, 10, 11, 12] (fun i => [[0], [0], [0], [0], [0], [0], [0], [], [1], [1], [1], [1], [1]].getD i []) (fun i => [[], [], [], [], [], [], [], rL 7, [], [], [], [], []].getD i []) (fun γ i => [.int .i64 s28v.1, .int .i64 (synodref_Num.v s28v.1), .pointer (some ⟨b1, 0, none⟩), .pointer (some ⟨b1v, 2, none⟩), str x2_2, .pointer (some ⟨b1v, 4, none⟩), .slice a2_4 x2_4.length c2_4, .int .i64 s56v.1, .bool (decide ((synodref_Num.v s28v.1) = s56v.1)), .bool (decide ((synodref_Num.v s28v.1) = s56v.1)), cv ((decide ((synodref_Num.v s28v.1) = s56v.1)) == true) (.bool s35v), .bool ((decide ((synodref_Num.v s28v.1) = s56v.1)) && s35v), .bool ((decide ((synodref_Num.v s28v.1) = s56v.1)) && s35v)].getD i undef) (fun j γ => [[obj b0 64 [.map (some y30v.1), str s28v.2.2.1, .int .i64 s28v.2.2.2.1, .bool s28v.2.2.2.2], obj b1v 52 [.int .i64 x2_0, .int .i64 x2_1, str x2_2, str x2_3, .slice a2_4 x2_4.length c2_4], obj b1 29 [.slice a1_0 x1_0.length c1_0, .int .i64 x1_1, .bool x1_2, str x1_3], mapF (mapO y30v.1 enc9 encP y30v.2) FA68 y30v.2 s28v.2.1, Row 36 3 a1_0 x1_0.length c1_0 rs51v.flatten, z1_0, F], [obj b1 29 [.slice γ.1 s56v.2.1.length γ.2.1, .int .i64 s56v.2.2.1, .bool s56v.2.2.2.1, str s56v.2.2.2.2], RowV 36 3 (V36 (γ.2.2)) γ.1 s56v.2.1 γ.2.1, γ.2.2, obj b0 64 [.map (some y30v.1), str s28v.2.2.1, .int .i64 s28v.2.2.2.1, .bool s28v.2.2.2.2], obj b1v 52 [.int .i64 x2_0, .int .i64 x2_1, str x2_2, str x2_3, .slice a2_4 x2_4.length c2_4], mapF (mapO y30v.1 enc9 encP y30v.2) FA68 y30v.2 s28v.2.1, F]].getD j []) (fun γ => [(6, .bool ((decide ((synodref_Num.v s28v.1) = s56v.1)) && s35v))]) mixed (by decide) (by decide) (by decide) (by decide) (by decide) (by decide) (by decide) 186 rfl (by decide) (by decide) (by decide) (Ent.refl _) ?_ ?_ (fun _ => ⟨rfl, trivial⟩) ?_
 exact (aq rfl (fun γ => qm rfl (.o (s := 8) rfl (by decide) .nil) rfl) (aq rfl (fun γ => qp rfl rfl (.v 0 rfl rfl .nil) (RE.rq (re_call (vs := [.int .i64 s28v.1]) (cap := []) (A := []) (rst := [obj b0 64 [.map (some y30v.1), str s28v.2.2.1, .int .i64 s28v.2.2.2.1, .bool s28v.2.2.2.2], obj b1v 52 [.int .i64 x2_0, .int .i64 x2_1, str x2_2, str x2_3, .slice a2_4 x2_4.length c2_4], obj b1 29 [.slice a1_0 x1_0.length c1_0, .int .i64 x1_1, .bool x1_2, str x1_3], mapF (mapO y30v.1 enc9 encP y30v.2) FA68 y30v.2 s28v.2.1, Row 36 3 a1_0 x1_0.length c1_0 rs51v.flatten, z1_0, F]) rfl rfl rfl rfl rfl rfl Try.call11 (.sel 0 rfl (.sel 0 rfl (.sel 0 rfl (.sel 0 rfl (.sel 0 rfl (.sel 0 rfl (.sel 0 rfl (.nil _)))))))) (synodref_Num.calls _ _ s28v.1 ) (synodref_Num.tot s28v.1)) (fun _ => rfl) (fun _ => (.sel 0 rfl (.sel 0 rfl (.sel 0 rfl (.sel 0 rfl (.sel 0 rfl (.sel 0 rfl (.sel 0 rfl (.nil _)))))))))) rfl) (aq rfl (fun γ => qm rfl (.o (s := 1) rfl (by decide) .nil) rfl) (aq rfl (fun γ => qp rfl rfl (.o (s := 5) rfl (by decide) .nil) (q_fa rfl rfl Try.underlying52 rfl rfl Try.sizeOf9 rfl) rfl) (aq rfl (fun γ => qp rfl rfl (.v 3 rfl rfl .nil) (q_load rfl rfl Try.isAgg9 (.obj 1 rfl rfl)) rfl) (aq rfl (fun γ => qp rfl rfl (.o (s := 5) rfl (by decide) .nil) (q_fa rfl rfl Try.underlying52 rfl rfl Try.sizeOf34 rfl) rfl) (aq rfl (fun γ => qp rfl rfl (.v 5 rfl rfl .nil) (q_load rfl rfl Try.isAgg34 (.obj 1 rfl rfl)) rfl) (aq rfl (fun γ => qp rfl rfl (.v 1 rfl rfl (.v 7 rfl rfl .nil)) (q_eql rfl rfl rfl) rfl) (aq rfl (fun γ => qm rfl (.v 8 rfl rfl .nil) rfl) (aq rfl (fun γ => QOb.grd (b := decide ((synodref_Num.v s28v.1) = s56v.1)) [(9, .bool s35v), (63, .bool (decide ((synodref_Num.v s28v.1) = s56v.1)))] rfl rfl rfl rfl (.o (s := 9) rfl (by decide) (.v 9 rfl rfl .nil)) (fun hb62v => RQ.sub (E' := [(9, .bool s35v)]) ⟨rfl, trivial⟩ (q_move rfl rfl)) rfl) (aq rfl (fun γ => qp rfl rfl (.v 9 rfl rfl (.v 10 rfl rfl .nil)) (q_and rfl rfl rfl) rfl) (aq rfl (fun γ => qp rfl rfl (.v 11 rfl rfl .nil) (q_asg rfl rfl) rfl) zA))))))))))))
 exact (ac (fun γ => eo (Z := Option Addr × Nat × HA) (fun z => z) rfl rfl (.v 2 rfl rfl (.v 4 rfl rfl (.v 6 rfl rfl .nil))) (re_call (vs := [.pointer (some ⟨b1, 0, none⟩), str x2_2, .slice a2_4 x2_4.length c2_4]) (cap := []) (A := [obj b1 29 [.slice a1_0 x1_0.length c1_0, .int .i64 x1_1, .bool x1_2, str x1_3], RowV 36 3 (V36 (z1_0)) a1_0 x1_0 c1_0, z1_0]) (rst := [obj b0 64 [.map (some y30v.1), str s28v.2.2.1, .int .i64 s28v.2.2.2.1, .bool s28v.2.2.2.2], obj b1v 52 [.int .i64 x2_0, .int .i64 x2_1, str x2_2, str x2_3, .slice a2_4 x2_4.length c2_4], mapF (mapO y30v.1 enc9 encP y30v.2) FA68 y30v.2 s28v.2.1, F]) rfl rfl rfl rfl rfl rfl Try.call15 (.sel 2 rfl (.sel' 3 rfl (RowV.mk hl52v) (.sel 3 rfl (.sel 0 rfl (.sel 0 rfl (.sel 0 rfl (.sel 0 rfl (.nil _)))))))) (synodref4_Disk_Append.calls _ _ k b1 a1_0 c1_0 x1_0 z1_0 x1_1 x1_2 x1_3 x2_2 a2_4 c2_4 x2_4 (h2_4.lend 3 rfl) hc2_4 hm2_4) hs57v) (fun _ => ⟨rfl, rfl, rfl, rfl, rfl, rfl, rfl, trivial⟩) (fun _ => .inr rfl) (fun z => Ent.refl _)) zA)
 intro g63v
 refine nrm_then (sim_rtn ?_)
 refine rtn_block ?_
 refine rtn_then ?_
 exact rtn_fn (y30v.1, y30v.2, g63v.1, g63v.2.1, g63v.2.2) rfl rfl rfl (.sel 3 rfl (.sel 4 rfl (.sel 0 rfl (.sel 0 rfl (.sel 0 rfl (.sel 1 rfl (.nil _)))))))
 refine sr ?_
 refine vq (q_eql rfl rfl rfl) rfl ?_
 refine va rfl rfl (simL_nil (nrm_then ?_))
 refine sim_cond rfl (fun h64v => ?_) (fun h65v => ?_)
 refine sim_seq ?_
 refine sim_openV 4 rfl (fun rs66v hl67v => ?_)
 refine sim_bind (fun s68v hs69v => ?_)
 refine sim_bind (fun s74v hs75v => ?_)
 refine sim_draw (Γ := (Nat × Kps) × (Option Addr × Nat × HA)) ((0, ([] : Kps)), (none, 0, tt)) [[], [], [1], [0, 1, 2], rL 4, [], [], [6], rL 8, rL 9, rL 10] [3, 8] [0, 1, 2, 4, 5, 6, 7, 9, 10] (fun i => [[0], [0], [0], [], [1], [0, 1], [0, 1], [0, 1], [], [2], [2]].getD i []) (fun i => [[], [], [], [0, 1, 2, 5, 6, 7], [], [], [], [], rL 8, [], []].getD i []) (fun γ i => [.pointer (some ⟨b0, 0, none⟩), .pointer (some ⟨b1v, 2, none⟩), str x2_2, .int .i64 s68v.1, .int .i64 (synodref_Num.v s68v.1), .pointer (some ⟨b1, 0, none⟩), .pointer (some ⟨b1v, 2, none⟩), str x2_2, .int .i64 s74v.1, .bool (decide ((synodref_Num.v s68v.1) = s74v.1)), .bool (decide ((synodref_Num.v s68v.1) = s74v.1))].getD i undef) (fun j γ => [[obj b1v 52 [.int .i64 x2_0, .int .i64 x2_1, str x2_2, str x2_3, .slice a2_4 x2_4.length c2_4], obj b0 64 [.map (some m0_0), str x0_1, .int .i64 x0_2, .bool x0_3], mapF (mapO m0_0 enc9 encP q0_0) FA68 q0_0 x0_0, obj b1 29 [.slice a1_0 x1_0.length c1_0, .int .i64 x1_1, .bool x1_2, str x1_3], Row 36 3 a1_0 x1_0.length c1_0 rs66v.flatten, z1_0, F], [obj b0 64 [.map (some γ.1.1), str s68v.2.2.1, .int .i64 s68v.2.2.2.1, .bool s68v.2.2.2.2], mapF (mapO γ.1.1 enc9 encP γ.1.2) FA68 γ.1.2 s68v.2.1, obj b1v 52 [.int .i64 x2_0, .int .i64 x2_1, str x2_2, str x2_3, .slice a2_4 x2_4.length c2_4], obj b1 29 [.slice a1_0 x1_0.length c1_0, .int .i64 x1_1, .bool x1_2, str x1_3], Row 36 3 a1_0 x1_0.length c1_0 rs66v.flatten, z1_0, F], [obj b1 29 [.slice γ.2.1 s74v.2.1.length γ.2.2.1, .int .i64 s74v.2.2.1, .bool s74v.2.2.2.1, str s74v.2.2.2.2], RowV 36 3 (V36 (γ.2.2.2)) γ.2.1 s74v.2.1 γ.2.2.1, γ.2.2.2, obj b0 64 [.map (some γ.1.1), str s68v.2.2.1, .int .i64 s68v.2.2.2.1, .bool s68v.2.2.2.2], mapF (mapO γ.1.1 enc9 encP γ.1.2) FA68 γ.1.2 s68v.2.1, obj b1v 52 [.int .i64 x2_0, .int .i64 x2_1, str x2_2, str x2_3, .slice a2_4 x2_4.length c2_4], F]].getD j []) (fun γ => [(6, .bool (decide ((synodref_Num.v s68v.1) = s74v.1)))]) mixed (by decide) (by decide) (by decide) (by decide) (by decide) (by decide) (by decide) 186 rfl (by decide) (by decide) (by decide) (Ent.refl _) ?_ ?_ (fun _ => ⟨rfl, trivial⟩) ?_
 exact (aq rfl (fun γ => qm rfl (.o (s := 0) rfl (by decide) .nil) rfl) (aq rfl (fun γ => qp rfl rfl (.o (s := 5) rfl (by decide) .nil) (q_fa rfl rfl Try.underlying52 rfl rfl Try.sizeOf9 rfl) rfl) (aq rfl (fun γ => qp rfl rfl (.v 1 rfl rfl .nil) (q_load rfl rfl Try.isAgg9 (.obj 0 rfl rfl)) rfl) (aq rfl (fun γ => qp rfl rfl (.v 3 rfl rfl .nil) (RE.rq (re_call (vs := [.int .i64 s68v.1]) (cap := []) (A := []) (rst := [obj b0 64 [.map (some γ.1.1), str s68v.2.2.1, .int .i64 s68v.2.2.2.1, .bool s68v.2.2.2.2], mapF (mapO γ.1.1 enc9 encP γ.1.2) FA68 γ.1.2 s68v.2.1, obj b1v 52 [.int .i64 x2_0, .int .i64 x2_1, str x2_2, str x2_3, .slice a2_4 x2_4.length c2_4], obj b1 29 [.slice a1_0 x1_0.length c1_0, .int .i64 x1_1, .bool x1_2, str x1_3], Row 36 3 a1_0 x1_0.length c1_0 rs66v.flatten, z1_0, F]) rfl rfl rfl rfl rfl rfl Try.call11 (.sel 0 rfl (.sel 0 rfl (.sel 0 rfl (.sel 0 rfl (.sel 0 rfl (.sel 0 rfl (.sel 0 rfl (.nil _)))))))) (synodref_Num.calls _ _ s68v.1 ) (synodref_Num.tot s68v.1)) (fun _ => rfl) (fun _ => (.sel 0 rfl (.sel 0 rfl (.sel 0 rfl (.sel 0 rfl (.sel 0 rfl (.sel 0 rfl (.sel 0 rfl (.nil _)))))))))) rfl) (ac (fun γ => (ac (qm rfl (.o (s := 1) rfl (by decide) .nil) rfl) (ac (qm rfl (.o (s := 1) rfl (by decide) .nil) rfl) zA))) (ac (fun γ => (ac (qp rfl rfl (.o (s := 5) rfl (by decide) .nil) (q_fa rfl rfl Try.underlying52 rfl rfl Try.sizeOf9 rfl) rfl) (ac (qp rfl rfl (.o (s := 5) rfl (by decide) .nil) (q_fa rfl rfl Try.underlying52 rfl rfl Try.sizeOf9 rfl) rfl) zA))) (ac (fun γ => (ac (qp rfl rfl (.v 6 rfl rfl .nil) (q_load rfl rfl Try.isAgg9 (.obj 0 rfl rfl)) rfl) (ac (qp rfl rfl (.v 6 rfl rfl .nil) (q_load rfl rfl Try.isAgg9 (.obj 2 rfl rfl)) rfl) zA))) (aq rfl (fun γ => qp rfl rfl (.v 4 rfl rfl (.v 8 rfl rfl .nil)) (q_eql rfl rfl rfl) rfl) (aq rfl (fun γ => qp rfl rfl (.v 9 rfl rfl .nil) (q_asg rfl rfl) rfl) zA)))))))))
 exact (ac (fun γ => eo (Z := Nat × Kps) (fun z => (z, γ.2)) rfl rfl (.v 0 rfl rfl (.v 2 rfl rfl .nil)) (re_call (vs := [.pointer (some ⟨b0, 0, none⟩), str x2_2]) (cap := []) (A := [obj b0 64 [.map (some m0_0), str x0_1, .int .i64 x0_2, .bool x0_3], mapF (mapO m0_0 enc9 encP q0_0) FA68 q0_0 x0_0]) (rst := [obj b1v 52 [.int .i64 x2_0, .int .i64 x2_1, str x2_2, str x2_3, .slice a2_4 x2_4.length c2_4], obj b1 29 [.slice a1_0 x1_0.length c1_0, .int .i64 x1_1, .bool x1_2, str x1_3], Row 36 3 a1_0 x1_0.length c1_0 rs66v.flatten, z1_0, F]) rfl rfl rfl rfl rfl rfl Try.call32 (.sel 1 rfl (.sel 1 rfl (.sel 0 rfl (.sel 0 rfl (.sel 0 rfl (.sel 0 rfl (.sel 0 rfl (.nil _)))))))) (disk_Disk_Sync.calls _ _ b0 m0_0 q0_0 x0_0 x0_1 x0_2 x0_3 x2_2 ) hs69v) (fun _ => ⟨rfl, rfl, rfl, rfl, rfl, rfl, trivial⟩) (fun _ => .inr rfl) (fun z => Ent.refl _)) (ac (fun γ => eo (Z := Option Addr × Nat × HA) (fun z => (γ.1, z)) rfl rfl (.v 5 rfl rfl (.v 7 rfl rfl .nil)) (re_call (vs := [.pointer (some ⟨b1, 0, none⟩), str x2_2]) (cap := []) (A := [obj b1 29 [.slice a1_0 x1_0.length c1_0, .int .i64 x1_1, .bool x1_2, str x1_3], RowV 36 3 (V36 z1_0) a1_0 x1_0 c1_0, z1_0]) (rst := [obj b0 64 [.map (some γ.1.1), str s68v.2.2.1, .int .i64 s68v.2.2.2.1, .bool s68v.2.2.2.2], mapF (mapO γ.1.1 enc9 encP γ.1.2) FA68 γ.1.2 s68v.2.1, obj b1v 52 [.int .i64 x2_0, .int .i64 x2_1, str x2_2, str x2_3, .slice a2_4 x2_4.length c2_4], F]) rfl rfl rfl rfl rfl rfl Try.call50 (.sel 3 rfl (.sel' 3 rfl (RowV.mk hl67v) (.sel 3 rfl (.sel 0 rfl (.sel 0 rfl (.sel 0 rfl (.sel 0 rfl (.nil _)))))))) (synodref4_Disk_Sync.calls _ _ k b1 a1_0 c1_0 x1_0 z1_0 x1_1 x1_2 x1_3 x2_2 ) hs75v) (fun _ => ⟨rfl, rfl, rfl, rfl, rfl, rfl, rfl, rfl, trivial⟩) (fun _ => .inr rfl) (fun z => Ent.refl _)) zA))
 intro g80v
 refine nrm_then (sim_rtn ?_)
 refine rtn_block ?_
 refine rtn_then ?_
 exact rtn_fn (g80v.1.1, g80v.1.2, g80v.2.1, g80v.2.2.1, g80v.2.2.2) rfl rfl rfl (.sel 3 rfl (.sel 3 rfl (.sel 0 rfl (.sel 0 rfl (.sel 0 rfl (.sel 1 rfl (.nil _)))))))
 refine sr ?_
 refine vq (q_eql rfl rfl rfl) rfl ?_
 refine va rfl rfl (simL_nil (nrm_then ?_))
 refine sim_cond rfl (fun h81v => ?_) (fun h82v => ?_)
 refine sim_seq ?_
 refine sim_openV 4 rfl (fun rs83v hl84v => ?_)
 refine sim_bind (fun s85v hs86v => ?_)
 refine sim_bind (fun s91v hs92v => ?_)
 refine sim_draw (Γ := (Nat × Kps) × (Option Addr × Nat × HA)) ((0, ([] : Kps)), (none, 0, tt)) [[], [], [1], [], [3], rL 5, rL 6, [], [], [8], [], [10], rL 12, rL 13, rL 14] [5, 12] [0, 1, 2, 3, 4, 6, 7, 8, 9, 10, 11, 13, 14] (fun i => [[0], [0], [0], [0], [0], [], [1], [0, 1], [0, 1], [0, 1], [0, 1], [0, 1], [], [2], [2]].getD i []) (fun i => [[], [], [], [], [], [0, 1, 2, 3, 4, 7, 8, 9, 10, 11], [], [], [], [], [], [], rL 12, [], []].getD i []) (fun γ i => [.pointer (some ⟨b0, 0, none⟩), .pointer (some ⟨b1v, 2, none⟩), str x2_2, .pointer (some ⟨b1v, 1, none⟩), .int .i64 x2_1, .int .i64 s85v.1, .int .i64 (synodref_Num.v s85v.1), .pointer (some ⟨b1, 0, none⟩), .pointer (some ⟨b1v, 2, none⟩), str x2_2, .pointer (some ⟨b1v, 1, none⟩), .int .i64 x2_1, .int .i64 s91v.1, .bool (decide ((synodref_Num.v s85v.1) = s91v.1)), .bool (decide ((synodref_Num.v s85v.1) = s91v.1))].getD i undef) (fun j γ => [[obj b1v 52 [.int .i64 x2_0, .int .i64 x2_1, str x2_2, str x2_3, .slice a2_4 x2_4.length c2_4], obj b0 64 [.map (some m0_0), str x0_1, .int .i64 x0_2, .bool x0_3], mapF (mapO m0_0 enc9 encP q0_0) FA68 q0_0 x0_0, obj b1 29 [.slice a1_0 x1_0.length c1_0, .int .i64 x1_1, .bool x1_2, str x1_3], Row 36 3 a1_0 x1_0.length c1_0 rs83v.flatten, z1_0, F], [obj b0 64 [.map (some γ.1.1), str s85v.2.2.1, .int .i64 s85v.2.2.2.1, .bool s85v.2.2.2.2], mapF (mapO γ.1.1 enc9 encP γ.1.2) FA68 γ.1.2 s85v.2.1, obj b1v 52 [.int .i64 x2_0, .int .i64 x2_1, str x2_2, str x2_3, .slice a2_4 x2_4.length c2_4], obj b1 29 [.slice a1_0 x1_0.length c1_0, .int .i64 x1_1, .bool x1_2, str x1_3], Row 36 3 a1_0 x1_0.length c1_0 rs83v.flatten, z1_0, F], [obj b1 29 [.slice γ.2.1 s91v.2.1.length γ.2.2.1, .int .i64 s91v.2.2.1, .bool s91v.2.2.2.1, str s91v.2.2.2.2], RowV 36 3 (V36 (γ.2.2.2)) γ.2.1 s91v.2.1 γ.2.2.1, γ.2.2.2, obj b0 64 [.map (some γ.1.1), str s85v.2.2.1, .int .i64 s85v.2.2.2.1, .bool s85v.2.2.2.2], mapF (mapO γ.1.1 enc9 encP γ.1.2) FA68 γ.1.2 s85v.2.1, obj b1v 52 [.int .i64 x2_0, .int .i64 x2_1, str x2_2, str x2_3, .slice a2_4 x2_4.length c2_4], F]].getD j []) (fun γ => [(6, .bool (decide ((synodref_Num.v s85v.1) = s91v.1)))]) mixed (by decide) (by decide) (by decide) (by decide) (by decide) (by decide) (by decide) 186 rfl (by decide) (by decide) (by decide) (Ent.refl _) ?_ ?_ (fun _ => ⟨rfl, trivial⟩) ?_
 exact (aq rfl (fun γ => qm rfl (.o (s := 0) rfl (by decide) .nil) rfl) (aq rfl (fun γ => qp rfl rfl (.o (s := 5) rfl (by decide) .nil) (q_fa rfl rfl Try.underlying52 rfl rfl Try.sizeOf9 rfl) rfl) (aq rfl (fun γ => qp rfl rfl (.v 1 rfl rfl .nil) (q_load rfl rfl Try.isAgg9 (.obj 0 rfl rfl)) rfl) (aq rfl (fun γ => qp rfl rfl (.o (s := 5) rfl (by decide) .nil) (q_fa rfl rfl Try.underlying52 rfl rfl Try.sizeOf3 rfl) rfl) (aq rfl (fun γ => qp rfl rfl (.v 3 rfl rfl .nil) (q_load rfl rfl Try.isAgg3 (.obj 0 rfl rfl)) rfl) (aq rfl (fun γ => qp rfl rfl (.v 5 rfl rfl .nil) (RE.rq (re_call (vs := [.int .i64 s85v.1]) (cap := []) (A := []) (rst := [obj b0 64 [.map (some γ.1.1), str s85v.2.2.1, .int .i64 s85v.2.2.2.1, .bool s85v.2.2.2.2], mapF (mapO γ.1.1 enc9 encP γ.1.2) FA68 γ.1.2 s85v.2.1, obj b1v 52 [.int .i64 x2_0, .int .i64 x2_1, str x2_2, str x2_3, .slice a2_4 x2_4.length c2_4], obj b1 29 [.slice a1_0 x1_0.length c1_0, .int .i64 x1_1, .bool x1_2, str x1_3], Row 36 3 a1_0 x1_0.length c1_0 rs83v.flatten, z1_0, F]) rfl rfl rfl rfl rfl rfl Try.call11 (.sel 0 rfl (.sel 0 rfl (.sel 0 rfl (.sel 0 rfl (.sel 0 rfl (.sel 0 rfl (.sel 0 rfl (.nil _)))))))) (synodref_Num.calls _ _ s85v.1 ) (synodref_Num.tot s85v.1)) (fun _ => rfl) (fun _ => (.sel 0 rfl (.sel 0 rfl (.sel 0 rfl (.sel 0 rfl (.sel 0 rfl (.sel 0 rfl (.sel 0 rfl (.nil _)))))))))) rfl) (ac (fun γ => (ac (qm rfl (.o (s := 1) rfl (by decide) .nil) rfl) (ac (qm rfl (.o (s := 1) rfl (by decide) .nil) rfl) zA))) (ac (fun γ => (ac (qp rfl rfl (.o (s := 5) rfl (by decide) .nil) (q_fa rfl rfl Try.underlying52 rfl rfl Try.sizeOf9 rfl) rfl) (ac (qp rfl rfl (.o (s := 5) rfl (by decide) .nil) (q_fa rfl rfl Try.underlying52 rfl rfl Try.sizeOf9 rfl) rfl) zA))) (ac (fun γ => (ac (qp rfl rfl (.v 8 rfl rfl .nil) (q_load rfl rfl Try.isAgg9 (.obj 0 rfl rfl)) rfl) (ac (qp rfl rfl (.v 8 rfl rfl .nil) (q_load rfl rfl Try.isAgg9 (.obj 2 rfl rfl)) rfl) zA))) (ac (fun γ => (ac (qp rfl rfl (.o (s := 5) rfl (by decide) .nil) (q_fa rfl rfl Try.underlying52 rfl rfl Try.sizeOf3 rfl) rfl) (ac (qp rfl rfl (.o (s := 5) rfl (by decide) .nil) (q_fa rfl rfl Try.underlying52 rfl rfl Try.sizeOf3 rfl) rfl) zA))) (ac (fun γ => (ac (qp rfl rfl (.v 10 rfl rfl .nil) (q_load rfl rfl Try.isAgg3 (.obj 0 rfl rfl)) rfl) (ac (qp rfl rfl (.v 10 rfl rfl .nil) (q_load rfl rfl Try.isAgg3 (.obj 2 rfl rfl)) rfl) zA))) (aq rfl (fun γ => qp rfl rfl (.v 6 rfl rfl (.v 12 rfl rfl .nil)) (q_eql rfl rfl rfl) rfl) (aq rfl (fun γ => qp rfl rfl (.v 13 rfl rfl .nil) (q_asg rfl rfl) rfl) zA)))))))))))))
 exact (ac (fun γ => eo (Z := Nat × Kps) (fun z => (z, γ.2)) rfl rfl (.v 0 rfl rfl (.v 2 rfl rfl (.v 4 rfl rfl .nil))) (re_call (vs := [.pointer (some ⟨b0, 0, none⟩), str x2_2, .int .i64 x2_1]) (cap := []) (A := [obj b0 64 [.map (some m0_0), str x0_1, .int .i64 x0_2, .bool x0_3], mapF (mapO m0_0 enc9 encP q0_0) FA68 q0_0 x0_0]) (rst := [obj b1v 52 [.int .i64 x2_0, .int .i64 x2_1, str x2_2, str x2_3, .slice a2_4 x2_4.length c2_4], obj b1 29 [.slice a1_0 x1_0.length c1_0, .int .i64 x1_1, .bool x1_2, str x1_3], Row 36 3 a1_0 x1_0.length c1_0 rs83v.flatten, z1_0, F]) rfl rfl rfl rfl rfl rfl Try.call44 (.sel 1 rfl (.sel 1 rfl (.sel 0 rfl (.sel 0 rfl (.sel 0 rfl (.sel 0 rfl (.sel 0 rfl (.nil _)))))))) (disk_Disk_Cut.calls _ _ b0 m0_0 q0_0 x0_0 x0_1 x0_2 x0_3 x2_2 x2_1 ) hs86v) (fun _ => ⟨rfl, rfl, rfl, rfl, rfl, rfl, rfl, rfl, rfl, rfl, trivial⟩) (fun _ => .inr rfl) (fun z => Ent.refl _)) (ac (fun γ => eo (Z := Option Addr × Nat × HA) (fun z => (γ.1, z)) rfl rfl (.v 7 rfl rfl (.v 9 rfl rfl (.v 11 rfl rfl .nil))) (re_call (vs := [.pointer (some ⟨b1, 0, none⟩), str x2_2, .int .i64 x2_1]) (cap := []) (A := [obj b1 29 [.slice a1_0 x1_0.length c1_0, .int .i64 x1_1, .bool x1_2, str x1_3], RowV 36 3 (V36 z1_0) a1_0 x1_0 c1_0, z1_0]) (rst := [obj b0 64 [.map (some γ.1.1), str s85v.2.2.1, .int .i64 s85v.2.2.2.1, .bool s85v.2.2.2.2], mapF (mapO γ.1.1 enc9 encP γ.1.2) FA68 γ.1.2 s85v.2.1, obj b1v 52 [.int .i64 x2_0, .int .i64 x2_1, str x2_2, str x2_3, .slice a2_4 x2_4.length c2_4], F]) rfl rfl rfl rfl rfl rfl Try.call51 (.sel 3 rfl (.sel' 3 rfl (RowV.mk hl84v) (.sel 3 rfl (.sel 0 rfl (.sel 0 rfl (.sel 0 rfl (.sel 0 rfl (.nil _)))))))) (synodref4_Disk_Cut.calls _ _ k b1 a1_0 c1_0 x1_0 z1_0 x1_1 x1_2 x1_3 x2_2 x2_1 ) hs92v) (fun _ => ⟨rfl, rfl, rfl, rfl, rfl, rfl, rfl, rfl, rfl, rfl, rfl, rfl, trivial⟩) (fun _ => .inr rfl) (fun z => Ent.refl _)) zA))
 intro g97v
 refine nrm_then (sim_rtn ?_)
 refine rtn_block ?_
 refine rtn_then ?_
 exact rtn_fn (g97v.1.1, g97v.1.2, g97v.2.1, g97v.2.2.1, g97v.2.2.2) rfl rfl rfl (.sel 3 rfl (.sel 3 rfl (.sel 0 rfl (.sel 0 rfl (.sel 0 rfl (.sel 1 rfl (.nil _)))))))
 refine sr ?_
 refine vq (q_eql rfl rfl rfl) rfl ?_
 refine va rfl rfl (simL_nil (nrm_then ?_))
 refine sim_cond rfl (fun h98v => ?_) (fun h99v => ?_)
 refine sim_seq ?_
 refine sim_openV 4 rfl (fun rs100v hl101v => ?_)
 refine sim_bind (fun s102v hs103v => ?_)
 refine sim_bind (fun s108v hs109v => ?_)
 refine sim_draw (Γ := (Nat × Kps) × (Option Addr × Nat × HA)) ((0, ([] : Kps)), (none, 0, tt)) [[], [], [1], [], [3], rL 5, rL 6, [], [], [8], [], [10], rL 12, rL 13, rL 14] [5, 12] [0, 1, 2, 3, 4, 6, 7, 8, 9, 10, 11, 13, 14] (fun i => [[0], [0], [0], [0], [0], [], [1], [0, 1], [0, 1], [0, 1], [0, 1], [0, 1], [], [2], [2]].getD i []) (fun i => [[], [], [], [], [], [0, 1, 2, 3, 4, 7, 8, 9, 10, 11], [], [], [], [], [], [], rL 12, [], []].getD i []) (fun γ i => [.pointer (some ⟨b0, 0, none⟩), .pointer (some ⟨b1v, 2, none⟩), str x2_2, .pointer (some ⟨b1v, 3, none⟩), str x2_3, .int .i64 s102v.1, .int .i64 (synodref_Num.v s102v.1), .pointer (some ⟨b1, 0, none⟩), .pointer (some ⟨b1v, 2, none⟩), str x2_2, .pointer (some ⟨b1v, 3, none⟩), str x2_3, .int .i64 s108v.1, .bool (decide ((synodref_Num.v s102v.1) = s108v.1)), .bool (decide ((synodref_Num.v s102v.1) = s108v.1))].getD i undef) (fun j γ => [[obj b1v 52 [.int .i64 x2_0, .int .i64 x2_1, str x2_2, str x2_3, .slice a2_4 x2_4.length c2_4], obj b0 64 [.map (some m0_0), str x0_1, .int .i64 x0_2, .bool x0_3], mapF (mapO m0_0 enc9 encP q0_0) FA68 q0_0 x0_0, obj b1 29 [.slice a1_0 x1_0.length c1_0, .int .i64 x1_1, .bool x1_2, str x1_3], Row 36 3 a1_0 x1_0.length c1_0 rs100v.flatten, z1_0, F], [obj b0 64 [.map (some γ.1.1), str s102v.2.2.1, .int .i64 s102v.2.2.2.1, .bool s102v.2.2.2.2], mapF (mapO γ.1.1 enc9 encP γ.1.2) FA68 γ.1.2 s102v.2.1, obj b1v 52 [.int .i64 x2_0, .int .i64 x2_1, str x2_2, str x2_3, .slice a2_4 x2_4.length c2_4], obj b1 29 [.slice a1_0 x1_0.length c1_0, .int .i64 x1_1, .bool x1_2, str x1_3], Row 36 3 a1_0 x1_0.length c1_0 rs100v.flatten, z1_0, F], [obj b1 29 [.slice γ.2.1 s108v.2.1.length γ.2.2.1, .int .i64 s108v.2.2.1, .bool s108v.2.2.2.1, str s108v.2.2.2.2], RowV 36 3 (V36 (γ.2.2.2)) γ.2.1 s108v.2.1 γ.2.2.1, γ.2.2.2, obj b0 64 [.map (some γ.1.1), str s102v.2.2.1, .int .i64 s102v.2.2.2.1, .bool s102v.2.2.2.2], mapF (mapO γ.1.1 enc9 encP γ.1.2) FA68 γ.1.2 s102v.2.1, obj b1v 52 [.int .i64 x2_0, .int .i64 x2_1, str x2_2, str x2_3, .slice a2_4 x2_4.length c2_4], F]].getD j []) (fun γ => [(6, .bool (decide ((synodref_Num.v s102v.1) = s108v.1)))]) mixed (by decide) (by decide) (by decide) (by decide) (by decide) (by decide) (by decide) 186 rfl (by decide) (by decide) (by decide) (Ent.refl _) ?_ ?_ (fun _ => ⟨rfl, trivial⟩) ?_
 exact (aq rfl (fun γ => qm rfl (.o (s := 0) rfl (by decide) .nil) rfl) (aq rfl (fun γ => qp rfl rfl (.o (s := 5) rfl (by decide) .nil) (q_fa rfl rfl Try.underlying52 rfl rfl Try.sizeOf9 rfl) rfl) (aq rfl (fun γ => qp rfl rfl (.v 1 rfl rfl .nil) (q_load rfl rfl Try.isAgg9 (.obj 0 rfl rfl)) rfl) (aq rfl (fun γ => qp rfl rfl (.o (s := 5) rfl (by decide) .nil) (q_fa rfl rfl Try.underlying52 rfl rfl Try.sizeOf9 rfl) rfl) (aq rfl (fun γ => qp rfl rfl (.v 3 rfl rfl .nil) (q_load rfl rfl Try.isAgg9 (.obj 0 rfl rfl)) rfl) (aq rfl (fun γ => qp rfl rfl (.v 5 rfl rfl .nil) (RE.rq (re_call (vs := [.int .i64 s102v.1]) (cap := []) (A := []) (rst := [obj b0 64 [.map (some γ.1.1), str s102v.2.2.1, .int .i64 s102v.2.2.2.1, .bool s102v.2.2.2.2], mapF (mapO γ.1.1 enc9 encP γ.1.2) FA68 γ.1.2 s102v.2.1, obj b1v 52 [.int .i64 x2_0, .int .i64 x2_1, str x2_2, str x2_3, .slice a2_4 x2_4.length c2_4], obj b1 29 [.slice a1_0 x1_0.length c1_0, .int .i64 x1_1, .bool x1_2, str x1_3], Row 36 3 a1_0 x1_0.length c1_0 rs100v.flatten, z1_0, F]) rfl rfl rfl rfl rfl rfl Try.call11 (.sel 0 rfl (.sel 0 rfl (.sel 0 rfl (.sel 0 rfl (.sel 0 rfl (.sel 0 rfl (.sel 0 rfl (.nil _)))))))) (synodref_Num.calls _ _ s102v.1 ) (synodref_Num.tot s102v.1)) (fun _ => rfl) (fun _ => (.sel 0 rfl (.sel 0 rfl (.sel 0 rfl (.sel 0 rfl (.sel 0 rfl (.sel 0 rfl (.sel 0 rfl (.nil _)))))))))) rfl) (ac (fun γ => (ac (qm rfl (.o (s := 1) rfl (by decide) .nil) rfl) (ac (qm rfl (.o (s := 1) rfl (by decide) .nil) rfl) zA))) (ac (fun γ => (ac (qp rfl rfl (.o (s := 5) rfl (by decide) .nil) (q_fa rfl rfl Try.underlying52 rfl rfl Try.sizeOf9 rfl) rfl) (ac (qp rfl rfl (.o (s := 5) rfl (by decide) .nil) (q_fa rfl rfl Try.underlying52 rfl rfl Try.sizeOf9 rfl) rfl) zA))) (ac (fun γ => (ac (qp rfl rfl (.v 8 rfl rfl .nil) (q_load rfl rfl Try.isAgg9 (.obj 0 rfl rfl)) rfl) (ac (qp rfl rfl (.v 8 rfl rfl .nil) (q_load rfl rfl Try.isAgg9 (.obj 2 rfl rfl)) rfl) zA))) (ac (fun γ => (ac (qp rfl rfl (.o (s := 5) rfl (by decide) .nil) (q_fa rfl rfl Try.underlying52 rfl rfl Try.sizeOf9 rfl) rfl) (ac (qp rfl rfl (.o (s := 5) rfl (by decide) .nil) (q_fa rfl rfl Try.underlying52 rfl rfl Try.sizeOf9 rfl) rfl) zA))) (ac (fun γ => (ac (qp rfl rfl (.v 10 rfl rfl .nil) (q_load rfl rfl Try.isAgg9 (.obj 0 rfl rfl)) rfl) (ac (qp rfl rfl (.v 10 rfl rfl .nil) (q_load rfl rfl Try.isAgg9 (.obj 2 rfl rfl)) rfl) zA))) (aq rfl (fun γ => qp rfl rfl (.v 6 rfl rfl (.v 12 rfl rfl .nil)) (q_eql rfl rfl rfl) rfl) (aq rfl (fun γ => qp rfl rfl (.v 13 rfl rfl .nil) (q_asg rfl rfl) rfl) zA)))))))))))))
 exact (ac (fun γ => eo (Z := Nat × Kps) (fun z => (z, γ.2)) rfl rfl (.v 0 rfl rfl (.v 2 rfl rfl (.v 4 rfl rfl .nil))) (re_call (vs := [.pointer (some ⟨b0, 0, none⟩), str x2_2, str x2_3]) (cap := []) (A := [obj b0 64 [.map (some m0_0), str x0_1, .int .i64 x0_2, .bool x0_3], mapF (mapO m0_0 enc9 encP q0_0) FA68 q0_0 x0_0]) (rst := [obj b1v 52 [.int .i64 x2_0, .int .i64 x2_1, str x2_2, str x2_3, .slice a2_4 x2_4.length c2_4], obj b1 29 [.slice a1_0 x1_0.length c1_0, .int .i64 x1_1, .bool x1_2, str x1_3], Row 36 3 a1_0 x1_0.length c1_0 rs100v.flatten, z1_0, F]) rfl rfl rfl rfl rfl rfl Try.call45 (.sel 1 rfl (.sel 1 rfl (.sel 0 rfl (.sel 0 rfl (.sel 0 rfl (.sel 0 rfl (.sel 0 rfl (.nil _)))))))) (disk_Disk_Rename.calls _ _ k b0 m0_0 q0_0 x0_0 x0_1 x0_2 x0_3 x2_2 x2_3 ) hs103v) (fun _ => ⟨rfl, rfl, rfl, rfl, rfl, rfl, rfl, rfl, rfl, rfl, trivial⟩) (fun _ => .inr rfl) (fun z => Ent.refl _)) (ac (fun γ => eo (Z := Option Addr × Nat × HA) (fun z => (γ.1, z)) rfl rfl (.v 7 rfl rfl (.v 9 rfl rfl (.v 11 rfl rfl .nil))) (re_call (vs := [.pointer (some ⟨b1, 0, none⟩), str x2_2, str x2_3]) (cap := []) (A := [obj b1 29 [.slice a1_0 x1_0.length c1_0, .int .i64 x1_1, .bool x1_2, str x1_3], RowV 36 3 (V36 z1_0) a1_0 x1_0 c1_0, z1_0]) (rst := [obj b0 64 [.map (some γ.1.1), str s102v.2.2.1, .int .i64 s102v.2.2.2.1, .bool s102v.2.2.2.2], mapF (mapO γ.1.1 enc9 encP γ.1.2) FA68 γ.1.2 s102v.2.1, obj b1v 52 [.int .i64 x2_0, .int .i64 x2_1, str x2_2, str x2_3, .slice a2_4 x2_4.length c2_4], F]) rfl rfl rfl rfl rfl rfl Try.call52 (.sel 3 rfl (.sel' 3 rfl (RowV.mk hl101v) (.sel 3 rfl (.sel 0 rfl (.sel 0 rfl (.sel 0 rfl (.sel 0 rfl (.nil _)))))))) (synodref4_Disk_Rename.calls _ _ k b1 a1_0 c1_0 x1_0 z1_0 x1_1 x1_2 x1_3 x2_2 x2_3 ) hs109v) (fun _ => ⟨rfl, rfl, rfl, rfl, rfl, rfl, rfl, rfl, rfl, rfl, rfl, rfl, trivial⟩) (fun _ => .inr rfl) (fun z => Ent.refl _)) zA))
 intro g114v
 refine nrm_then (sim_rtn ?_)
 refine rtn_block ?_
 refine rtn_then ?_
 exact rtn_fn (g114v.1.1, g114v.1.2, g114v.2.1, g114v.2.2.1, g114v.2.2.2) rfl rfl rfl (.sel 3 rfl (.sel 3 rfl (.sel 0 rfl (.sel 0 rfl (.sel 0 rfl (.sel 1 rfl (.nil _)))))))
 refine sr ?_
 refine vq (q_eql rfl rfl rfl) rfl ?_
 refine va rfl rfl (simL_nil (nrm_then ?_))
 refine sim_cond rfl (fun h115v => ?_) (fun h116v => ?_)
 refine sim_seq ?_
 refine sim_openV 4 rfl (fun rs117v hl118v => ?_)
 refine sim_bind (fun s119v hs120v => ?_)
 refine sim_bind (fun s125v hs126v => ?_)
 refine sim_draw (Γ := (Nat × Kps) × (Option Addr × Nat × HA)) ((0, ([] : Kps)), (none, 0, tt)) [[], [], [1], [0, 1, 2], rL 4, [], [], [6], rL 8, rL 9, rL 10] [3, 8] [0, 1, 2, 4, 5, 6, 7, 9, 10] (fun i => [[0], [0], [0], [], [1], [0, 1], [0, 1], [0, 1], [], [2], [2]].getD i []) (fun i => [[], [], [], [0, 1, 2, 5, 6, 7], [], [], [], [], rL 8, [], []].getD i []) (fun γ i => [.pointer (some ⟨b0, 0, none⟩), .pointer (some ⟨b1v, 2, none⟩), str x2_2, .int .i64 s119v.1, .int .i64 (synodref_Num.v s119v.1), .pointer (some ⟨b1, 0, none⟩), .pointer (some ⟨b1v, 2, none⟩), str x2_2, .int .i64 s125v.1, .bool (decide ((synodref_Num.v s119v.1) = s125v.1)), .bool (decide ((synodref_Num.v s119v.1) = s125v.1))].getD i undef) (fun j γ => [[obj b1v 52 [.int .i64 x2_0, .int .i64 x2_1, str x2_2, str x2_3, .slice a2_4 x2_4.length c2_4], obj b0 64 [.map (some m0_0), str x0_1, .int .i64 x0_2, .bool x0_3], mapF (mapO m0_0 enc9 encP q0_0) FA68 q0_0 x0_0, obj b1 29 [.slice a1_0 x1_0.length c1_0, .int .i64 x1_1, .bool x1_2, str x1_3], Row 36 3 a1_0 x1_0.length c1_0 rs117v.flatten, z1_0, F], [obj b0 64 [.map (some γ.1.1), str s119v.2.2.1, .int .i64 s119v.2.2.2.1, .bool s119v.2.2.2.2], mapF (mapO γ.1.1 enc9 encP γ.1.2) FA68 γ.1.2 s119v.2.1, obj b1v 52 [.int .i64 x2_0, .int .i64 x2_1, str x2_2, str x2_3, .slice a2_4 x2_4.length c2_4], obj b1 29 [.slice a1_0 x1_0.length c1_0, .int .i64 x1_1, .bool x1_2, str x1_3], Row 36 3 a1_0 x1_0.length c1_0 rs117v.flatten, z1_0, F], [obj b1 29 [.slice γ.2.1 s125v.2.1.length γ.2.2.1, .int .i64 s125v.2.2.1, .bool s125v.2.2.2.1, str s125v.2.2.2.2], RowV 36 3 (V36 (γ.2.2.2)) γ.2.1 s125v.2.1 γ.2.2.1, γ.2.2.2, obj b0 64 [.map (some γ.1.1), str s119v.2.2.1, .int .i64 s119v.2.2.2.1, .bool s119v.2.2.2.2], mapF (mapO γ.1.1 enc9 encP γ.1.2) FA68 γ.1.2 s119v.2.1, obj b1v 52 [.int .i64 x2_0, .int .i64 x2_1, str x2_2, str x2_3, .slice a2_4 x2_4.length c2_4], F]].getD j []) (fun γ => [(6, .bool (decide ((synodref_Num.v s119v.1) = s125v.1)))]) mixed (by decide) (by decide) (by decide) (by decide) (by decide) (by decide) (by decide) 186 rfl (by decide) (by decide) (by decide) (Ent.refl _) ?_ ?_ (fun _ => ⟨rfl, trivial⟩) ?_
 exact (aq rfl (fun γ => qm rfl (.o (s := 0) rfl (by decide) .nil) rfl) (aq rfl (fun γ => qp rfl rfl (.o (s := 5) rfl (by decide) .nil) (q_fa rfl rfl Try.underlying52 rfl rfl Try.sizeOf9 rfl) rfl) (aq rfl (fun γ => qp rfl rfl (.v 1 rfl rfl .nil) (q_load rfl rfl Try.isAgg9 (.obj 0 rfl rfl)) rfl) (aq rfl (fun γ => qp rfl rfl (.v 3 rfl rfl .nil) (RE.rq (re_call (vs := [.int .i64 s119v.1]) (cap := []) (A := []) (rst := [obj b0 64 [.map (some γ.1.1), str s119v.2.2.1, .int .i64 s119v.2.2.2.1, .bool s119v.2.2.2.2], mapF (mapO γ.1.1 enc9 encP γ.1.2) FA68 γ.1.2 s119v.2.1, obj b1v 52 [.int .i64 x2_0, .int .i64 x2_1, str x2_2, str x2_3, .slice a2_4 x2_4.length c2_4], obj b1 29 [.slice a1_0 x1_0.length c1_0, .int .i64 x1_1, .bool x1_2, str x1_3], Row 36 3 a1_0 x1_0.length c1_0 rs117v.flatten, z1_0, F]) rfl rfl rfl rfl rfl rfl Try.call11 (.sel 0 rfl (.sel 0 rfl (.sel 0 rfl (.sel 0 rfl (.sel 0 rfl (.sel 0 rfl (.sel 0 rfl (.nil _)))))))) (synodref_Num.calls _ _ s119v.1 ) (synodref_Num.tot s119v.1)) (fun _ => rfl) (fun _ => (.sel 0 rfl (.sel 0 rfl (.sel 0 rfl (.sel 0 rfl (.sel 0 rfl (.sel 0 rfl (.sel 0 rfl (.nil _)))))))))) rfl) (ac (fun γ => (ac (qm rfl (.o (s := 1) rfl (by decide) .nil) rfl) (ac (qm rfl (.o (s := 1) rfl (by decide) .nil) rfl) zA))) (ac (fun γ => (ac (qp rfl rfl (.o (s := 5) rfl (by decide) .nil) (q_fa rfl rfl Try.underlying52 rfl rfl Try.sizeOf9 rfl) rfl) (ac (qp rfl rfl (.o (s := 5) rfl (by decide) .nil) (q_fa rfl rfl Try.underlying52 rfl rfl Try.sizeOf9 rfl) rfl) zA))) (ac (fun γ => (ac (qp rfl rfl (.v 6 rfl rfl .nil) (q_load rfl rfl Try.isAgg9 (.obj 0 rfl rfl)) rfl) (ac (qp rfl rfl (.v 6 rfl rfl .nil) (q_load rfl rfl Try.isAgg9 (.obj 2 rfl rfl)) rfl) zA))) (aq rfl (fun γ => qp rfl rfl (.v 4 rfl rfl (.v 8 rfl rfl .nil)) (q_eql rfl rfl rfl) rfl) (aq rfl (fun γ => qp rfl rfl (.v 9 rfl rfl .nil) (q_asg rfl rfl) rfl) zA)))))))))
 exact (ac (fun γ => eo (Z := Nat × Kps) (fun z => (z, γ.2)) rfl rfl (.v 0 rfl rfl (.v 2 rfl rfl .nil)) (re_call (vs := [.pointer (some ⟨b0, 0, none⟩), str x2_2]) (cap := []) (A := [obj b0 64 [.map (some m0_0), str x0_1, .int .i64 x0_2, .bool x0_3], mapF (mapO m0_0 enc9 encP q0_0) FA68 q0_0 x0_0]) (rst := [obj b1v 52 [.int .i64 x2_0, .int .i64 x2_1, str x2_2, str x2_3, .slice a2_4 x2_4.length c2_4], obj b1 29 [.slice a1_0 x1_0.length c1_0, .int .i64 x1_1, .bool x1_2, str x1_3], Row 36 3 a1_0 x1_0.length c1_0 rs117v.flatten, z1_0, F]) rfl rfl rfl rfl rfl rfl Try.call46 (.sel 1 rfl (.sel 1 rfl (.sel 0 rfl (.sel 0 rfl (.sel 0 rfl (.sel 0 rfl (.sel 0 rfl (.nil _)))))))) (disk_Disk_Remove.calls _ _ b0 m0_0 q0_0 x0_0 x0_1 x0_2 x0_3 x2_2 ) hs120v) (fun _ => ⟨rfl, rfl, rfl, rfl, rfl, rfl, trivial⟩) (fun _ => .inr rfl) (fun z => Ent.refl _)) (ac (fun γ => eo (Z := Option Addr × Nat × HA) (fun z => (γ.1, z)) rfl rfl (.v 5 rfl rfl (.v 7 rfl rfl .nil)) (re_call (vs := [.pointer (some ⟨b1, 0, none⟩), str x2_2]) (cap := []) (A := [obj b1 29 [.slice a1_0 x1_0.length c1_0, .int .i64 x1_1, .bool x1_2, str x1_3], RowV 36 3 (V36 z1_0) a1_0 x1_0 c1_0, z1_0]) (rst := [obj b0 64 [.map (some γ.1.1), str s119v.2.2.1, .int .i64 s119v.2.2.2.1, .bool s119v.2.2.2.2], mapF (mapO γ.1.1 enc9 encP γ.1.2) FA68 γ.1.2 s119v.2.1, obj b1v 52 [.int .i64 x2_0, .int .i64 x2_1, str x2_2, str x2_3, .slice a2_4 x2_4.length c2_4], F]) rfl rfl rfl rfl rfl rfl Try.call53 (.sel 3 rfl (.sel' 3 rfl (RowV.mk hl118v) (.sel 3 rfl (.sel 0 rfl (.sel 0 rfl (.sel 0 rfl (.sel 0 rfl (.nil _)))))))) (synodref4_Disk_Remove.calls _ _ k b1 a1_0 c1_0 x1_0 z1_0 x1_1 x1_2 x1_3 x2_2 ) hs126v) (fun _ => ⟨rfl, rfl, rfl, rfl, rfl, rfl, rfl, rfl, trivial⟩) (fun _ => .inr rfl) (fun z => Ent.refl _)) zA))
 intro g131v
 refine nrm_then (sim_rtn ?_)
 refine rtn_block ?_
 refine rtn_then ?_
 exact rtn_fn (g131v.1.1, g131v.1.2, g131v.2.1, g131v.2.2.1, g131v.2.2.2) rfl rfl rfl (.sel 3 rfl (.sel 3 rfl (.sel 0 rfl (.sel 0 rfl (.sel 0 rfl (.sel 1 rfl (.nil _)))))))
 refine sr ?_
 refine vq (q_eql rfl rfl rfl) rfl ?_
 refine va rfl rfl (simL_nil (nrm_then ?_))
 refine sim_cond rfl (fun h132v => ?_) (fun h133v => ?_)
 refine sr ?_
 refine vm rfl rfl ?_
 refine vq (q_fa rfl rfl Try.underlying52 rfl rfl Try.sizeOf3 rfl) rfl ?_
 refine vq (q_load rfl rfl Try.isAgg3 (.obj 0 rfl rfl)) rfl ?_
 refine simL_bind (fun s134v hs135v => ?_)
 refine simL_eff (re_call (vs := [.pointer (some ⟨b0, 0, none⟩), .int .i64 x2_1]) (cap := []) (A := [obj b0 64 [.map (some m0_0), str x0_1, .int .i64 x0_2, .bool x0_3], mapF (mapO m0_0 enc9 encP q0_0) FA68 q0_0 x0_0]) (rst := [obj b1v 52 [.int .i64 x2_0, .int .i64 x2_1, str x2_2, str x2_3, .slice a2_4 x2_4.length c2_4], obj b1 29 [.slice a1_0 x1_0.length c1_0, .int .i64 x1_1, .bool x1_2, str x1_3], RowV 36 3 (V36 z1_0) a1_0 x1_0 c1_0, z1_0, F]) rfl rfl rfl rfl rfl rfl Try.call47 (.sel 1 rfl (.sel 1 rfl (.sel 0 rfl (.sel 0 rfl (.sel 0 rfl (.sel 0 rfl (.sel 0 rfl (.nil _)))))))) (disk_Disk_Arm.calls _ _ b0 m0_0 q0_0 x0_0 x0_1 x0_2 x0_3 x2_1 ) hs135v) rfl rfl rfl ?_
 intro y136v
 refine nx ?_
 refine vm rfl rfl ?_
 refine vq (q_fa rfl rfl Try.underlying52 rfl rfl Try.sizeOf3 rfl) rfl ?_
 refine vq (q_load rfl rfl Try.isAgg3 (.obj 2 rfl rfl)) rfl ?_
 refine vq (q_max rfl rfl rfl) rfl ?_
 refine vn rfl rfl ?_
 refine vq (q_fa rfl rfl Try.underlying29 rfl rfl Try.sizeOf3 rfl) rfl ?_
 refine simL_do (re_store 3 rfl rfl rfl Try.sizeOf3 rfl rfl (one_of (by rfl)) rfl rfl) rfl rfl ?_
 intro _
 refine nx ?_
 refine va rfl rfl (simL_nil (nrm_then (sim_rtn ?_)))
 refine rtn_block ?_
 refine rtn_then ?_
 exact rtn_fn (m0_0, q0_0, a1_0, c1_0, z1_0) rfl rfl rfl (.sel 0 rfl (.sel 0 rfl (.sel 1 rfl (.sel 1 rfl (.sel 1 rfl (.sel 1 rfl (.nil _)))))))
 refine sr ?_
 refine vq (q_eql rfl rfl rfl) rfl ?_
 refine va rfl rfl (simL_nil (nrm_then ?_))
 refine sim_cond rfl (fun h137v => ?_) (fun h138v => ?_)
 refine sr ?_
 refine vm rfl rfl ?_
 refine vq (q_fa rfl rfl Try.underlying52 rfl rfl Try.sizeOf3 rfl) rfl ?_
 refine vq (q_load rfl rfl Try.isAgg3 (.obj 0 rfl rfl)) rfl ?_
 refine simL_bind (fun s139v hs140v => ?_)
 refine simL_eff (re_call (vs := [.pointer (some ⟨b0, 0, none⟩), .int .i64 x2_1]) (cap := []) (A := [obj b0 64 [.map (some m0_0), str x0_1, .int .i64 x0_2, .bool x0_3], mapF (mapO m0_0 enc9 encP q0_0) FA68 q0_0 x0_0]) (rst := [obj b1v 52 [.int .i64 x2_0, .int .i64 x2_1, str x2_2, str x2_3, .slice a2_4 x2_4.length c2_4], obj b1 29 [.slice a1_0 x1_0.length c1_0, .int .i64 x1_1, .bool x1_2, str x1_3], RowV 36 3 (V36 z1_0) a1_0 x1_0 c1_0, z1_0, F]) rfl rfl rfl rfl rfl rfl Try.call22 (.sel 1 rfl (.sel 1 rfl (.sel 0 rfl (.sel 0 rfl (.sel 0 rfl (.sel 0 rfl (.sel 0 rfl (.nil _)))))))) (disk_Disk_Crash.calls _ _ b0 m0_0 q0_0 x0_0 x0_1 x0_2 x0_3 x2_1 ) hs140v) rfl rfl rfl ?_
 intro y141v
 refine nx ?_
 refine vm rfl rfl ?_
 refine vq (q_fa rfl rfl Try.underlying52 rfl rfl Try.sizeOf3 rfl) rfl ?_
 refine vq (q_load rfl rfl Try.isAgg3 (.obj 2 rfl rfl)) rfl ?_
 refine simL_openV 4 rfl (fun rs142v hl143v => ?_)
 refine simL_bind (fun s144v hs145v => ?_)
 refine simL_eff (re_call (vs := [.pointer (some ⟨b1, 0, none⟩), .int .i64 x2_1]) (cap := []) (A := [obj b1 29 [.slice a1_0 x1_0.length c1_0, .int .i64 x1_1, .bool x1_2, str x1_3], RowV 36 3 (V36 z1_0) a1_0 x1_0 c1_0, z1_0]) (rst := [obj b0 64 [.map (some y141v.1), str s139v.2.1, .int .i64 s139v.2.2.1, .bool s139v.2.2.2], mapF (mapO y141v.1 enc9 encP y141v.2) FA68 y141v.2 s139v.1, obj b1v 52 [.int .i64 x2_0, .int .i64 x2_1, str x2_2, str x2_3, .slice a2_4 x2_4.length c2_4], F]) rfl rfl rfl rfl rfl rfl Try.call54 (.sel 3 rfl (.sel' 3 rfl (RowV.mk hl143v) (.sel 3 rfl (.sel 0 rfl (.sel 0 rfl (.sel 0 rfl (.sel 0 rfl (.nil _)))))))) (synodref4_Disk_Crash.calls _ _ k b1 a1_0 c1_0 x1_0 z1_0 x1_1 x1_2 x1_3 x2_1 ) hs145v) rfl rfl rfl ?_
 intro y146v
 refine nx ?_
 refine va rfl rfl (simL_nil (nrm_then (sim_rtn ?_)))
 refine rtn_block ?_
 refine rtn_then ?_
 exact rtn_fn (y141v.1, y141v.2, y146v.1, y146v.2.1, y146v.2.2) rfl rfl rfl (.sel 3 rfl (.sel 3 rfl (.sel 0 rfl (.sel 0 rfl (.sel 0 rfl (.sel 1 rfl (.nil _)))))))
 refine sim_skip ?_
 refine nrm_block (nrm_then (sr ?_))
 refine vm rfl rfl ?_
 refine vq (q_fa rfl rfl Try.underlying52 rfl rfl Try.sizeOf9 rfl) rfl ?_
 refine vq (q_load rfl rfl Try.isAgg9 (.obj 0 rfl rfl)) rfl ?_
 refine simL_bind (fun s147v hs148v => ?_)
 refine simL_eff (re_call (vs := [.pointer (some ⟨b0, 0, none⟩), str x2_2]) (cap := []) (A := [obj b0 64 [.map (some m0_0), str x0_1, .int .i64 x0_2, .bool x0_3], mapF (mapO m0_0 enc9 encP q0_0) FA68 q0_0 x0_0]) (rst := [obj b1v 52 [.int .i64 x2_0, .int .i64 x2_1, str x2_2, str x2_3, .slice a2_4 x2_4.length c2_4], obj b1 29 [.slice a1_0 x1_0.length c1_0, .int .i64 x1_1, .bool x1_2, str x1_3], RowV 36 3 (V36 z1_0) a1_0 x1_0 c1_0, z1_0, F]) rfl rfl rfl rfl rfl rfl Try.call55 (.sel 1 rfl (.sel 1 rfl (.sel 0 rfl (.sel 0 rfl (.sel 0 rfl (.sel 0 rfl (.sel 0 rfl (.nil _)))))))) (disk_Disk_Read.calls _ _ b0 m0_0 q0_0 x0_0 x0_1 x0_2 x0_3 x2_2 ) hs148v) rfl rfl rfl ?_
 intro y149v
 refine vm rfl rfl ?_
 refine vq (q_ext rfl rfl rfl) rfl ?_
 refine vq (q_ext rfl rfl rfl) rfl ?_
 refine va rfl rfl ?_
 refine va rfl rfl (nx ?_)
 refine vm rfl rfl ?_
 refine vq (q_fa rfl rfl Try.underlying52 rfl rfl Try.sizeOf9 rfl) rfl ?_
 refine vq (q_load rfl rfl Try.isAgg9 (.obj 3 rfl rfl)) rfl ?_
 refine simL_openV 5 rfl (fun rs150v hl151v => ?_)
 refine simL_bind (fun s156v hs157v => ?_)
 refine simL_lend 5 rfl (fun hq152v hq153v hq154v hq155v => ?_)
 refine simL_eff (re_call (vs := [.pointer (some ⟨b1, 0, none⟩), str x2_2]) (cap := []) (A := [obj b1 29 [.slice a1_0 x1_0.length c1_0, .int .i64 x1_1, .bool x1_2, str x1_3]]) (rst := [Row 5 1 y149v.1 s147v.1.length y149v.2 (encB s147v.1), obj b0 64 [.map (some m0_0), str x0_1, .int .i64 x0_2, .bool x0_3], mapF (mapO m0_0 enc9 encP q0_0) FA68 q0_0 x0_0, obj b1v 52 [.int .i64 x2_0, .int .i64 x2_1, str x2_2, str x2_3, .slice a2_4 x2_4.length c2_4], Row 36 3 a1_0 x1_0.length c1_0 rs150v.flatten, z1_0, F]) rfl rfl rfl rfl rfl rfl Try.call56 (.sel 4 rfl (.sel 0 rfl (.sel 0 rfl (.sel 0 rfl (.sel 0 rfl (.sel 0 rfl (.sel 0 rfl (.sel 0 rfl (.nil _))))))))) (synodref4_Disk_Read.calls _ _ k b1 a1_0 c1_0 x1_0 x1_1 x1_2 x1_3 x2_2 ((Rd.asV hl151v hq152v).up (Up.lend 4 rfl) (V36.up (Up.lend 5 rfl))) hq153v hq154v) hs157v) rfl rfl rfl ?_
 intro y158v
 refine vm rfl rfl ?_
 refine vq (q_ext rfl rfl rfl) rfl ?_
 refine vq (q_ext rfl rfl rfl) rfl ?_
 refine va rfl rfl ?_
 refine va rfl rfl (nx ?_)
 refine vm rfl rfl ?_
 refine vm rfl rfl ?_
 refine simL_bind (fun s167v hs168v => ?_)
 refine simL_lend 2 rfl (fun hq159v hq160v hq161v hq162v => ?_)
 refine simL_lend 0 rfl (fun hq163v hq164v hq165v hq166v => ?_)
 refine simL_eff (re_call (vs := [.slice y149v.1 s147v.1.length y149v.2, .slice y158v.1 s156v.1.length y158v.2]) (cap := []) (A := []) (rst := [Row 5 1 y158v.1 s156v.1.length y158v.2 (encB s156v.1), obj b1 29 [.slice a1_0 x1_0.length c1_0, .int .i64 x1_1, .bool x1_2, str x1_3], Row 5 1 y149v.1 s147v.1.length y149v.2 (encB s147v.1), obj b0 64 [.map (some m0_0), str x0_1, .int .i64 x0_2, .bool x0_3], mapF (mapO m0_0 enc9 encP q0_0) FA68 q0_0 x0_0, obj b1v 52 [.int .i64 x2_0, .int .i64 x2_1, str x2_2, str x2_3, .slice a2_4 x2_4.length c2_4], Row 36 3 a1_0 x1_0.length c1_0 rs150v.flatten, z1_0, F]) rfl rfl rfl rfl rfl rfl Try.call24 (.sel 0 rfl (.sel 0 rfl (.sel 0 rfl (.sel 0 rfl (.sel 0 rfl (.sel 0 rfl (.sel 0 rfl (.sel 0 rfl (.sel 0 rfl (.nil _)))))))))) (synodref_SameBytes.calls _ _ k y149v.1 y149v.2 s147v.1 y158v.1 y158v.2 s156v.1 (hq159v.lend 2 rfl) hq160v hq161v (hq163v.lend 0 rfl) hq164v hq165v) hs168v) rfl rfl rfl ?_
 intro y169v
 refine va rfl rfl (simL_nil (nrm_then ?_))
 refine sim_cut (S := Unit) (Unit) (fun s y => [(0, .pointer (some ⟨b0, 0, none⟩)), (5, .pointer (some ⟨b1v, 0, none⟩)), (12, .int .i64 s147v.2), (14, .int .i64 s156v.2), (15, .bool s167v)]) (fun s y => [obj b1 29 [.slice a1_0 x1_0.length c1_0, .int .i64 x1_1, .bool x1_2, str x1_3], obj b0 64 [.map (some m0_0), str x0_1, .int .i64 x0_2, .bool x0_3], obj b1v 52 [.int .i64 x2_0, .int .i64 x2_1, str x2_2, str x2_3, .slice a2_4 x2_4.length c2_4], RowV 36 3 (V36 (z1_0)) a1_0 x1_0 c1_0, mapF (mapO m0_0 enc9 encP q0_0) FA68 q0_0 x0_0, z1_0, F]) ?_ ?_
 refine sr ?_
 refine va rfl rfl (simL_nil (nrm_then ?_))
 refine sim_block ?_
 refine sim_loop (S := List UInt8 × Int) (Unit) (fun k s => synodlaw4_Does.l1 k s.1 s.2) (fun s y => [(0, .pointer (some ⟨b0, 0, none⟩)), (5, .pointer (some ⟨b1v, 0, none⟩)), (11, .slice y149v.1 s.1.length y149v.2), (12, .int .i64 s147v.2), (14, .int .i64 s156v.2), (15, .bool s167v), (16, .int .i64 s.2)]) (fun s y => [obj b1 29 [.slice a1_0 x1_0.length c1_0, .int .i64 x1_1, .bool x1_2, str x1_3], obj b0 64 [.map (some m0_0), str x0_1, .int .i64 x0_2, .bool x0_3], obj b1v 52 [.int .i64 x2_0, .int .i64 x2_1, str x2_2, str x2_3, .slice a2_4 x2_4.length c2_4], Row 5 1 y149v.1 s.1.length y149v.2 (encB s.1), RowV 36 3 (V36 (z1_0)) a1_0 x1_0 c1_0, mapF (mapO m0_0 enc9 encP q0_0) FA68 q0_0 x0_0, z1_0, F]) (fun _ => by rw [synodlaw4_Does.l1]) ?_ k (s147v.1, 0) () ⟨rfl, rfl, rfl, rfl, rfl, rfl, rfl, trivial⟩ (.sel 1 rfl (.sel 2 rfl (.sel 3 rfl (.sel 1 rfl (.sel' 2 rfl (RowV.mk hl151v) (.sel 1 rfl (.sel 1 rfl (.sel 1 rfl (.nil _)))))))))
 intro k s172v y173v
 refine sim_eq (by rw [synodlaw4_Does.l1]) ?_
 refine sim_seq (sr ?_)
 refine vm rfl rfl ?_
 refine vm rfl rfl ?_
 refine vq (q_len rfl rfl rfl Try.underlying34) rfl ?_
 refine vq (q_lss rfl rfl rfl) rfl (simL_nil (nrm_then ?_))
 refine sim_cond rfl (fun h176v => ?_) (fun h177v => ?_)
 refine sim_skip ?_
 refine nrm_then (sim_seq ?_)
 refine sim_block ?_
 refine sim_region ?_
 refine vm rfl rfl ?_
 refine vm rfl rfl ?_
 refine simL_ask (fun hi178v => ?_)
 refine simL_row 3 rfl (encB_ne (j := s172v.2.toNat) (by omega)) (fun b179v b179vo ha180v => ?_)
 refine vq (q_idx1 rfl rfl rfl ha180v Try.underlying34 Try.sizeOf5 hi178v.1 hi178v.2) rfl ?_
 refine simL_do (re_storeb 98 3 rfl rfl rfl Try.sizeOf5 rfl ha180v hi178v.2 hi178v.1 rfl) rfl rfl ?_
 intro _
 refine simL_ren (.slice y149v.1 ((s172v.1.set s172v.2.toNat 98).length) y149v.2) (d := 11) rfl (slc_len (by simp)) ?_
 refine simL_ren (.slice y149v.1 ((s172v.1.set s172v.2.toNat 98).length) y149v.2) (d := 162) rfl (slc_len (by simp)) ?_
 refine simL_ren (.slice y149v.1 ((s172v.1.set s172v.2.toNat 98).length) y149v.2) (d := 167) rfl (slc_len (by simp)) ?_
 refine simL_nil (nrm_block (nrm_then (sim_region ?_)))
 refine vm rfl rfl ?_
 refine vq (q_add rfl rfl rfl) rfl ?_
 refine va rfl rfl (simL_nil ?_)
 exact nrm_again (s := (s172v.1.set s172v.2.toNat 98, IntKind.i64.wrap (s172v.2 + 1))) () ⟨rfl, rfl, rfl, rfl, rfl, rfl, rfl, trivial⟩ (.sel 0 rfl (.sel 0 rfl (.sel 0 rfl (.sel 0 rfl (.sel 0 rfl (.sel 0 rfl (.sel 0 rfl (.sel 0 rfl (.nil _)))))))))
 refine sim_exi ?_
 refine exi_then ?_
 refine exi_loop ?_
 refine exi_here ?_
 exact nrm_cut (s := ()) () ⟨rfl, rfl, rfl, rfl, rfl, trivial⟩ (.sel 0 rfl (.sel 0 rfl (.sel 0 rfl (.sel 1 rfl (.sel 1 rfl (.sel 1 rfl (.sel 1 rfl (.nil _))))))))
 intro s170v y171v
 refine sr ?_
 refine vm rfl rfl ?_
 refine vm rfl rfl ?_
 refine simL_cut' 5 (S := Bool) (Unit) (fun s y => [(0, .pointer (some ⟨b0, 0, none⟩)), (5, .pointer (some ⟨b1v, 0, none⟩)), (14, .int .i64 s156v.2), (176, .bool s)]) (fun s y => [obj b1 29 [.slice a1_0 x1_0.length c1_0, .int .i64 x1_1, .bool x1_2, str x1_3], obj b0 64 [.map (some m0_0), str x0_1, .int .i64 x0_2, .bool x0_3], obj b1v 52 [.int .i64 x2_0, .int .i64 x2_1, str x2_2, str x2_3, .slice a2_4 x2_4.length c2_4], RowV 36 3 (V36 (z1_0)) a1_0 x1_0 c1_0, mapF (mapO m0_0 enc9 encP q0_0) FA68 q0_0 x0_0, z1_0, F]) ?_ ?_
 refine simL_caseb (fun hb188v => ?_) (fun hb189v => ?_)
 rw [hb188v]
 refine simL_valg (q_move rfl rfl) rfl rfl rfl rfl rfl rfl ?_
 refine simL_bind (fun s185v hs186v => ?_)
 refine simL_effg (re_call (vs := [.int .i64 s147v.2]) (cap := []) (A := []) (rst := [obj b1 29 [.slice a1_0 x1_0.length c1_0, .int .i64 x1_1, .bool x1_2, str x1_3], obj b0 64 [.map (some m0_0), str x0_1, .int .i64 x0_2, .bool x0_3], obj b1v 52 [.int .i64 x2_0, .int .i64 x2_1, str x2_2, str x2_3, .slice a2_4 x2_4.length c2_4], RowV 36 3 (V36 (z1_0)) a1_0 x1_0 c1_0, mapF (mapO m0_0 enc9 encP q0_0) FA68 q0_0 x0_0, z1_0, F]) rfl rfl rfl rfl rfl rfl Try.call11 (.sel 0 rfl (.sel 0 rfl (.sel 0 rfl (.sel 0 rfl (.sel 0 rfl (.sel 0 rfl (.sel 0 rfl (.nil _)))))))) (synodref_Num.calls _ _ s147v.2 ) hs186v) rfl rfl rfl rfl rfl rfl ?_
 intro y187v
 refine simL_valg (q_move rfl rfl) rfl rfl rfl rfl rfl rfl ?_
 refine simL_valg (q_eql rfl rfl rfl) rfl rfl rfl rfl rfl rfl ?_
 refine vq (q_pick rfl rfl rfl rfl rfl) rfl (simL_nil ?_)
 exact nrm_cut (s := decide (s185v = s156v.2)) () ⟨rfl, rfl, rfl, rfl, trivial⟩ (.sel 0 rfl (.sel 0 rfl (.sel 0 rfl (.sel 0 rfl (.sel 0 rfl (.sel 0 rfl (.sel 0 rfl (.nil _))))))))
 rw [hb189v]
 refine simL_skipd rfl rfl rfl rfl rfl rfl ?_
 refine simL_skipd rfl rfl rfl rfl rfl rfl ?_
 refine simL_skipd rfl rfl rfl rfl rfl rfl ?_
 refine simL_skipd rfl rfl rfl rfl rfl rfl ?_
 refine vq (q_pick rfl rfl rfl rfl rfl) rfl (simL_nil ?_)
 exact nrm_cut (s := false) () ⟨rfl, rfl, rfl, rfl, trivial⟩ (.sel 0 rfl (.sel 0 rfl (.sel 0 rfl (.sel 0 rfl (.sel 0 rfl (.sel 0 rfl (.sel 0 rfl (.nil _))))))))
 intro s183v y184v
 refine vm rfl rfl ?_
 refine simL_cut' 8 (S := Bool) (Unit) (fun s y => [(185, .bool s)]) (fun s y => [obj b0 64 [.map (some m0_0), str x0_1, .int .i64 x0_2, .bool x0_3], obj b1 29 [.slice a1_0 x1_0.length c1_0, .int .i64 x1_1, .bool x1_2, str x1_3], mapF (mapO m0_0 enc9 encP q0_0) FA68 q0_0 x0_0, RowV 36 3 (V36 (z1_0)) a1_0 x1_0 c1_0, z1_0, F]) ?_ ?_
 refine simL_caseb (fun hb195v => ?_) (fun hb196v => ?_)
 rw [hb195v]
 refine simL_valg (q_move rfl rfl) rfl rfl rfl rfl rfl rfl ?_
 refine simL_valg (q_fa rfl rfl Try.underlying52 rfl rfl Try.sizeOf9 rfl) rfl rfl rfl rfl rfl rfl ?_
 refine simL_valg (q_load rfl rfl Try.isAgg9 (.obj 2 rfl rfl)) rfl rfl rfl rfl rfl rfl ?_
 refine simL_bind (fun s192v hs193v => ?_)
 refine simL_effg (re_call (vs := [.pointer (some ⟨b0, 0, none⟩), str x2_2]) (cap := []) (A := [obj b0 64 [.map (some m0_0), str x0_1, .int .i64 x0_2, .bool x0_3], mapF (mapO m0_0 enc9 encP q0_0) FA68 q0_0 x0_0]) (rst := [obj b1 29 [.slice a1_0 x1_0.length c1_0, .int .i64 x1_1, .bool x1_2, str x1_3], obj b1v 52 [.int .i64 x2_0, .int .i64 x2_1, str x2_2, str x2_3, .slice a2_4 x2_4.length c2_4], RowV 36 3 (V36 (z1_0)) a1_0 x1_0 c1_0, z1_0, F]) rfl rfl rfl rfl rfl rfl Try.call34 (.sel 1 rfl (.sel 3 rfl (.sel 0 rfl (.sel 0 rfl (.sel 0 rfl (.sel 0 rfl (.sel 0 rfl (.nil _)))))))) (disk_Disk_Has.calls _ _ b0 m0_0 q0_0 x0_0 x0_1 x0_2 x0_3 x2_2 ) hs193v) rfl rfl rfl rfl rfl rfl ?_
 intro y194v
 refine simL_valg (q_move rfl rfl) rfl rfl rfl rfl rfl rfl ?_
 refine simL_valg (q_eql rfl rfl rfl) rfl rfl rfl rfl rfl rfl ?_
 refine simL_valg (q_eqb rfl rfl rfl Try.underlying4) rfl rfl rfl rfl rfl rfl ?_
 refine vq (q_pick rfl rfl rfl rfl rfl) rfl (simL_nil ?_)
 exact nrm_cut (s := s192v == (decide (s156v.2 = (0 : Int)))) () ⟨rfl, trivial⟩ (.sel 0 rfl (.sel 1 rfl (.sel 0 rfl (.sel 1 rfl (.sel 1 rfl (.sel 1 rfl (.nil _)))))))
 rw [hb196v]
 refine simL_skipd rfl rfl rfl rfl rfl rfl ?_
 refine simL_skipd rfl rfl rfl rfl rfl rfl ?_
 refine simL_skipd rfl rfl rfl rfl rfl rfl ?_
 refine simL_skipd rfl rfl rfl rfl rfl rfl ?_
 refine simL_skipd rfl rfl rfl rfl rfl rfl ?_
 refine simL_skipd rfl rfl rfl rfl rfl rfl ?_
 refine simL_skipd rfl rfl rfl rfl rfl rfl ?_
 refine vq (q_pick rfl rfl rfl rfl rfl) rfl (simL_nil ?_)
 exact nrm_cut (s := false) () ⟨rfl, trivial⟩ (.sel 1 rfl (.sel 0 rfl (.sel 2 rfl (.sel 1 rfl (.sel 1 rfl (.sel 1 rfl (.nil _)))))))
 intro s190v y191v
 refine va rfl rfl (simL_nil (nrm_then (sim_rtn ?_)))
 exact rtn_fn (m0_0, q0_0, a1_0, c1_0, z1_0) rfl rfl rfl (.sel 0 rfl (.sel 1 rfl (.sel 0 rfl (.sel 0 rfl (.sel 0 rfl (.sel 0 rfl (.nil _)))))))

def synodref_SameFiles.l0 (x0 : List (Ty36)) (x1 : List (Ty36)) : Nat → Int → Option ((Unit) ⊕ (Bool))
  | 0, _ => none
  | k + 1, z7v => if z7v < (x0.length : Int) then (if 0 ≤ z7v ∧ z7v < (x0.length : Int) then (if 0 ≤ z7v ∧ z7v < (x1.length : Int) then ((synodref_SameBytes.f k ((x0.getD z7v.toNat dz36).2.1) ((x1.getD z7v.toNat dz36).2.1)).bind fun s36v => ((if (!s36v) = true then (some true) else (if 0 ≤ z7v ∧ z7v < (x0.length : Int) then (if 0 ≤ z7v ∧ z7v < (x1.length : Int) then (if ((x0.getD z7v.toNat dz36).1) = ((x1.getD z7v.toNat dz36).1) then (if 0 ≤ z7v ∧ z7v < (x0.length : Int) then (if 0 ≤ z7v ∧ z7v < (x1.length : Int) then (some (!decide ((x0.getD z7v.toNat dz36).2.2 = (x1.getD z7v.toNat dz36).2.2))) else none) else none) else (some true)) else none) else none)).bind fun s40v => (if s40v = true then (some (.inr false)) else (synodref_SameFiles.l0 x0 x1 k (IntKind.i64.wrap (z7v + 1)))))) else none) else none) else (some (.inl ()))
def synodref_SameFiles.f (k : Nat) (x0 : List (Ty36)) (x1 : List (Ty36)) : Option (Bool) := if (x0.length : Int) = (x1.length : Int) then (orR (synodref_SameFiles.l0 x0 x1 k 0) fun s3v => (some true)) else (some false)
theorem synodref_SameFiles.calls (W : World) (F : HA) (k : Nat) (a0 : Option Addr) (c0 : Nat) (x0 : List (Ty36)) (a1 : Option Addr) (c1 : Nat) (x1 : List (Ty36)) (h0 : RdV F 3 (V36 F) a0 x0) (hc0 : x0.length ≤ c0) (hm0 : c0 ≤ maxLen) (h1 : RdV F 3 (V36 F) a1 x1) (hc1 : x1.length ≤ c1) (hm1 : c1 ≤ maxLen) :
    Fn Try.prog W 25 [.slice a0 x0.length c0, .slice a1 x1.length c1] [] F (synodref_SameFiles.f k x0 x1) (fun (r : Bool) (y : Unit) => .bool r) (fun r y => []) := by
 unfold synodref_SameFiles.f
 refine fn_intro 57 Try.func25 rfl Try.ntmps25 rfl ?_
 refine sr ?_
 refine va rfl rfl (simL_nil (nrm_then (sim_seq (sr ?_))))
 refine vm rfl rfl ?_
 refine vq (q_len rfl rfl rfl Try.underlying27) rfl ?_
 refine vm rfl rfl ?_
 refine vq (q_len rfl rfl rfl Try.underlying27) rfl ?_
 refine vq (q_neq rfl rfl rfl) rfl (simL_nil (nrm_then ?_))
 refine sim_condn rfl (fun h1v => ?_) (fun h2v => ?_)
 refine sim_skip ?_
 refine nrm_then ?_
 refine sim_cutR (S := Unit) (Unit) (fun s y => []) (fun s y => [F]) ?_ ?_
 refine sr ?_
 refine va rfl rfl (simL_nil (nrm_then ?_))
 refine sim_block ?_
 refine sim_loop (S := Int) (Unit) (fun k s => synodref_SameFiles.l0 x0 x1 k s) (fun s y => [(0, .slice a0 x0.length c0), (1, .slice a1 x1.length c1), (5, .int .i64 s)]) (fun s y => [F]) (fun _ => by rw [synodref_SameFiles.l0]) ?_ k 0 () ⟨rfl, rfl, rfl, trivial⟩ (.sel 0 rfl (.nil _))
 intro k s5v y6v
 refine sim_eq (by rw [synodref_SameFiles.l0]) ?_
 refine sim_seq (sr ?_)
 refine vm rfl rfl ?_
 refine vm rfl rfl ?_
 refine vq (q_len rfl rfl rfl Try.underlying27) rfl ?_
 refine vq (q_lss rfl rfl rfl) rfl (simL_nil (nrm_then ?_))
 refine sim_cond rfl (fun h8v => ?_) (fun h9v => ?_)
 refine sim_skip ?_
 refine nrm_then (sim_seq ?_)
 refine sim_block ?_
 refine sim_seq ?_
 refine sim_ask (fun hi10v => ?_)
 obtain ⟨b11v, b11vo, r14v, ha12v, hV15v, hlr16v, hcell17v⟩ := RdV.pos h0 (Up.refl _) rfl (i := s5v.toNat) (by omega) dz36
 obtain ⟨a18v, c19v, rfl, ⟨he20v, hc21v, hm22v⟩⟩ := hV15v
 refine sim_ask (fun hi23v => ?_)
 obtain ⟨b24v, b24vo, r27v, ha25v, hV28v, hlr29v, hcell30v⟩ := RdV.pos h1 (Up.refl _) rfl (i := s5v.toNat) (by omega) dz36
 obtain ⟨a31v, c32v, rfl, ⟨he33v, hc34v, hm35v⟩⟩ := hV28v
 refine sim_bind (fun s36v hs37v => ?_)
 refine sim_draw (Γ := Unit) () [[], [], [0, 1], [0, 1, 2], rL 4, [], [], [5, 6], [5, 6, 7], [5, 6, 7, 8], rL 10, rL 11] [10] [0, 1, 2, 3, 4, 5, 6, 7, 8, 9, 11] (fun i => [[0], [0], [0], [0], [0], [0], [0], [0], [0], [0], [], [1]].getD i []) (fun i => [[], [], [], [], [], [], [], [], [], [], rL 10, []].getD i []) (fun γ i => [.slice a0 x0.length c0, .int .i64 s5v, .pointer (some ⟨b11v, b11vo + s5v.toNat * 3, none⟩), .pointer (some ⟨b11v, b11vo + s5v.toNat * 3 + 1, none⟩), .slice a18v (((x0.getD s5v.toNat dz36).2.1).length) c19v, .slice a1 x1.length c1, .int .i64 s5v, .pointer (some ⟨b24v, b24vo + s5v.toNat * 3, none⟩), .pointer (some ⟨b24v, b24vo + s5v.toNat * 3 + 1, none⟩), .slice a31v (((x1.getD s5v.toNat dz36).2.1).length) c32v, .bool s36v, .bool s36v].getD i undef) (fun j γ => [[F], [F]].getD j []) (fun γ => [(0, .slice a0 x0.length c0), (1, .slice a1 x1.length c1), (5, .int .i64 s5v), (6, .bool s36v)]) mixed (by decide) (by decide) (by decide) (by decide) (by decide) (by decide) (by decide) 57 rfl (by decide) (by decide) (by decide) (Ent.refl _) ?_ ?_ (fun _ => ⟨rfl, rfl, rfl, rfl, trivial⟩) ?_
 exact (aq rfl (fun γ => qm rfl (.o (s := 0) rfl (by decide) .nil) rfl) (aq rfl (fun γ => qm rfl (.o (s := 5) rfl (by decide) .nil) rfl) (aq rfl (fun γ => qp rfl rfl (.v 0 rfl rfl (.v 1 rfl rfl .nil)) (q_idx rfl rfl rfl ha12v Try.underlying27 Try.sizeOf36 hi10v.1 hi10v.2) rfl) (aq rfl (fun γ => qp rfl rfl (.v 2 rfl rfl .nil) (q_fa rfl rfl Try.underlying36 rfl rfl Try.sizeOf34 rfl) rfl) (aq rfl (fun γ => qp rfl rfl (.v 3 rfl rfl .nil) (q_load rfl rfl Try.isAgg34 (hcell17v 0 rfl 1 _ rfl)) rfl) (aq rfl (fun γ => qm rfl (.o (s := 1) rfl (by decide) .nil) rfl) (aq rfl (fun γ => qm rfl (.o (s := 5) rfl (by decide) .nil) rfl) (aq rfl (fun γ => qp rfl rfl (.v 5 rfl rfl (.v 6 rfl rfl .nil)) (q_idx rfl rfl rfl ha25v Try.underlying27 Try.sizeOf36 hi23v.1 hi23v.2) rfl) (aq rfl (fun γ => qp rfl rfl (.v 7 rfl rfl .nil) (q_fa rfl rfl Try.underlying36 rfl rfl Try.sizeOf34 rfl) rfl) (aq rfl (fun γ => qp rfl rfl (.v 8 rfl rfl .nil) (q_load rfl rfl Try.isAgg34 (hcell30v 0 rfl 1 _ rfl)) rfl) (aq rfl (fun γ => qp rfl rfl (.v 10 rfl rfl .nil) (q_asg rfl rfl) rfl) zA)))))))))))
 exact (ac (fun γ => eo (Z := Unit) (fun z => ()) rfl rfl (.v 4 rfl rfl (.v 9 rfl rfl .nil)) (re_call (vs := [.slice a18v (((x0.getD s5v.toNat dz36).2.1).length) c19v, .slice a31v (((x1.getD s5v.toNat dz36).2.1).length) c32v]) (cap := []) (A := []) (rst := [F]) rfl rfl rfl rfl rfl rfl Try.call24 (.sel 0 rfl (.nil _)) (synodref_SameBytes.calls _ _ k a18v c19v ((x0.getD s5v.toNat dz36).2.1) a31v c32v ((x1.getD s5v.toNat dz36).2.1) (he20v.lend 0 rfl) hc21v hm22v (he33v.lend 0 rfl) hc34v hm35v) hs37v) (fun _ => ⟨rfl, rfl, rfl, rfl, rfl, rfl, rfl, rfl, rfl, rfl, trivial⟩) (fun _ => .inr rfl) (fun z => Ent.refl _)) zA)
 intro g39v
 refine nrm_then ?_
 refine sim_cut (S := Bool) (Unit) (fun s y => [(0, .slice a0 x0.length c0), (1, .slice a1 x1.length c1), (5, .int .i64 s5v), (56, .bool s)]) (fun s y => [F]) ?_ ?_
 refine sim_if (fun hk42v => ?_) (fun hk42v => ?_)
 refine sim_draw (Γ := Unit) () [[], [0], [0, 1], [0, 1, 2], [0, 1, 2], rL 5, rL 6, rL 7, [0, 1, 2], [0, 1, 2], [0, 1, 2, 8, 9], [0, 1, 2, 8, 9, 10], [0, 1, 2, 8, 9, 10, 11], rL 13, rL 14, rL 15, rL 16, rL 16, rL 18, rL 19, rL 20, rL 16, rL 16, [0, 1, 2, 3, 4, 5, 6, 7, 8, 9, 10, 11, 12, 13, 14, 15, 21, 22], [0, 1, 2, 3, 4, 5, 6, 7, 8, 9, 10, 11, 12, 13, 14, 15, 21, 22, 23], [0, 1, 2, 3, 4, 5, 6, 7, 8, 9, 10, 11, 12, 13, 14, 15, 21, 22, 23, 24], rL 26, rL 27] [] [0, 1, 2, 3, 4, 5, 6, 7, 8, 9, 10, 11, 12, 13, 14, 15, 16, 17, 18, 19, 20, 21, 22, 23, 24, 25, 26, 27] (fun i => [[0], [0], [0], [0], [0], [0], [0], [0], [0], [0], [0], [0], [0], [0], [0], [0], [0], [0], [0], [0], [0], [0], [0], [0], [0], [0], [0], [0]].getD i []) (fun i => [[], [], [], [], [], [], [], [], [], [], [], [], [], [], [], [], [], [], [], [], [], [], [], [], [], [], [], []].getD i []) (fun γ i => [.bool s36v, .bool (!s36v), .bool (!s36v), undef, undef, undef, undef, undef, undef, undef, undef, undef, undef, undef, .bool true, .bool true, undef, undef, undef, undef, undef, undef, undef, undef, undef, undef, undef, .bool true].getD i undef) (fun j γ => [[F]].getD j []) (fun γ => [(0, .slice a0 x0.length c0), (1, .slice a1 x1.length c1), (5, .int .i64 s5v), (32, undef), (33, undef), (34, undef), (35, undef), (36, undef), (37, undef), (38, undef), (39, undef), (40, undef), (41, undef), (42, undef), (45, undef), (46, undef), (47, undef), (48, undef), (49, undef), (50, undef), (51, undef), (52, undef), (53, undef), (54, undef), (55, undef), (56, .bool true)]) mixed (by decide) (by decide) (by decide) (by decide) (by decide) (by decide) (by decide) 57 rfl (by decide) (by decide) (by decide) (Ent.refl _) ?_ ?_ (fun _ => ⟨rfl, rfl, rfl, rfl, rfl, rfl, rfl, rfl, rfl, rfl, rfl, rfl, rfl, rfl, rfl, rfl, rfl, rfl, rfl, rfl, rfl, rfl, rfl, rfl, rfl, rfl, trivial⟩) ?_
 exact (aq rfl (fun γ => qm rfl (.o (s := 6) rfl (by decide) .nil) rfl) (aq rfl (fun γ => qp rfl rfl (.v 0 rfl rfl .nil) (q_not rfl rfl) rfl) (aq rfl (fun γ => qm rfl (.v 1 rfl rfl .nil) rfl) (aq rfl (fun γ => qn rfl rfl (.o (s := 0) rfl (by decide) (.v 2 rfl rfl .nil)) rfl rfl (beq_yes' hk42v) rfl) (aq rfl (fun γ => qn rfl rfl (.o (s := 5) rfl (by decide) (.v 2 rfl rfl .nil)) rfl rfl (beq_yes' hk42v) rfl) (aq rfl (fun γ => qn rfl rfl (.v 2 rfl rfl (.v 3 rfl rfl (.v 4 rfl rfl .nil))) rfl rfl (beq_yes' hk42v) rfl) (aq rfl (fun γ => qn rfl rfl (.v 2 rfl rfl (.v 5 rfl rfl .nil)) rfl rfl (beq_yes' hk42v) rfl) (aq rfl (fun γ => qn rfl rfl (.v 2 rfl rfl (.v 6 rfl rfl .nil)) rfl rfl (beq_yes' hk42v) rfl) (aq rfl (fun γ => qn rfl rfl (.o (s := 1) rfl (by decide) (.v 2 rfl rfl .nil)) rfl rfl (beq_yes' hk42v) rfl) (aq rfl (fun γ => qn rfl rfl (.o (s := 5) rfl (by decide) (.v 2 rfl rfl .nil)) rfl rfl (beq_yes' hk42v) rfl) (aq rfl (fun γ => qn rfl rfl (.v 2 rfl rfl (.v 8 rfl rfl (.v 9 rfl rfl .nil))) rfl rfl (beq_yes' hk42v) rfl) (aq rfl (fun γ => qn rfl rfl (.v 2 rfl rfl (.v 10 rfl rfl .nil)) rfl rfl (beq_yes' hk42v) rfl) (aq rfl (fun γ => qn rfl rfl (.v 2 rfl rfl (.v 11 rfl rfl .nil)) rfl rfl (beq_yes' hk42v) rfl) (aq rfl (fun γ => qn rfl rfl (.v 2 rfl rfl (.v 7 rfl rfl (.v 12 rfl rfl .nil))) rfl rfl (beq_yes' hk42v) rfl) (aq rfl (fun γ => qp rfl rfl (.v 2 rfl rfl (.v 13 rfl rfl .nil)) (q_pick rfl rfl rfl rfl (bif_yes hk42v _ _)) rfl) (aq rfl (fun γ => qm rfl (.v 14 rfl rfl .nil) rfl) (aq rfl (fun γ => qn rfl rfl (.o (s := 0) rfl (by decide) (.v 15 rfl rfl .nil)) rfl rfl rfl rfl) (aq rfl (fun γ => qn rfl rfl (.o (s := 5) rfl (by decide) (.v 15 rfl rfl .nil)) rfl rfl rfl rfl) (aq rfl (fun γ => qn rfl rfl (.v 15 rfl rfl (.v 16 rfl rfl (.v 17 rfl rfl .nil))) rfl rfl rfl rfl) (aq rfl (fun γ => qn rfl rfl (.v 15 rfl rfl (.v 18 rfl rfl .nil)) rfl rfl rfl rfl) (aq rfl (fun γ => qn rfl rfl (.v 15 rfl rfl (.v 19 rfl rfl .nil)) rfl rfl rfl rfl) (aq rfl (fun γ => qn rfl rfl (.o (s := 1) rfl (by decide) (.v 15 rfl rfl .nil)) rfl rfl rfl rfl) (aq rfl (fun γ => qn rfl rfl (.o (s := 5) rfl (by decide) (.v 15 rfl rfl .nil)) rfl rfl rfl rfl) (aq rfl (fun γ => qn rfl rfl (.v 15 rfl rfl (.v 21 rfl rfl (.v 22 rfl rfl .nil))) rfl rfl rfl rfl) (aq rfl (fun γ => qn rfl rfl (.v 15 rfl rfl (.v 23 rfl rfl .nil)) rfl rfl rfl rfl) (aq rfl (fun γ => qn rfl rfl (.v 15 rfl rfl (.v 24 rfl rfl .nil)) rfl rfl rfl rfl) (aq rfl (fun γ => qn rfl rfl (.v 15 rfl rfl (.v 20 rfl rfl (.v 25 rfl rfl .nil))) rfl rfl rfl rfl) (aq rfl (fun γ => qp rfl rfl (.v 15 rfl rfl (.v 26 rfl rfl .nil)) (q_pick rfl rfl rfl rfl rfl) rfl) zA))))))))))))))))))))))))))))
 exact zA
 intro g43v
 exact nrm_cut (s := true) () ⟨rfl, rfl, rfl, rfl, trivial⟩ (.sel 0 rfl (.nil _))
 refine sim_ask (fun hi44v => ?_)
 obtain ⟨b45v, b45vo, r48v, ha46v, hV49v, hlr50v, hcell51v⟩ := RdV.pos h0 (Up.refl _) rfl (i := s5v.toNat) (by omega) dz36
 obtain ⟨a52v, c53v, rfl, ⟨he54v, hc55v, hm56v⟩⟩ := hV49v
 refine sim_ask (fun hi57v => ?_)
 obtain ⟨b58v, b58vo, r61v, ha59v, hV62v, hlr63v, hcell64v⟩ := RdV.pos h1 (Up.refl _) rfl (i := s5v.toNat) (by omega) dz36
 obtain ⟨a65v, c66v, rfl, ⟨he67v, hc68v, hm69v⟩⟩ := hV62v
 refine sim_if (fun hk70v => ?_) (fun hk70v => ?_)
 refine sim_ask (fun hi72v => ?_)
 obtain ⟨b73v, b73vo, r76v, ha74v, hV77v, hlr78v, hcell79v⟩ := RdV.pos h0 (Up.refl _) rfl (i := s5v.toNat) (by omega) dz36
 obtain ⟨a80v, c81v, rfl, ⟨he82v, hc83v, hm84v⟩⟩ := hV77v
 refine sim_ask (fun hi85v => ?_)
 obtain ⟨b86v, b86vo, r89v, ha87v, hV90v, hlr91v, hcell92v⟩ := RdV.pos h1 (Up.refl _) rfl (i := s5v.toNat) (by omega) dz36
 obtain ⟨a93v, c94v, rfl, ⟨he95v, hc96v, hm97v⟩⟩ := hV90v
 refine sim_draw (Γ := Unit) () [[], [0], [0, 1], [0, 1, 2], [0, 1, 2], rL 5, rL 6, rL 7, [0, 1, 2], [0, 1, 2], [0, 1, 2, 8, 9], [0, 1, 2, 8, 9, 10], [0, 1, 2, 8, 9, 10, 11], rL 13, rL 14, rL 15, rL 16, rL 16, rL 18, rL 19, rL 20, rL 16, rL 16, [0, 1, 2, 3, 4, 5, 6, 7, 8, 9, 10, 11, 12, 13, 14, 15, 21, 22], [0, 1, 2, 3, 4, 5, 6, 7, 8, 9, 10, 11, 12, 13, 14, 15, 21, 22, 23], [0, 1, 2, 3, 4, 5, 6, 7, 8, 9, 10, 11, 12, 13, 14, 15, 21, 22, 23, 24], rL 26, rL 27] [] [0, 1, 2, 3, 4, 5, 6, 7, 8, 9, 10, 11, 12, 13, 14, 15, 16, 17, 18, 19, 20, 21, 22, 23, 24, 25, 26, 27] (fun i => [[0], [0], [0], [0], [0], [0], [0], [0], [0], [0], [0], [0], [0], [0], [0], [0], [0], [0], [0], [0], [0], [0], [0], [0], [0], [0], [0], [0]].getD i []) (fun i => [[], [], [], [], [], [], [], [], [], [], [], [], [], [], [], [], [], [], [], [], [], [], [], [], [], [], [], []].getD i []) (fun γ i => [.bool s36v, .bool (!s36v), .bool (!s36v), .slice a0 x0.length c0, .int .i64 s5v, .pointer (some ⟨b45v, b45vo + s5v.toNat * 3, none⟩), .pointer (some ⟨b45v, b45vo + s5v.toNat * 3 + 0, none⟩), str ((x0.getD s5v.toNat dz36).1), .slice a1 x1.length c1, .int .i64 s5v, .pointer (some ⟨b58v, b58vo + s5v.toNat * 3, none⟩), .pointer (some ⟨b58v, b58vo + s5v.toNat * 3 + 0, none⟩), str ((x1.getD s5v.toNat dz36).1), .bool (!decide (((x0.getD s5v.toNat dz36).1) = ((x1.getD s5v.toNat dz36).1))), .bool (!decide (((x0.getD s5v.toNat dz36).1) = ((x1.getD s5v.toNat dz36).1))), .bool (!decide (((x0.getD s5v.toNat dz36).1) = ((x1.getD s5v.toNat dz36).1))), .slice a0 x0.length c0, .int .i64 s5v, .pointer (some ⟨b73v, b73vo + s5v.toNat * 3, none⟩), .pointer (some ⟨b73v, b73vo + s5v.toNat * 3 + 2, none⟩), .int .i64 ((x0.getD s5v.toNat dz36).2.2), .slice a1 x1.length c1, .int .i64 s5v, .pointer (some ⟨b86v, b86vo + s5v.toNat * 3, none⟩), .pointer (some ⟨b86v, b86vo + s5v.toNat * 3 + 2, none⟩), .int .i64 ((x1.getD s5v.toNat dz36).2.2), .bool (!decide ((x0.getD s5v.toNat dz36).2.2 = (x1.getD s5v.toNat dz36).2.2)), .bool (!decide ((x0.getD s5v.toNat dz36).2.2 = (x1.getD s5v.toNat dz36).2.2))].getD i undef) (fun j γ => [[F]].getD j []) (fun γ => [(0, .slice a0 x0.length c0), (1, .slice a1 x1.length c1), (5, .int .i64 s5v), (32, .slice a0 x0.length c0), (33, .int .i64 s5v), (34, .pointer (some ⟨b45v, b45vo + s5v.toNat * 3, none⟩)), (35, .pointer (some ⟨b45v, b45vo + s5v.toNat * 3 + 0, none⟩)), (36, str ((x0.getD s5v.toNat dz36).1)), (37, .slice a1 x1.length c1), (38, .int .i64 s5v), (39, .pointer (some ⟨b58v, b58vo + s5v.toNat * 3, none⟩)), (40, .pointer (some ⟨b58v, b58vo + s5v.toNat * 3 + 0, none⟩)), (41, str ((x1.getD s5v.toNat dz36).1)), (42, .bool (!decide (((x0.getD s5v.toNat dz36).1) = ((x1.getD s5v.toNat dz36).1)))), (45, .slice a0 x0.length c0), (46, .int .i64 s5v), (47, .pointer (some ⟨b73v, b73vo + s5v.toNat * 3, none⟩)), (48, .pointer (some ⟨b73v, b73vo + s5v.toNat * 3 + 2, none⟩)), (49, .int .i64 ((x0.getD s5v.toNat dz36).2.2)), (50, .slice a1 x1.length c1), (51, .int .i64 s5v), (52, .pointer (some ⟨b86v, b86vo + s5v.toNat * 3, none⟩)), (53, .pointer (some ⟨b86v, b86vo + s5v.toNat * 3 + 2, none⟩)), (54, .int .i64 ((x1.getD s5v.toNat dz36).2.2)), (55, .bool (!decide ((x0.getD s5v.toNat dz36).2.2 = (x1.getD s5v.toNat dz36).2.2))), (56, .bool (!decide ((x0.getD s5v.toNat dz36).2.2 = (x1.getD s5v.toNat dz36).2.2)))]) mixed (by decide) (by decide) (by decide) (by decide) (by decide) (by decide) (by decide) 57 rfl (by decide) (by decide) (by decide) (Ent.refl _) ?_ ?_ (fun _ => ⟨rfl, rfl, rfl, rfl, rfl, rfl, rfl, rfl, rfl, rfl, rfl, rfl, rfl, rfl, rfl, rfl, rfl, rfl, rfl, rfl, rfl, rfl, rfl, rfl, rfl, rfl, trivial⟩) ?_
 exact (aq rfl (fun γ => qm rfl (.o (s := 6) rfl (by decide) .nil) rfl) (aq rfl (fun γ => qp rfl rfl (.v 0 rfl rfl .nil) (q_not rfl rfl) rfl) (aq rfl (fun γ => qm rfl (.v 1 rfl rfl .nil) rfl) (aq rfl (fun γ => qy rfl rfl (.o (s := 0) rfl (by decide) (.v 2 rfl rfl .nil)) rfl rfl (beq_no (eq_false_of_ne_true hk42v)) (q_move rfl rfl) rfl) (aq rfl (fun γ => qy rfl rfl (.o (s := 5) rfl (by decide) (.v 2 rfl rfl .nil)) rfl rfl (beq_no (eq_false_of_ne_true hk42v)) (q_move rfl rfl) rfl) (aq rfl (fun γ => qy rfl rfl (.v 2 rfl rfl (.v 3 rfl rfl (.v 4 rfl rfl .nil))) rfl rfl (beq_no (eq_false_of_ne_true hk42v)) (q_idx rfl rfl rfl ha46v Try.underlying27 Try.sizeOf36 hi44v.1 hi44v.2) rfl) (aq rfl (fun γ => qy rfl rfl (.v 2 rfl rfl (.v 5 rfl rfl .nil)) rfl rfl (beq_no (eq_false_of_ne_true hk42v)) (q_fa rfl rfl Try.underlying36 rfl rfl Try.sizeOf9 rfl) rfl) (aq rfl (fun γ => qy rfl rfl (.v 2 rfl rfl (.v 6 rfl rfl .nil)) rfl rfl (beq_no (eq_false_of_ne_true hk42v)) (q_load rfl rfl Try.isAgg9 (hcell51v 0 rfl 0 _ rfl)) rfl) (aq rfl (fun γ => qy rfl rfl (.o (s := 1) rfl (by decide) (.v 2 rfl rfl .nil)) rfl rfl (beq_no (eq_false_of_ne_true hk42v)) (q_move rfl rfl) rfl) (aq rfl (fun γ => qy rfl rfl (.o (s := 5) rfl (by decide) (.v 2 rfl rfl .nil)) rfl rfl (beq_no (eq_false_of_ne_true hk42v)) (q_move rfl rfl) rfl) (aq rfl (fun γ => qy rfl rfl (.v 2 rfl rfl (.v 8 rfl rfl (.v 9 rfl rfl .nil))) rfl rfl (beq_no (eq_false_of_ne_true hk42v)) (q_idx rfl rfl rfl ha59v Try.underlying27 Try.sizeOf36 hi57v.1 hi57v.2) rfl) (aq rfl (fun γ => qy rfl rfl (.v 2 rfl rfl (.v 10 rfl rfl .nil)) rfl rfl (beq_no (eq_false_of_ne_true hk42v)) (q_fa rfl rfl Try.underlying36 rfl rfl Try.sizeOf9 rfl) rfl) (aq rfl (fun γ => qy rfl rfl (.v 2 rfl rfl (.v 11 rfl rfl .nil)) rfl rfl (beq_no (eq_false_of_ne_true hk42v)) (q_load rfl rfl Try.isAgg9 (hcell64v 0 rfl 0 _ rfl)) rfl) (aq rfl (fun γ => qy rfl rfl (.v 2 rfl rfl (.v 7 rfl rfl (.v 12 rfl rfl .nil))) rfl rfl (beq_no (eq_false_of_ne_true hk42v)) (q_nes rfl rfl rfl) rfl) (aq rfl (fun γ => qp rfl rfl (.v 2 rfl rfl (.v 13 rfl rfl .nil)) (q_pick rfl rfl rfl rfl (bif_no (eq_false_of_ne_true hk42v) _ _)) rfl) (aq rfl (fun γ => qm rfl (.v 14 rfl rfl .nil) rfl) (aq rfl (fun γ => qy rfl rfl (.o (s := 0) rfl (by decide) (.v 15 rfl rfl .nil)) rfl rfl (beq_no (ndec_no hk70v)) (q_move rfl rfl) rfl) (aq rfl (fun γ => qy rfl rfl (.o (s := 5) rfl (by decide) (.v 15 rfl rfl .nil)) rfl rfl (beq_no (ndec_no hk70v)) (q_move rfl rfl) rfl) (aq rfl (fun γ => qy rfl rfl (.v 15 rfl rfl (.v 16 rfl rfl (.v 17 rfl rfl .nil))) rfl rfl (beq_no (ndec_no hk70v)) (q_idx rfl rfl rfl ha74v Try.underlying27 Try.sizeOf36 hi72v.1 hi72v.2) rfl) (aq rfl (fun γ => qy rfl rfl (.v 15 rfl rfl (.v 18 rfl rfl .nil)) rfl rfl (beq_no (ndec_no hk70v)) (q_fa rfl rfl Try.underlying36 rfl rfl Try.sizeOf3 rfl) rfl) (aq rfl (fun γ => qy rfl rfl (.v 15 rfl rfl (.v 19 rfl rfl .nil)) rfl rfl (beq_no (ndec_no hk70v)) (q_load rfl rfl Try.isAgg3 (hcell79v 0 rfl 2 _ rfl)) rfl) (aq rfl (fun γ => qy rfl rfl (.o (s := 1) rfl (by decide) (.v 15 rfl rfl .nil)) rfl rfl (beq_no (ndec_no hk70v)) (q_move rfl rfl) rfl) (aq rfl (fun γ => qy rfl rfl (.o (s := 5) rfl (by decide) (.v 15 rfl rfl .nil)) rfl rfl (beq_no (ndec_no hk70v)) (q_move rfl rfl) rfl) (aq rfl (fun γ => qy rfl rfl (.v 15 rfl rfl (.v 21 rfl rfl (.v 22 rfl rfl .nil))) rfl rfl (beq_no (ndec_no hk70v)) (q_idx rfl rfl rfl ha87v Try.underlying27 Try.sizeOf36 hi85v.1 hi85v.2) rfl) (aq rfl (fun γ => qy rfl rfl (.v 15 rfl rfl (.v 23 rfl rfl .nil)) rfl rfl (beq_no (ndec_no hk70v)) (q_fa rfl rfl Try.underlying36 rfl rfl Try.sizeOf3 rfl) rfl) (aq rfl (fun γ => qy rfl rfl (.v 15 rfl rfl (.v 24 rfl rfl .nil)) rfl rfl (beq_no (ndec_no hk70v)) (q_load rfl rfl Try.isAgg3 (hcell92v 0 rfl 2 _ rfl)) rfl) (aq rfl (fun γ => qy rfl rfl (.v 15 rfl rfl (.v 20 rfl rfl (.v 25 rfl rfl .nil))) rfl rfl (beq_no (ndec_no hk70v)) (q_neq rfl rfl rfl) rfl) (aq rfl (fun γ => qp rfl rfl (.v 15 rfl rfl (.v 26 rfl rfl .nil)) (q_pick rfl rfl rfl rfl (bif_no (ndec_no hk70v) _ _)) rfl) zA))))))))))))))))))))))))))))
 exact zA
 intro g98v
 exact nrm_cut (s := !decide ((x0.getD s5v.toNat dz36).2.2 = (x1.getD s5v.toNat dz36).2.2)) () ⟨rfl, rfl, rfl, rfl, trivial⟩ (.sel 0 rfl (.nil _))
 refine sim_draw (Γ := Unit) () [[], [0], [0, 1], [0, 1, 2], [0, 1, 2], rL 5, rL 6, rL 7, [0, 1, 2], [0, 1, 2], [0, 1, 2, 8, 9], [0, 1, 2, 8, 9, 10], [0, 1, 2, 8, 9, 10, 11], rL 13, rL 14, rL 15, rL 16, rL 16, rL 18, rL 19, rL 20, rL 16, rL 16, [0, 1, 2, 3, 4, 5, 6, 7, 8, 9, 10, 11, 12, 13, 14, 15, 21, 22], [0, 1, 2, 3, 4, 5, 6, 7, 8, 9, 10, 11, 12, 13, 14, 15, 21, 22, 23], [0, 1, 2, 3, 4, 5, 6, 7, 8, 9, 10, 11, 12, 13, 14, 15, 21, 22, 23, 24], rL 26, rL 27] [] [0, 1, 2, 3, 4, 5, 6, 7, 8, 9, 10, 11, 12, 13, 14, 15, 16, 17, 18, 19, 20, 21, 22, 23, 24, 25, 26, 27] (fun i => [[0], [0], [0], [0], [0], [0], [0], [0], [0], [0], [0], [0], [0], [0], [0], [0], [0], [0], [0], [0], [0], [0], [0], [0], [0], [0], [0], [0]].getD i []) (fun i => [[], [], [], [], [], [], [], [], [], [], [], [], [], [], [], [], [], [], [], [], [], [], [], [], [], [], [], []].getD i []) (fun γ i => [.bool s36v, .bool (!s36v), .bool (!s36v), .slice a0 x0.length c0, .int .i64 s5v, .pointer (some ⟨b45v, b45vo + s5v.toNat * 3, none⟩), .pointer (some ⟨b45v, b45vo + s5v.toNat * 3 + 0, none⟩), str ((x0.getD s5v.toNat dz36).1), .slice a1 x1.length c1, .int .i64 s5v, .pointer (some ⟨b58v, b58vo + s5v.toNat * 3, none⟩), .pointer (some ⟨b58v, b58vo + s5v.toNat * 3 + 0, none⟩), str ((x1.getD s5v.toNat dz36).1), .bool (!decide (((x0.getD s5v.toNat dz36).1) = ((x1.getD s5v.toNat dz36).1))), .bool (!decide (((x0.getD s5v.toNat dz36).1) = ((x1.getD s5v.toNat dz36).1))), .bool (!decide (((x0.getD s5v.toNat dz36).1) = ((x1.getD s5v.toNat dz36).1))), undef, undef, undef, undef, undef, undef, undef, undef, undef, undef, undef, .bool true].getD i undef) (fun j γ => [[F]].getD j []) (fun γ => [(0, .slice a0 x0.length c0), (1, .slice a1 x1.length c1), (5, .int .i64 s5v), (32, .slice a0 x0.length c0), (33, .int .i64 s5v), (34, .pointer (some ⟨b45v, b45vo + s5v.toNat * 3, none⟩)), (35, .pointer (some ⟨b45v, b45vo + s5v.toNat * 3 + 0, none⟩)), (36, str ((x0.getD s5v.toNat dz36).1)), (37, .slice a1 x1.length c1), (38, .int .i64 s5v), (39, .pointer (some ⟨b58v, b58vo + s5v.toNat * 3, none⟩)), (40, .pointer (some ⟨b58v, b58vo + s5v.toNat * 3 + 0, none⟩)), (41, str ((x1.getD s5v.toNat dz36).1)), (42, .bool (!decide (((x0.getD s5v.toNat dz36).1) = ((x1.getD s5v.toNat dz36).1)))), (45, undef), (46, undef), (47, undef), (48, undef), (49, undef), (50, undef), (51, undef), (52, undef), (53, undef), (54, undef), (55, undef), (56, .bool true)]) mixed (by decide) (by decide) (by decide) (by decide) (by decide) (by decide) (by decide) 57 rfl (by decide) (by decide) (by decide) (Ent.refl _) ?_ ?_ (fun _ => ⟨rfl, rfl, rfl, rfl, rfl, rfl, rfl, rfl, rfl, rfl, rfl, rfl, rfl, rfl, rfl, rfl, rfl, rfl, rfl, rfl, rfl, rfl, rfl, rfl, rfl, rfl, trivial⟩) ?_
 exact (aq rfl (fun γ => qm rfl (.o (s := 6) rfl (by decide) .nil) rfl) (aq rfl (fun γ => qp rfl rfl (.v 0 rfl rfl .nil) (q_not rfl rfl) rfl) (aq rfl (fun γ => qm rfl (.v 1 rfl rfl .nil) rfl) (aq rfl (fun γ => qy rfl rfl (.o (s := 0) rfl (by decide) (.v 2 rfl rfl .nil)) rfl rfl (beq_no (eq_false_of_ne_true hk42v)) (q_move rfl rfl) rfl) (aq rfl (fun γ => qy rfl rfl (.o (s := 5) rfl (by decide) (.v 2 rfl rfl .nil)) rfl rfl (beq_no (eq_false_of_ne_true hk42v)) (q_move rfl rfl) rfl) (aq rfl (fun γ => qy rfl rfl (.v 2 rfl rfl (.v 3 rfl rfl (.v 4 rfl rfl .nil))) rfl rfl (beq_no (eq_false_of_ne_true hk42v)) (q_idx rfl rfl rfl ha46v Try.underlying27 Try.sizeOf36 hi44v.1 hi44v.2) rfl) (aq rfl (fun γ => qy rfl rfl (.v 2 rfl rfl (.v 5 rfl rfl .nil)) rfl rfl (beq_no (eq_false_of_ne_true hk42v)) (q_fa rfl rfl Try.underlying36 rfl rfl Try.sizeOf9 rfl) rfl) (aq rfl (fun γ => qy rfl rfl (.v 2 rfl rfl (.v 6 rfl rfl .nil)) rfl rfl (beq_no (eq_false_of_ne_true hk42v)) (q_load rfl rfl Try.isAgg9 (hcell51v 0 rfl 0 _ rfl)) rfl) (aq rfl (fun γ => qy rfl rfl (.o (s := 1) rfl (by decide) (.v 2 rfl rfl .nil)) rfl rfl (beq_no (eq_false_of_ne_true hk42v)) (q_move rfl rfl) rfl) (aq rfl (fun γ => qy rfl rfl (.o (s := 5) rfl (by decide) (.v 2 rfl rfl .nil)) rfl rfl (beq_no (eq_false_of_ne_true hk42v)) (q_move rfl rfl) rfl) (aq rfl (fun γ => qy rfl rfl (.v 2 rfl rfl (.v 8 rfl rfl (.v 9 rfl rfl .nil))) rfl rfl (beq_no (eq_false_of_ne_true hk42v)) (q_idx rfl rfl rfl ha59v Try.underlying27 Try.sizeOf36 hi57v.1 hi57v.2) rfl) (aq rfl (fun γ => qy rfl rfl (.v 2 rfl rfl (.v 10 rfl rfl .nil)) rfl rfl (beq_no (eq_false_of_ne_true hk42v)) (q_fa rfl rfl Try.underlying36 rfl rfl Try.sizeOf9 rfl) rfl) (aq rfl (fun γ => qy rfl rfl (.v 2 rfl rfl (.v 11 rfl rfl .nil)) rfl rfl (beq_no (eq_false_of_ne_true hk42v)) (q_load rfl rfl Try.isAgg9 (hcell64v 0 rfl 0 _ rfl)) rfl) (aq rfl (fun γ => qy rfl rfl (.v 2 rfl rfl (.v 7 rfl rfl (.v 12 rfl rfl .nil))) rfl rfl (beq_no (eq_false_of_ne_true hk42v)) (q_nes rfl rfl rfl) rfl) (aq rfl (fun γ => qp rfl rfl (.v 2 rfl rfl (.v 13 rfl rfl .nil)) (q_pick rfl rfl rfl rfl (bif_no (eq_false_of_ne_true hk42v) _ _)) rfl) (aq rfl (fun γ => qm rfl (.v 14 rfl rfl .nil) rfl) (aq rfl (fun γ => qn rfl rfl (.o (s := 0) rfl (by decide) (.v 15 rfl rfl .nil)) rfl rfl (beq_yes' (ndec_yes hk70v)) rfl) (aq rfl (fun γ => qn rfl rfl (.o (s := 5) rfl (by decide) (.v 15 rfl rfl .nil)) rfl rfl (beq_yes' (ndec_yes hk70v)) rfl) (aq rfl (fun γ => qn rfl rfl (.v 15 rfl rfl (.v 16 rfl rfl (.v 17 rfl rfl .nil))) rfl rfl (beq_yes' (ndec_yes hk70v)) rfl) (aq rfl (fun γ => qn rfl rfl (.v 15 rfl rfl (.v 18 rfl rfl .nil)) rfl rfl (beq_yes' (ndec_yes hk70v)) rfl) (aq rfl (fun γ => qn rfl rfl (.v 15 rfl rfl (.v 19 rfl rfl .nil)) rfl rfl (beq_yes' (ndec_yes hk70v)) rfl) (aq rfl (fun γ => qn rfl rfl (.o (s := 1) rfl (by decide) (.v 15 rfl rfl .nil)) rfl rfl (beq_yes' (ndec_yes hk70v)) rfl) (aq rfl (fun γ => qn rfl rfl (.o (s := 5) rfl (by decide) (.v 15 rfl rfl .nil)) rfl rfl (beq_yes' (ndec_yes hk70v)) rfl) (aq rfl (fun γ => qn rfl rfl (.v 15 rfl rfl (.v 21 rfl rfl (.v 22 rfl rfl .nil))) rfl rfl (beq_yes' (ndec_yes hk70v)) rfl) (aq rfl (fun γ => qn rfl rfl (.v 15 rfl rfl (.v 23 rfl rfl .nil)) rfl rfl (beq_yes' (ndec_yes hk70v)) rfl) (aq rfl (fun γ => qn rfl rfl (.v 15 rfl rfl (.v 24 rfl rfl .nil)) rfl rfl (beq_yes' (ndec_yes hk70v)) rfl) (aq rfl (fun γ => qn rfl rfl (.v 15 rfl rfl (.v 20 rfl rfl (.v 25 rfl rfl .nil))) rfl rfl (beq_yes' (ndec_yes hk70v)) rfl) (aq rfl (fun γ => qp rfl rfl (.v 15 rfl rfl (.v 26 rfl rfl .nil)) (q_pick rfl rfl rfl rfl (bif_yes (ndec_yes hk70v) _ _)) rfl) zA))))))))))))))))))))))))))))
 exact zA
 intro g71v
 exact nrm_cut (s := true) () ⟨rfl, rfl, rfl, rfl, trivial⟩ (.sel 0 rfl (.nil _))
 intro s40v y41v
 refine sim_condb rfl (fun h99v => ?_) (fun h100v => ?_)
 refine sr ?_
 refine va rfl rfl (simL_nil (nrm_then (sim_rtn ?_)))
 refine rtn_block ?_
 refine rtn_then ?_
 refine rtn_loop ?_
 refine rtn_block ?_
 refine rtn_cutR ?_
 exact rtn_fn () rfl rfl rfl (.sel 0 rfl (.nil _))
 refine sim_skip ?_
 refine nrm_block (nrm_then (sim_region ?_))
 refine vm rfl rfl ?_
 refine vq (q_add rfl rfl rfl) rfl ?_
 refine va rfl rfl (simL_nil ?_)
 exact nrm_again (s := IntKind.i64.wrap (s5v + 1)) () ⟨rfl, rfl, rfl, trivial⟩ (.sel 0 rfl (.nil _))
 refine sim_exi ?_
 refine exi_then ?_
 refine exi_loop ?_
 refine exi_here ?_
 exact nrm_cutR (s := ()) () trivial (.sel 0 rfl (.nil _))
 intro s3v y4v
 refine sr ?_
 refine va rfl rfl (simL_nil (nrm_then (sim_rtn ?_)))
 exact rtn_fn () rfl rfl rfl (.sel 0 rfl (.nil _))
 refine sr ?_
 refine va rfl rfl (simL_nil (nrm_then (sim_rtn ?_)))
 refine rtn_then ?_
 exact rtn_fn () rfl rfl rfl (.sel 0 rfl (.nil _))

def synodref4_Disk_List.l0 (x0_0 : List (Ty36)) : Nat → List (List UInt8) → Int → Option (List (List UInt8))
  | 0, _, _ => none
  | k + 1, z5v, z6v => if z6v < (x0_0.length : Int) then (if 0 ≤ z6v ∧ z6v < (x0_0.length : Int) then (if (z5v.length + ([(x0_0.getD z6v.toNat dz36).1] : List (List UInt8)).length) * 16 ≤ 140737488355328 then (synodref4_Disk_List.l0 x0_0 k (z5v ++ ([(x0_0.getD z6v.toNat dz36).1] : List (List UInt8))) (IntKind.i64.wrap (z6v + 1))) else none) else none) else (some z5v)
def synodref4_Disk_List.f (k : Nat) (x0_0 : List (Ty36)) (x0_1 : Int) (x0_2 : Bool) (x0_3 : List UInt8) : Option (List (List UInt8)) := (synodref4_Disk_List.l0 x0_0 k ([] : List (List UInt8)) 0).bind fun s1v => (some s1v)
theorem synodref4_Disk_List.calls (W : World) (F : HA) (k : Nat) (b0 : Nat) (a0_0 : Option Addr) (c0_0 : Nat) (x0_0 : List (Ty36)) (x0_1 : Int) (x0_2 : Bool) (x0_3 : List UInt8) (h0_0 : RdV F 3 (V36 F) a0_0 x0_0) (hc0_0 : x0_0.length ≤ c0_0) (hm0_0 : c0_0 ≤ maxLen) :
    Fn Try.prog W 58 [.pointer (some ⟨b0, 0, none⟩)] [obj b0 29 [.slice a0_0 x0_0.length c0_0, .int .i64 x0_1, .bool x0_2, str x0_3]] F (synodref4_Disk_List.f k x0_0 x0_1 x0_2 x0_3) (fun (r : List (List UInt8)) (y : Option Addr × Nat) => .slice y.1 r.length y.2) (fun r y => [RowV 9 1 (V9 tt) y.1 r y.2, obj b0 29 [.slice a0_0 x0_0.length c0_0, .int .i64 x0_1, .bool x0_2, str x0_3]]) := by
 unfold synodref4_Disk_List.f
 refine fn_intro 26 Try.func58 rfl Try.ntmps58 rfl ?_
 refine sr ?_
 refine va rfl rfl (nx ?_)
 refine va rfl rfl (simL_nil (nrm_then ?_))
 refine sim_cut (S := List (List UInt8)) (Option Addr × Nat) (fun s y => [(3, .slice y.1 s.length y.2)]) (fun s y => [obj b0 29 [.slice a0_0 x0_0.length c0_0, .int .i64 x0_1, .bool x0_2, str x0_3], RowV 9 1 (V9 tt) y.1 s y.2, F]) ?_ ?_
 refine sr ?_
 refine va rfl rfl (simL_nil (nrm_then ?_))
 refine sim_block ?_
 refine sim_loop (S := List (List UInt8) × Int) (Option Addr × Nat) (fun k s => synodref4_Disk_List.l0 x0_0 k s.1 s.2) (fun s y => [(0, .pointer (some ⟨b0, 0, none⟩)), (3, .slice y.1 s.1.length y.2), (4, .int .i64 s.2)]) (fun s y => [obj b0 29 [.slice a0_0 x0_0.length c0_0, .int .i64 x0_1, .bool x0_2, str x0_3], RowV 9 1 (V9 tt) y.1 s.1 y.2, F]) (fun _ => by rw [synodref4_Disk_List.l0]) ?_ k (([] : List (List UInt8)), 0) (none, 0) ⟨rfl, rfl, rfl, trivial⟩ (.sel 0 rfl (.rowV_nil (.sel 0 rfl (.nil _))))
 intro k s3v y4v
 refine sim_eq (by rw [synodref4_Disk_List.l0]) ?_
 refine sim_seq (sr ?_)
 refine vm rfl rfl ?_
 refine vm rfl rfl ?_
 refine vn rfl rfl ?_
 refine vq (q_fa rfl rfl Try.underlying29 rfl rfl Try.sizeOf27 rfl) rfl ?_
 refine vq (q_load rfl rfl Try.isAgg27 (.obj 0 rfl rfl)) rfl ?_
 refine vq (q_len rfl rfl rfl Try.underlying27) rfl ?_
 refine vq (q_lss rfl rfl rfl) rfl (simL_nil (nrm_then ?_))
 refine sim_cond rfl (fun h7v => ?_) (fun h8v => ?_)
 refine sim_skip ?_
 refine nrm_then (sim_seq ?_)
 refine sim_block ?_
 refine sim_region ?_
 refine vm rfl rfl ?_
 refine vm rfl rfl ?_
 refine vn rfl rfl ?_
 refine vq (q_fa rfl rfl Try.underlying29 rfl rfl Try.sizeOf27 rfl) rfl ?_
 refine vq (q_load rfl rfl Try.isAgg27 (.obj 0 rfl rfl)) rfl ?_
 refine vm rfl rfl ?_
 refine simL_ask (fun hi9v => ?_)
 obtain ⟨b10v, b10vo, r13v, ha11v, hV14v, hlr15v, hcell16v⟩ := RdV.pos h0_0 (Up.refl _) rfl (i := s3v.2.toNat) (by omega) dz36
 obtain ⟨a17v, c18v, rfl, ⟨he19v, hc20v, hm21v⟩⟩ := hV14v
 refine vq (q_idx rfl rfl rfl ha11v Try.underlying27 Try.sizeOf36 hi9v.1 hi9v.2) rfl ?_
 refine vq (q_fa rfl rfl Try.underlying36 rfl rfl Try.sizeOf9 rfl) rfl ?_
 refine vq (q_load rfl rfl Try.isAgg9 (hcell16v 2 rfl 0 _ rfl)) rfl ?_
 have hlb23v : ListV 1 (V9 tt) ([(x0_0.getD s3v.2.toNat dz36).1] : List (List UInt8)) [[str ((x0_0.getD s3v.2.toNat dz36).1)]] := ⟨⟨rfl, one_of (by rfl), rfl⟩, trivial⟩
 refine simL_eff (re_litV (V := (V9 tt)) (xs := ([(x0_0.getD s3v.2.toNat dz36).1] : List (List UInt8))) [[str ((x0_0.getD s3v.2.toNat dz36).1)]] rfl rfl Try.underlying22 elt9 rfl (by kernel_rfl) rfl hlb23v rfl rfl) rfl rfl rfl ?_
 intro b23v
 refine simL_openV 2 rfl (fun rs28v hl29v => ?_)
 refine simL_ask (fun hb27v => ?_)
 refine simL_eff (re_appendV 2 rfl rfl rfl Try.underlying22 elt9 rfl hl29v (RdsV.row hlb23v 0 rfl) hb27v) rfl rfl rfl ?_
 intro y26v
 refine va rfl rfl (simL_nil (nrm_block (nrm_then (sim_region ?_))))
 refine vm rfl rfl ?_
 refine vq (q_add rfl rfl rfl) rfl ?_
 refine va rfl rfl (simL_nil ?_)
 exact nrm_again (s := (s3v.1 ++ ([(x0_0.getD s3v.2.toNat dz36).1] : List (List UInt8)), IntKind.i64.wrap (s3v.2 + 1))) (y26v.1, y26v.2) ⟨rfl, rfl, rfl, trivial⟩ (.sel 1 rfl (.sel 1 rfl (.sel 1 rfl (.nil _))))
 refine sim_exi ?_
 refine exi_then ?_
 refine exi_loop ?_
 refine exi_here ?_
 exact nrm_cut (s := s3v.1) (y4v.1, y4v.2) ⟨rfl, trivial⟩ (.sel 0 rfl (.sel 0 rfl (.sel 0 rfl (.nil _))))
 intro s1v y2v
 refine sr ?_
 refine vm rfl rfl ?_
 refine va rfl rfl (simL_nil (nrm_then (sim_rtn ?_)))
 exact rtn_fn (y2v.1, y2v.2) rfl rfl rfl (.sel 1 rfl (.sel 0 rfl (.sel 0 rfl (.nil _))))

def synodref_SameTexts.l0 (x0 : List (List UInt8)) (x1 : List (List UInt8)) : Nat → Int → Option ((Unit) ⊕ (Bool))
  | 0, _ => none
  | k + 1, z7v => if z7v < (x0.length : Int) then (if 0 ≤ z7v ∧ z7v < (x0.length : Int) then (if 0 ≤ z7v ∧ z7v < (x1.length : Int) then (if (x0.getD z7v.toNat ([] : List UInt8)) = (x1.getD z7v.toNat ([] : List UInt8)) then (synodref_SameTexts.l0 x0 x1 k (IntKind.i64.wrap (z7v + 1))) else (some (.inr false))) else none) else none) else (some (.inl ()))
def synodref_SameTexts.f (k : Nat) (x0 : List (List UInt8)) (x1 : List (List UInt8)) : Option (Bool) := if (x0.length : Int) = (x1.length : Int) then (orR (synodref_SameTexts.l0 x0 x1 k 0) fun s3v => (some true)) else (some false)
theorem synodref_SameTexts.calls (W : World) (F : HA) (k : Nat) (a0 : Option Addr) (c0 : Nat) (x0 : List (List UInt8)) (a1 : Option Addr) (c1 : Nat) (x1 : List (List UInt8)) (h0 : RdV F 1 (V9 tt) a0 x0) (hc0 : x0.length ≤ c0) (hm0 : c0 ≤ maxLen) (h1 : RdV F 1 (V9 tt) a1 x1) (hc1 : x1.length ≤ c1) (hm1 : c1 ≤ maxLen) :
    Fn Try.prog W 57 [.slice a0 x0.length c0, .slice a1 x1.length c1] [] F (synodref_SameTexts.f k x0 x1) (fun (r : Bool) (y : Unit) => .bool r) (fun r y => []) := by
 unfold synodref_SameTexts.f
 refine fn_intro 26 Try.func57 rfl Try.ntmps57 rfl ?_
 refine sr ?_
 refine va rfl rfl (simL_nil (nrm_then (sim_seq (sr ?_))))
 refine vm rfl rfl ?_
 refine vq (q_len rfl rfl rfl Try.underlying22) rfl ?_
 refine vm rfl rfl ?_
 refine vq (q_len rfl rfl rfl Try.underlying22) rfl ?_
 refine vq (q_neq rfl rfl rfl) rfl (simL_nil (nrm_then ?_))
 refine sim_condn rfl (fun h1v => ?_) (fun h2v => ?_)
 refine sim_skip ?_
 refine nrm_then ?_
 refine sim_cutR (S := Unit) (Unit) (fun s y => []) (fun s y => [F]) ?_ ?_
 refine sr ?_
 refine va rfl rfl (simL_nil (nrm_then ?_))
 refine sim_block ?_
 refine sim_loop (S := Int) (Unit) (fun k s => synodref_SameTexts.l0 x0 x1 k s) (fun s y => [(0, .slice a0 x0.length c0), (1, .slice a1 x1.length c1), (5, .int .i64 s)]) (fun s y => [F]) (fun _ => by rw [synodref_SameTexts.l0]) ?_ k 0 () ⟨rfl, rfl, rfl, trivial⟩ (.sel 0 rfl (.nil _))
 intro k s5v y6v
 refine sim_eq (by rw [synodref_SameTexts.l0]) ?_
 refine sim_seq (sr ?_)
 refine vm rfl rfl ?_
 refine vm rfl rfl ?_
 refine vq (q_len rfl rfl rfl Try.underlying22) rfl ?_
 refine vq (q_lss rfl rfl rfl) rfl (simL_nil (nrm_then ?_))
 refine sim_cond rfl (fun h8v => ?_) (fun h9v => ?_)
 refine sim_skip ?_
 refine nrm_then (sim_seq ?_)
 refine sim_block ?_
 refine sim_seq ?_
 refine sim_ask (fun hi10v => ?_)
 obtain ⟨b11v, b11vo, r14v, ha12v, hV15v, hlr16v, hcell17v⟩ := RdV.pos h0 (Up.refl _) rfl (i := s5v.toNat) (by omega) ([] : List UInt8)
 obtain rfl := hV15v
 refine sim_ask (fun hi18v => ?_)
 obtain ⟨b19v, b19vo, r22v, ha20v, hV23v, hlr24v, hcell25v⟩ := RdV.pos h1 (Up.refl _) rfl (i := s5v.toNat) (by omega) ([] : List UInt8)
 obtain rfl := hV23v
 refine sim_draw (Γ := Unit) () [[], [], [0, 1], [0, 1, 2], [], [], [4, 5], [4, 5, 6], rL 8] [] [0, 1, 2, 3, 4, 5, 6, 7, 8] (fun i => [[0], [0], [0], [0], [0], [0], [0], [0], [0]].getD i []) (fun i => [[], [], [], [], [], [], [], [], []].getD i []) (fun γ i => [.slice a0 x0.length c0, .int .i64 s5v, .pointer (some ⟨b11v, b11vo + s5v.toNat * 1, none⟩), str (x0.getD s5v.toNat ([] : List UInt8)), .slice a1 x1.length c1, .int .i64 s5v, .pointer (some ⟨b19v, b19vo + s5v.toNat * 1, none⟩), str (x1.getD s5v.toNat ([] : List UInt8)), .bool (!decide ((x0.getD s5v.toNat ([] : List UInt8)) = (x1.getD s5v.toNat ([] : List UInt8))))].getD i undef) (fun j γ => [[F]].getD j []) (fun γ => [(0, .slice a0 x0.length c0), (1, .slice a1 x1.length c1), (5, .int .i64 s5v), (25, .bool (!decide ((x0.getD s5v.toNat ([] : List UInt8)) = (x1.getD s5v.toNat ([] : List UInt8)))))]) mixed (by decide) (by decide) (by decide) (by decide) (by decide) (by decide) (by decide) 26 rfl (by decide) (by decide) (by decide) (Ent.refl _) ?_ ?_ (fun _ => ⟨rfl, rfl, rfl, rfl, trivial⟩) ?_
 exact (aq rfl (fun γ => qm rfl (.o (s := 0) rfl (by decide) .nil) rfl) (aq rfl (fun γ => qm rfl (.o (s := 5) rfl (by decide) .nil) rfl) (aq rfl (fun γ => qp rfl rfl (.v 0 rfl rfl (.v 1 rfl rfl .nil)) (q_idx rfl rfl rfl ha12v Try.underlying22 Try.sizeOf9 hi10v.1 hi10v.2) rfl) (aq rfl (fun γ => qp rfl rfl (.v 2 rfl rfl .nil) (q_load rfl rfl Try.isAgg9 (hcell17v 0 rfl 0 _ rfl)) rfl) (aq rfl (fun γ => qm rfl (.o (s := 1) rfl (by decide) .nil) rfl) (aq rfl (fun γ => qm rfl (.o (s := 5) rfl (by decide) .nil) rfl) (aq rfl (fun γ => qp rfl rfl (.v 4 rfl rfl (.v 5 rfl rfl .nil)) (q_idx rfl rfl rfl ha20v Try.underlying22 Try.sizeOf9 hi18v.1 hi18v.2) rfl) (aq rfl (fun γ => qp rfl rfl (.v 6 rfl rfl .nil) (q_load rfl rfl Try.isAgg9 (hcell25v 0 rfl 0 _ rfl)) rfl) (aq rfl (fun γ => qp rfl rfl (.v 3 rfl rfl (.v 7 rfl rfl .nil)) (q_nes rfl rfl rfl) rfl) zA)))))))))
 exact zA
 intro g26v
 refine nrm_then ?_
 refine sim_condn rfl (fun h27v => ?_) (fun h28v => ?_)
 refine sim_skip ?_
 refine nrm_block (nrm_then (sim_region ?_))
 refine vm rfl rfl ?_
 refine vq (q_add rfl rfl rfl) rfl ?_
 refine va rfl rfl (simL_nil ?_)
 exact nrm_again (s := IntKind.i64.wrap (s5v + 1)) () ⟨rfl, rfl, rfl, trivial⟩ (.sel 0 rfl (.nil _))
 refine sr ?_
 refine va rfl rfl (simL_nil (nrm_then (sim_rtn ?_)))
 refine rtn_block ?_
 refine rtn_then ?_
 refine rtn_loop ?_
 refine rtn_block ?_
 refine rtn_cutR ?_
 exact rtn_fn () rfl rfl rfl (.sel 0 rfl (.nil _))
 refine sim_exi ?_
 refine exi_then ?_
 refine exi_loop ?_
 refine exi_here ?_
 exact nrm_cutR (s := ()) () trivial (.sel 0 rfl (.nil _))
 intro s3v y4v
 refine sr ?_
 refine va rfl rfl (simL_nil (nrm_then (sim_rtn ?_)))
 exact rtn_fn () rfl rfl rfl (.sel 0 rfl (.nil _))
 refine sr ?_
 refine va rfl rfl (simL_nil (nrm_then (sim_rtn ?_)))
 refine rtn_then ?_
 exact rtn_fn () rfl rfl rfl (.sel 0 rfl (.nil _))

def disk_Disk_Down.f (x0_0 : List ((List UInt8) × (List UInt8 × Int))) (x0_1 : List UInt8) (x0_2 : Int) (x0_3 : Bool) : Option (Bool) := some x0_3
theorem disk_Disk_Down.calls (W : World) (F : HA) (b0 : Nat) (m0_0 : Nat) (q0_0 : Kps) (x0_0 : List ((List UInt8) × (List UInt8 × Int))) (x0_1 : List UInt8) (x0_2 : Int) (x0_3 : Bool)  :
    Fn Try.prog W 23 [.pointer (some ⟨b0, 0, none⟩)] [obj b0 64 [.map (some m0_0), str x0_1, .int .i64 x0_2, .bool x0_3], mapF (mapO m0_0 enc9 encP q0_0) FA68 q0_0 x0_0] F (disk_Disk_Down.f x0_0 x0_1 x0_2 x0_3) (fun (r : Bool) (y : Unit) => .bool r) (fun r y => [obj b0 64 [.map (some m0_0), str x0_1, .int .i64 x0_2, .bool x0_3], mapF (mapO m0_0 enc9 encP q0_0) FA68 q0_0 x0_0]) := by
 unfold disk_Disk_Down.f
 refine fn_intro 7 Try.func23 rfl Try.ntmps23 rfl ?_
 refine sr ?_
 refine va rfl rfl (nx ?_)
 refine vm rfl rfl ?_
 refine vn rfl rfl ?_
 refine vq (q_fa rfl rfl Try.underlying64 rfl rfl Try.sizeOf4 rfl) rfl ?_
 refine vq (q_load rfl rfl Try.isAgg4 (.obj 0 rfl rfl)) rfl ?_
 refine va rfl rfl (simL_nil (nrm_then (sim_rtn ?_)))
 exact rtn_fn () rfl rfl rfl (.sel 0 rfl (.sel 0 rfl (.sel 0 rfl (.nil _))))
def disk_Disk_Down.v (x0_0 : List ((List UInt8) × (List UInt8 × Int))) (x0_1 : List UInt8) (x0_2 : Int) (x0_3 : Bool) : Bool := (disk_Disk_Down.f x0_0 x0_1 x0_2 x0_3).getD false
theorem disk_Disk_Down.tot (x0_0 : List ((List UInt8) × (List UInt8 × Int))) (x0_1 : List UInt8) (x0_2 : Int) (x0_3 : Bool) : disk_Disk_Down.f x0_0 x0_1 x0_2 x0_3 = some (disk_Disk_Down.v x0_0 x0_1 x0_2 x0_3) := by
  have h : ∃ r, disk_Disk_Down.f x0_0 x0_1 x0_2 x0_3 = some r := by
    unfold disk_Disk_Down.f
    repeat' (first | exact ⟨_, rfl⟩ | split | simp only [Option.bind_some])
  obtain ⟨r, h⟩ := h
  unfold disk_Disk_Down.v
  rw [h]; rfl

def synodlaw4_Same.l1 (s36v : (List (Ty36)) × List (List UInt8) × Int) : Nat → Int → Option (Unit)
  | 0, _ => none
  | k + 1, z49v => if 0 ≤ s36v.2.2 ∧ s36v.2.2 < (s36v.1.length : Int) then (if z49v < (((s36v.1.getD s36v.2.2.toNat dz36).2.1).length : Int) then (if 0 ≤ s36v.2.2 ∧ s36v.2.2 < (s36v.1.length : Int) then (if 0 ≤ z49v ∧ z49v < (((s36v.1.getD s36v.2.2.toNat dz36).2.1).length : Int) then (synodlaw4_Same.l1 s36v k (IntKind.i64.wrap (z49v + 1))) else none) else none) else (some ())) else none
def synodlaw4_Same.l0 : Nat → List (Ty36) → List (List UInt8) → Int → Option (Unit)
  | 0, _, _, _ => none
  | k + 1, z38v, z39v, z40v => if z40v < (z38v.length : Int) then (((synodlaw4_Same.l1 (z38v, z39v, z40v) k 0).bind fun s45v => (if 0 ≤ z40v ∧ z40v < (z38v.length : Int) then (if (((z38v.getD z40v.toNat dz36).2.1).length + ([97] : List UInt8).length) * 1 ≤ 140737488355328 then (if 0 ≤ z40v ∧ z40v < (z38v.length : Int) then (if 0 ≤ z40v ∧ z40v < (z39v.length : Int) then (some ()) else none) else none) else none) else none)).bind fun s43v => (synodlaw4_Same.l0 k (z38v.set z40v.toNat ((z38v.getD z40v.toNat dz36).1, ((z38v.getD z40v.toNat dz36).2.1) ++ ([97] : List UInt8), (z38v.getD z40v.toNat dz36).2.2)) (z39v.set z40v.toNat ([111, 118, 101, 114] : List UInt8)) (IntKind.i64.wrap (z40v + 1)))) else (some ())
def synodlaw4_Same.f (k : Nat) (x0_0 : List ((List UInt8) × (List UInt8 × Int))) (x0_1 : List UInt8) (x0_2 : Int) (x0_3 : Bool) (x1_0 : List (Ty36)) (x1_1 : Int) (x1_2 : Bool) (x1_3 : List UInt8) : Option (Bool) := (disk_Disk_Files.f k x0_0 x0_1 x0_2 x0_3).bind fun s1v => ((synodref_SameFiles.f k s1v x1_0).bind fun s10v => ((disk_Disk_List.f x0_0 x0_1 x0_2 x0_3).bind fun s13v => ((synodref4_Disk_List.f k x1_0 x1_1 x1_2 x1_3).bind fun s16v => ((synodref_SameTexts.f k s13v s16v).bind fun s31v => ((synodlaw4_Same.l0 k s1v s13v 0).bind fun s34v => ((disk_Disk_Files.f k x0_0 x0_1 x0_2 x0_3).bind fun s128v => ((synodref_SameFiles.f k s128v x1_0).bind fun s137v => ((if (((s10v && s31v) && s137v) == true) = true then (disk_Disk_Size.f x0_0 x0_1 x0_2 x0_3) else some 0).bind fun s143v => ((if (((s10v && s31v) && s137v) == true) = true then (synodref4_Disk_Size.f k x1_0 x1_1 x1_2 x1_3) else some 0).bind fun s146v => (some ((((s10v && s31v) && s137v) && (decide (s143v = s146v))) && ((disk_Disk_Down.v x0_0 x0_1 x0_2 x0_3) == x1_2))))))))))))
theorem synodlaw4_Same.calls (W : World) (F : HA) (k : Nat) (b0 : Nat) (m0_0 : Nat) (q0_0 : Kps) (x0_0 : List ((List UInt8) × (List UInt8 × Int))) (x0_1 : List UInt8) (x0_2 : Int) (x0_3 : Bool) (b1 : Nat) (a1_0 : Option Addr) (c1_0 : Nat) (x1_0 : List (Ty36)) (x1_1 : Int) (x1_2 : Bool) (x1_3 : List UInt8) (h1_0 : RdV F 3 (V36 F) a1_0 x1_0) (hc1_0 : x1_0.length ≤ c1_0) (hm1_0 : c1_0 ≤ maxLen) :
    Fn Try.prog W 28 [.pointer (some ⟨b0, 0, none⟩), .pointer (some ⟨b1, 0, none⟩)] [obj b0 64 [.map (some m0_0), str x0_1, .int .i64 x0_2, .bool x0_3], mapF (mapO m0_0 enc9 encP q0_0) FA68 q0_0 x0_0, obj b1 29 [.slice a1_0 x1_0.length c1_0, .int .i64 x1_1, .bool x1_2, str x1_3]] F (synodlaw4_Same.f k x0_0 x0_1 x0_2 x0_3 x1_0 x1_1 x1_2 x1_3) (fun (r : Bool) (y : Unit) => .bool r) (fun r y => [obj b0 64 [.map (some m0_0), str x0_1, .int .i64 x0_2, .bool x0_3], mapF (mapO m0_0 enc9 encP q0_0) FA68 q0_0 x0_0, obj b1 29 [.slice a1_0 x1_0.length c1_0, .int .i64 x1_1, .bool x1_2, str x1_3]]) := by
 unfold synodlaw4_Same.f
 refine fn_intro 93 Try.func28 rfl Try.ntmps28 rfl ?_
 refine sr ?_
 refine va rfl rfl (nx ?_)
 refine vm rfl rfl ?_
 refine simL_bind (fun s1v hs2v => ?_)
 refine simL_eff (re_call (vs := [.pointer (some ⟨b0, 0, none⟩)]) (cap := []) (A := [obj b0 64 [.map (some m0_0), str x0_1, .int .i64 x0_2, .bool x0_3], mapF (mapO m0_0 enc9 encP q0_0) FA68 q0_0 x0_0]) (rst := [obj b1 29 [.slice a1_0 x1_0.length c1_0, .int .i64 x1_1, .bool x1_2, str x1_3], F]) rfl rfl rfl rfl rfl rfl Try.call21 (.sel 0 rfl (.sel 0 rfl (.sel 0 rfl (.sel 0 rfl (.nil _))))) (disk_Disk_Files.calls _ _ k b0 m0_0 q0_0 x0_0 x0_1 x0_2 x0_3 ) hs2v) rfl rfl rfl ?_
 intro y3v
 refine va rfl rfl (nx ?_)
 refine vm rfl rfl ?_
 refine vm rfl rfl ?_
 refine vn rfl rfl ?_
 refine vq (q_fa rfl rfl Try.underlying29 rfl rfl Try.sizeOf27 rfl) rfl ?_
 refine vq (q_load rfl rfl Try.isAgg27 (.obj 4 rfl rfl)) rfl ?_
 refine simL_openV 0 rfl (fun rs4v hl5v => ?_)
 refine simL_bind (fun s10v hs11v => ?_)
 refine simL_lend 0 rfl (fun hq6v hq7v hq8v hq9v => ?_)
 refine simL_eff (re_call (vs := [.slice y3v.1 s1v.length y3v.2.1, .slice a1_0 x1_0.length c1_0]) (cap := []) (A := []) (rst := [Row 36 3 y3v.1 s1v.length y3v.2.1 rs4v.flatten, y3v.2.2, obj b0 64 [.map (some m0_0), str x0_1, .int .i64 x0_2, .bool x0_3], mapF (mapO m0_0 enc9 encP q0_0) FA68 q0_0 x0_0, obj b1 29 [.slice a1_0 x1_0.length c1_0, .int .i64 x1_1, .bool x1_2, str x1_3], F]) rfl rfl rfl rfl rfl rfl Try.call25 (.sel 0 rfl (.sel 0 rfl (.sel 0 rfl (.sel 0 rfl (.sel 0 rfl (.sel 0 rfl (.nil _))))))) (synodref_SameFiles.calls _ _ k y3v.1 y3v.2.1 s1v a1_0 c1_0 x1_0 ((Rd.asV (hl5v.mono V36w.rd) hq6v).up (Up.lend 0 rfl) (V36.up (Up.lend 1 rfl))) hq7v hq8v (h1_0.up (Up.lend 5 rfl) (V36.up (Up.lend 5 rfl))) hc1_0 hm1_0) hs11v) rfl rfl rfl ?_
 intro y12v
 refine va rfl rfl (nx ?_)
 refine vm rfl rfl ?_
 refine simL_bind (fun s13v hs14v => ?_)
 refine simL_eff (re_call (vs := [.pointer (some ⟨b0, 0, none⟩)]) (cap := []) (A := [obj b0 64 [.map (some m0_0), str x0_1, .int .i64 x0_2, .bool x0_3], mapF (mapO m0_0 enc9 encP q0_0) FA68 q0_0 x0_0]) (rst := [Row 36 3 y3v.1 s1v.length y3v.2.1 rs4v.flatten, y3v.2.2, obj b1 29 [.slice a1_0 x1_0.length c1_0, .int .i64 x1_1, .bool x1_2, str x1_3], F]) rfl rfl rfl rfl rfl rfl Try.call18 (.sel 2 rfl (.sel 2 rfl (.sel 0 rfl (.sel 0 rfl (.sel 0 rfl (.sel 0 rfl (.nil _))))))) (disk_Disk_List.calls _ _ b0 m0_0 q0_0 x0_0 x0_1 x0_2 x0_3 ) hs14v) rfl rfl rfl ?_
 intro y15v
 refine va rfl rfl (nx ?_)
 refine vm rfl rfl ?_
 refine vm rfl rfl ?_
 refine simL_bind (fun s16v hs17v => ?_)
 refine simL_eff (re_call (vs := [.pointer (some ⟨b1, 0, none⟩)]) (cap := []) (A := [obj b1 29 [.slice a1_0 x1_0.length c1_0, .int .i64 x1_1, .bool x1_2, str x1_3]]) (rst := [RowV 9 1 (V9 tt) y15v.1 s13v y15v.2, obj b0 64 [.map (some m0_0), str x0_1, .int .i64 x0_2, .bool x0_3], mapF (mapO m0_0 enc9 encP q0_0) FA68 q0_0 x0_0, Row 36 3 y3v.1 s1v.length y3v.2.1 rs4v.flatten, y3v.2.2, F]) rfl rfl rfl rfl rfl rfl Try.call58 (.sel 5 rfl (.sel 0 rfl (.sel 0 rfl (.sel 0 rfl (.sel 0 rfl (.sel 0 rfl (.sel 0 rfl (.nil _)))))))) (synodref4_Disk_List.calls _ _ k b1 a1_0 c1_0 x1_0 x1_1 x1_2 x1_3 (h1_0.up (Up.lend 5 rfl) (V36.up (Up.lend 5 rfl))) hc1_0 hm1_0) hs17v) rfl rfl rfl ?_
 intro y18v
 refine simL_openV 0 rfl (fun rs19v hl20v => ?_)
 refine simL_openV 2 rfl (fun rs21v hl22v => ?_)
 refine simL_bind (fun s31v hs32v => ?_)
 refine simL_lend 2 rfl (fun hq23v hq24v hq25v hq26v => ?_)
 refine simL_lend 0 rfl (fun hq27v hq28v hq29v hq30v => ?_)
 refine simL_eff (re_call (vs := [.slice y15v.1 s13v.length y15v.2, .slice y18v.1 s16v.length y18v.2]) (cap := []) (A := []) (rst := [Row 9 1 y18v.1 s16v.length y18v.2 rs19v.flatten, obj b1 29 [.slice a1_0 x1_0.length c1_0, .int .i64 x1_1, .bool x1_2, str x1_3], Row 9 1 y15v.1 s13v.length y15v.2 rs21v.flatten, obj b0 64 [.map (some m0_0), str x0_1, .int .i64 x0_2, .bool x0_3], mapF (mapO m0_0 enc9 encP q0_0) FA68 q0_0 x0_0, Row 36 3 y3v.1 s1v.length y3v.2.1 rs4v.flatten, y3v.2.2, F]) rfl rfl rfl rfl rfl rfl Try.call57 (.sel 0 rfl (.sel 0 rfl (.sel 0 rfl (.sel 0 rfl (.sel 0 rfl (.sel 0 rfl (.sel 0 rfl (.sel 0 rfl (.nil _))))))))) (synodref_SameTexts.calls _ _ k y15v.1 y15v.2 s13v y18v.1 y18v.2 s16v ((Rd.asV hl22v hq23v).up (Up.lend 2 rfl) (fun _ _ h => h)) hq24v hq25v ((Rd.asV hl20v hq27v).up (Up.lend 0 rfl) (fun _ _ h => h)) hq28v hq29v) hs32v) rfl rfl rfl ?_
 intro y33v
 refine va rfl rfl (simL_nil (nrm_then ?_))
 refine sim_cut (S := Unit) (Unit) (fun s y => [(0, .pointer (some ⟨b0, 0, none⟩)), (1, .pointer (some ⟨b1, 0, none⟩)), (6, .bool s10v), (8, .bool s31v)]) (fun s y => [obj b1 29 [.slice a1_0 x1_0.length c1_0, .int .i64 x1_1, .bool x1_2, str x1_3], obj b0 64 [.map (some m0_0), str x0_1, .int .i64 x0_2, .bool x0_3], mapF (mapO m0_0 enc9 encP q0_0) FA68 q0_0 x0_0, F]) ?_ ?_
 refine sr ?_
 refine va rfl rfl (simL_nil (nrm_then ?_))
 refine sim_block ?_
 refine sim_ent (H' := [Row 9 1 y18v.1 s16v.length y18v.2 rs19v.flatten, obj b1 29 [.slice a1_0 x1_0.length c1_0, .int .i64 x1_1, .bool x1_2, str x1_3], Row 9 1 y15v.1 s13v.length y15v.2 rs21v.flatten, obj b0 64 [.map (some m0_0), str x0_1, .int .i64 x0_2, .bool x0_3], mapF (mapO m0_0 enc9 encP q0_0) FA68 q0_0 x0_0, Row 36 3 y3v.1 s1v.length y3v.2.1 rs4v.flatten, (Shp y3v.2.2), F]) (Ent.set' 6 rfl (fun h x => Shp.of h x)) ?_
 refine sim_loop (S := (List (Ty36)) × List (List UInt8) × Int) (HA) (fun k s => synodlaw4_Same.l0 k s.1 s.2.1 s.2.2) (fun s y => [(0, .pointer (some ⟨b0, 0, none⟩)), (1, .pointer (some ⟨b1, 0, none⟩)), (5, .slice y3v.1 s.1.length y3v.2.1), (6, .bool s10v), (7, .slice y15v.1 s.2.1.length y15v.2), (8, .bool s31v), (9, .int .i64 s.2.2)]) (fun s y => [obj b1 29 [.slice a1_0 x1_0.length c1_0, .int .i64 x1_1, .bool x1_2, str x1_3], obj b0 64 [.map (some m0_0), str x0_1, .int .i64 x0_2, .bool x0_3], RowV 36 3 (V36s (y)) y3v.1 s.1 y3v.2.1, RowV 9 1 (V9 tt) y15v.1 s.2.1 y15v.2, mapF (mapO m0_0 enc9 encP q0_0) FA68 q0_0 x0_0, y, F]) (fun _ => by rw [synodlaw4_Same.l0]) ?_ k (s1v, s13v, 0) (Shp y3v.2.2) ⟨rfl, rfl, rfl, rfl, rfl, rfl, rfl, trivial⟩ (.sel 1 rfl (.sel 2 rfl (.sel' 3 rfl (RowV.mk (hl5v.mono V36w.shp)) (.sel' 1 rfl (RowV.mk hl22v) (.sel 1 rfl (.sel 1 rfl (.sel 1 rfl (.nil _))))))))
 intro k s36v y37v
 refine sim_eq (by rw [synodlaw4_Same.l0]) ?_
 refine sim_seq (sr ?_)
 refine vm rfl rfl ?_
 refine vm rfl rfl ?_
 refine vq (q_len rfl rfl rfl Try.underlying27) rfl ?_
 refine vq (q_lss rfl rfl rfl) rfl (simL_nil (nrm_then ?_))
 refine sim_cond rfl (fun h41v => ?_) (fun h42v => ?_)
 refine sim_skip ?_
 refine nrm_then ?_
 refine sim_cut (S := Unit) (HA) (fun s y => [(0, .pointer (some ⟨b0, 0, none⟩)), (1, .pointer (some ⟨b1, 0, none⟩)), (5, .slice y3v.1 ((s36v.1.set s36v.2.2.toNat ((s36v.1.getD s36v.2.2.toNat dz36).1, ((s36v.1.getD s36v.2.2.toNat dz36).2.1) ++ ([97] : List UInt8), (s36v.1.getD s36v.2.2.toNat dz36).2.2)).length) y3v.2.1), (6, .bool s10v), (7, .slice y15v.1 ((s36v.2.1.set s36v.2.2.toNat ([111, 118, 101, 114] : List UInt8)).length) y15v.2), (8, .bool s31v), (9, .int .i64 s36v.2.2)]) (fun s y => [obj b1 29 [.slice a1_0 x1_0.length c1_0, .int .i64 x1_1, .bool x1_2, str x1_3], obj b0 64 [.map (some m0_0), str x0_1, .int .i64 x0_2, .bool x0_3], RowV 36 3 (V36s (y)) y3v.1 (s36v.1.set s36v.2.2.toNat ((s36v.1.getD s36v.2.2.toNat dz36).1, ((s36v.1.getD s36v.2.2.toNat dz36).2.1) ++ ([97] : List UInt8), (s36v.1.getD s36v.2.2.toNat dz36).2.2)) y3v.2.1, RowV 9 1 (V9 tt) y15v.1 (s36v.2.1.set s36v.2.2.toNat ([111, 118, 101, 114] : List UInt8)) y15v.2, mapF (mapO m0_0 enc9 encP q0_0) FA68 q0_0 x0_0, y, F]) ?_ ?_
 refine sim_block ?_
 refine sim_cut (S := Unit) (Unit) (fun s y => [(0, .pointer (some ⟨b0, 0, none⟩)), (1, .pointer (some ⟨b1, 0, none⟩)), (5, .slice y3v.1 s36v.1.length y3v.2.1), (6, .bool s10v), (7, .slice y15v.1 s36v.2.1.length y15v.2), (8, .bool s31v), (9, .int .i64 s36v.2.2)]) (fun s y => [obj b1 29 [.slice a1_0 x1_0.length c1_0, .int .i64 x1_1, .bool x1_2, str x1_3], obj b0 64 [.map (some m0_0), str x0_1, .int .i64 x0_2, .bool x0_3], RowV 36 3 (V36s (y37v)) y3v.1 s36v.1 y3v.2.1, RowV 9 1 (V9 tt) y15v.1 s36v.2.1 y15v.2, mapF (mapO m0_0 enc9 encP q0_0) FA68 q0_0 x0_0, y37v, F]) ?_ ?_
 refine sr ?_
 refine va rfl rfl (simL_nil (nrm_then ?_))
 refine sim_block ?_
 refine sim_loop (S := Int) (Unit) (fun k s => synodlaw4_Same.l1 s36v k s) (fun s y => [(0, .pointer (some ⟨b0, 0, none⟩)), (1, .pointer (some ⟨b1, 0, none⟩)), (5, .slice y3v.1 s36v.1.length y3v.2.1), (6, .bool s10v), (7, .slice y15v.1 s36v.2.1.length y15v.2), (8, .bool s31v), (9, .int .i64 s36v.2.2), (10, .int .i64 s)]) (fun s y => [obj b1 29 [.slice a1_0 x1_0.length c1_0, .int .i64 x1_1, .bool x1_2, str x1_3], obj b0 64 [.map (some m0_0), str x0_1, .int .i64 x0_2, .bool x0_3], RowV 36 3 (V36s (y37v)) y3v.1 s36v.1 y3v.2.1, RowV 9 1 (V9 tt) y15v.1 s36v.2.1 y15v.2, mapF (mapO m0_0 enc9 encP q0_0) FA68 q0_0 x0_0, y37v, F]) (fun _ => by rw [synodlaw4_Same.l1]) ?_ k 0 () ⟨rfl, rfl, rfl, rfl, rfl, rfl, rfl, rfl, trivial⟩ (.sel 0 rfl (.sel 0 rfl (.sel 0 rfl (.sel 0 rfl (.sel 0 rfl (.sel 0 rfl (.sel 0 rfl (.nil _))))))))
 intro k s47v y48v
 refine sim_eq (by rw [synodlaw4_Same.l1]) ?_
 refine sim_seq (sr ?_)
 refine vm rfl rfl ?_
 refine vm rfl rfl ?_
 refine vm rfl rfl ?_
 refine simL_openV 2 rfl (fun rs58v hl59v => ?_)
 refine simL_ask (fun hi50v => ?_)
 refine simL_posV 2 rfl hl59v rfl (i := s36v.2.2.toNat) (by omega) dz36 (fun b51v b51vo r54v ha52v hV55v hlr56v hcell57v => ?_)
 obtain ⟨a60v, c61v, rfl, ⟨he62v, hc63v, hm64v⟩⟩ := hV55v
 refine vq (q_idx rfl rfl rfl ha52v Try.underlying27 Try.sizeOf36 hi50v.1 hi50v.2) rfl ?_
 refine vq (q_fa rfl rfl Try.underlying36 rfl rfl Try.sizeOf34 rfl) rfl ?_
 refine vq (q_load rfl rfl Try.isAgg34 (hcell57v 2 rfl 1 _ rfl)) rfl ?_
 refine vq (q_len rfl rfl rfl Try.underlying34) rfl ?_
 refine vq (q_lss rfl rfl rfl) rfl (simL_nil (nrm_then ?_))
 refine sim_cond rfl (fun h65v => ?_) (fun h66v => ?_)
 refine sim_skip ?_
 refine nrm_then (sim_seq ?_)
 refine sim_block ?_
 refine sim_region ?_
 refine vm rfl rfl ?_
 refine vm rfl rfl ?_
 refine simL_ask (fun hi67v => ?_)
 refine simL_posV 2 rfl hl59v rfl (i := s36v.2.2.toNat) (by omega) dz36 (fun b68v b68vo r71v ha69v hV72v hlr73v hcell74v => ?_)
 obtain ⟨a75v, c76v, rfl, ⟨he77v, hc78v, hm79v⟩⟩ := hV72v
 refine vq (q_idx rfl rfl rfl ha69v Try.underlying27 Try.sizeOf36 hi67v.1 hi67v.2) rfl ?_
 refine vq (q_fa rfl rfl Try.underlying36 rfl rfl Try.sizeOf34 rfl) rfl ?_
 refine vq (q_load rfl rfl Try.isAgg34 (hcell74v 2 rfl 1 _ rfl)) rfl ?_
 refine vm rfl rfl ?_
 refine simL_ask (fun hi80v => ?_)
 refine simL_wrt 5 rfl he77v (by have := hc78v; omega) (fun b81v b81vo ha82v => ?_)
 refine vq (q_idx1 rfl rfl rfl ha82v Try.underlying34 Try.sizeOf5 hi80v.1 hi80v.2) rfl ?_
 refine simL_do (re_storeS (c := c76v) (j := s47v.toNat) 5 rfl rfl rfl Try.sizeOf5 rfl (one_of (by rfl)) rfl he77v ha82v (by have := hc78v; omega)) rfl rfl ?_
 intro _
 refine simL_nil (nrm_block (nrm_then (sim_region ?_)))
 refine vm rfl rfl ?_
 refine vq (q_add rfl rfl rfl) rfl ?_
 refine va rfl rfl (simL_nil ?_)
 exact nrm_again (s := IntKind.i64.wrap (s47v + 1)) () ⟨rfl, rfl, rfl, rfl, rfl, rfl, rfl, rfl, trivial⟩ (.sel 0 rfl (.sel 0 rfl (.sel' 0 rfl (RowV.mk hl59v) (.sel 0 rfl (.sel 0 rfl (.sel 0 rfl (.sel 0 rfl (.nil _))))))))
 refine sim_exi ?_
 refine exi_then ?_
 refine exi_loop ?_
 refine exi_here ?_
 exact nrm_cut (s := ()) () ⟨rfl, rfl, rfl, rfl, rfl, rfl, rfl, trivial⟩ (.sel 0 rfl (.sel 0 rfl (.sel' 0 rfl (RowV.mk hl59v) (.sel 0 rfl (.sel 0 rfl (.sel 0 rfl (.sel 0 rfl (.nil _))))))))
 intro s45v y46v
 refine sr ?_
 refine vm rfl rfl ?_
 refine vm rfl rfl ?_
 refine vm rfl rfl ?_
 refine vm rfl rfl ?_
 refine simL_openV 2 rfl (fun rs92v hl93v => ?_)
 refine simL_ask (fun hi84v => ?_)
 refine simL_posV 2 rfl hl93v rfl (i := s36v.2.2.toNat) (by omega) dz36 (fun b85v b85vo r88v ha86v hV89v hlr90v hcell91v => ?_)
 obtain ⟨a94v, c95v, rfl, ⟨he96v, hc97v, hm98v⟩⟩ := hV89v
 refine vq (q_idx rfl rfl rfl ha86v Try.underlying27 Try.sizeOf36 hi84v.1 hi84v.2) rfl ?_
 refine vq (q_fa rfl rfl Try.underlying36 rfl rfl Try.sizeOf34 rfl) rfl ?_
 refine vq (q_load rfl rfl Try.isAgg34 (hcell91v 2 rfl 1 _ rfl)) rfl ?_
 refine simL_eff (re_litb (cs := [.int .u8 97]) ([97] : List UInt8) rfl rfl Try.underlying34 elt5 rfl (by kernel_rfl) rfl rfl rfl) rfl rfl rfl ?_
 intro b99v
 refine simL_ask (fun hb102v => ?_)
 refine simL_eff (re_appendS 6 rfl rfl rfl Try.underlying34 elt5 rfl he96v hc97v hm98v (Rds.row 0 rfl) (by simp) hb102v) rfl rfl rfl ?_
 intro y101v
 refine simL_pr (fun hp103v => ?_)
 refine simL_pr (fun hu104v => ?_)
 refine simL_ask (fun hi105v => ?_)
 refine simL_posV 3 rfl (hl93v.mono (V36s.up hu104v)) rfl (i := s36v.2.2.toNat) (by omega) dz36 (fun b106v b106vo r109v ha107v hV110v hlr111v hcell112v => ?_)
 obtain ⟨a113v, c114v, rfl, ⟨he115v, hc116v, hm117v⟩⟩ := hV110v
 refine vq (q_idx rfl rfl rfl ha107v Try.underlying27 Try.sizeOf36 hi105v.1 hi105v.2) rfl ?_
 refine vq (q_fa rfl rfl Try.underlying36 rfl rfl Try.sizeOf34 rfl) rfl ?_
 refine simL_do (re_storeV (V := (V36s (y101v.2.2))) ((s36v.1.getD s36v.2.2.toNat dz36).1, ((s36v.1.getD s36v.2.2.toNat dz36).2.1) ++ ([97] : List UInt8), (s36v.1.getD s36v.2.2.toNat dz36).2.2) 1 dz36 3 rfl rfl rfl Try.sizeOf34 rfl rfl (one_of (by rfl)) rfl (hl93v.mono (V36s.up hu104v)) ha107v (by omega) rfl (fun r hr _ _ => by obtain ⟨a1', c1', rfl, h1'⟩ := hr; exact ⟨y101v.1, y101v.2.1, rfl, ⟨hp103v.1, hp103v.2.1, hp103v.2.2⟩⟩)) rfl rfl ?_
 intro _
 refine simL_ren (.slice y3v.1 ((s36v.1.set s36v.2.2.toNat ((s36v.1.getD s36v.2.2.toNat dz36).1, ((s36v.1.getD s36v.2.2.toNat dz36).2.1) ++ ([97] : List UInt8), (s36v.1.getD s36v.2.2.toNat dz36).2.2)).length) y3v.2.1) (d := 5) rfl (slc_len (by simp)) ?_
 refine simL_ren (.slice y3v.1 ((s36v.1.set s36v.2.2.toNat ((s36v.1.getD s36v.2.2.toNat dz36).1, ((s36v.1.getD s36v.2.2.toNat dz36).2.1) ++ ([97] : List UInt8), (s36v.1.getD s36v.2.2.toNat dz36).2.2)).length) y3v.2.1) (d := 49) rfl (slc_len (by simp)) ?_
 refine simL_ren (.slice y3v.1 ((s36v.1.set s36v.2.2.toNat ((s36v.1.getD s36v.2.2.toNat dz36).1, ((s36v.1.getD s36v.2.2.toNat dz36).2.1) ++ ([97] : List UInt8), (s36v.1.getD s36v.2.2.toNat dz36).2.2)).length) y3v.2.1) (d := 51) rfl (slc_len (by simp)) ?_
 refine ny ?_
 refine vm rfl rfl ?_
 refine vm rfl rfl ?_
 refine simL_openV 4 rfl (fun rs126v hl127v => ?_)
 refine simL_ask (fun hi118v => ?_)
 refine simL_posV 4 rfl hl127v rfl (i := s36v.2.2.toNat) (by omega) ([] : List UInt8) (fun b119v b119vo r122v ha120v hV123v hlr124v hcell125v => ?_)
 obtain rfl := hV123v
 refine vq (q_idx rfl rfl rfl ha120v Try.underlying22 Try.sizeOf9 hi118v.1 hi118v.2) rfl ?_
 refine simL_do (re_storeV (V := (V9 tt)) ([111, 118, 101, 114] : List UInt8) 0 ([] : List UInt8) 4 rfl rfl rfl Try.sizeOf9 rfl rfl (one_of (by rfl)) rfl hl127v ha120v (by omega) rfl (fun r hr _ _ => by cases (show r = _ from hr); exact rfl)) rfl rfl ?_
 intro _
 refine simL_ren (.slice y15v.1 ((s36v.2.1.set s36v.2.2.toNat ([111, 118, 101, 114] : List UInt8)).length) y15v.2) (d := 7) rfl (slc_len (by simp)) ?_
 refine simL_ren (.slice y15v.1 ((s36v.2.1.set s36v.2.2.toNat ([111, 118, 101, 114] : List UInt8)).length) y15v.2) (d := 60) rfl (slc_len (by simp)) ?_
 refine simL_nil (nrm_block ?_)
 exact nrm_cut (s := ()) y101v.2.2 ⟨rfl, rfl, rfl, rfl, rfl, rfl, rfl, trivial⟩ (.sel 1 rfl (.sel 1 rfl (.sel 1 rfl (.sel 1 rfl (.sel 1 rfl (.sel 1 rfl (.sel 1 rfl (.nil _))))))))
 intro s43v y44v
 refine sim_region ?_
 refine vm rfl rfl ?_
 refine vq (q_add rfl rfl rfl) rfl ?_
 refine va rfl rfl (simL_nil ?_)
 exact nrm_again (s := (s36v.1.set s36v.2.2.toNat ((s36v.1.getD s36v.2.2.toNat dz36).1, ((s36v.1.getD s36v.2.2.toNat dz36).2.1) ++ ([97] : List UInt8), (s36v.1.getD s36v.2.2.toNat dz36).2.2), s36v.2.1.set s36v.2.2.toNat ([111, 118, 101, 114] : List UInt8), IntKind.i64.wrap (s36v.2.2 + 1))) y44v ⟨rfl, rfl, rfl, rfl, rfl, rfl, rfl, trivial⟩ (.sel 0 rfl (.sel 0 rfl (.sel 0 rfl (.sel 0 rfl (.sel 0 rfl (.sel 0 rfl (.sel 0 rfl (.nil _))))))))
 refine sim_exi ?_
 refine exi_then ?_
 refine exi_loop ?_
 refine exi_here ?_
 exact nrm_cut (s := ()) () ⟨rfl, rfl, rfl, rfl, trivial⟩ (.sel 0 rfl (.sel 0 rfl (.sel 2 rfl (.sel 3 rfl (.nil _)))))
 intro s34v y35v
 refine sim_seq ?_
 refine sim_bind (fun s128v hs129v => ?_)
 refine sim_bind (fun s137v hs138v => ?_)
 refine sim_draw (Γ := (Option Addr × Nat × HA)) (none, 0, tt) [[], [0], [], [2], [2, 3], [2, 3, 4], rL 6, rL 7] [1, 6] [0, 2, 3, 4, 5, 7] (fun i => [[0], [], [0, 1], [0, 1], [0, 1], [0, 1], [], [2]].getD i []) (fun i => [[], [0, 2, 3, 4, 5], [], [], [], [], rL 6, []].getD i []) (fun γ i => [.pointer (some ⟨b0, 0, none⟩), .slice γ.1 s128v.length γ.2.1, .pointer (some ⟨b1, 0, none⟩), .pointer (some ⟨b1, 0, none⟩), .pointer (some ⟨b1, 0, none⟩), .slice a1_0 x1_0.length c1_0, .bool s137v, .bool s137v].getD i undef) (fun j γ => [[obj b1 29 [.slice a1_0 x1_0.length c1_0, .int .i64 x1_1, .bool x1_2, str x1_3], obj b0 64 [.map (some m0_0), str x0_1, .int .i64 x0_2, .bool x0_3], mapF (mapO m0_0 enc9 encP q0_0) FA68 q0_0 x0_0, F], [RowV 36 3 (V36w (γ.2.2)) γ.1 s128v γ.2.1, γ.2.2, obj b0 64 [.map (some m0_0), str x0_1, .int .i64 x0_2, .bool x0_3], mapF (mapO m0_0 enc9 encP q0_0) FA68 q0_0 x0_0, obj b1 29 [.slice a1_0 x1_0.length c1_0, .int .i64 x1_1, .bool x1_2, str x1_3], F], [RowV 36 3 (V36w (γ.2.2)) γ.1 s128v γ.2.1, γ.2.2, obj b0 64 [.map (some m0_0), str x0_1, .int .i64 x0_2, .bool x0_3], mapF (mapO m0_0 enc9 encP q0_0) FA68 q0_0 x0_0, obj b1 29 [.slice a1_0 x1_0.length c1_0, .int .i64 x1_1, .bool x1_2, str x1_3], F]].getD j []) (fun γ => [(0, .pointer (some ⟨b0, 0, none⟩)), (1, .pointer (some ⟨b1, 0, none⟩)), (6, .bool s10v), (8, .bool s31v), (11, .bool s137v)]) mixed (by decide) (by decide) (by decide) (by decide) (by decide) (by decide) (by decide) 93 rfl (by decide) (by decide) (by decide) (Ent.refl _) ?_ ?_ (fun _ => ⟨rfl, rfl, rfl, rfl, rfl, trivial⟩) ?_
 exact (aq rfl (fun γ => qm rfl (.o (s := 0) rfl (by decide) .nil) rfl) (ac (fun γ => (ac (qm rfl (.o (s := 1) rfl (by decide) .nil) rfl) (ac (qm rfl (.o (s := 1) rfl (by decide) .nil) rfl) zA))) (ac (fun γ => (ac (qp rfl rfl (.v 2 rfl rfl .nil) (q_nil rfl rfl) rfl) (ac (qp rfl rfl (.v 2 rfl rfl .nil) (q_nil rfl rfl) rfl) zA))) (ac (fun γ => (ac (qp rfl rfl (.v 3 rfl rfl .nil) (q_fa rfl rfl Try.underlying29 rfl rfl Try.sizeOf27 rfl) rfl) (ac (qp rfl rfl (.v 3 rfl rfl .nil) (q_fa rfl rfl Try.underlying29 rfl rfl Try.sizeOf27 rfl) rfl) zA))) (ac (fun γ => (ac (qp rfl rfl (.v 4 rfl rfl .nil) (q_load rfl rfl Try.isAgg27 (.obj 0 rfl rfl)) rfl) (ac (qp rfl rfl (.v 4 rfl rfl .nil) (q_load rfl rfl Try.isAgg27 (.obj 4 rfl rfl)) rfl) zA))) (aq rfl (fun γ => qp rfl rfl (.v 6 rfl rfl .nil) (q_asg rfl rfl) rfl) zA))))))
 exact (ac (fun γ => eo (Z := Option Addr × Nat × HA) (fun z => z) rfl rfl (.v 0 rfl rfl .nil) (re_call (vs := [.pointer (some ⟨b0, 0, none⟩)]) (cap := []) (A := [obj b0 64 [.map (some m0_0), str x0_1, .int .i64 x0_2, .bool x0_3], mapF (mapO m0_0 enc9 encP q0_0) FA68 q0_0 x0_0]) (rst := [obj b1 29 [.slice a1_0 x1_0.length c1_0, .int .i64 x1_1, .bool x1_2, str x1_3], F]) rfl rfl rfl rfl rfl rfl Try.call21 (.sel 1 rfl (.sel 1 rfl (.sel 0 rfl (.sel 0 rfl (.nil _))))) (disk_Disk_Files.calls _ _ k b0 m0_0 q0_0 x0_0 x0_1 x0_2 x0_3 ) hs129v) (fun _ => ⟨rfl, rfl, rfl, rfl, rfl, trivial⟩) (fun _ => .inr rfl) (fun z => Ent.refl _)) (ac (fun γ => eo (Z := Unit) (fun z => γ) rfl rfl (.v 1 rfl rfl (.v 5 rfl rfl .nil)) (RE.openV 0 rfl (fun rs135v hl136v => RE.lend 0 rfl (fun hq131v hq132v hq133v hq134v => re_call (vs := [.slice γ.1 s128v.length γ.2.1, .slice a1_0 x1_0.length c1_0]) (cap := []) (A := []) (rst := [Row 36 3 γ.1 s128v.length γ.2.1 rs135v.flatten, γ.2.2, obj b0 64 [.map (some m0_0), str x0_1, .int .i64 x0_2, .bool x0_3], mapF (mapO m0_0 enc9 encP q0_0) FA68 q0_0 x0_0, obj b1 29 [.slice a1_0 x1_0.length c1_0, .int .i64 x1_1, .bool x1_2, str x1_3], F]) rfl rfl rfl rfl rfl rfl Try.call25 (.sel 0 rfl (.sel 0 rfl (.sel 0 rfl (.sel 0 rfl (.sel 0 rfl (.sel 0 rfl (.nil _))))))) (synodref_SameFiles.calls _ _ k γ.1 γ.2.1 s128v a1_0 c1_0 x1_0 ((Rd.asV (hl136v.mono V36w.rd) hq131v).up (Up.lend 0 rfl) (V36.up (Up.lend 1 rfl))) hq132v hq133v (h1_0.up (Up.lend 5 rfl) (V36.up (Up.lend 5 rfl))) hc1_0 hm1_0) hs138v)) (fun rs135v hl136v _ => (.sel' 0 rfl (RowV.mk hl136v) (.sel 0 rfl (.sel 0 rfl (.sel 0 rfl (.sel 0 rfl (.sel 0 rfl (.nil _))))))))) (fun _ => ⟨rfl, rfl, rfl, rfl, rfl, rfl, trivial⟩) (fun _ => .inr rfl) (fun z => Ent.refl _)) zA))
 intro g140v
 refine nrm_then (sim_seq ?_)
 refine sim_openV 0 rfl (fun rs141v hl142v => ?_)
 refine sim_bind (fun s143v hs144v => ?_)
 refine sim_bind (fun s146v hs147v => ?_)
 refine sim_draw (Γ := Unit) () [[], [0], [0, 1], [0, 1, 2], rL 4, rL 5, rL 6, rL 7, rL 8, rL 9, rL 8, rL 11, rL 12, rL 13, rL 14, rL 15, rL 16, rL 15, [0, 1, 2, 3, 4, 5, 6, 7, 8, 9, 10, 11, 12, 13, 14, 17], [0, 1, 2, 3, 4, 5, 6, 7, 8, 9, 10, 11, 12, 13, 14, 17, 18], [0, 1, 2, 3, 4, 5, 6, 7, 8, 9, 10, 11, 12, 13, 14, 17, 18, 19], rL 21, rL 22, rL 23] [] [0, 1, 2, 3, 4, 5, 6, 7, 8, 9, 10, 11, 12, 13, 14, 15, 16, 17, 18, 19, 20, 21, 22, 23] (fun i => [[0], [0], [0], [0], [0], [0], [0], [0], [0], [0], [0], [0], [0], [0], [0], [0], [0], [0], [0], [0], [0], [0], [0], [0]].getD i []) (fun i => [[], [], [], [], [], [], [], [], [], [], [], [], [], [], [], [], [], [], [], [], [], [], [], []].getD i []) (fun γ i => [.bool s10v, .bool s10v, cv (s10v == true) (.bool s31v), .bool (s10v && s31v), .bool (s10v && s31v), cv ((s10v && s31v) == true) (.bool s137v), .bool ((s10v && s31v) && s137v), .bool ((s10v && s31v) && s137v), cv (((s10v && s31v) && s137v) == true) (.pointer (some ⟨b0, 0, none⟩)), cv (((s10v && s31v) && s137v) == true) (.int .i64 s143v), cv (((s10v && s31v) && s137v) == true) (.pointer (some ⟨b1, 0, none⟩)), cv (((s10v && s31v) && s137v) == true) (.int .i64 s146v), cv (((s10v && s31v) && s137v) == true) (.bool (decide (s143v = s146v))), .bool (((s10v && s31v) && s137v) && (decide (s143v = s146v))), .bool (((s10v && s31v) && s137v) && (decide (s143v = s146v))), cv ((((s10v && s31v) && s137v) && (decide (s143v = s146v))) == true) (.pointer (some ⟨b0, 0, none⟩)), cv ((((s10v && s31v) && s137v) && (decide (s143v = s146v))) == true) (.bool (disk_Disk_Down.v x0_0 x0_1 x0_2 x0_3)), cv ((((s10v && s31v) && s137v) && (decide (s143v = s146v))) == true) (.pointer (some ⟨b1, 0, none⟩)), cv ((((s10v && s31v) && s137v) && (decide (s143v = s146v))) == true) (.pointer (some ⟨b1, 0, none⟩)), cv ((((s10v && s31v) && s137v) && (decide (s143v = s146v))) == true) (.pointer (some ⟨b1, 2, none⟩)), cv ((((s10v && s31v) && s137v) && (decide (s143v = s146v))) == true) (.bool x1_2), cv ((((s10v && s31v) && s137v) && (decide (s143v = s146v))) == true) (.bool ((disk_Disk_Down.v x0_0 x0_1 x0_2 x0_3) == x1_2)), .bool ((((s10v && s31v) && s137v) && (decide (s143v = s146v))) && ((disk_Disk_Down.v x0_0 x0_1 x0_2 x0_3) == x1_2)), .bool ((((s10v && s31v) && s137v) && (decide (s143v = s146v))) && ((disk_Disk_Down.v x0_0 x0_1 x0_2 x0_3) == x1_2))].getD i undef) (fun j γ => [[Row 36 3 g140v.1 s128v.length g140v.2.1 rs141v.flatten, g140v.2.2, obj b0 64 [.map (some m0_0), str x0_1, .int .i64 x0_2, .bool x0_3], mapF (mapO m0_0 enc9 encP q0_0) FA68 q0_0 x0_0, obj b1 29 [.slice a1_0 x1_0.length c1_0, .int .i64 x1_1, .bool x1_2, str x1_3], F]].getD j []) (fun γ => [(4, .bool ((((s10v && s31v) && s137v) && (decide (s143v = s146v))) && ((disk_Disk_Down.v x0_0 x0_1 x0_2 x0_3) == x1_2)))]) mixed (by decide) (by decide) (by decide) (by decide) (by decide) (by decide) (by decide) 93 rfl (by decide) (by decide) (by decide) (Ent.refl _) ?_ ?_ (fun _ => ⟨rfl, trivial⟩) ?_
 exact (aq rfl (fun γ => qm rfl (.o (s := 6) rfl (by decide) .nil) rfl) (aq rfl (fun γ => qm rfl (.v 0 rfl rfl .nil) rfl) (aq rfl (fun γ => QOb.grd (b := s10v) [(8, .bool s31v), (71, .bool s10v)] rfl rfl rfl rfl (.o (s := 8) rfl (by decide) (.v 1 rfl rfl .nil)) (fun hb152v => RQ.sub (E' := [(8, .bool s31v)]) ⟨rfl, trivial⟩ (q_move rfl rfl)) rfl) (aq rfl (fun γ => qp rfl rfl (.v 1 rfl rfl (.v 2 rfl rfl .nil)) (q_and rfl rfl rfl) rfl) (aq rfl (fun γ => qm rfl (.v 3 rfl rfl .nil) rfl) (aq rfl (fun γ => QOb.grd (b := s10v && s31v) [(11, .bool s137v), (74, .bool (s10v && s31v))] rfl rfl rfl rfl (.o (s := 11) rfl (by decide) (.v 4 rfl rfl .nil)) (fun hb153v => RQ.sub (E' := [(11, .bool s137v)]) ⟨rfl, trivial⟩ (q_move rfl rfl)) rfl) (aq rfl (fun γ => qp rfl rfl (.v 4 rfl rfl (.v 5 rfl rfl .nil)) (q_and rfl rfl rfl) rfl) (aq rfl (fun γ => qm rfl (.v 6 rfl rfl .nil) rfl) (aq rfl (fun γ => QOb.grd (b := (s10v && s31v) && s137v) [(0, .pointer (some ⟨b0, 0, none⟩)), (77, .bool ((s10v && s31v) && s137v))] rfl rfl rfl rfl (.o (s := 0) rfl (by decide) (.v 7 rfl rfl .nil)) (fun hb154v => RQ.sub (E' := [(0, .pointer (some ⟨b0, 0, none⟩))]) ⟨rfl, trivial⟩ (q_move rfl rfl)) rfl) (aq rfl (fun γ => QOb.grd (b := (s10v && s31v) && s137v) [(77, .bool ((s10v && s31v) && s137v)), (78, cv (((s10v && s31v) && s137v) == true) (.pointer (some ⟨b0, 0, none⟩)))] rfl rfl rfl rfl (.v 7 rfl rfl (.v 8 rfl rfl .nil)) (fun hb155v => RQ.sub (E' := [(78, .pointer (some ⟨b0, 0, none⟩))]) ⟨lk_cv rfl hb155v, trivial⟩ (RE.rq (re_call (vs := [.pointer (some ⟨b0, 0, none⟩)]) (cap := []) (A := [obj b0 64 [.map (some m0_0), str x0_1, .int .i64 x0_2, .bool x0_3], mapF (mapO m0_0 enc9 encP q0_0) FA68 q0_0 x0_0]) (rst := [Row 36 3 g140v.1 s128v.length g140v.2.1 rs141v.flatten, g140v.2.2, obj b1 29 [.slice a1_0 x1_0.length c1_0, .int .i64 x1_1, .bool x1_2, str x1_3], F]) rfl rfl rfl rfl rfl rfl Try.call16 (.sel 2 rfl (.sel 2 rfl (.sel 0 rfl (.sel 0 rfl (.sel 0 rfl (.sel 0 rfl (.nil _))))))) (disk_Disk_Size.calls _ _ b0 m0_0 q0_0 x0_0 x0_1 x0_2 x0_3 ) (by rw [if_pos hb155v] at hs144v; exact hs144v)) (fun _ => rfl) (fun _ => (.sel 2 rfl (.sel 2 rfl (.sel 0 rfl (.sel 0 rfl (.sel 0 rfl (.sel 0 rfl (.nil _)))))))))) rfl) (aq rfl (fun γ => QOb.grd (b := (s10v && s31v) && s137v) [(1, .pointer (some ⟨b1, 0, none⟩)), (77, .bool ((s10v && s31v) && s137v))] rfl rfl rfl rfl (.o (s := 1) rfl (by decide) (.v 7 rfl rfl .nil)) (fun hb156v => RQ.sub (E' := [(1, .pointer (some ⟨b1, 0, none⟩))]) ⟨rfl, trivial⟩ (q_move rfl rfl)) rfl) (aq rfl (fun γ => QOb.grd (b := (s10v && s31v) && s137v) [(77, .bool ((s10v && s31v) && s137v)), (80, cv (((s10v && s31v) && s137v) == true) (.pointer (some ⟨b1, 0, none⟩)))] rfl rfl rfl rfl (.v 7 rfl rfl (.v 10 rfl rfl .nil)) (fun hb157v => RQ.sub (E' := [(80, .pointer (some ⟨b1, 0, none⟩))]) ⟨lk_cv rfl hb157v, trivial⟩ (RE.rq (re_call (vs := [.pointer (some ⟨b1, 0, none⟩)]) (cap := []) (A := [obj b1 29 [.slice a1_0 x1_0.length c1_0, .int .i64 x1_1, .bool x1_2, str x1_3]]) (rst := [Row 36 3 g140v.1 s128v.length g140v.2.1 rs141v.flatten, g140v.2.2, obj b0 64 [.map (some m0_0), str x0_1, .int .i64 x0_2, .bool x0_3], mapF (mapO m0_0 enc9 encP q0_0) FA68 q0_0 x0_0, F]) rfl rfl rfl rfl rfl rfl Try.call17 (.sel 4 rfl (.sel 0 rfl (.sel 0 rfl (.sel 0 rfl (.sel 0 rfl (.sel 0 rfl (.nil _))))))) (synodref4_Disk_Size.calls _ _ k b1 a1_0 c1_0 x1_0 x1_1 x1_2 x1_3 (h1_0.up (Up.lend 4 rfl) (V36.up (Up.lend 4 rfl))) hc1_0 hm1_0) (by rw [if_pos hb157v] at hs147v; exact hs147v)) (fun _ => rfl) (fun _ => (.sel 1 rfl (.sel 1 rfl (.sel 1 rfl (.sel 1 rfl (.sel 0 rfl (.sel 0 rfl (.nil _)))))))))) rfl) (aq rfl (fun γ => QOb.grd (b := (s10v && s31v) && s137v) [(77, .bool ((s10v && s31v) && s137v)), (79, cv (((s10v && s31v) && s137v) == true) (.int .i64 s143v)), (81, cv (((s10v && s31v) && s137v) == true) (.int .i64 s146v))] rfl rfl rfl rfl (.v 7 rfl rfl (.v 9 rfl rfl (.v 11 rfl rfl .nil))) (fun hb158v => RQ.sub (E' := [(79, .int .i64 s143v), (81, .int .i64 s146v)]) ⟨lk_cv rfl hb158v, lk_cv rfl hb158v, trivial⟩ (q_eql rfl rfl rfl)) rfl) (aq rfl (fun γ => qp rfl rfl (.v 7 rfl rfl (.v 12 rfl rfl .nil)) (q_and rfl rfl rfl) rfl) (aq rfl (fun γ => qm rfl (.v 13 rfl rfl .nil) rfl) (aq rfl (fun γ => QOb.grd (b := ((s10v && s31v) && s137v) && (decide (s143v = s146v))) [(0, .pointer (some ⟨b0, 0, none⟩)), (84, .bool (((s10v && s31v) && s137v) && (decide (s143v = s146v))))] rfl rfl rfl rfl (.o (s := 0) rfl (by decide) (.v 14 rfl rfl .nil)) (fun hb159v => RQ.sub (E' := [(0, .pointer (some ⟨b0, 0, none⟩))]) ⟨rfl, trivial⟩ (q_move rfl rfl)) rfl) (aq rfl (fun γ => QOb.grd (b := ((s10v && s31v) && s137v) && (decide (s143v = s146v))) [(84, .bool (((s10v && s31v) && s137v) && (decide (s143v = s146v)))), (85, cv ((((s10v && s31v) && s137v) && (decide (s143v = s146v))) == true) (.pointer (some ⟨b0, 0, none⟩)))] rfl rfl rfl rfl (.v 14 rfl rfl (.v 15 rfl rfl .nil)) (fun hb163v => RQ.sub (E' := [(85, .pointer (some ⟨b0, 0, none⟩))]) ⟨lk_cv rfl hb163v, trivial⟩ (RE.rq (re_call (vs := [.pointer (some ⟨b0, 0, none⟩)]) (cap := []) (A := [obj b0 64 [.map (some m0_0), str x0_1, .int .i64 x0_2, .bool x0_3], mapF (mapO m0_0 enc9 encP q0_0) FA68 q0_0 x0_0]) (rst := [Row 36 3 g140v.1 s128v.length g140v.2.1 rs141v.flatten, g140v.2.2, obj b1 29 [.slice a1_0 x1_0.length c1_0, .int .i64 x1_1, .bool x1_2, str x1_3], F]) rfl rfl rfl rfl rfl rfl Try.call23 (.sel 2 rfl (.sel 2 rfl (.sel 0 rfl (.sel 0 rfl (.sel 0 rfl (.sel 0 rfl (.nil _))))))) (disk_Disk_Down.calls _ _ b0 m0_0 q0_0 x0_0 x0_1 x0_2 x0_3 ) (disk_Disk_Down.tot x0_0 x0_1 x0_2 x0_3)) (fun _ => rfl) (fun _ => (.sel 2 rfl (.sel 2 rfl (.sel 0 rfl (.sel 0 rfl (.sel 0 rfl (.sel 0 rfl (.nil _)))))))))) rfl) (aq rfl (fun γ => QOb.grd (b := ((s10v && s31v) && s137v) && (decide (s143v = s146v))) [(1, .pointer (some ⟨b1, 0, none⟩)), (84, .bool (((s10v && s31v) && s137v) && (decide (s143v = s146v))))] rfl rfl rfl rfl (.o (s := 1) rfl (by decide) (.v 14 rfl rfl .nil)) (fun hb164v => RQ.sub (E' := [(1, .pointer (some ⟨b1, 0, none⟩))]) ⟨rfl, trivial⟩ (q_move rfl rfl)) rfl) (aq rfl (fun γ => QOb.grd (b := ((s10v && s31v) && s137v) && (decide (s143v = s146v))) [(84, .bool (((s10v && s31v) && s137v) && (decide (s143v = s146v)))), (87, cv ((((s10v && s31v) && s137v) && (decide (s143v = s146v))) == true) (.pointer (some ⟨b1, 0, none⟩)))] rfl rfl rfl rfl (.v 14 rfl rfl (.v 17 rfl rfl .nil)) (fun hb165v => RQ.sub (E' := [(87, .pointer (some ⟨b1, 0, none⟩))]) ⟨lk_cv rfl hb165v, trivial⟩ (q_nil rfl rfl)) rfl) (aq rfl (fun γ => QOb.grd (b := ((s10v && s31v) && s137v) && (decide (s143v = s146v))) [(84, .bool (((s10v && s31v) && s137v) && (decide (s143v = s146v)))), (88, cv ((((s10v && s31v) && s137v) && (decide (s143v = s146v))) == true) (.pointer (some ⟨b1, 0, none⟩)))] rfl rfl rfl rfl (.v 14 rfl rfl (.v 18 rfl rfl .nil)) (fun hb166v => RQ.sub (E' := [(88, .pointer (some ⟨b1, 0, none⟩))]) ⟨lk_cv rfl hb166v, trivial⟩ (q_fa rfl rfl Try.underlying29 rfl rfl Try.sizeOf4 rfl)) rfl) (aq rfl (fun γ => QOb.grd (b := ((s10v && s31v) && s137v) && (decide (s143v = s146v))) [(84, .bool (((s10v && s31v) && s137v) && (decide (s143v = s146v)))), (89, cv ((((s10v && s31v) && s137v) && (decide (s143v = s146v))) == true) (.pointer (some ⟨b1, 2, none⟩)))] rfl rfl rfl rfl (.v 14 rfl rfl (.v 19 rfl rfl .nil)) (fun hb167v => RQ.sub (E' := [(89, .pointer (some ⟨b1, 2, none⟩))]) ⟨lk_cv rfl hb167v, trivial⟩ (q_load rfl rfl Try.isAgg4 (.obj 4 rfl rfl))) rfl) (aq rfl (fun γ => QOb.grd (b := ((s10v && s31v) && s137v) && (decide (s143v = s146v))) [(84, .bool (((s10v && s31v) && s137v) && (decide (s143v = s146v)))), (86, cv ((((s10v && s31v) && s137v) && (decide (s143v = s146v))) == true) (.bool (disk_Disk_Down.v x0_0 x0_1 x0_2 x0_3))), (90, cv ((((s10v && s31v) && s137v) && (decide (s143v = s146v))) == true) (.bool x1_2))] rfl rfl rfl rfl (.v 14 rfl rfl (.v 16 rfl rfl (.v 20 rfl rfl .nil))) (fun hb168v => RQ.sub (E' := [(86, .bool (disk_Disk_Down.v x0_0 x0_1 x0_2 x0_3)), (90, .bool x1_2)]) ⟨lk_cv rfl hb168v, lk_cv rfl hb168v, trivial⟩ (q_eqb rfl rfl rfl Try.underlying4)) rfl) (aq rfl (fun γ => qp rfl rfl (.v 14 rfl rfl (.v 21 rfl rfl .nil)) (q_and rfl rfl rfl) rfl) (aq rfl (fun γ => qp rfl rfl (.v 22 rfl rfl .nil) (q_asg rfl rfl) rfl) zA))))))))))))))))))))))))
 exact zA
 intro g169v
 refine nrm_then (sim_rtn ?_)
 exact rtn_fn () rfl rfl rfl (.sel 2 rfl (.sel 2 rfl (.sel 2 rfl (.sel 2 rfl (.nil _)))))

def synodlaw4_DiskPlays.l0 (x0 : List (Ty52)) : Nat → Int → List (Ty36) → Int → Bool → List UInt8 → List ((List UInt8) × (List UInt8 × Int)) → List UInt8 → Int → Bool → Option ((Unit) ⊕ (Bool))
  | 0, _, _, _, _, _, _, _, _, _ => none
  | k + 1, z17v, z18v, z19v, z20v, z21v, z22v, z23v, z24v, z25v => if z17v < (x0.length : Int) then (if 0 ≤ z17v ∧ z17v < (x0.length : Int) then ((synodlaw4_Does.f k z22v z23v z24v z25v z18v z19v z20v z21v ((x0.getD z17v.toNat dz52).1) ((x0.getD z17v.toNat dz52).2.1) ((x0.getD z17v.toNat dz52).2.2.1) ((x0.getD z17v.toNat dz52).2.2.2.1) ((x0.getD z17v.toNat dz52).2.2.2.2)).bind fun s43v => ((if (!s43v.1) = true then (some true) else ((synodlaw4_Same.f k s43v.2.1 s43v.2.2.1 s43v.2.2.2.1 s43v.2.2.2.2.1 s43v.2.2.2.2.2.1 s43v.2.2.2.2.2.2.1 s43v.2.2.2.2.2.2.2.1 s43v.2.2.2.2.2.2.2.2).bind fun s54v => (some (!s54v)))).bind fun s46v => (if s46v = true then (some (.inr false)) else (synodlaw4_DiskPlays.l0 x0 k (IntKind.i64.wrap (z17v + 1)) s43v.2.2.2.2.2.1 s43v.2.2.2.2.2.2.1 s43v.2.2.2.2.2.2.2.1 s43v.2.2.2.2.2.2.2.2 s43v.2.1 s43v.2.2.1 s43v.2.2.2.1 s43v.2.2.2.2.1)))) else none) else (some (.inl ()))
def synodlaw4_DiskPlays.f (k : Nat) (x0 : List (Ty52)) : Option (Bool) := (synodlaw4_first.f k).bind fun s1v => ((synodlaw4_few.f k x0).bind fun s4v => (if ((!s1v) || (!s4v)) = true then (some s1v) else ((disk_New.f).bind fun s9v => (orR (synodlaw4_DiskPlays.l0 x0 k 0 ([] : List (Ty36)) 0 false ([] : List UInt8) s9v.1 s9v.2.1 s9v.2.2.1 s9v.2.2.2) fun s13v => (some true)))))
theorem synodlaw4_DiskPlays.calls (W : World) (F : HA) (k : Nat) (a0 : Option Addr) (c0 : Nat) (x0 : List (Ty52)) (h0 : RdV F 5 (V52 F) a0 x0) (hc0 : x0.length ≤ c0) (hm0 : c0 ≤ maxLen) :
    Fn Try.prog W 6 [.slice a0 x0.length c0] [] F (synodlaw4_DiskPlays.f k x0) (fun (r : Bool) (y : Unit) => .bool r) (fun r y => []) := by
 unfold synodlaw4_DiskPlays.f
 refine fn_intro 43 Try.func6 rfl Try.ntmps6 rfl ?_
 refine sr ?_
 refine va rfl rfl (nx ?_)
 refine simL_bind (fun s1v hs2v => ?_)
 refine simL_eff (re_call (vs := []) (cap := []) (A := []) (rst := [F]) rfl rfl rfl rfl rfl rfl Try.call9 (.sel 0 rfl (.nil _)) (synodlaw4_first.calls _ _ k  ) hs2v) rfl rfl rfl ?_
 intro y3v
 refine va rfl rfl (nx ?_)
 refine vm rfl rfl ?_
 refine simL_bind (fun s4v hs5v => ?_)
 refine simL_eff (re_call (vs := [.slice a0 x0.length c0]) (cap := []) (A := []) (rst := [F]) rfl rfl rfl rfl rfl rfl Try.call19 (.sel 0 rfl (.nil _)) (synodlaw4_few.calls _ _ k a0 c0 x0 (h0.up (Up.lend 0 rfl) (V52.up (Up.lend 0 rfl))) hc0 hm0) hs5v) rfl rfl rfl ?_
 intro y6v
 refine va rfl rfl (simL_nil (nrm_then (sim_seq (sr ?_))))
 refine vm rfl rfl ?_
 refine vq (q_not rfl rfl) rfl ?_
 refine vm rfl rfl ?_
 refine simL_valc (b := !s1v) (fun hb62v => RQ.sub (E' := [(4, .bool s4v)]) ⟨rfl, trivial⟩ (q_move rfl rfl)) rfl rfl rfl rfl rfl ?_
 refine simL_valc (b := !s1v) (fun hb61v => RQ.sub (E' := [(15, .bool s4v)]) ⟨lk_cv rfl hb61v, trivial⟩ (q_not rfl rfl)) rfl rfl rfl rfl rfl ?_
 refine vq (q_or rfl rfl rfl) rfl (simL_nil (nrm_then ?_))
 refine sim_condb rfl (fun h7v => ?_) (fun h8v => ?_)
 refine sr ?_
 refine vm rfl rfl ?_
 refine va rfl rfl (simL_nil (nrm_then (sim_rtn ?_)))
 refine rtn_then ?_
 exact rtn_fn () rfl rfl rfl (.sel 0 rfl (.nil _))
 refine sim_skip ?_
 refine nrm_then (sr ?_)
 refine simL_bind (fun s9v hs10v => ?_)
 refine simL_eff (re_call (vs := []) (cap := []) (A := []) (rst := [F]) rfl rfl rfl rfl rfl rfl Try.call10 (.sel 0 rfl (.nil _)) (disk_New.calls _ _  ) hs10v) rfl rfl rfl ?_
 intro y11v
 refine va rfl rfl (nx ?_)
 refine vq (q_build (v := .agg #[.slice none 0 0, .int .i64 0, .bool false, str ([] : List UInt8)]) rfl rfl (fun _ => by kernel_rfl)) rfl ?_
 refine simL_eff (re_box rfl rfl rfl) rfl rfl rfl ?_
 intro b12v
 refine va rfl rfl (simL_nil (nrm_then ?_))
 refine sim_cutR (S := Unit) (Unit) (fun s y => []) (fun s y => [F]) ?_ ?_
 refine sr ?_
 refine va rfl rfl (simL_nil (nrm_then ?_))
 refine sim_block ?_
 refine sim_loop (S := Int × (List (Ty36)) × Int × Bool × List UInt8 × (List ((List UInt8) × (List UInt8 × Int))) × List UInt8 × Int × Bool) (HA × Option Addr × Nat × Nat × Kps) (fun k s => synodlaw4_DiskPlays.l0 x0 k s.1 s.2.1 s.2.2.1 s.2.2.2.1 s.2.2.2.2.1 s.2.2.2.2.2.1 s.2.2.2.2.2.2.1 s.2.2.2.2.2.2.2.1 s.2.2.2.2.2.2.2.2) (fun s y => [(0, .slice a0 x0.length c0), (5, .pointer (some ⟨y11v.1, 0, none⟩)), (6, .pointer (some ⟨b12v, 0, none⟩)), (7, .int .i64 s.1)]) (fun s y => [obj b12v 29 [.slice y.2.1 s.2.1.length y.2.2.1, .int .i64 s.2.2.1, .bool s.2.2.2.1, str s.2.2.2.2.1], obj y11v.1 64 [.map (some y.2.2.2.1), str s.2.2.2.2.2.2.1, .int .i64 s.2.2.2.2.2.2.2.1, .bool s.2.2.2.2.2.2.2.2], RowV 36 3 (V36 (y.1)) y.2.1 s.2.1 y.2.2.1, mapF (mapO y.2.2.2.1 enc9 encP y.2.2.2.2) FA68 y.2.2.2.2 s.2.2.2.2.2.1, y.1, F]) (fun _ => by rw [synodlaw4_DiskPlays.l0]) ?_ k (0, ([] : List (Ty36)), 0, false, ([] : List UInt8), s9v.1, s9v.2.1, s9v.2.2.1, s9v.2.2.2) (tt, none, 0, y11v.2.1, y11v.2.2) ⟨rfl, rfl, rfl, rfl, trivial⟩ (.sel 0 rfl (.sel 0 rfl (.rowV_nil (.sel 0 rfl (.tt_in (.sel 0 rfl (.nil _)))))))
 intro k s15v y16v
 refine sim_eq (by rw [synodlaw4_DiskPlays.l0]) ?_
 refine sim_seq (sr ?_)
 refine vm rfl rfl ?_
 refine vm rfl rfl ?_
 refine vq (q_len rfl rfl rfl Try.underlying42) rfl ?_
 refine vq (q_lss rfl rfl rfl) rfl (simL_nil (nrm_then ?_))
 refine sim_cond rfl (fun h26v => ?_) (fun h27v => ?_)
 refine sim_skip ?_
 refine nrm_then (sim_seq ?_)
 refine sim_block ?_
 refine sr ?_
 refine vm rfl rfl ?_
 refine vm rfl rfl ?_
 refine vm rfl rfl ?_
 refine vm rfl rfl ?_
 refine simL_ask (fun hi28v => ?_)
 obtain ⟨b29v, b29vo, r32v, ha30v, hV33v, hlr34v, hcell35v⟩ := RdV.pos h0 (Up.refl _) rfl (i := s15v.1.toNat) (by omega) dz52
 obtain ⟨a36v, c37v, rfl, ⟨he38v, hc39v, hm40v⟩⟩ := hV33v
 refine vq (q_idx rfl rfl rfl ha30v Try.underlying42 Try.sizeOf52 hi28v.1 hi28v.2) rfl ?_
 refine vq (q_loads rfl rfl Try.isAgg52 Try.sizeOf52 rfl (fun j v hj => hcell35v 5 rfl j v hj)) rfl ?_
 refine simL_openV 2 rfl (fun rs41v hl42v => ?_)
 refine simL_bind (fun s43v hs44v => ?_)
 refine simL_eff (re_call (vs := [.pointer (some ⟨y11v.1, 0, none⟩), .pointer (some ⟨b12v, 0, none⟩), .agg #[.int .i64 ((x0.getD s15v.1.toNat dz52).1), .int .i64 ((x0.getD s15v.1.toNat dz52).2.1), str ((x0.getD s15v.1.toNat dz52).2.2.1), str ((x0.getD s15v.1.toNat dz52).2.2.2.1), .slice a36v (((x0.getD s15v.1.toNat dz52).2.2.2.2).length) c37v]]) (cap := []) (A := [obj y11v.1 64 [.map (some y16v.2.2.2.1), str s15v.2.2.2.2.2.2.1, .int .i64 s15v.2.2.2.2.2.2.2.1, .bool s15v.2.2.2.2.2.2.2.2], mapF (mapO y16v.2.2.2.1 enc9 encP y16v.2.2.2.2) FA68 y16v.2.2.2.2 s15v.2.2.2.2.2.1, obj b12v 29 [.slice y16v.2.1 s15v.2.1.length y16v.2.2.1, .int .i64 s15v.2.2.1, .bool s15v.2.2.2.1, str s15v.2.2.2.2.1], RowV 36 3 (V36 (y16v.1)) y16v.2.1 s15v.2.1 y16v.2.2.1, y16v.1]) (rst := [F]) rfl rfl rfl rfl rfl rfl Try.call27 (.sel 1 rfl (.sel 2 rfl (.sel 0 rfl (.sel' 0 rfl (RowV.mk hl42v) (.sel 0 rfl (.sel 0 rfl (.nil _))))))) (synodlaw4_Does.calls _ _ k y11v.1 y16v.2.2.2.1 y16v.2.2.2.2 s15v.2.2.2.2.2.1 s15v.2.2.2.2.2.2.1 s15v.2.2.2.2.2.2.2.1 s15v.2.2.2.2.2.2.2.2 b12v y16v.2.1 y16v.2.2.1 s15v.2.1 y16v.1 s15v.2.2.1 s15v.2.2.2.1 s15v.2.2.2.2.1 ((x0.getD s15v.1.toNat dz52).1) ((x0.getD s15v.1.toNat dz52).2.1) ((x0.getD s15v.1.toNat dz52).2.2.1) ((x0.getD s15v.1.toNat dz52).2.2.2.1) a36v c37v ((x0.getD s15v.1.toNat dz52).2.2.2.2) (he38v.lend 0 rfl) hc39v hm40v) hs44v) rfl rfl rfl ?_
 intro y45v
 refine va rfl rfl (nx ?_)
 refine vm rfl rfl ?_
 refine vq (q_not rfl rfl) rfl ?_
 refine vm rfl rfl ?_
 refine simL_cut' 5 (S := Bool) (Unit) (fun s y => [(0, .slice a0 x0.length c0), (5, .pointer (some ⟨y11v.1, 0, none⟩)), (6, .pointer (some ⟨b12v, 0, none⟩)), (7, .int .i64 s15v.1), (42, .bool s)]) (fun s y => [obj y11v.1 64 [.map (some y45v.1), str s43v.2.2.1, .int .i64 s43v.2.2.2.1, .bool s43v.2.2.2.2.1], obj b12v 29 [.slice y45v.2.2.1 s43v.2.2.2.2.2.1.length y45v.2.2.2.1, .int .i64 s43v.2.2.2.2.2.2.1, .bool s43v.2.2.2.2.2.2.2.1, str s43v.2.2.2.2.2.2.2.2], mapF (mapO y45v.1 enc9 encP y45v.2.1) FA68 y45v.2.1 s43v.2.1, RowV 36 3 (V36 (y45v.2.2.2.2)) y45v.2.2.1 s43v.2.2.2.2.2.1 y45v.2.2.2.1, y45v.2.2.2.2, F]) ?_ ?_
 refine simL_caseb (fun hb57v => ?_) (fun hb58v => ?_)
 rw [hb57v]
 refine simL_skipd rfl rfl rfl rfl rfl rfl ?_
 refine simL_skipd rfl rfl rfl rfl rfl rfl ?_
 refine simL_skipd rfl rfl rfl rfl rfl rfl ?_
 refine simL_skipd rfl rfl rfl rfl rfl rfl ?_
 refine vq (q_pick rfl rfl rfl rfl rfl) rfl (simL_nil ?_)
 exact nrm_cut (s := true) () ⟨rfl, rfl, rfl, rfl, rfl, trivial⟩ (.sel 0 rfl (.sel 1 rfl (.sel 0 rfl (.sel 0 rfl (.sel 0 rfl (.sel 0 rfl (.nil _)))))))
 rw [hb58v]
 refine simL_valg (q_move rfl rfl) rfl rfl rfl rfl rfl rfl ?_
 refine simL_valg (q_move rfl rfl) rfl rfl rfl rfl rfl rfl ?_
 refine simL_openV 3 rfl (fun rs48v hl49v => ?_)
 refine simL_bind (fun s54v hs55v => ?_)
 refine simL_lend 3 rfl (fun hq50v hq51v hq52v hq53v => ?_)
 refine simL_effg (re_call (vs := [.pointer (some ⟨y11v.1, 0, none⟩), .pointer (some ⟨b12v, 0, none⟩)]) (cap := []) (A := [obj y11v.1 64 [.map (some y45v.1), str s43v.2.2.1, .int .i64 s43v.2.2.2.1, .bool s43v.2.2.2.2.1], mapF (mapO y45v.1 enc9 encP y45v.2.1) FA68 y45v.2.1 s43v.2.1, obj b12v 29 [.slice y45v.2.2.1 s43v.2.2.2.2.2.1.length y45v.2.2.2.1, .int .i64 s43v.2.2.2.2.2.2.1, .bool s43v.2.2.2.2.2.2.2.1, str s43v.2.2.2.2.2.2.2.2]]) (rst := [Row 36 3 y45v.2.2.1 s43v.2.2.2.2.2.1.length y45v.2.2.2.1 rs48v.flatten, y45v.2.2.2.2, F]) rfl rfl rfl rfl rfl rfl Try.call28 (.sel 0 rfl (.sel 0 rfl (.sel 0 rfl (.sel 0 rfl (.sel 0 rfl (.sel 0 rfl (.nil _))))))) (synodlaw4_Same.calls _ _ k y11v.1 y45v.1 y45v.2.1 s43v.2.1 s43v.2.2.1 s43v.2.2.2.1 s43v.2.2.2.2.1 b12v y45v.2.2.1 y45v.2.2.2.1 s43v.2.2.2.2.2.1 s43v.2.2.2.2.2.2.1 s43v.2.2.2.2.2.2.2.1 s43v.2.2.2.2.2.2.2.2 ((Rd.asV hl49v hq50v).up (Up.lend 0 rfl) (V36.up (Up.lend 1 rfl))) hq51v hq52v) hs55v) rfl rfl rfl rfl rfl rfl ?_
 intro y56v
 refine simL_valg (q_not rfl rfl) rfl rfl rfl rfl rfl rfl ?_
 refine vq (q_pick rfl rfl rfl rfl rfl) rfl (simL_nil ?_)
 exact nrm_cut (s := !s54v) () ⟨rfl, rfl, rfl, rfl, rfl, trivial⟩ (.sel 0 rfl (.sel 1 rfl (.sel 0 rfl (.sel' 0 rfl (RowV.mk hl49v) (.sel 0 rfl (.sel 0 rfl (.nil _)))))))
 intro s46v y47v
 refine simL_nil (nrm_then ?_)
 refine sim_condb rfl (fun h59v => ?_) (fun h60v => ?_)
 refine sr ?_
 refine va rfl rfl (simL_nil (nrm_then (sim_rtn ?_)))
 refine rtn_block ?_
 refine rtn_then ?_
 refine rtn_loop ?_
 refine rtn_block ?_
 refine rtn_cutR ?_
 exact rtn_fn () rfl rfl rfl (.sel 5 rfl (.nil _))
 refine sim_skip ?_
 refine nrm_block (nrm_then (sim_region ?_))
 refine vm rfl rfl ?_
 refine vq (q_add rfl rfl rfl) rfl ?_
 refine va rfl rfl (simL_nil ?_)
 exact nrm_again (s := (IntKind.i64.wrap (s15v.1 + 1), s43v.2.2.2.2.2.1, s43v.2.2.2.2.2.2.1, s43v.2.2.2.2.2.2.2.1, s43v.2.2.2.2.2.2.2.2, s43v.2.1, s43v.2.2.1, s43v.2.2.2.1, s43v.2.2.2.2.1)) (y45v.2.2.2.2, y45v.2.2.1, y45v.2.2.2.1, y45v.1, y45v.2.1) ⟨rfl, rfl, rfl, rfl, trivial⟩ (.sel 1 rfl (.sel 0 rfl (.sel 1 rfl (.sel 0 rfl (.sel 0 rfl (.sel 0 rfl (.nil _)))))))
 refine sim_exi ?_
 refine exi_then ?_
 refine exi_loop ?_
 refine exi_here ?_
 exact nrm_cutR (s := ()) () trivial (.sel 5 rfl (.nil _))
 intro s13v y14v
 refine sr ?_
 refine va rfl rfl (simL_nil (nrm_then (sim_rtn ?_)))
 exact rtn_fn () rfl rfl rfl (.sel 0 rfl (.nil _))

def synodlaw4_told.f (k : Nat) (x0_0 : List ((List UInt8) × (List UInt8 × Int))) (x0_1 : List UInt8) (x0_2 : Int) (x0_3 : Bool) (x1_0 : Int) (x1_1 : Int) (x1_2 : List UInt8) (x1_3 : List UInt8) (x1_4 : List UInt8) : Option (Int × (List ((List UInt8) × (List UInt8 × Int))) × List UInt8 × Int × Bool) := orR (if x1_0 = (0 : Int) then ((disk_Disk_Create.f k x0_0 x0_1 x0_2 x0_3 x1_2).bind fun s6v => ((synodref_Num.f s6v.1).bind fun s9v => (some (.inr (s9v, s6v.2.1, s6v.2.2.1, s6v.2.2.2.1, s6v.2.2.2.2))))) else (if x1_0 = (1 : Int) then ((disk_Disk_Append.f x0_0 x0_1 x0_2 x0_3 x1_2 x1_4).bind fun s14v => ((synodref_Num.f s14v.1).bind fun s17v => (some (.inr (s17v, s14v.2.1, s14v.2.2.1, s14v.2.2.2.1, s14v.2.2.2.2))))) else (if x1_0 = (2 : Int) then ((disk_Disk_Sync.f x0_0 x0_1 x0_2 x0_3 x1_2).bind fun s22v => ((synodref_Num.f s22v.1).bind fun s25v => (some (.inr (s25v, s22v.2.1, s22v.2.2.1, s22v.2.2.2.1, s22v.2.2.2.2))))) else (if x1_0 = (3 : Int) then ((disk_Disk_Cut.f x0_0 x0_1 x0_2 x0_3 x1_2 x1_1).bind fun s30v => ((synodref_Num.f s30v.1).bind fun s33v => (some (.inr (s33v, s30v.2.1, s30v.2.2.1, s30v.2.2.2.1, s30v.2.2.2.2))))) else (if x1_0 = (4 : Int) then ((disk_Disk_Rename.f k x0_0 x0_1 x0_2 x0_3 x1_2 x1_3).bind fun s38v => ((synodref_Num.f s38v.1).bind fun s41v => (some (.inr (s41v, s38v.2.1, s38v.2.2.1, s38v.2.2.2.1, s38v.2.2.2.2))))) else (if x1_0 = (5 : Int) then ((disk_Disk_Remove.f x0_0 x0_1 x0_2 x0_3 x1_2).bind fun s46v => ((synodref_Num.f s46v.1).bind fun s49v => (some (.inr (s49v, s46v.2.1, s46v.2.2.1, s46v.2.2.2.1, s46v.2.2.2.2))))) else (if x1_0 = (6 : Int) then ((disk_Disk_Arm.f x0_0 x0_1 x0_2 x0_3 x1_1).bind fun s54v => (some (.inl (x0_0, s54v.1, s54v.2.1, s54v.2.2)))) else (if x1_0 = (7 : Int) then ((disk_Disk_Crash.f x0_0 x0_1 x0_2 x0_3 x1_1).bind fun s59v => (some (.inl (s59v.1, s59v.2.1, s59v.2.2.1, s59v.2.2.2)))) else (some (.inl (x0_0, x0_1, x0_2, x0_3))))))))))) fun s2v => (some (0, s2v.1, s2v.2.1, s2v.2.2.1, s2v.2.2.2))
theorem synodlaw4_told.calls (W : World) (F : HA) (k : Nat) (b0 : Nat) (m0_0 : Nat) (q0_0 : Kps) (x0_0 : List ((List UInt8) × (List UInt8 × Int))) (x0_1 : List UInt8) (x0_2 : Int) (x0_3 : Bool) (x1_0 : Int) (x1_1 : Int) (x1_2 : List UInt8) (x1_3 : List UInt8) (a1_4 : Option Addr) (c1_4 : Nat) (x1_4 : List UInt8) (h1_4 : Rd F a1_4 (encB x1_4)) (hc1_4 : x1_4.length ≤ c1_4) (hm1_4 : c1_4 ≤ maxLen) :
    Fn Try.prog W 26 [.pointer (some ⟨b0, 0, none⟩), .agg #[.int .i64 x1_0, .int .i64 x1_1, str x1_2, str x1_3, .slice a1_4 x1_4.length c1_4]] [obj b0 64 [.map (some m0_0), str x0_1, .int .i64 x0_2, .bool x0_3], mapF (mapO m0_0 enc9 encP q0_0) FA68 q0_0 x0_0] F (synodlaw4_told.f k x0_0 x0_1 x0_2 x0_3 x1_0 x1_1 x1_2 x1_3 x1_4) (fun (r : Int × (List ((List UInt8) × (List UInt8 × Int))) × List UInt8 × Int × Bool) (y : Nat × Kps) => .int .i64 r.1) (fun r y => [obj b0 64 [.map (some y.1), str r.2.2.1, .int .i64 r.2.2.2.1, .bool r.2.2.2.2], mapF (mapO y.1 enc9 encP y.2) FA68 y.2 r.2.1]) := by
 unfold synodlaw4_told.f
 refine fn_intro 67 Try.func26 rfl Try.ntmps26 rfl ?_
 refine sr ?_
 refine simL_eff (re_box rfl rfl rfl) rfl rfl rfl ?_
 intro b1v
 refine va rfl rfl (simL_nil (nrm_then ?_))
 refine sim_cutR (S := (List ((List UInt8) × (List UInt8 × Int))) × List UInt8 × Int × Bool) (Nat × Kps) (fun s y => []) (fun s y => [obj b0 64 [.map (some y.1), str s.2.1, .int .i64 s.2.2.1, .bool s.2.2.2], mapF (mapO y.1 enc9 encP y.2) FA68 y.2 s.1, F]) ?_ ?_
 refine sr ?_
 refine vq (q_fa rfl rfl Try.underlying52 rfl rfl Try.sizeOf3 rfl) rfl ?_
 refine vq (q_load rfl rfl Try.isAgg3 (.obj 0 rfl rfl)) rfl (simL_nil (nrm_then ?_))
 refine sim_block ?_
 refine sr ?_
 refine vq (q_eql rfl rfl rfl) rfl ?_
 refine va rfl rfl (simL_nil (nrm_then ?_))
 refine sim_cond rfl (fun h4v => ?_) (fun h5v => ?_)
 refine sr ?_
 refine vm rfl rfl ?_
 refine vq (q_fa rfl rfl Try.underlying52 rfl rfl Try.sizeOf9 rfl) rfl ?_
 refine vq (q_load rfl rfl Try.isAgg9 (.obj 0 rfl rfl)) rfl ?_
 refine simL_bind (fun s6v hs7v => ?_)
 refine simL_eff (re_call (vs := [.pointer (some ⟨b0, 0, none⟩), str x1_2]) (cap := []) (A := [obj b0 64 [.map (some m0_0), str x0_1, .int .i64 x0_2, .bool x0_3], mapF (mapO m0_0 enc9 encP q0_0) FA68 q0_0 x0_0]) (rst := [obj b1v 52 [.int .i64 x1_0, .int .i64 x1_1, str x1_2, str x1_3, .slice a1_4 x1_4.length c1_4], F]) rfl rfl rfl rfl rfl rfl Try.call12 (.sel 1 rfl (.sel 1 rfl (.sel 0 rfl (.sel 0 rfl (.nil _))))) (disk_Disk_Create.calls _ _ k b0 m0_0 q0_0 x0_0 x0_1 x0_2 x0_3 x1_2 ) hs7v) rfl rfl rfl ?_
 intro y8v
 refine simL_bind (fun s9v hs10v => ?_)
 refine simL_eff (re_call (vs := [.int .i64 s6v.1]) (cap := []) (A := []) (rst := [obj b0 64 [.map (some y8v.1), str s6v.2.2.1, .int .i64 s6v.2.2.2.1, .bool s6v.2.2.2.2], mapF (mapO y8v.1 enc9 encP y8v.2) FA68 y8v.2 s6v.2.1, obj b1v 52 [.int .i64 x1_0, .int .i64 x1_1, str x1_2, str x1_3, .slice a1_4 x1_4.length c1_4], F]) rfl rfl rfl rfl rfl rfl Try.call11 (.sel 0 rfl (.sel 0 rfl (.sel 0 rfl (.sel 0 rfl (.nil _))))) (synodref_Num.calls _ _ s6v.1 ) hs10v) rfl rfl rfl ?_
 intro y11v
 refine va rfl rfl (simL_nil (nrm_then (sim_rtn ?_)))
 refine rtn_block ?_
 refine rtn_cutR ?_
 exact rtn_fn (y8v.1, y8v.2) rfl rfl rfl (.sel 0 rfl (.sel 0 rfl (.sel 1 rfl (.nil _))))
 refine sr ?_
 refine vq (q_eql rfl rfl rfl) rfl ?_
 refine va rfl rfl (simL_nil (nrm_then ?_))
 refine sim_cond rfl (fun h12v => ?_) (fun h13v => ?_)
 refine sr ?_
 refine vm rfl rfl ?_
 refine vq (q_fa rfl rfl Try.underlying52 rfl rfl Try.sizeOf9 rfl) rfl ?_
 refine vq (q_load rfl rfl Try.isAgg9 (.obj 0 rfl rfl)) rfl ?_
 refine vq (q_fa rfl rfl Try.underlying52 rfl rfl Try.sizeOf34 rfl) rfl ?_
 refine vq (q_load rfl rfl Try.isAgg34 (.obj 0 rfl rfl)) rfl ?_
 refine simL_bind (fun s14v hs15v => ?_)
 refine simL_eff (re_call (vs := [.pointer (some ⟨b0, 0, none⟩), str x1_2, .slice a1_4 x1_4.length c1_4]) (cap := []) (A := [obj b0 64 [.map (some m0_0), str x0_1, .int .i64 x0_2, .bool x0_3], mapF (mapO m0_0 enc9 encP q0_0) FA68 q0_0 x0_0]) (rst := [obj b1v 52 [.int .i64 x1_0, .int .i64 x1_1, str x1_2, str x1_3, .slice a1_4 x1_4.length c1_4], F]) rfl rfl rfl rfl rfl rfl Try.call14 (.sel 1 rfl (.sel 1 rfl (.sel 0 rfl (.sel 0 rfl (.nil _))))) (disk_Disk_Append.calls _ _ b0 m0_0 q0_0 x0_0 x0_1 x0_2 x0_3 x1_2 a1_4 c1_4 x1_4 (h1_4.lend 1 rfl) hc1_4 hm1_4) hs15v) rfl rfl rfl ?_
 intro y16v
 refine simL_bind (fun s17v hs18v => ?_)
 refine simL_eff (re_call (vs := [.int .i64 s14v.1]) (cap := []) (A := []) (rst := [obj b0 64 [.map (some y16v.1), str s14v.2.2.1, .int .i64 s14v.2.2.2.1, .bool s14v.2.2.2.2], mapF (mapO y16v.1 enc9 encP y16v.2) FA68 y16v.2 s14v.2.1, obj b1v 52 [.int .i64 x1_0, .int .i64 x1_1, str x1_2, str x1_3, .slice a1_4 x1_4.length c1_4], F]) rfl rfl rfl rfl rfl rfl Try.call11 (.sel 0 rfl (.sel 0 rfl (.sel 0 rfl (.sel 0 rfl (.nil _))))) (synodref_Num.calls _ _ s14v.1 ) hs18v) rfl rfl rfl ?_
 intro y19v
 refine va rfl rfl (simL_nil (nrm_then (sim_rtn ?_)))
 refine rtn_block ?_
 refine rtn_cutR ?_
 exact rtn_fn (y16v.1, y16v.2) rfl rfl rfl (.sel 0 rfl (.sel 0 rfl (.sel 1 rfl (.nil _))))
 refine sr ?_
 refine vq (q_eql rfl rfl rfl) rfl ?_
 refine va rfl rfl (simL_nil (nrm_then ?_))
 refine sim_cond rfl (fun h20v => ?_) (fun h21v => ?_)
 refine sr ?_
 refine vm rfl rfl ?_
 refine vq (q_fa rfl rfl Try.underlying52 rfl rfl Try.sizeOf9 rfl) rfl ?_
 refine vq (q_load rfl rfl Try.isAgg9 (.obj 0 rfl rfl)) rfl ?_
 refine simL_bind (fun s22v hs23v => ?_)
 refine simL_eff (re_call (vs := [.pointer (some ⟨b0, 0, none⟩), str x1_2]) (cap := []) (A := [obj b0 64 [.map (some m0_0), str x0_1, .int .i64 x0_2, .bool x0_3], mapF (mapO m0_0 enc9 encP q0_0) FA68 q0_0 x0_0]) (rst := [obj b1v 52 [.int .i64 x1_0, .int .i64 x1_1, str x1_2, str x1_3, .slice a1_4 x1_4.length c1_4], F]) rfl rfl rfl rfl rfl rfl Try.call32 (.sel 1 rfl (.sel 1 rfl (.sel 0 rfl (.sel 0 rfl (.nil _))))) (disk_Disk_Sync.calls _ _ b0 m0_0 q0_0 x0_0 x0_1 x0_2 x0_3 x1_2 ) hs23v) rfl rfl rfl ?_
 intro y24v
 refine simL_bind (fun s25v hs26v => ?_)
 refine simL_eff (re_call (vs := [.int .i64 s22v.1]) (cap := []) (A := []) (rst := [obj b0 64 [.map (some y24v.1), str s22v.2.2.1, .int .i64 s22v.2.2.2.1, .bool s22v.2.2.2.2], mapF (mapO y24v.1 enc9 encP y24v.2) FA68 y24v.2 s22v.2.1, obj b1v 52 [.int .i64 x1_0, .int .i64 x1_1, str x1_2, str x1_3, .slice a1_4 x1_4.length c1_4], F]) rfl rfl rfl rfl rfl rfl Try.call11 (.sel 0 rfl (.sel 0 rfl (.sel 0 rfl (.sel 0 rfl (.nil _))))) (synodref_Num.calls _ _ s22v.1 ) hs26v) rfl rfl rfl ?_
 intro y27v
 refine va rfl rfl (simL_nil (nrm_then (sim_rtn ?_)))
 refine rtn_block ?_
 refine rtn_cutR ?_
 exact rtn_fn (y24v.1, y24v.2) rfl rfl rfl (.sel 0 rfl (.sel 0 rfl (.sel 1 rfl (.nil _))))
 refine sr ?_
 refine vq (q_eql rfl rfl rfl) rfl ?_
 refine va rfl rfl (simL_nil (nrm_then ?_))
 refine sim_cond rfl (fun h28v => ?_) (fun h29v => ?_)
 refine sr ?_
 refine vm rfl rfl ?_
 refine vq (q_fa rfl rfl Try.underlying52 rfl rfl Try.sizeOf9 rfl) rfl ?_
 refine vq (q_load rfl rfl Try.isAgg9 (.obj 0 rfl rfl)) rfl ?_
 refine vq (q_fa rfl rfl Try.underlying52 rfl rfl Try.sizeOf3 rfl) rfl ?_
 refine vq (q_load rfl rfl Try.isAgg3 (.obj 0 rfl rfl)) rfl ?_
 refine simL_bind (fun s30v hs31v => ?_)
 refine simL_eff (re_call (vs := [.pointer (some ⟨b0, 0, none⟩), str x1_2, .int .i64 x1_1]) (cap := []) (A := [obj b0 64 [.map (some m0_0), str x0_1, .int .i64 x0_2, .bool x0_3], mapF (mapO m0_0 enc9 encP q0_0) FA68 q0_0 x0_0]) (rst := [obj b1v 52 [.int .i64 x1_0, .int .i64 x1_1, str x1_2, str x1_3, .slice a1_4 x1_4.length c1_4], F]) rfl rfl rfl rfl rfl rfl Try.call44 (.sel 1 rfl (.sel 1 rfl (.sel 0 rfl (.sel 0 rfl (.nil _))))) (disk_Disk_Cut.calls _ _ b0 m0_0 q0_0 x0_0 x0_1 x0_2 x0_3 x1_2 x1_1 ) hs31v) rfl rfl rfl ?_
 intro y32v
 refine simL_bind (fun s33v hs34v => ?_)
 refine simL_eff (re_call (vs := [.int .i64 s30v.1]) (cap := []) (A := []) (rst := [obj b0 64 [.map (some y32v.1), str s30v.2.2.1, .int .i64 s30v.2.2.2.1, .bool s30v.2.2.2.2], mapF (mapO y32v.1 enc9 encP y32v.2) FA68 y32v.2 s30v.2.1, obj b1v 52 [.int .i64 x1_0, .int .i64 x1_1, str x1_2, str x1_3, .slice a1_4 x1_4.length c1_4], F]) rfl rfl rfl rfl rfl rfl Try.call11 (.sel 0 rfl (.sel 0 rfl (.sel 0 rfl (.sel 0 rfl (.nil _))))) (synodref_Num.calls _ _ s30v.1 ) hs34v) rfl rfl rfl ?_
 intro y35v
 refine va rfl rfl (simL_nil (nrm_then (sim_rtn ?_)))
 refine rtn_block ?_
 refine rtn_cutR ?_
 exact rtn_fn (y32v.1, y32v.2) rfl rfl rfl (.sel 0 rfl (.sel 0 rfl (.sel 1 rfl (.nil _))))
 refine sr ?_
 refine vq (q_eql rfl rfl rfl) rfl ?_
 refine va rfl rfl (simL_nil (nrm_then ?_))
 refine sim_cond rfl (fun h36v => ?_) (fun h37v => ?_)
 refine sr ?_
 refine vm rfl rfl ?_
 refine vq (q_fa rfl rfl Try.underlying52 rfl rfl Try.sizeOf9 rfl) rfl ?_
 refine vq (q_load rfl rfl Try.isAgg9 (.obj 0 rfl rfl)) rfl ?_
 refine vq (q_fa rfl rfl Try.underlying52 rfl rfl Try.sizeOf9 rfl) rfl ?_
 refine vq (q_load rfl rfl Try.isAgg9 (.obj 0 rfl rfl)) rfl ?_
 refine simL_bind (fun s38v hs39v => ?_)
 refine simL_eff (re_call (vs := [.pointer (some ⟨b0, 0, none⟩), str x1_2, str x1_3]) (cap := []) (A := [obj b0 64 [.map (some m0_0), str x0_1, .int .i64 x0_2, .bool x0_3], mapF (mapO m0_0 enc9 encP q0_0) FA68 q0_0 x0_0]) (rst := [obj b1v 52 [.int .i64 x1_0, .int .i64 x1_1, str x1_2, str x1_3, .slice a1_4 x1_4.length c1_4], F]) rfl rfl rfl rfl rfl rfl Try.call45 (.sel 1 rfl (.sel 1 rfl (.sel 0 rfl (.sel 0 rfl (.nil _))))) (disk_Disk_Rename.calls _ _ k b0 m0_0 q0_0 x0_0 x0_1 x0_2 x0_3 x1_2 x1_3 ) hs39v) rfl rfl rfl ?_
 intro y40v
 refine simL_bind (fun s41v hs42v => ?_)
 refine simL_eff (re_call (vs := [.int .i64 s38v.1]) (cap := []) (A := []) (rst := [obj b0 64 [.map (some y40v.1), str s38v.2.2.1, .int .i64 s38v.2.2.2.1, .bool s38v.2.2.2.2], mapF (mapO y40v.1 enc9 encP y40v.2) FA68 y40v.2 s38v.2.1, obj b1v 52 [.int .i64 x1_0, .int .i64 x1_1, str x1_2, str x1_3, .slice a1_4 x1_4.length c1_4], F]) rfl rfl rfl rfl rfl rfl Try.call11 (.sel 0 rfl (.sel 0 rfl (.sel 0 rfl (.sel 0 rfl (.nil _))))) (synodref_Num.calls _ _ s38v.1 ) hs42v) rfl rfl rfl ?_
 intro y43v
 refine va rfl rfl (simL_nil (nrm_then (sim_rtn ?_)))
 refine rtn_block ?_
 refine rtn_cutR ?_
 exact rtn_fn (y40v.1, y40v.2) rfl rfl rfl (.sel 0 rfl (.sel 0 rfl (.sel 1 rfl (.nil _))))
 refine sr ?_
 refine vq (q_eql rfl rfl rfl) rfl ?_
 refine va rfl rfl (simL_nil (nrm_then ?_))
 refine sim_cond rfl (fun h44v => ?_) (fun h45v => ?_)
 refine sr ?_
 refine vm rfl rfl ?_
 refine vq (q_fa rfl rfl Try.underlying52 rfl rfl Try.sizeOf9 rfl) rfl ?_
 refine vq (q_load rfl rfl Try.isAgg9 (.obj 0 rfl rfl)) rfl ?_
 refine simL_bind (fun s46v hs47v => ?_)
 refine simL_eff (re_call (vs := [.pointer (some ⟨b0, 0, none⟩), str x1_2]) (cap := []) (A := [obj b0 64 [.map (some m0_0), str x0_1, .int .i64 x0_2, .bool x0_3], mapF (mapO m0_0 enc9 encP q0_0) FA68 q0_0 x0_0]) (rst := [obj b1v 52 [.int .i64 x1_0, .int .i64 x1_1, str x1_2, str x1_3, .slice a1_4 x1_4.length c1_4], F]) rfl rfl rfl rfl rfl rfl Try.call46 (.sel 1 rfl (.sel 1 rfl (.sel 0 rfl (.sel 0 rfl (.nil _))))) (disk_Disk_Remove.calls _ _ b0 m0_0 q0_0 x0_0 x0_1 x0_2 x0_3 x1_2 ) hs47v) rfl rfl rfl ?_
 intro y48v
 refine simL_bind (fun s49v hs50v => ?_)
 refine simL_eff (re_call (vs := [.int .i64 s46v.1]) (cap := []) (A := []) (rst := [obj b0 64 [.map (some y48v.1), str s46v.2.2.1, .int .i64 s46v.2.2.2.1, .bool s46v.2.2.2.2], mapF (mapO y48v.1 enc9 encP y48v.2) FA68 y48v.2 s46v.2.1, obj b1v 52 [.int .i64 x1_0, .int .i64 x1_1, str x1_2, str x1_3, .slice a1_4 x1_4.length c1_4], F]) rfl rfl rfl rfl rfl rfl Try.call11 (.sel 0 rfl (.sel 0 rfl (.sel 0 rfl (.sel 0 rfl (.nil _))))) (synodref_Num.calls _ _ s46v.1 ) hs50v) rfl rfl rfl ?_
 intro y51v
 refine va rfl rfl (simL_nil (nrm_then (sim_rtn ?_)))
 refine rtn_block ?_
 refine rtn_cutR ?_
 exact rtn_fn (y48v.1, y48v.2) rfl rfl rfl (.sel 0 rfl (.sel 0 rfl (.sel 1 rfl (.nil _))))
 refine sr ?_
 refine vq (q_eql rfl rfl rfl) rfl ?_
 refine va rfl rfl (simL_nil (nrm_then ?_))
 refine sim_cond rfl (fun h52v => ?_) (fun h53v => ?_)
 refine sim_region ?_
 refine vm rfl rfl ?_
 refine vq (q_fa rfl rfl Try.underlying52 rfl rfl Try.sizeOf3 rfl) rfl ?_
 refine vq (q_load rfl rfl Try.isAgg3 (.obj 0 rfl rfl)) rfl ?_
 refine simL_bind (fun s54v hs55v => ?_)
 refine simL_eff (re_call (vs := [.pointer (some ⟨b0, 0, none⟩), .int .i64 x1_1]) (cap := []) (A := [obj b0 64 [.map (some m0_0), str x0_1, .int .i64 x0_2, .bool x0_3], mapF (mapO m0_0 enc9 encP q0_0) FA68 q0_0 x0_0]) (rst := [obj b1v 52 [.int .i64 x1_0, .int .i64 x1_1, str x1_2, str x1_3, .slice a1_4 x1_4.length c1_4], F]) rfl rfl rfl rfl rfl rfl Try.call47 (.sel 1 rfl (.sel 1 rfl (.sel 0 rfl (.sel 0 rfl (.nil _))))) (disk_Disk_Arm.calls _ _ b0 m0_0 q0_0 x0_0 x0_1 x0_2 x0_3 x1_1 ) hs55v) rfl rfl rfl ?_
 intro y56v
 refine simL_nil (nrm_block ?_)
 exact nrm_cutR (s := (x0_0, s54v.1, s54v.2.1, s54v.2.2)) (m0_0, q0_0) trivial (.sel 0 rfl (.sel 0 rfl (.sel 1 rfl (.nil _))))
 refine sr ?_
 refine vq (q_eql rfl rfl rfl) rfl ?_
 refine va rfl rfl (simL_nil (nrm_then ?_))
 refine sim_cond rfl (fun h57v => ?_) (fun h58v => ?_)
 refine sim_region ?_
 refine vm rfl rfl ?_
 refine vq (q_fa rfl rfl Try.underlying52 rfl rfl Try.sizeOf3 rfl) rfl ?_
 refine vq (q_load rfl rfl Try.isAgg3 (.obj 0 rfl rfl)) rfl ?_
 refine simL_bind (fun s59v hs60v => ?_)
 refine simL_eff (re_call (vs := [.pointer (some ⟨b0, 0, none⟩), .int .i64 x1_1]) (cap := []) (A := [obj b0 64 [.map (some m0_0), str x0_1, .int .i64 x0_2, .bool x0_3], mapF (mapO m0_0 enc9 encP q0_0) FA68 q0_0 x0_0]) (rst := [obj b1v 52 [.int .i64 x1_0, .int .i64 x1_1, str x1_2, str x1_3, .slice a1_4 x1_4.length c1_4], F]) rfl rfl rfl rfl rfl rfl Try.call22 (.sel 1 rfl (.sel 1 rfl (.sel 0 rfl (.sel 0 rfl (.nil _))))) (disk_Disk_Crash.calls _ _ b0 m0_0 q0_0 x0_0 x0_1 x0_2 x0_3 x1_1 ) hs60v) rfl rfl rfl ?_
 intro y61v
 refine simL_nil (nrm_block ?_)
 exact nrm_cutR (s := (s59v.1, s59v.2.1, s59v.2.2.1, s59v.2.2.2)) (y61v.1, y61v.2) trivial (.sel 0 rfl (.sel 0 rfl (.sel 1 rfl (.nil _))))
 refine sim_skip ?_
 refine nrm_block ?_
 exact nrm_cutR (s := (x0_0, x0_1, x0_2, x0_3)) (m0_0, q0_0) trivial (.sel 1 rfl (.sel 1 rfl (.sel 1 rfl (.nil _))))
 intro s2v y3v
 refine sr ?_
 refine va rfl rfl (simL_nil (nrm_then (sim_rtn ?_)))
 exact rtn_fn (y3v.1, y3v.2) rfl rfl rfl (.sel 0 rfl (.sel 0 rfl (.sel 0 rfl (.nil _))))

def synodlaw4_made.l0 (x0 : List (Ty52)) : Nat → Int → List ((List UInt8) × (List UInt8 × Int)) → List UInt8 → Int → Bool → Option ((List ((List UInt8) × (List UInt8 × Int))) × List UInt8 × Int × Bool)
  | 0, _, _, _, _, _ => none
  | k + 1, z8v, z9v, z10v, z11v, z12v => if z8v < (x0.length : Int) then (if 0 ≤ z8v ∧ z8v < (x0.length : Int) then ((synodlaw4_told.f k z9v z10v z11v z12v ((x0.getD z8v.toNat dz52).1) ((x0.getD z8v.toNat dz52).2.1) ((x0.getD z8v.toNat dz52).2.2.1) ((x0.getD z8v.toNat dz52).2.2.2.1) ((x0.getD z8v.toNat dz52).2.2.2.2)).bind fun s28v => (synodlaw4_made.l0 x0 k (IntKind.i64.wrap (z8v + 1)) s28v.2.1 s28v.2.2.1 s28v.2.2.2.1 s28v.2.2.2.2)) else none) else (some (z9v, z10v, z11v, z12v))
def synodlaw4_made.f (k : Nat) (x0 : List (Ty52)) : Option ((List ((List UInt8) × (List UInt8 × Int))) × List UInt8 × Int × Bool) := (disk_New.f).bind fun s1v => ((synodlaw4_made.l0 x0 k 0 s1v.1 s1v.2.1 s1v.2.2.1 s1v.2.2.2).bind fun s4v => (some (s4v.1, s4v.2.1, s4v.2.2.1, s4v.2.2.2)))
theorem synodlaw4_made.calls (W : World) (F : HA) (k : Nat) (a0 : Option Addr) (c0 : Nat) (x0 : List (Ty52)) (h0 : RdV F 5 (V52 F) a0 x0) (hc0 : x0.length ≤ c0) (hm0 : c0 ≤ maxLen) :
    Fn Try.prog W 20 [.slice a0 x0.length c0] [] F (synodlaw4_made.f k x0) (fun (r : (List ((List UInt8) × (List UInt8 × Int))) × List UInt8 × Int × Bool) (y : Nat × Nat × Kps) => .pointer (some ⟨y.1, 0, none⟩)) (fun r y => [obj y.1 64 [.map (some y.2.1), str r.2.1, .int .i64 r.2.2.1, .bool r.2.2.2], mapF (mapO y.2.1 enc9 encP y.2.2) FA68 y.2.2 r.1]) := by
 unfold synodlaw4_made.f
 refine fn_intro 19 Try.func20 rfl Try.ntmps20 rfl ?_
 refine sr ?_
 refine va rfl rfl (nx ?_)
 refine simL_bind (fun s1v hs2v => ?_)
 refine simL_eff (re_call (vs := []) (cap := []) (A := []) (rst := [F]) rfl rfl rfl rfl rfl rfl Try.call10 (.sel 0 rfl (.nil _)) (disk_New.calls _ _  ) hs2v) rfl rfl rfl ?_
 intro y3v
 refine va rfl rfl (simL_nil (nrm_then ?_))
 refine sim_cut (S := (List ((List UInt8) × (List UInt8 × Int))) × List UInt8 × Int × Bool) (Nat × Kps) (fun s y => [(3, .pointer (some ⟨y3v.1, 0, none⟩))]) (fun s y => [obj y3v.1 64 [.map (some y.1), str s.2.1, .int .i64 s.2.2.1, .bool s.2.2.2], mapF (mapO y.1 enc9 encP y.2) FA68 y.2 s.1, F]) ?_ ?_
 refine sr ?_
 refine va rfl rfl (simL_nil (nrm_then ?_))
 refine sim_block ?_
 refine sim_loop (S := Int × (List ((List UInt8) × (List UInt8 × Int))) × List UInt8 × Int × Bool) (Nat × Kps) (fun k s => synodlaw4_made.l0 x0 k s.1 s.2.1 s.2.2.1 s.2.2.2.1 s.2.2.2.2) (fun s y => [(0, .slice a0 x0.length c0), (3, .pointer (some ⟨y3v.1, 0, none⟩)), (4, .int .i64 s.1)]) (fun s y => [obj y3v.1 64 [.map (some y.1), str s.2.2.1, .int .i64 s.2.2.2.1, .bool s.2.2.2.2], mapF (mapO y.1 enc9 encP y.2) FA68 y.2 s.2.1, F]) (fun _ => by rw [synodlaw4_made.l0]) ?_ k (0, s1v.1, s1v.2.1, s1v.2.2.1, s1v.2.2.2) (y3v.2.1, y3v.2.2) ⟨rfl, rfl, rfl, trivial⟩ (.sel 0 rfl (.sel 0 rfl (.sel 0 rfl (.nil _))))
 intro k s6v y7v
 refine sim_eq (by rw [synodlaw4_made.l0]) ?_
 refine sim_seq (sr ?_)
 refine vm rfl rfl ?_
 refine vm rfl rfl ?_
 refine vq (q_len rfl rfl rfl Try.underlying42) rfl ?_
 refine vq (q_lss rfl rfl rfl) rfl (simL_nil (nrm_then ?_))
 refine sim_cond rfl (fun h13v => ?_) (fun h14v => ?_)
 refine sim_skip ?_
 refine nrm_then (sim_seq ?_)
 refine sim_block ?_
 refine sim_region ?_
 refine vm rfl rfl ?_
 refine vm rfl rfl ?_
 refine vm rfl rfl ?_
 refine simL_ask (fun hi15v => ?_)
 obtain ⟨b16v, b16vo, r19v, ha17v, hV20v, hlr21v, hcell22v⟩ := RdV.pos h0 (Up.refl _) rfl (i := s6v.1.toNat) (by omega) dz52
 obtain ⟨a23v, c24v, rfl, ⟨he25v, hc26v, hm27v⟩⟩ := hV20v
 refine vq (q_idx rfl rfl rfl ha17v Try.underlying42 Try.sizeOf52 hi15v.1 hi15v.2) rfl ?_
 refine vq (q_loads rfl rfl Try.isAgg52 Try.sizeOf52 rfl (fun j v hj => hcell22v 2 rfl j v hj)) rfl ?_
 refine simL_bind (fun s28v hs29v => ?_)
 refine simL_eff (re_call (vs := [.pointer (some ⟨y3v.1, 0, none⟩), .agg #[.int .i64 ((x0.getD s6v.1.toNat dz52).1), .int .i64 ((x0.getD s6v.1.toNat dz52).2.1), str ((x0.getD s6v.1.toNat dz52).2.2.1), str ((x0.getD s6v.1.toNat dz52).2.2.2.1), .slice a23v (((x0.getD s6v.1.toNat dz52).2.2.2.2).length) c24v]]) (cap := []) (A := [obj y3v.1 64 [.map (some y7v.1), str s6v.2.2.1, .int .i64 s6v.2.2.2.1, .bool s6v.2.2.2.2], mapF (mapO y7v.1 enc9 encP y7v.2) FA68 y7v.2 s6v.2.1]) (rst := [F]) rfl rfl rfl rfl rfl rfl Try.call26 (.sel 0 rfl (.sel 0 rfl (.sel 0 rfl (.nil _)))) (synodlaw4_told.calls _ _ k y3v.1 y7v.1 y7v.2 s6v.2.1 s6v.2.2.1 s6v.2.2.2.1 s6v.2.2.2.2 ((x0.getD s6v.1.toNat dz52).1) ((x0.getD s6v.1.toNat dz52).2.1) ((x0.getD s6v.1.toNat dz52).2.2.1) ((x0.getD s6v.1.toNat dz52).2.2.2.1) a23v c24v ((x0.getD s6v.1.toNat dz52).2.2.2.2) (he25v.lend 0 rfl) hc26v hm27v) hs29v) rfl rfl rfl ?_
 intro y30v
 refine simL_nil (nrm_block (nrm_then (sim_region ?_)))
 refine vm rfl rfl ?_
 refine vq (q_add rfl rfl rfl) rfl ?_
 refine va rfl rfl (simL_nil ?_)
 exact nrm_again (s := (IntKind.i64.wrap (s6v.1 + 1), s28v.2.1, s28v.2.2.1, s28v.2.2.2.1, s28v.2.2.2.2)) (y30v.1, y30v.2) ⟨rfl, rfl, rfl, trivial⟩ (.sel 0 rfl (.sel 0 rfl (.sel 0 rfl (.nil _))))
 refine sim_exi ?_
 refine exi_then ?_
 refine exi_loop ?_
 refine exi_here ?_
 exact nrm_cut (s := (s6v.2.1, s6v.2.2.1, s6v.2.2.2.1, s6v.2.2.2.2)) (y7v.1, y7v.2) ⟨rfl, trivial⟩ (.sel 0 rfl (.sel 0 rfl (.sel 0 rfl (.nil _))))
 intro s4v y5v
 refine sr ?_
 refine vm rfl rfl ?_
 refine va rfl rfl (simL_nil (nrm_then (sim_rtn ?_)))
 exact rtn_fn (y3v.1, y5v.1, y5v.2) rfl rfl rfl (.sel 0 rfl (.sel 0 rfl (.sel 0 rfl (.nil _))))
end Go.Proofs.Ytkkbgcocpkipjaa

/- Printed by gen.py: pure functions and the proofs that the Go functions simulate them. Conditions: as each theorem says. -/
import Derived.Test.YtkkbgcocpkipjaaG3
namespace Go.Proofs.Ytkkbgcocpkipjaa
open Go.RowKit
set_option linter.unusedVariables false
set_option linter.unusedSimpArgs false
set_option maxRecDepth 20000
set_option maxHeartbeats 20000000
def synodlaw4_Does.l1 : Nat → List UInt8 → Int → Option (Unit)
  | 0, _, _ => none
  | k + 1, z174v, z175v => if z175v < (z174v.length : Int) then (if 0 ≤ z175v ∧ z175v < (z174v.length : Int) then (synodlaw4_Does.l1 k (z174v.set z175v.toNat 98) (IntKind.i64.wrap (z175v + 1))) else none) else (some ())
def synodlaw4_Does.l0 : Nat → List UInt8 → Int → Option (Unit)
  | 0, _, _ => none
  | k + 1, z42v, z43v => if z43v < (z42v.length : Int) then (if 0 ≤ z43v ∧ z43v < (z42v.length : Int) then (synodlaw4_Does.l0 k (z42v.set z43v.toNat 99) (IntKind.i64.wrap (z43v + 1))) else none) else (some ())
def synodlaw4_Does.f (k : Nat) (x0_0 : List ((List UInt8) × (List UInt8 × Int))) (x0_1 : List UInt8) (x0_2 : Int) (x0_3 : Bool) (x1_0 : List (Ty36)) (x1_1 : Int) (x1_2 : Bool) (x1_3 : List UInt8) (x2_0 : Int) (x2_1 : Int) (x2_2 : List UInt8) (x2_3 : List UInt8) (x2_4 : List UInt8) : Option (Bool × (List ((List UInt8) × (List UInt8 × Int))) × List UInt8 × Int × Bool × (List (Ty36)) × Int × Bool × List UInt8) := if x2_0 = (0 : Int) then ((disk_Disk_Create.f k x0_0 x0_1 x0_2 x0_3 x2_2).bind fun s6v => ((synodref4_Disk_Create.f k x1_0 x1_1 x1_2 x1_3 x2_2).bind fun s12v => (some (decide ((synodref_Num.v s6v.1) = s12v.1), s6v.2.1, s6v.2.2.1, s6v.2.2.2.1, s6v.2.2.2.2, s12v.2.1, s12v.2.2.1, s12v.2.2.2.1, s12v.2.2.2.2)))) else (if x2_0 = (1 : Int) then ((synodref_Lent.f x2_4).bind fun s21v => ((disk_Disk_Append.f x0_0 x0_1 x0_2 x0_3 x2_2 s21v.1).bind fun s28v => ((synodref_Kept.f k s21v.1 s21v.2 x2_4).bind fun s35v => ((synodlaw4_Does.l0 k s21v.1 0).bind fun s38v => ((synodref4_Disk_Append.f k x1_0 x1_1 x1_2 x1_3 x2_2 x2_4).bind fun s56v => (some ((decide ((synodref_Num.v s28v.1) = s56v.1)) && s35v, s28v.2.1, s28v.2.2.1, s28v.2.2.2.1, s28v.2.2.2.2, s56v.2.1, s56v.2.2.1, s56v.2.2.2.1, s56v.2.2.2.2))))))) else (if x2_0 = (2 : Int) then ((disk_Disk_Sync.f x0_0 x0_1 x0_2 x0_3 x2_2).bind fun s68v => ((synodref4_Disk_Sync.f k x1_0 x1_1 x1_2 x1_3 x2_2).bind fun s74v => (some (decide ((synodref_Num.v s68v.1) = s74v.1), s68v.2.1, s68v.2.2.1, s68v.2.2.2.1, s68v.2.2.2.2, s74v.2.1, s74v.2.2.1, s74v.2.2.2.1, s74v.2.2.2.2)))) else (if x2_0 = (3 : Int) then ((disk_Disk_Cut.f x0_0 x0_1 x0_2 x0_3 x2_2 x2_1).bind fun s85v => ((synodref4_Disk_Cut.f k x1_0 x1_1 x1_2 x1_3 x2_2 x2_1).bind fun s91v => (some (decide ((synodref_Num.v s85v.1) = s91v.1), s85v.2.1, s85v.2.2.1, s85v.2.2.2.1, s85v.2.2.2.2, s91v.2.1, s91v.2.2.1, s91v.2.2.2.1, s91v.2.2.2.2)))) else (if x2_0 = (4 : Int) then ((disk_Disk_Rename.f k x0_0 x0_1 x0_2 x0_3 x2_2 x2_3).bind fun s102v => ((synodref4_Disk_Rename.f k x1_0 x1_1 x1_2 x1_3 x2_2 x2_3).bind fun s108v => (some (decide ((synodref_Num.v s102v.1) = s108v.1), s102v.2.1, s102v.2.2.1, s102v.2.2.2.1, s102v.2.2.2.2, s108v.2.1, s108v.2.2.1, s108v.2.2.2.1, s108v.2.2.2.2)))) else (if x2_0 = (5 : Int) then ((disk_Disk_Remove.f x0_0 x0_1 x0_2 x0_3 x2_2).bind fun s119v => ((synodref4_Disk_Remove.f k x1_0 x1_1 x1_2 x1_3 x2_2).bind fun s125v => (some (decide ((synodref_Num.v s119v.1) = s125v.1), s119v.2.1, s119v.2.2.1, s119v.2.2.2.1, s119v.2.2.2.2, s125v.2.1, s125v.2.2.1, s125v.2.2.2.1, s125v.2.2.2.2)))) else (if x2_0 = (6 : Int) then ((disk_Disk_Arm.f x0_0 x0_1 x0_2 x0_3 x2_1).bind fun s134v => (some (true, x0_0, s134v.1, s134v.2.1, s134v.2.2, x1_0, max x2_1 (0 : Int), x1_2, x1_3))) else (if x2_0 = (7 : Int) then ((disk_Disk_Crash.f x0_0 x0_1 x0_2 x0_3 x2_1).bind fun s139v => ((synodref4_Disk_Crash.f k x1_0 x1_1 x1_2 x1_3 x2_1).bind fun s144v => (some (true, s139v.1, s139v.2.1, s139v.2.2.1, s139v.2.2.2, s144v.1, s144v.2.1, s144v.2.2.1, s144v.2.2.2)))) else ((disk_Disk_Read.f x0_0 x0_1 x0_2 x0_3 x2_2).bind fun s147v => ((synodref4_Disk_Read.f k x1_0 x1_1 x1_2 x1_3 x2_2).bind fun s156v => ((synodref_SameBytes.f k s147v.1 s156v.1).bind fun s167v => ((synodlaw4_Does.l1 k s147v.1 0).bind fun s170v => ((if s167v = true then ((synodref_Num.f s147v.2).bind fun s185v => (some (decide (s185v = s156v.2)))) else (some false)).bind fun s183v => ((if s183v = true then ((disk_Disk_Has.f x0_0 x0_1 x0_2 x0_3 x2_2).bind fun s192v => (some (s192v == (decide (s156v.2 = (0 : Int)))))) else (some false)).bind fun s190v => (some (s190v, x0_0, x0_1, x0_2, x0_3, x1_0, x1_1, x1_2, x1_3)))))))))))))))
theorem synodlaw4_Does.calls (W : World) (F : HA) (k : Nat) (b0 : Nat) (m0_0 : Nat) (q0_0 : Kps) (x0_0 : List ((List UInt8) × (List UInt8 × Int))) (x0_1 : List UInt8) (x0_2 : Int) (x0_3 : Bool) (b1 : Nat) (a1_0 : Option Addr) (c1_0 : Nat) (x1_0 : List (Ty36)) (z1_0 : HA) (x1_1 : Int) (x1_2 : Bool) (x1_3 : List UInt8) (x2_0 : Int) (x2_1 : Int) (x2_2 : List UInt8) (x2_3 : List UInt8) (a2_4 : Option Addr) (c2_4 : Nat) (x2_4 : List UInt8) (h2_4 : Rd F a2_4 (encB x2_4)) (hc2_4 : x2_4.length ≤ c2_4) (hm2_4 : c2_4 ≤ maxLen) :
    Fn Try.prog W 27 [.pointer (some ⟨b0, 0, none⟩), .pointer (some ⟨b1, 0, none⟩), .agg #[.int .i64 x2_0, .int .i64 x2_1, str x2_2, str x2_3, .slice a2_4 x2_4.length c2_4]] [obj b0 64 [.map (some m0_0), str x0_1, .int .i64 x0_2, .bool x0_3], mapF (mapO m0_0 enc9 encP q0_0) FA68 q0_0 x0_0, obj b1 29 [.slice a1_0 x1_0.length c1_0, .int .i64 x1_1, .bool x1_2, str x1_3], RowV 36 3 (V36 z1_0) a1_0 x1_0 c1_0, z1_0] F (synodlaw4_Does.f k x0_0 x0_1 x0_2 x0_3 x1_0 x1_1 x1_2 x1_3 x2_0 x2_1 x2_2 x2_3 x2_4) (fun (r : Bool × (List ((List UInt8) × (List UInt8 × Int))) × List UInt8 × Int × Bool × (List (Ty36)) × Int × Bool × List UInt8) (y : Nat × Kps × Option Addr × Nat × HA) => .bool r.1) (fun r y => [obj b0 64 [.map (some y.1), str r.2.2.1, .int .i64 r.2.2.2.1, .bool r.2.2.2.2.1], mapF (mapO y.1 enc9 encP y.2.1) FA68 y.2.1 r.2.1, obj b1 29 [.slice y.2.2.1 r.2.2.2.2.2.1.length y.2.2.2.1, .int .i64 r.2.2.2.2.2.2.1, .bool r.2.2.2.2.2.2.2.1, str r.2.2.2.2.2.2.2.2], RowV 36 3 (V36 (y.2.2.2.2)) y.2.2.1 r.2.2.2.2.2.1 y.2.2.2.1, y.2.2.2.2]) := by
 unfold synodlaw4_Does.f
 refine fn_intro 186 Try.func27 rfl Try.ntmps27 rfl ?_
 refine sr ?_
 refine simL_eff (re_box rfl rfl rfl) rfl rfl rfl ?_
 intro b1v
 refine va rfl rfl (simL_nil (nrm_then (sim_seq (sr ?_))))
 refine vq (q_fa rfl rfl Try.underlying52 rfl rfl Try.sizeOf3 rfl) rfl ?_
 refine vq (q_load rfl rfl Try.isAgg3 (.obj 0 rfl rfl)) rfl (simL_nil (nrm_then ?_))
 refine sim_block ?_
 refine sr ?_
 refine vq (q_eql rfl rfl rfl) rfl ?_
 refine va rfl rfl (simL_nil (nrm_then ?_))
 refine sim_cond rfl (fun h2v => ?_) (fun h3v => ?_)
 refine sim_seq ?_
 refine sim_openV 4 rfl (fun rs4v hl5v => ?_)
 refine sim_bind (fun s6v hs7v => ?_)
 refine sim_bind (fun s12v hs13v => ?_)
 refine sim_draw (Γ := (Nat × Kps) × (Option Addr × Nat × HA)) ((0, ([] : Kps)), (none, 0, tt)) [[], [], [1], [0, 1, 2], rL 4, [], [], [6], rL 8, rL 9, rL 10] [3, 8] [0, 1, 2, 4, 5, 6, 7, 9, 10] (fun i => [[0], [0], [0], [], [1], [0, 1], [0, 1], [0, 1], [], [2], [2]].getD i []) (fun i => [[], [], [], [0, 1, 2, 5, 6, 7], [], [], [], [], rL 8, [], []].getD i []) (fun γ i => [.pointer (some ⟨b0, 0, none⟩), .pointer (some ⟨b1v, 2, none⟩), str x2_2, .int .i64 s6v.1, .int .i64 (synodref_Num.v s6v.1), .pointer (some ⟨b1, 0, none⟩), .pointer (some ⟨b1v, 2, none⟩), str x2_2, .int .i64 s12v.1, .bool (decide ((synodref_Num.v s6v.1) = s12v.1)), .bool (decide ((synodref_Num.v s6v.1) = s12v.1))].getD i undef) (fun j γ => [[obj b1v 52 [.int .i64 x2_0, .int .i64 x2_1, str x2_2, str x2_3, .slice a2_4 x2_4.length c2_4], obj b0 64 [.map (some m0_0), str x0_1, .int .i64 x0_2, .bool x0_3], mapF (mapO m0_0 enc9 encP q0_0) FA68 q0_0 x0_0, obj b1 29 [.slice a1_0 x1_0.length c1_0, .int .i64 x1_1, .bool x1_2, str x1_3], Row 36 3 a1_0 x1_0.length c1_0 rs4v.flatten, z1_0, F], [obj b0 64 [.map (some γ.1.1), str s6v.2.2.1, .int .i64 s6v.2.2.2.1, .bool s6v.2.2.2.2], mapF (mapO γ.1.1 enc9 encP γ.1.2) FA68 γ.1.2 s6v.2.1, obj b1v 52 [.int .i64 x2_0, .int .i64 x2_1, str x2_2, str x2_3, .slice a2_4 x2_4.length c2_4], obj b1 29 [.slice a1_0 x1_0.length c1_0, .int .i64 x1_1, .bool x1_2, str x1_3], Row 36 3 a1_0 x1_0.length c1_0 rs4v.flatten, z1_0, F], [obj b1 29 [.slice γ.2.1 s12v.2.1.length γ.2.2.1, .int .i64 s12v.2.2.1, .bool s12v.2.2.2.1, str s12v.2.2.2.2], RowV 36 3 (V36 (γ.2.2.2)) γ.2.1 s12v.2.1 γ.2.2.1, γ.2.2.2, obj b0 64 [.map (some γ.1.1), str s6v.2.2.1, .int .i64 s6v.2.2.2.1, .bool s6v.2.2.2.2], mapF (mapO γ.1.1 enc9 encP γ.1.2) FA68 γ.1.2 s6v.2.1, obj b1v 52 [.int .i64 x2_0, .int .i64 x2_1, str x2_2, str x2_3, .slice a2_4 x2_4.length c2_4], F]].getD j []) (fun γ => [(6, .bool (decide ((synodref_Num.v s6v.1) = s12v.1)))]) mixed (by decide) (by decide) (by decide) (by decide) (by decide) (by decide) (by decide) 186 rfl (by decide) (by decide) (by decide) (Ent.refl _) ?_ ?_ (fun _ => ⟨rfl, trivial⟩) ?_
 exact (aq rfl (fun γ => qm rfl (.o (s := 0) rfl (by decide) .nil) rfl) (aq rfl (fun γ => qp rfl rfl (.o (s := 5) rfl (by decide) .nil) (q_fa rfl rfl Try.underlying52 rfl rfl Try.sizeOf9 rfl) rfl) (aq rfl (fun γ => qp rfl rfl (.v 1 rfl rfl .nil) (q_load rfl rfl Try.isAgg9 (.obj 0 rfl rfl)) rfl) (aq rfl (fun γ => qp rfl rfl (.v 3 rfl rfl .nil) (RE.rq (re_call (vs := [.int .i64 s6v.1]) (cap := []) (A := []) (rst := [obj b0 64 [.map (some γ.1.1), str s6v.2.2.1, .int .i64 s6v.2.2.2.1, .bool s6v.2.2.2.2], mapF (mapO γ.1.1 enc9 encP γ.1.2) FA68 γ.1.2 s6v.2.1, obj b1v 52 [.int .i64 x2_0, .int .i64 x2_1, str x2_2, str x2_3, .slice a2_4 x2_4.length c2_4], obj b1 29 [.slice a1_0 x1_0.length c1_0, .int .i64 x1_1, .bool x1_2, str x1_3], Row 36 3 a1_0 x1_0.length c1_0 rs4v.flatten, z1_0, F]) rfl rfl rfl rfl rfl rfl Try.call11 (.sel 0 rfl (.sel 0 rfl (.sel 0 rfl (.sel 0 rfl (.sel 0 rfl (.sel 0 rfl (.sel 0 rfl (.nil _)))))))) (synodref_Num.calls _ _ s6v.1 ) (synodref_Num.tot s6v.1)) (fun _ => rfl) (fun _ => (.sel 0 rfl (.sel 0 rfl (.sel 0 rfl (.sel 0 rfl (.sel 0 rfl (.sel 0 rfl (.sel 0 rfl (.nil _)))))))))) rfl) (ac (fun γ => (ac (qm rfl (.o (s := 1) rfl (by decide) .nil) rfl) (ac (qm rfl (.o (s := 1) rfl (by decide) .nil) rfl) zA))) (ac (fun γ => (ac (qp rfl rfl (.o (s := 5) rfl (by decide) .nil) (q_fa rfl rfl Try.underlying52 rfl rfl Try.sizeOf9 rfl) rfl) (ac (qp rfl rfl (.o (s := 5) rfl (by decide) .nil) (q_fa rfl rfl Try.underlying52 rfl rfl Try.sizeOf9 rfl) rfl) zA))) (ac (fun γ => (ac (qp rfl rfl (.v 6 rfl rfl .nil) (q_load rfl rfl Try.isAgg9 (.obj 0 rfl rfl)) rfl) (ac (qp rfl rfl (.v 6 rfl rfl .nil) (q_load rfl rfl Try.isAgg9 (.obj 2 rfl rfl)) rfl) zA))) (aq rfl (fun γ => qp rfl rfl (.v 4 rfl rfl (.v 8 rfl rfl .nil)) (q_eql rfl rfl rfl) rfl) (aq rfl (fun γ => qp rfl rfl (.v 9 rfl rfl .nil) (q_asg rfl rfl) rfl) zA)))))))))
 exact (ac (fun γ => eo (Z := Nat × Kps) (fun z => (z, γ.2)) rfl rfl (.v 0 rfl rfl (.v 2 rfl rfl .nil)) (re_call (vs := [.pointer (some ⟨b0, 0, none⟩), str x2_2]) (cap := []) (A := [obj b0 64 [.map (some m0_0), str x0_1, .int .i64 x0_2, .bool x0_3], mapF (mapO m0_0 enc9 encP q0_0) FA68 q0_0 x0_0]) (rst := [obj b1v 52 [.int .i64 x2_0, .int .i64 x2_1, str x2_2, str x2_3, .slice a2_4 x2_4.length c2_4], obj b1 29 [.slice a1_0 x1_0.length c1_0, .int .i64 x1_1, .bool x1_2, str x1_3], Row 36 3 a1_0 x1_0.length c1_0 rs4v.flatten, z1_0, F]) rfl rfl rfl rfl rfl rfl Try.call12 (.sel 1 rfl (.sel 1 rfl (.sel 0 rfl (.sel 0 rfl (.sel 0 rfl (.sel 0 rfl (.sel 0 rfl (.nil _)))))))) (disk_Disk_Create.calls _ _ k b0 m0_0 q0_0 x0_0 x0_1 x0_2 x0_3 x2_2 ) hs7v) (fun _ => ⟨rfl, rfl, rfl, rfl, rfl, rfl, trivial⟩) (fun _ => .inr rfl) (fun z => Ent.refl _)) (ac (fun γ => eo (Z := Option Addr × Nat × HA) (fun z => (γ.1, z)) rfl rfl (.v 5 rfl rfl (.v 7 rfl rfl .nil)) (re_call (vs := [.pointer (some ⟨b1, 0, none⟩), str x2_2]) (cap := []) (A := [obj b1 29 [.slice a1_0 x1_0.length c1_0, .int .i64 x1_1, .bool x1_2, str x1_3], RowV 36 3 (V36 z1_0) a1_0 x1_0 c1_0, z1_0]) (rst := [obj b0 64 [.map (some γ.1.1), str s6v.2.2.1, .int .i64 s6v.2.2.2.1, .bool s6v.2.2.2.2], mapF (mapO γ.1.1 enc9 encP γ.1.2) FA68 γ.1.2 s6v.2.1, obj b1v 52 [.int .i64 x2_0, .int .i64 x2_1, str x2_2, str x2_3, .slice a2_4 x2_4.length c2_4], F]) rfl rfl rfl rfl rfl rfl Try.call13 (.sel 3 rfl (.sel' 3 rfl (RowV.mk hl5v) (.sel 3 rfl (.sel 0 rfl (.sel 0 rfl (.sel 0 rfl (.sel 0 rfl (.nil _)))))))) (synodref4_Disk_Create.calls _ _ k b1 a1_0 c1_0 x1_0 z1_0 x1_1 x1_2 x1_3 x2_2 ) hs13v) (fun _ => ⟨rfl, rfl, rfl, rfl, rfl, rfl, rfl, rfl, trivial⟩) (fun _ => .inr rfl) (fun z => Ent.refl _)) zA))
 intro g18v
 refine nrm_then (sim_rtn ?_)
 refine rtn_block ?_
 refine rtn_then ?_
 exact rtn_fn (g18v.1.1, g18v.1.2, g18v.2.1, g18v.2.2.1, g18v.2.2.2) rfl rfl rfl (.sel 3 rfl (.sel 3 rfl (.sel 0 rfl (.sel 0 rfl (.sel 0 rfl (.sel 1 rfl (.nil _)))))))
 refine sr ?_
 refine vq (q_eql rfl rfl rfl) rfl ?_
 refine va rfl rfl (simL_nil (nrm_then ?_))
 refine sim_cond rfl (fun h19v => ?_) (fun h20v => ?_)
 refine sr ?_
 refine vq (q_fa rfl rfl Try.underlying52 rfl rfl Try.sizeOf34 rfl) rfl ?_
 refine vq (q_load rfl rfl Try.isAgg34 (.obj 0 rfl rfl)) rfl ?_
 refine simL_bind (fun s21v hs22v => ?_)
 refine simL_eff (re_call (vs := [.slice a2_4 x2_4.length c2_4]) (cap := []) (A := []) (rst := [obj b1v 52 [.int .i64 x2_0, .int .i64 x2_1, str x2_2, str x2_3, .slice a2_4 x2_4.length c2_4], obj b0 64 [.map (some m0_0), str x0_1, .int .i64 x0_2, .bool x0_3], mapF (mapO m0_0 enc9 encP q0_0) FA68 q0_0 x0_0, obj b1 29 [.slice a1_0 x1_0.length c1_0, .int .i64 x1_1, .bool x1_2, str x1_3], RowV 36 3 (V36 z1_0) a1_0 x1_0 c1_0, z1_0, F]) rfl rfl rfl rfl rfl rfl Try.call48 (.sel 0 rfl (.sel 0 rfl (.sel 0 rfl (.sel 0 rfl (.sel 0 rfl (.sel 0 rfl (.sel 0 rfl (.nil _)))))))) (synodref_Lent.calls _ _ a2_4 c2_4 x2_4 (h2_4.lend 6 rfl) hc2_4 hm2_4) hs22v) rfl rfl rfl ?_
 intro y23v
 refine va rfl rfl (nx ?_)
 refine vm rfl rfl ?_
 refine vq (q_fa rfl rfl Try.underlying52 rfl rfl Try.sizeOf9 rfl) rfl ?_
 refine vq (q_load rfl rfl Try.isAgg9 (.obj 1 rfl rfl)) rfl ?_
 refine vm rfl rfl ?_
 refine simL_bind (fun s28v hs29v => ?_)
 refine simL_lend 0 rfl (fun hq24v hq25v hq26v hq27v => ?_)
 refine simL_eff (re_call (vs := [.pointer (some ⟨b0, 0, none⟩), str x2_2, .slice y23v.1 s21v.1.length y23v.2]) (cap := []) (A := [obj b0 64 [.map (some m0_0), str x0_1, .int .i64 x0_2, .bool x0_3], mapF (mapO m0_0 enc9 encP q0_0) FA68 q0_0 x0_0]) (rst := [Row 5 1 y23v.1 s21v.1.length y23v.2 (encB (s21v.1 ++ s21v.2)), obj b1v 52 [.int .i64 x2_0, .int .i64 x2_1, str x2_2, str x2_3, .slice a2_4 x2_4.length c2_4], obj b1 29 [.slice a1_0 x1_0.length c1_0, .int .i64 x1_1, .bool x1_2, str x1_3], RowV 36 3 (V36 z1_0) a1_0 x1_0 c1_0, z1_0, F]) rfl rfl rfl rfl rfl rfl Try.call14 (.sel 2 rfl (.sel 2 rfl (.sel 0 rfl (.sel 0 rfl (.sel 0 rfl (.sel 0 rfl (.sel 0 rfl (.sel 0 rfl (.nil _))))))))) (disk_Disk_Append.calls _ _ b0 m0_0 q0_0 x0_0 x0_1 x0_2 x0_3 x2_2 y23v.1 y23v.2 s21v.1 ((rd_front hq24v).lend 0 rfl) hq25v hq26v) hs29v) rfl rfl rfl ?_
 intro y30v
 refine va rfl rfl (nx ?_)
 refine vm rfl rfl ?_
 refine vq (q_fa rfl rfl Try.underlying52 rfl rfl Try.sizeOf34 rfl) rfl ?_
 refine vq (q_load rfl rfl Try.isAgg34 (.obj 3 rfl rfl)) rfl ?_
 refine simL_bind (fun s35v hs36v => ?_)
 refine simL_lendt 2 rfl (fun hq31v hq32v hq33v => ?_)
 refine simL_eff (re_call (vs := [.slice y23v.1 s21v.1.length y23v.2, .slice a2_4 x2_4.length c2_4]) (cap := []) (A := []) (rst := [obj b0 64 [.map (some y30v.1), str s28v.2.2.1, .int .i64 s28v.2.2.2.1, .bool s28v.2.2.2.2], mapF (mapO y30v.1 enc9 encP y30v.2) FA68 y30v.2 s28v.2.1, Row 5 1 y23v.1 s21v.1.length y23v.2 (encB (s21v.1 ++ s21v.2)), obj b1v 52 [.int .i64 x2_0, .int .i64 x2_1, str x2_2, str x2_3, .slice a2_4 x2_4.length c2_4], obj b1 29 [.slice a1_0 x1_0.length c1_0, .int .i64 x1_1, .bool x1_2, str x1_3], RowV 36 3 (V36 z1_0) a1_0 x1_0 c1_0, z1_0, F]) rfl rfl rfl rfl rfl rfl Try.call49 (.sel 0 rfl (.sel 0 rfl (.sel 0 rfl (.sel 0 rfl (.sel 0 rfl (.sel 0 rfl (.sel 0 rfl (.sel 0 rfl (.nil _))))))))) (synodref_Kept.calls _ _ k y23v.1 y23v.2 s21v.1 s21v.2 a2_4 c2_4 x2_4 (hq31v.lend 2 rfl) (by rw [encB_length, Nat.mul_one] at hq32v; exact hq32v) hq33v (h2_4.lend 7 rfl) hc2_4 hm2_4) hs36v) rfl rfl rfl ?_
 intro y37v
 refine va rfl rfl (simL_nil (nrm_then ?_))
 refine sim_cut (S := Unit) (Unit) (fun s y => [(1, .pointer (some ⟨b1, 0, none⟩)), (5, .pointer (some ⟨b1v, 0, none⟩)), (8, .int .i64 s28v.1), (9, .bool s35v)]) (fun s y => [obj b0 64 [.map (some y30v.1), str s28v.2.2.1, .int .i64 s28v.2.2.2.1, .bool s28v.2.2.2.2], obj b1v 52 [.int .i64 x2_0, .int .i64 x2_1, str x2_2, str x2_3, .slice a2_4 x2_4.length c2_4], obj b1 29 [.slice a1_0 x1_0.length c1_0, .int .i64 x1_1, .bool x1_2, str x1_3], mapF (mapO y30v.1 enc9 encP y30v.2) FA68 y30v.2 s28v.2.1, RowV 36 3 (V36 (z1_0)) a1_0 x1_0 c1_0, z1_0, F]) ?_ ?_
 refine sr ?_
 refine va rfl rfl (simL_nil (nrm_then ?_))
 refine sim_block ?_
 refine sim_loop (S := List UInt8 × Int) (Unit) (fun k s => synodlaw4_Does.l0 k s.1 s.2) (fun s y => [(1, .pointer (some ⟨b1, 0, none⟩)), (5, .pointer (some ⟨b1v, 0, none⟩)), (7, .slice y23v.1 s.1.length y23v.2), (8, .int .i64 s28v.1), (9, .bool s35v), (10, .int .i64 s.2)]) (fun s y => [obj b0 64 [.map (some y30v.1), str s28v.2.2.1, .int .i64 s28v.2.2.2.1, .bool s28v.2.2.2.2], obj b1v 52 [.int .i64 x2_0, .int .i64 x2_1, str x2_2, str x2_3, .slice a2_4 x2_4.length c2_4], obj b1 29 [.slice a1_0 x1_0.length c1_0, .int .i64 x1_1, .bool x1_2, str x1_3], Row 5 1 y23v.1 s.1.length y23v.2 (encB (s.1 ++ s21v.2)), mapF (mapO y30v.1 enc9 encP y30v.2) FA68 y30v.2 s28v.2.1, RowV 36 3 (V36 (z1_0)) a1_0 x1_0 c1_0, z1_0, F]) (fun _ => by rw [synodlaw4_Does.l0]) ?_ k (s21v.1, 0) () ⟨rfl, rfl, rfl, rfl, rfl, rfl, trivial⟩ (.sel 0 rfl (.sel 2 rfl (.sel 2 rfl (.sel 1 rfl (.sel 0 rfl (.sel 0 rfl (.sel 0 rfl (.sel 0 rfl (.nil _)))))))))
 intro k s40v y41v
 refine sim_eq (by rw [synodlaw4_Does.l0]) ?_
 refine sim_seq (sr ?_)
 refine vm rfl rfl ?_
 refine vm rfl rfl ?_
 refine vq (q_len rfl rfl rfl Try.underlying34) rfl ?_
 refine vq (q_lss rfl rfl rfl) rfl (simL_nil (nrm_then ?_))
 refine sim_cond rfl (fun h44v => ?_) (fun h45v => ?_)
 refine sim_skip ?_
 refine nrm_then (sim_seq ?_)
 refine sim_block ?_
 refine sim_region ?_
 refine vm rfl rfl ?_
 refine vm rfl rfl ?_
 refine simL_ask (fun hi46v => ?_)
 refine simL_row 3 rfl (encB_ne (j := s40v.2.toNat) (by rw [List.length_append]; omega)) (fun b47v b47vo ha48v => ?_)
 refine vq (q_idx1 rfl rfl rfl ha48v Try.underlying34 Try.sizeOf5 hi46v.1 hi46v.2) rfl ?_
 refine simL_do (re_storebk 99 3 rfl rfl rfl Try.sizeOf5 rfl ha48v hi46v.2 hi46v.1 rfl) rfl rfl ?_
 intro _
 refine simL_ren (.slice y23v.1 ((s40v.1.set s40v.2.toNat 99).length) y23v.2) (d := 7) rfl (slc_len (by simp)) ?_
 refine simL_ren (.slice y23v.1 ((s40v.1.set s40v.2.toNat 99).length) y23v.2) (d := 46) rfl (slc_len (by simp)) ?_
 refine simL_ren (.slice y23v.1 ((s40v.1.set s40v.2.toNat 99).length) y23v.2) (d := 51) rfl (slc_len (by simp)) ?_
 refine simL_nil (nrm_block (nrm_then (sim_region ?_)))
 refine vm rfl rfl ?_
 refine vq (q_add rfl rfl rfl) rfl ?_
 refine va rfl rfl (simL_nil ?_)
 exact nrm_again (s := (s40v.1.set s40v.2.toNat 99, IntKind.i64.wrap (s40v.2 + 1))) () ⟨rfl, rfl, rfl, rfl, rfl, rfl, trivial⟩ (.sel 0 rfl (.sel 0 rfl (.sel 0 rfl (.sel 0 rfl (.sel 0 rfl (.sel 0 rfl (.sel 0 rfl (.sel 0 rfl (.nil _)))))))))
 refine sim_exi ?_
 refine exi_then ?_
 refine exi_loop ?_
 refine exi_here ?_
 exact nrm_cut (s := ()) () ⟨rfl, rfl, rfl, rfl, trivial⟩ (.sel 0 rfl (.sel 0 rfl (.sel 0 rfl (.sel 1 rfl (.sel 1 rfl (.sel 1 rfl (.sel 1 rfl (.nil _))))))))
 intro s38v y39v
 refine sim_seq ?_
 refine sim_openV 4 rfl (fun rs51v hl52v => ?_)
 refine sim_bind (fun s56v hs57v => ?_)
 refine sim_draw (Γ := (Option Addr × Nat × HA)) (none, 0, tt) [[], [0], [], [], [3], [], [5], rL 7, rL 8, rL 9, rL 10, rL 11, rL 12] [7] [0, 1, 2, 3, 4, 5, 6, 8, 9, 10, 11, 12] (fun i => [[0], [0], [0], [0], [0], [0], [0], [], [1], [1], [1], [1], [1]].getD i []) (fun i => [[], [], [], [], [], [], [], rL 7, [], [], [], [], []].getD i []) (fun γ i => [.int .i64 s28v.1, .int .i64 (synodref_Num.v s28v.1), .pointer (some ⟨b1, 0, none⟩), .pointer (some ⟨b1v, 2, none⟩), str x2_2, .pointer (some ⟨b1v, 4, none⟩), .slice a2_4 x2_4.length c2_4, .int .i64 s56v.1, .bool (decide ((synodref_Num.v s28v.1) = s56v.1)), .bool (decide ((synodref_Num.v s28v.1) = s56v.1)), cv ((decide ((synodref_Num.v s28v.1) = s56v.1)) == true) (.bool s35v), .bool ((decide ((synodref_Num.v s28v.1) = s56v.1)) && s35v), .bool ((decide ((synodref_Num.v s28v.1) = s56v.1)) && s35v)].getD i undef) (fun j γ => [[obj b0 64 [.map (some y30v.1), str s28v.2.2.1, .int .i64 s28v.2.2.2.1, .bool s28v.2.2.2.2], obj b1v 52 [.int .i64 x2_0, .int .i64 x2_1, str x2_2, str x2_3, .slice a2_4 x2_4.length c2_4], obj b1 29 [.slice a1_0 x1_0.length c1_0, .int .i64 x1_1, .bool x1_2, str x1_3], mapF (mapO y30v.1 enc9 encP y30v.2) FA68 y30v.2 s28v.2.1, Row 36 3 a1_0 x1_0.length c1_0 rs51v.flatten, z1_0, F], [obj b1 29 [.slice γ.1 s56v.2.1.length γ.2.1, .int .i64 s56v.2.2.1, .bool s56v.2.2.2.1, str s56v.2.2.2.2], RowV 36 3 (V36 (γ.2.2)) γ.1 s56v.2.1 γ.2.1, γ.2.2, obj b0 64 [.map (some y30v.1), str s28v.2.2.1, .int .i64 s28v.2.2.2.1, .bool s28v.2.2.2.2], obj b1v 52 [.int .i64 x2_0, .int .i64 x2_1, str x2_2, str x2_3, .slice a2_4 x2_4.length c2_4], mapF (mapO y30v.1 enc9 encP y30v.2) FA68 y30v.2 s28v.2.1, F]].getD j []) (fun γ => [(6, .bool ((decide ((synodref_Num.v s28v.1) = s56v.1)) && s35v))]) mixed (by decide) (by decide) (by decide) (by decide) (by decide) (by decide) (by decide) 186 rfl (by decide) (by decide) (by decide) (Ent.refl _) ?_ ?_ (fun _ => ⟨rfl, trivial⟩) ?_
 exact (aq rfl (fun γ => qm rfl (.o (s := 8) rfl (by decide) .nil) rfl) (aq rfl (fun γ => qp rfl rfl (.v 0 rfl rfl .nil) (RE.rq (re_call (vs := [.int .i64 s28v.1]) (cap := []) (A := []) (rst := [obj b0 64 [.map (some y30v.1), str s28v.2.2.1, .int .i64 s28v.2.2.2.1, .bool s28v.2.2.2.2], obj b1v 52 [.int .i64 x2_0, .int .i64 x2_1, str x2_2, str x2_3, .slice a2_4 x2_4.length c2_4], obj b1 29 [.slice a1_0 x1_0.length c1_0, .int .i64 x1_1, .bool x1_2, str x1_3], mapF (mapO y30v.1 enc9 encP y30v.2) FA68 y30v.2 s28v.2.1, Row 36 3 a1_0 x1_0.length c1_0 rs51v.flatten, z1_0, F]) rfl rfl rfl rfl rfl rfl Try.call11 (.sel 0 rfl (.sel 0 rfl (.sel 0 rfl (.sel 0 rfl (.sel 0 rfl (.sel 0 rfl (.sel 0 rfl (.nil _)))))))) (synodref_Num.calls _ _ s28v.1 ) (synodref_Num.tot s28v.1)) (fun _ => rfl) (fun _ => (.sel 0 rfl (.sel 0 rfl (.sel 0 rfl (.sel 0 rfl (.sel 0 rfl (.sel 0 rfl (.sel 0 rfl (.nil _)))))))))) rfl) (aq rfl (fun γ => qm rfl (.o (s := 1) rfl (by decide) .nil) rfl) (aq rfl (fun γ => qp rfl rfl (.o (s := 5) rfl (by decide) .nil) (q_fa rfl rfl Try.underlying52 rfl rfl Try.sizeOf9 rfl) rfl) (aq rfl (fun γ => qp rfl rfl (.v 3 rfl rfl .nil) (q_load rfl rfl Try.isAgg9 (.obj 1 rfl rfl)) rfl) (aq rfl (fun γ => qp rfl rfl (.o (s := 5) rfl (by decide) .nil) (q_fa rfl rfl Try.underlying52 rfl rfl Try.sizeOf34 rfl) rfl) (aq rfl (fun γ => qp rfl rfl (.v 5 rfl rfl .nil) (q_load rfl rfl Try.isAgg34 (.obj 1 rfl rfl)) rfl) (aq rfl (fun γ => qp rfl rfl (.v 1 rfl rfl (.v 7 rfl rfl .nil)) (q_eql rfl rfl rfl) rfl) (aq rfl (fun γ => qm rfl (.v 8 rfl rfl .nil) rfl) (aq rfl (fun γ => QOb.grd (b := decide ((synodref_Num.v s28v.1) = s56v.1)) [(9, .bool s35v), (63, .bool (decide ((synodref_Num.v s28v.1) = s56v.1)))] rfl rfl rfl rfl (.o (s := 9) rfl (by decide) (.v 9 rfl rfl .nil)) (fun hb62v => RQ.sub (E' := [(9, .bool s35v)]) ⟨rfl, trivial⟩ (q_move rfl rfl)) rfl) (aq rfl (fun γ => qp rfl rfl (.v 9 rfl rfl (.v 10 rfl rfl .nil)) (q_and rfl rfl rfl) rfl) (aq rfl (fun γ => qp rfl rfl (.v 11 rfl rfl .nil) (q_asg rfl rfl) rfl) zA))))))))))))
 exact (ac (fun γ => eo (Z := Option Addr × Nat × HA) (fun z => z) rfl rfl (.v 2 rfl rfl (.v 4 rfl rfl (.v 6 rfl rfl .nil))) (re_call (vs := [.pointer (some ⟨b1, 0, none⟩), str x2_2, .slice a2_4 x2_4.length c2_4]) (cap := []) (A := [obj b1 29 [.slice a1_0 x1_0.length c1_0, .int .i64 x1_1, .bool x1_2, str x1_3], RowV 36 3 (V36 (z1_0)) a1_0 x1_0 c1_0, z1_0]) (rst := [obj b0 64 [.map (some y30v.1), str s28v.2.2.1, .int .i64 s28v.2.2.2.1, .bool s28v.2.2.2.2], obj b1v 52 [.int .i64 x2_0, .int .i64 x2_1, str x2_2, str x2_3, .slice a2_4 x2_4.length c2_4], mapF (mapO y30v.1 enc9 encP y30v.2) FA68 y30v.2 s28v.2.1, F]) rfl rfl rfl rfl rfl rfl Try.call15 (.sel 2 rfl (.sel' 3 rfl (RowV.mk hl52v) (.sel 3 rfl (.sel 0 rfl (.sel 0 rfl (.sel 0 rfl (.sel 0 rfl (.nil _)))))))) (synodref4_Disk_Append.calls _ _ k b1 a1_0 c1_0 x1_0 z1_0 x1_1 x1_2 x1_3 x2_2 a2_4 c2_4 x2_4 (h2_4.lend 3 rfl) hc2_4 hm2_4) hs57v) (fun _ => ⟨rfl, rfl, rfl, rfl, rfl, rfl, rfl, trivial⟩) (fun _ => .inr rfl) (fun z => Ent.refl _)) zA)
 intro g63v
 refine nrm_then (sim_rtn ?_)
 refine rtn_block ?_
 refine rtn_then ?_
 exact rtn_fn (y30v.1, y30v.2, g63v.1, g63v.2.1, g63v.2.2) rfl rfl rfl (.sel 3 rfl (.sel 4 rfl (.sel 0 rfl (.sel 0 rfl (.sel 0 rfl (.sel 1 rfl (.nil _)))))))
 refine sr ?_
 refine vq (q_eql rfl rfl rfl) rfl ?_
 refine va rfl rfl (simL_nil (nrm_then ?_))
 refine sim_cond rfl (fun h64v => ?_) (fun h65v => ?_)
 refine sim_seq ?_
 refine sim_openV 4 rfl (fun rs66v hl67v => ?_)
 refine sim_bind (fun s68v hs69v => ?_)
 refine sim_bind (fun s74v hs75v => ?_)
 refine sim_draw (Γ := (Nat × Kps) × (Option Addr × Nat × HA)) ((0, ([] : Kps)), (none, 0, tt)) [[], [], [1], [0, 1, 2], rL 4, [], [], [6], rL 8, rL 9, rL 10] [3, 8] [0, 1, 2, 4, 5, 6, 7, 9, 10] (fun i => [[0], [0], [0], [], [1], [0, 1], [0, 1], [0, 1], [], [2], [2]].getD i []) (fun i => [[], [], [], [0, 1, 2, 5, 6, 7], [], [], [], [], rL 8, [], []].getD i []) (fun γ i => [.pointer (some ⟨b0, 0, none⟩), .pointer (some ⟨b1v, 2, none⟩), str x2_2, .int .i64 s68v.1, .int .i64 (synodref_Num.v s68v.1), .pointer (some ⟨b1, 0, none⟩), .pointer (some ⟨b1v, 2, none⟩), str x2_2, .int .i64 s74v.1, .bool (decide ((synodref_Num.v s68v.1) = s74v.1)), .bool (decide ((synodref_Num.v s68v.1) = s74v.1))].getD i undef) (fun j γ => [[obj b1v 52 [.int .i64 x2_0, .int .i64 x2_1, str x2_2, str x2_3, .slice a2_4 x2_4.length c2_4], obj b0 64 [.map (some m0_0), str x0_1, .int .i64 x0_2, .bool x0_3], mapF (mapO m0_0 enc9 encP q0_0) FA68 q0_0 x0_0, obj b1 29 [.slice a1_0 x1_0.length c1_0, .int .i64 x1_1, .bool x1_2, str x1_3], Row 36 3 a1_0 x1_0.length c1_0 rs66v.flatten, z1_0, F], [obj b0 64 [.map (some γ.1.1), str s68v.2.2.1, .int .i64 s68v.2.2.2.1, .bool s68v.2.2.2.2], mapF (mapO γ.1.1 enc9 encP γ.1.2) FA68 γ.1.2 s68v.2.1, obj b1v 52 [.int .i64 x2_0, .int .i64 x2_1, str x2_2, str x2_3, .slice a2_4 x2_4.length c2_4], obj b1 29 [.slice a1_0 x1_0.length c1_0, .int .i64 x1_1, .bool x1_2, str x1_3], Row 36 3 a1_0 x1_0.length c1_0 rs66v.flatten, z1_0, F], [obj b1 29 [.slice γ.2.1 s74v.2.1.length γ.2.2.1, .int .i64 s74v.2.2.1, .bool s74v.2.2.2.1, str s74v.2.2.2.2], RowV 36 3 (V36 (γ.2.2.2)) γ.2.1 s74v.2.1 γ.2.2.1, γ.2.2.2, obj b0 64 [.map (some γ.1.1), str s68v.2.2.1, .int .i64 s68v.2.2.2.1, .bool s68v.2.2.2.2], mapF (mapO γ.1.1 enc9 encP γ.1.2) FA68 γ.1.2 s68v.2.1, obj b1v 52 [.int .i64 x2_0, .int .i64 x2_1, str x2_2, str x2_3, .slice a2_4 x2_4.length c2_4], F]].getD j []) (fun γ => [(6, .bool (decide ((synodref_Num.v s68v.1) = s74v.1)))]) mixed (by decide) (by decide) (by decide) (by decide) (by decide) (by decide) (by decide) 186 rfl (by decide) (by decide) (by decide) (Ent.refl _) ?_ ?_ (fun _ => ⟨rfl, trivial⟩) ?_
 exact (aq rfl (fun γ => qm rfl (.o (s := 0) rfl (by decide) .nil) rfl) (aq rfl (fun γ => qp rfl rfl (.o (s := 5) rfl (by decide) .nil) (q_fa rfl rfl Try.underlying52 rfl rfl Try.sizeOf9 rfl) rfl) (aq rfl (fun γ => qp rfl rfl (.v 1 rfl rfl .nil) (q_load rfl rfl Try.isAgg9 (.obj 0 rfl rfl)) rfl) (aq rfl (fun γ => qp rfl rfl (.v 3 rfl rfl .nil) (RE.rq (re_call (vs := [.int .i64 s68v.1]) (cap := []) (A := []) (rst := [obj b0 64 [.map (some γ.1.1), str s68v.2.2.1, .int .i64 s68v.2.2.2.1, .bool s68v.2.2.2.2], mapF (mapO γ.1.1 enc9 encP γ.1.2) FA68 γ.1.2 s68v.2.1, obj b1v 52 [.int .i64 x2_0, .int .i64 x2_1, str x2_2, str x2_3, .slice a2_4 x2_4.length c2_4], obj b1 29 [.slice a1_0 x1_0.length c1_0, .int .i64 x1_1, .bool x1_2, str x1_3], Row 36 3 a1_0 x1_0.length c1_0 rs66v.flatten, z1_0, F]) rfl rfl rfl rfl rfl rfl Try.call11 (.sel 0 rfl (.sel 0 rfl (.sel 0 rfl (.sel 0 rfl (.sel 0 rfl (.sel 0 rfl (.sel 0 rfl (.nil _)))))))) (synodref_Num.calls _ _ s68v.1 ) (synodref_Num.tot s68v.1)) (fun _ => rfl) (fun _ => (.sel 0 rfl (.sel 0 rfl (.sel 0 rfl (.sel 0 rfl (.sel 0 rfl (.sel 0 rfl (.sel 0 rfl (.nil _)))))))))) rfl) (ac (fun γ => (ac (qm rfl (.o (s := 1) rfl (by decide) .nil) rfl) (ac (qm rfl (.o (s := 1) rfl (by decide) .nil) rfl) zA))) (ac (fun γ => (ac (qp rfl rfl (.o (s := 5) rfl (by decide) .nil) (q_fa rfl rfl Try.underlying52 rfl rfl Try.sizeOf9 rfl) rfl) (ac (qp rfl rfl (.o (s := 5) rfl (by decide) .nil) (q_fa rfl rfl Try.underlying52 rfl rfl Try.sizeOf9 rfl) rfl) zA))) (ac (fun γ => (ac (qp rfl rfl (.v 6 rfl rfl .nil) (q_load rfl rfl Try.isAgg9 (.obj 0 rfl rfl)) rfl) (ac (qp rfl rfl (.v 6 rfl rfl .nil) (q_load rfl rfl Try.isAgg9 (.obj 2 rfl rfl)) rfl) zA))) (aq rfl (fun γ => qp rfl rfl (.v 4 rfl rfl (.v 8 rfl rfl .nil)) (q_eql rfl rfl rfl) rfl) (aq rfl (fun γ => qp rfl rfl (.v 9 rfl rfl .nil) (q_asg rfl rfl) rfl) zA)))))))))
 exact (ac (fun γ => eo (Z := Nat × Kps) (fun z => (z, γ.2)) rfl rfl (.v 0 rfl rfl (.v 2 rfl rfl .nil)) (re_call (vs := [.pointer (some ⟨b0, 0, none⟩), str x2_2]) (cap := []) (A := [obj b0 64 [.map (some m0_0), str x0_1, .int .i64 x0_2, .bool x0_3], mapF (mapO m0_0 enc9 encP q0_0) FA68 q0_0 x0_0]) (rst := [obj b1v 52 [.int .i64 x2_0, .int .i64 x2_1, str x2_2, str x2_3, .slice a2_4 x2_4.length c2_4], obj b1 29 [.slice a1_0 x1_0.length c1_0, .int .i64 x1_1, .bool x1_2, str x1_3], Row 36 3 a1_0 x1_0.length c1_0 rs66v.flatten, z1_0, F]) rfl rfl rfl rfl rfl rfl Try.call32 (.sel 1 rfl (.sel 1 rfl (.sel 0 rfl (.sel 0 rfl (.sel 0 rfl (.sel 0 rfl (.sel 0 rfl (.nil _)))))))) (disk_Disk_Sync.calls _ _ b0 m0_0 q0_0 x0_0 x0_1 x0_2 x0_3 x2_2 ) hs69v) (fun _ => ⟨rfl, rfl, rfl, rfl, rfl, rfl, trivial⟩) (fun _ => .inr rfl) (fun z => Ent.refl _)) (ac (fun γ => eo (Z := Option Addr × Nat × HA) (fun z => (γ.1, z)) rfl rfl (.v 5 rfl rfl (.v 7 rfl rfl .nil)) (re_call (vs := [.pointer (some ⟨b1, 0, none⟩), str x2_2]) (cap := []) (A := [obj b1 29 [.slice a1_0 x1_0.length c1_0, .int .i64 x1_1, .bool x1_2, str x1_3], RowV 36 3 (V36 z1_0) a1_0 x1_0 c1_0, z1_0]) (rst := [obj b0 64 [.map (some γ.1.1), str s68v.2.2.1, .int .i64 s68v.2.2.2.1, .bool s68v.2.2.2.2], mapF (mapO γ.1.1 enc9 encP γ.1.2) FA68 γ.1.2 s68v.2.1, obj b1v 52 [.int .i64 x2_0, .int .i64 x2_1, str x2_2, str x2_3, .slice a2_4 x2_4.length c2_4], F]) rfl rfl rfl rfl rfl rfl Try.call50 (.sel 3 rfl (.sel' 3 rfl (RowV.mk hl67v) (.sel 3 rfl (.sel 0 rfl (.sel 0 rfl (.sel 0 rfl (.sel 0 rfl (.nil _)))))))) (synodref4_Disk_Sync.calls _ _ k b1 a1_0 c1_0 x1_0 z1_0 x1_1 x1_2 x1_3 x2_2 ) hs75v) (fun _ => ⟨rfl, rfl, rfl, rfl, rfl, rfl, rfl, rfl, trivial⟩) (fun _ => .inr rfl) (fun z => Ent.refl _)) zA))
 intro g80v
 refine nrm_then (sim_rtn ?_)
 refine rtn_block ?_
 refine rtn_then ?_
 exact rtn_fn (g80v.1.1, g80v.1.2, g80v.2.1, g80v.2.2.1, g80v.2.2.2) rfl rfl rfl (.sel 3 rfl (.sel 3 rfl (.sel 0 rfl (.sel 0 rfl (.sel 0 rfl (.sel 1 rfl (.nil _)))))))
 refine sr ?_
 refine vq (q_eql rfl rfl rfl) rfl ?_
 refine va rfl rfl (simL_nil (nrm_then ?_))
 refine sim_cond rfl (fun h81v => ?_) (fun h82v => ?_)
 refine sim_seq ?_
 refine sim_openV 4 rfl (fun rs83v hl84v => ?_)
 refine sim_bind (fun s85v hs86v => ?_)
 refine sim_bind (fun s91v hs92v => ?_)
 refine sim_draw (Γ := (Nat × Kps) × (Option Addr × Nat × HA)) ((0, ([] : Kps)), (none, 0, tt)) [[], [], [1], [], [3], rL 5, rL 6, [], [], [8], [], [10], rL 12, rL 13, rL 14] [5, 12] [0, 1, 2, 3, 4, 6, 7, 8, 9, 10, 11, 13, 14] (fun i => [[0], [0], [0], [0], [0], [], [1], [0, 1], [0, 1], [0, 1], [0, 1], [0, 1], [], [2], [2]].getD i []) (fun i => [[], [], [], [], [], [0, 1, 2, 3, 4, 7, 8, 9, 10, 11], [], [], [], [], [], [], rL 12, [], []].getD i []) (fun γ i => [.pointer (some ⟨b0, 0, none⟩), .pointer (some ⟨b1v, 2, none⟩), str x2_2, .pointer (some ⟨b1v, 1, none⟩), .int .i64 x2_1, .int .i64 s85v.1, .int .i64 (synodref_Num.v s85v.1), .pointer (some ⟨b1, 0, none⟩), .pointer (some ⟨b1v, 2, none⟩), str x2_2, .pointer (some ⟨b1v, 1, none⟩), .int .i64 x2_1, .int .i64 s91v.1, .bool (decide ((synodref_Num.v s85v.1) = s91v.1)), .bool (decide ((synodref_Num.v s85v.1) = s91v.1))].getD i undef) (fun j γ => [[obj b1v 52 [.int .i64 x2_0, .int .i64 x2_1, str x2_2, str x2_3, .slice a2_4 x2_4.length c2_4], obj b0 64 [.map (some m0_0), str x0_1, .int .i64 x0_2, .bool x0_3], mapF (mapO m0_0 enc9 encP q0_0) FA68 q0_0 x0_0, obj b1 29 [.slice a1_0 x1_0.length c1_0, .int .i64 x1_1, .bool x1_2, str x1_3], Row 36 3 a1_0 x1_0.length c1_0 rs83v.flatten, z1_0, F], [obj b0 64 [.map (some γ.1.1), str s85v.2.2.1, .int .i64 s85v.2.2.2.1, .bool s85v.2.2.2.2], mapF (mapO γ.1.1 enc9 encP γ.1.2) FA68 γ.1.2 s85v.2.1, obj b1v 52 [.int .i64 x2_0, .int .i64 x2_1, str x2_2, str x2_3, .slice a2_4 x2_4.length c2_4], obj b1 29 [.slice a1_0 x1_0.length c1_0, .int .i64 x1_1, .bool x1_2, str x1_3], Row 36 3 a1_0 x1_0.length c1_0 rs83v.flatten, z1_0, F], [obj b1 29 [.slice γ.2.1 s91v.2.1.length γ.2.2.1, .int .i64 s91v.2.2.1, .bool s91v.2.2.2.1, str s91v.2.2.2.2], RowV 36 3 (V36 (γ.2.2.2)) γ.2.1 s91v.2.1 γ.2.2.1, γ.2.2.2, obj b0 64 [.map (some γ.1.1), str s85v.2.2.1, .int .i64 s85v.2.2.2.1, .bool s85v.2.2.2.2], mapF (mapO γ.1.1 enc9 encP γ.1.2) FA68 γ.1.2 s85v.2.1, obj b1v 52 [.int .i64 x2_0, .int .i64 x2_1, str x2_2, str x2_3, .slice a2_4 x2_4.length c2_4], F]].getD j []) (fun γ => [(6, .bool (decide ((synodref_Num.v s85v.1) = s91v.1)))]) mixed (by decide) (by decide) (by decide) (by decide) (by decide) (by decide) (by decide) 186 rfl (by decide) (by decide) (by decide) (Ent.refl _) ?_ ?_ (fun _ => ⟨rfl, trivial⟩) ?_
 exact (aq rfl (fun γ => qm rfl (.o (s := 0) rfl (by decide) .nil) rfl) (aq rfl (fun γ => qp rfl rfl (.o (s := 5) rfl (by decide) .nil) (q_fa rfl rfl Try.underlying52 rfl rfl Try.sizeOf9 rfl) rfl) (aq rfl (fun γ => qp rfl rfl (.v 1 rfl rfl .nil) (q_load rfl rfl Try.isAgg9 (.obj 0 rfl rfl)) rfl) (aq rfl (fun γ => qp rfl rfl (.o (s := 5) rfl (by decide) .nil) (q_fa rfl rfl Try.underlying52 rfl rfl Try.sizeOf3 rfl) rfl) (aq rfl (fun γ => qp rfl rfl (.v 3 rfl rfl .nil) (q_load rfl rfl Try.isAgg3 (.obj 0 rfl rfl)) rfl) (aq rfl (fun γ => qp rfl rfl (.v 5 rfl rfl .nil) (RE.rq (re_call (vs := [.int .i64 s85v.1]) (cap := []) (A := []) (rst := [obj b0 64 [.map (some γ.1.1), str s85v.2.2.1, .int .i64 s85v.2.2.2.1, .bool s85v.2.2.2.2], mapF (mapO γ.1.1 enc9 encP γ.1.2) FA68 γ.1.2 s85v.2.1, obj b1v 52 [.int .i64 x2_0, .int .i64 x2_1, str x2_2, str x2_3, .slice a2_4 x2_4.length c2_4], obj b1 29 [.slice a1_0 x1_0.length c1_0, .int .i64 x1_1, .bool x1_2, str x1_3], Row 36 3 a1_0 x1_0.length c1_0 rs83v.flatten, z1_0, F]) rfl rfl rfl rfl rfl rfl Try.call11 (.sel 0 rfl (.sel 0 rfl (.sel 0 rfl (.sel 0 rfl (.sel 0 rfl (.sel 0 rfl (.sel 0 rfl (.nil _)))))))) (synodref_Num.calls _ _ s85v.1 ) (synodref_Num.tot s85v.1)) (fun _ => rfl) (fun _ => (.sel 0 rfl (.sel 0 rfl (.sel 0 rfl (.sel 0 rfl (.sel 0 rfl (.sel 0 rfl (.sel 0 rfl (.nil _)))))))))) rfl) (ac (fun γ => (ac (qm rfl (.o (s := 1) rfl (by decide) .nil) rfl) (ac (qm rfl (.o (s := 1) rfl (by decide) .nil) rfl) zA))) (ac (fun γ => (ac (qp rfl rfl (.o (s := 5) rfl (by decide) .nil) (q_fa rfl rfl Try.underlying52 rfl rfl Try.sizeOf9 rfl) rfl) (ac (qp rfl rfl (.o (s := 5) rfl (by decide) .nil) (q_fa rfl rfl Try.underlying52 rfl rfl Try.sizeOf9 rfl) rfl) zA))) (ac (fun γ => (ac (qp rfl rfl (.v 8 rfl rfl .nil) (q_load rfl rfl Try.isAgg9 (.obj 0 rfl rfl)) rfl) (ac (qp rfl rfl (.v 8 rfl rfl .nil) (q_load rfl rfl Try.isAgg9 (.obj 2 rfl rfl)) rfl) zA))) (ac (fun γ => (ac (qp rfl rfl (.o (s := 5) rfl (by decide) .nil) (q_fa rfl rfl Try.underlying52 rfl rfl Try.sizeOf3 rfl) rfl) (ac (qp rfl rfl (.o (s := 5) rfl (by decide) .nil) (q_fa rfl rfl Try.underlying52 rfl rfl Try.sizeOf3 rfl) rfl) zA))) (ac (fun γ => (ac (qp rfl rfl (.v 10 rfl rfl .nil) (q_load rfl rfl Try.isAgg3 (.obj 0 rfl rfl)) rfl) (ac (qp rfl rfl (.v 10 rfl rfl .nil) (q_load rfl rfl Try.isAgg3 (.obj 2 rfl rfl)) rfl) zA))) (aq rfl (fun γ => qp rfl rfl (.v 6 rfl rfl (.v 12 rfl rfl .nil)) (q_eql rfl rfl rfl) rfl) (aq rfl (fun γ => qp rfl rfl (.v 13 rfl rfl .nil) (q_asg rfl rfl) rfl) zA)))))))))))))
 exact (ac (fun γ => eo (Z := Nat × Kps) (fun z => (z, γ.2)) rfl rfl (.v 0 rfl rfl (.v 2 rfl rfl (.v 4 rfl rfl .nil))) (re_call (vs := [.pointer (some ⟨b0, 0, none⟩), str x2_2, .int .i64 x2_1]) (cap := []) (A := [obj b0 64 [.map (some m0_0), str x0_1, .int .i64 x0_2, .bool x0_3], mapF (mapO m0_0 enc9 encP q0_0) FA68 q0_0 x0_0]) (rst := [obj b1v 52 [.int .i64 x2_0, .int .i64 x2_1, str x2_2, str x2_3, .slice a2_4 x2_4.length c2_4], obj b1 29 [.slice a1_0 x1_0.length c1_0, .int .i64 x1_1, .bool x1_2, str x1_3], Row 36 3 a1_0 x1_0.length c1_0 rs83v.flatten, z1_0, F]) rfl rfl rfl rfl rfl rfl Try.call44 (.sel 1 rfl (.sel 1 rfl (.sel 0 rfl (.sel 0 rfl (.sel 0 rfl (.sel 0 rfl (.sel 0 rfl (.nil _)))))))) (disk_Disk_Cut.calls _ _ b0 m0_0 q0_0 x0_0 x0_1 x0_2 x0_3 x2_2 x2_1 ) hs86v) (fun _ => ⟨rfl, rfl, rfl, rfl, rfl, rfl, rfl, rfl, rfl, rfl, trivial⟩) (fun _ => .inr rfl) (fun z => Ent.refl _)) (ac (fun γ => eo (Z := Option Addr × Nat × HA) (fun z => (γ.1, z)) rfl rfl (.v 7 rfl rfl (.v 9 rfl rfl (.v 11 rfl rfl .nil))) (re_call (vs := [.pointer (some ⟨b1, 0, none⟩), str x2_2, .int .i64 x2_1]) (cap := []) (A := [obj b1 29 [.slice a1_0 x1_0.length c1_0, .int .i64 x1_1, .bool x1_2, str x1_3], RowV 36 3 (V36 z1_0) a1_0 x1_0 c1_0, z1_0]) (rst := [obj b0 64 [.map (some γ.1.1), str s85v.2.2.1, .int .i64 s85v.2.2.2.1, .bool s85v.2.2.2.2], mapF (mapO γ.1.1 enc9 encP γ.1.2) FA68 γ.1.2 s85v.2.1, obj b1v 52 [.int .i64 x2_0, .int .i64 x2_1, str x2_2, str x2_3, .slice a2_4 x2_4.length c2_4], F]) rfl rfl rfl rfl rfl rfl Try.call51 (.sel 3 rfl (.sel' 3 rfl (RowV.mk hl84v) (.sel 3 rfl (.sel 0 rfl (.sel 0 rfl (.sel 0 rfl (.sel 0 rfl (.nil _)))))))) (synodref4_Disk_Cut.calls _ _ k b1 a1_0 c1_0 x1_0 z1_0 x1_1 x1_2 x1_3 x2_2 x2_1 ) hs92v) (fun _ => ⟨rfl, rfl, rfl, rfl, rfl, rfl, rfl, rfl, rfl, rfl, rfl, rfl, trivial⟩) (fun _ => .inr rfl) (fun z => Ent.refl _)) zA))
 intro g97v
 refine nrm_then (sim_rtn ?_)
 refine rtn_block ?_
 refine rtn_then ?_
 exact rtn_fn (g97v.1.1, g97v.1.2, g97v.2.1, g97v.2.2.1, g97v.2.2.2) rfl rfl rfl (.sel 3 rfl (.sel 3 rfl (.sel 0 rfl (.sel 0 rfl (.sel 0 rfl (.sel 1 rfl (.nil _)))))))
 refine sr ?_
 refine vq (q_eql rfl rfl rfl) rfl ?_
 refine va rfl rfl (simL_nil (nrm_then ?_))
 refine sim_cond rfl (fun h98v => ?_) (fun h99v => ?_)
 refine sim_seq ?_
 refine sim_openV 4 rfl (fun rs100v hl101v => ?_)
 refine sim_bind (fun s102v hs103v => ?_)
 refine sim_bind (fun s108v hs109v => ?_)
 refine sim_draw (Γ := (Nat × Kps) × (Option Addr × Nat × HA)) ((0, ([] : Kps)), (none, 0, tt)) [[], [], [1], [], [3], rL 5, rL 6, [], [], [8], [], [10], rL 12, rL 13, rL 14] [5, 12] [0, 1, 2, 3, 4, 6, 7, 8, 9, 10, 11, 13, 14] (fun i => [[0], [0], [0], [0], [0], [], [1], [0, 1], [0, 1], [0, 1], [0, 1], [0, 1], [], [2], [2]].getD i []) (fun i => [[], [], [], [], [], [0, 1, 2, 3, 4, 7, 8, 9, 10, 11], [], [], [], [], [], [], rL 12, [], []].getD i []) (fun γ i => [.pointer (some ⟨b0, 0, none⟩), .pointer (some ⟨b1v, 2, none⟩), str x2_2, .pointer (some ⟨b1v, 3, none⟩), str x2_3, .int .i64 s102v.1, .int .i64 (synodref_Num.v s102v.1), .pointer (some ⟨b1, 0, none⟩), .pointer (some ⟨b1v, 2, none⟩), str x2_2, .pointer (some ⟨b1v, 3, none⟩), str x2_3, .int .i64 s108v.1, .bool (decide ((synodref_Num.v s102v.1) = s108v.1)), .bool (decide ((synodref_Num.v s102v.1) = s108v.1))].getD i undef) (fun j γ => [[obj b1v 52 [.int .i64 x2_0, .int .i64 x2_1, str x2_2, str x2_3, .slice a2_4 x2_4.length c2_4], obj b0 64 [.map (some m0_0), str x0_1, .int .i64 x0_2, .bool x0_3], mapF (mapO m0_0 enc9 encP q0_0) FA68 q0_0 x0_0, obj b1 29 [.slice a1_0 x1_0.length c1_0, .int .i64 x1_1, .bool x1_2, str x1_3], Row 36 3 a1_0 x1_0.length c1_0 rs100v.flatten, z1_0, F], [obj b0 64 [.map (some γ.1.1), str s102v.2.2.1, .int .i64 s102v.2.2.2.1, .bool s102v.2.2.2.2], mapF (mapO γ.1.1 enc9 encP γ.1.2) FA68 γ.1.2 s102v.2.1, obj b1v 52 [.int .i64 x2_0, .int .i64 x2_1, str x2_2, str x2_3, .slice a2_4 x2_4.length c2_4], obj b1 29 [.slice a1_0 x1_0.length c1_0, .int .i64 x1_1, .bool x1_2, str x1_3], Row 36 3 a1_0 x1_0.length c1_0 rs100v.flatten, z1_0, F], [obj b1 29 [.slice γ.2.1 s108v.2.1.length γ.2.2.1, .int .i64 s108v.2.2.1, .bool s108v.2.2.2.1, str s108v.2.2.2.2], RowV 36 3 (V36 (γ.2.2.2)) γ.2.1 s108v.2.1 γ.2.2.1, γ.2.2.2, obj b0 64 [.map (some γ.1.1), str s102v.2.2.1, .int .i64 s102v.2.2.2.1, .bool s102v.2.2.2.2], mapF (mapO γ.1.1 enc9 encP γ.1.2) FA68 γ.1.2 s102v.2.1, obj b1v 52 [.int .i64 x2_0, .int .i64 x2_1, str x2_2, str x2_3, .slice a2_4 x2_4.length c2_4], F]].getD j []) (fun γ => [(6, .bool (decide ((synodref_Num.v s102v.1) = s108v.1)))]) mixed (by decide) (by decide) (by decide) (by decide) (by decide) (by decide) (by decide) 186 rfl (by decide) (by decide) (by decide) (Ent.refl _) ?_ ?_ (fun _ => ⟨rfl, trivial⟩) ?_
 exact (aq rfl (fun γ => qm rfl (.o (s := 0) rfl (by decide) .nil) rfl) (aq rfl (fun γ => qp rfl rfl (.o (s := 5) rfl (by decide) .nil) (q_fa rfl rfl Try.underlying52 rfl rfl Try.sizeOf9 rfl) rfl) (aq rfl (fun γ => qp rfl rfl (.v 1 rfl rfl .nil) (q_load rfl rfl Try.isAgg9 (.obj 0 rfl rfl)) rfl) (aq rfl (fun γ => qp rfl rfl (.o (s := 5) rfl (by decide) .nil) (q_fa rfl rfl Try.underlying52 rfl rfl Try.sizeOf9 rfl) rfl) (aq rfl (fun γ => qp rfl rfl (.v 3 rfl rfl .nil) (q_load rfl rfl Try.isAgg9 (.obj 0 rfl rfl)) rfl) (aq rfl (fun γ => qp rfl rfl (.v 5 rfl rfl .nil) (RE.rq (re_call (vs := [.int .i64 s102v.1]) (cap := []) (A := []) (rst := [obj b0 64 [.map (some γ.1.1), str s102v.2.2.1, .int .i64 s102v.2.2.2.1, .bool s102v.2.2.2.2], mapF (mapO γ.1.1 enc9 encP γ.1.2) FA68 γ.1.2 s102v.2.1, obj b1v 52 [.int .i64 x2_0, .int .i64 x2_1, str x2_2, str x2_3, .slice a2_4 x2_4.length c2_4], obj b1 29 [.slice a1_0 x1_0.length c1_0, .int .i64 x1_1, .bool x1_2, str x1_3], Row 36 3 a1_0 x1_0.length c1_0 rs100v.flatten, z1_0, F]) rfl rfl rfl rfl rfl rfl Try.call11 (.sel 0 rfl (.sel 0 rfl (.sel 0 rfl (.sel 0 rfl (.sel 0 rfl (.sel 0 rfl (.sel 0 rfl (.nil _)))))))) (synodref_Num.calls _ _ s102v.1 ) (synodref_Num.tot s102v.1)) (fun _ => rfl) (fun _ => (.sel 0 rfl (.sel 0 rfl (.sel 0 rfl (.sel 0 rfl (.sel 0 rfl (.sel 0 rfl (.sel 0 rfl (.nil _)))))))))) rfl) (ac (fun γ => (ac (qm rfl (.o (s := 1) rfl (by decide) .nil) rfl) (ac (qm rfl (.o (s := 1) rfl (by decide) .nil) rfl) zA))) (ac (fun γ => (ac (qp rfl rfl (.o (s := 5) rfl (by decide) .nil) (q_fa rfl rfl Try.underlying52 rfl rfl Try.sizeOf9 rfl) rfl) (ac (qp rfl rfl (.o (s := 5) rfl (by decide) .nil) (q_fa rfl rfl Try.underlying52 rfl rfl Try.sizeOf9 rfl) rfl) zA))) (ac (fun γ => (ac (qp rfl rfl (.v 8 rfl rfl .nil) (q_load rfl rfl Try.isAgg9 (.obj 0 rfl rfl)) rfl) (ac (qp rfl rfl (.v 8 rfl rfl .nil) (q_load rfl rfl Try.isAgg9 (.obj 2 rfl rfl)) rfl) zA))) (ac (fun γ => (ac (qp rfl rfl (.o (s := 5) rfl (by decide) .nil) (q_fa rfl rfl Try.underlying52 rfl rfl Try.sizeOf9 rfl) rfl) (ac (qp rfl rfl (.o (s := 5) rfl (by decide) .nil) (q_fa rfl rfl Try.underlying52 rfl rfl Try.sizeOf9 rfl) rfl) zA))) (ac (fun γ => (ac (qp rfl rfl (.v 10 rfl rfl .nil) (q_load rfl rfl Try.isAgg9 (.obj 0 rfl rfl)) rfl) (ac (qp rfl rfl (.v 10 rfl rfl .nil) (q_load rfl rfl Try.isAgg9 (.obj 2 rfl rfl)) rfl) zA))) (aq rfl (fun γ => qp rfl rfl (.v 6 rfl rfl (.v 12 rfl rfl .nil)) (q_eql rfl rfl rfl) rfl) (aq rfl (fun γ => qp rfl rfl (.v 13 rfl rfl .nil) (q_asg rfl rfl) rfl) zA)))))))))))))
 exact (ac (fun γ => eo (Z := Nat × Kps) (fun z => (z, γ.2)) rfl rfl (.v 0 rfl rfl (.v 2 rfl rfl (.v 4 rfl rfl .nil))) (re_call (vs := [.pointer (some ⟨b0, 0, none⟩), str x2_2, str x2_3]) (cap := []) (A := [obj b0 64 [.map (some m0_0), str x0_1, .int .i64 x0_2, .bool x0_3], mapF (mapO m0_0 enc9 encP q0_0) FA68 q0_0 x0_0]) (rst := [obj b1v 52 [.int .i64 x2_0, .int .i64 x2_1, str x2_2, str x2_3, .slice a2_4 x2_4.length c2_4], obj b1 29 [.slice a1_0 x1_0.length c1_0, .int .i64 x1_1, .bool x1_2, str x1_3], Row 36 3 a1_0 x1_0.length c1_0 rs100v.flatten, z1_0, F]) rfl rfl rfl rfl rfl rfl Try.call45 (.sel 1 rfl (.sel 1 rfl (.sel 0 rfl (.sel 0 rfl (.sel 0 rfl (.sel 0 rfl (.sel 0 rfl (.nil _)))))))) (disk_Disk_Rename.calls _ _ k b0 m0_0 q0_0 x0_0 x0_1 x0_2 x0_3 x2_2 x2_3 ) hs103v) (fun _ => ⟨rfl, rfl, rfl, rfl, rfl, rfl, rfl, rfl, rfl, rfl, trivial⟩) (fun _ => .inr rfl) (fun z => Ent.refl _)) (ac (fun γ => eo (Z := Option Addr × Nat × HA) (fun z => (γ.1, z)) rfl rfl (.v 7 rfl rfl (.v 9 rfl rfl (.v 11 rfl rfl .nil))) (re_call (vs := [.pointer (some ⟨b1, 0, none⟩), str x2_2, str x2_3]) (cap := []) (A := [obj b1 29 [.slice a1_0 x1_0.length c1_0, .int .i64 x1_1, .bool x1_2, str x1_3], RowV 36 3 (V36 z1_0) a1_0 x1_0 c1_0, z1_0]) (rst := [obj b0 64 [.map (some γ.1.1), str s102v.2.2.1, .int .i64 s102v.2.2.2.1, .bool s102v.2.2.2.2], mapF (mapO γ.1.1 enc9 encP γ.1.2) FA68 γ.1.2 s102v.2.1, obj b1v 52 [.int .i64 x2_0, .int .i64 x2_1, str x2_2, str x2_3, .slice a2_4 x2_4.length c2_4], F]) rfl rfl rfl rfl rfl rfl Try.call52 (.sel 3 rfl (.sel' 3 rfl (RowV.mk hl101v) (.sel 3 rfl (.sel 0 rfl (.sel 0 rfl (.sel 0 rfl (.sel 0 rfl (.nil _)))))))) (synodref4_Disk_Rename.calls _ _ k b1 a1_0 c1_0 x1_0 z1_0 x1_1 x1_2 x1_3 x2_2 x2_3 ) hs109v) (fun _ => ⟨rfl, rfl, rfl, rfl, rfl, rfl, rfl, rfl, rfl, rfl, rfl, rfl, trivial⟩) (fun _ => .inr rfl) (fun z => Ent.refl _)) zA))
 intro g114v
 refine nrm_then (sim_rtn ?_)
 refine rtn_block ?_
 refine rtn_then ?_
 exact rtn_fn (g114v.1.1, g114v.1.2, g114v.2.1, g114v.2.2.1, g114v.2.2.2) rfl rfl rfl (.sel 3 rfl (.sel 3 rfl (.sel 0 rfl (.sel 0 rfl (.sel 0 rfl (.sel 1 rfl (.nil _)))))))
 refine sr ?_
 refine vq (q_eql rfl rfl rfl) rfl ?_
 refine va rfl rfl (simL_nil (nrm_then ?_))
 refine sim_cond rfl (fun h115v => ?_) (fun h116v => ?_)
 refine sim_seq ?_
 refine sim_openV 4 rfl (fun rs117v hl118v => ?_)
 refine sim_bind (fun s119v hs120v => ?_)
 refine sim_bind (fun s125v hs126v => ?_)
 refine sim_draw (Γ := (Nat × Kps) × (Option Addr × Nat × HA)) ((0, ([] : Kps)), (none, 0, tt)) [[], [], [1], [0, 1, 2], rL 4, [], [], [6], rL 8, rL 9, rL 10] [3, 8] [0, 1, 2, 4, 5, 6, 7, 9, 10] (fun i => [[0], [0], [0], [], [1], [0, 1], [0, 1], [0, 1], [], [2], [2]].getD i []) (fun i => [[], [], [], [0, 1, 2, 5, 6, 7], [], [], [], [], rL 8, [], []].getD i []) (fun γ i => [.pointer (some ⟨b0, 0, none⟩), .pointer (some ⟨b1v, 2, none⟩), str x2_2, .int .i64 s119v.1, .int .i64 (synodref_Num.v s119v.1), .pointer (some ⟨b1, 0, none⟩), .pointer (some ⟨b1v, 2, none⟩), str x2_2, .int .i64 s125v.1, .bool (decide ((synodref_Num.v s119v.1) = s125v.1)), .bool (decide ((synodref_Num.v s119v.1) = s125v.1))].getD i undef) (fun j γ => [[obj b1v 52 [.int .i64 x2_0, .int .i64 x2_1, str x2_2, str x2_3, .slice a2_4 x2_4.length c2_4], obj b0 64 [.map (some m0_0), str x0_1, .int .i64 x0_2, .bool x0_3], mapF (mapO m0_0 enc9 encP q0_0) FA68 q0_0 x0_0, obj b1 29 [.slice a1_0 x1_0.length c1_0, .int .i64 x1_1, .bool x1_2, str x1_3], Row 36 3 a1_0 x1_0.length c1_0 rs117v.flatten, z1_0, F], [obj b0 64 [.map (some γ.1.1), str s119v.2.2.1, .int .i64 s119v.2.2.2.1, .bool s119v.2.2.2.2], mapF (mapO γ.1.1 enc9 encP γ.1.2) FA68 γ.1.2 s119v.2.1, obj b1v 52 [.int .i64 x2_0, .int .i64 x2_1, str x2_2, str x2_3, .slice a2_4 x2_4.length c2_4], obj b1 29 [.slice a1_0 x1_0.length c1_0, .int .i64 x1_1, .bool x1_2, str x1_3], Row 36 3 a1_0 x1_0.length c1_0 rs117v.flatten, z1_0, F], [obj b1 29 [.slice γ.2.1 s125v.2.1.length γ.2.2.1, .int .i64 s125v.2.2.1, .bool s125v.2.2.2.1, str s125v.2.2.2.2], RowV 36 3 (V36 (γ.2.2.2)) γ.2.1 s125v.2.1 γ.2.2.1, γ.2.2.2, obj b0 64 [.map (some γ.1.1), str s119v.2.2.1, .int .i64 s119v.2.2.2.1, .bool s119v.2.2.2.2], mapF (mapO γ.1.1 enc9 encP γ.1.2) FA68 γ.1.2 s119v.2.1, obj b1v 52 [.int .i64 x2_0, .int .i64 x2_1, str x2_2, str x2_3, .slice a2_4 x2_4.length c2_4], F]].getD j []) (fun γ => [(6, .bool (decide ((synodref_Num.v s119v.1) = s125v.1)))]) mixed (by decide) (by decide) (by decide) (by decide) (by decide) (by decide) (by decide) 186 rfl (by decide) (by decide) (by decide) (Ent.refl _) ?_ ?_ (fun _ => ⟨rfl, trivial⟩) ?_
 exact (aq rfl (fun γ => qm rfl (.o (s := 0) rfl (by decide) .nil) rfl) (aq rfl (fun γ => qp rfl rfl (.o (s := 5) rfl (by decide) .nil) (q_fa rfl rfl Try.underlying52 rfl rfl Try.sizeOf9 rfl) rfl) (aq rfl (fun γ => qp rfl rfl (.v 1 rfl rfl .nil) (q_load rfl rfl Try.isAgg9 (.obj 0 rfl rfl)) rfl) (aq rfl (fun γ => qp rfl rfl (.v 3 rfl rfl .nil) (RE.rq (re_call (vs := [.int .i64 s119v.1]) (cap := []) (A := []) (rst := [obj b0 64 [.map (some γ.1.1), str s119v.2.2.1, .int .i64 s119v.2.2.2.1, .bool s119v.2.2.2.2], mapF (mapO γ.1.1 enc9 encP γ.1.2) FA68 γ.1.2 s119v.2.1, obj b1v 52 [.int .i64 x2_0, .int .i64 x2_1, str x2_2, str x2_3, .slice a2_4 x2_4.length c2_4], obj b1 29 [.slice a1_0 x1_0.length c1_0, .int .i64 x1_1, .bool x1_2, str x1_3], Row 36 3 a1_0 x1_0.length c1_0 rs117v.flatten, z1_0, F]) rfl rfl rfl rfl rfl rfl Try.call11 (.sel 0 rfl (.sel 0 rfl (.sel 0 rfl (.sel 0 rfl (.sel 0 rfl (.sel 0 rfl (.sel 0 rfl (.nil _)))))))) (synodref_Num.calls _ _ s119v.1 ) (synodref_Num.tot s119v.1)) (fun _ => rfl) (fun _ => (.sel 0 rfl (.sel 0 rfl (.sel 0 rfl (.sel 0 rfl (.sel 0 rfl (.sel 0 rfl (.sel 0 rfl (.nil _)))))))))) rfl) (ac (fun γ => (ac (qm rfl (.o (s := 1) rfl (by decide) .nil) rfl) (ac (qm rfl (.o (s := 1) rfl (by decide) .nil) rfl) zA))) (ac (fun γ => (ac (qp rfl rfl (.o (s := 5) rfl (by decide) .nil) (q_fa rfl rfl Try.underlying52 rfl rfl Try.sizeOf9 rfl) rfl) (ac (qp rfl rfl (.o (s := 5) rfl (by decide) .nil) (q_fa rfl rfl Try.underlying52 rfl rfl Try.sizeOf9 rfl) rfl) zA))) (ac (fun γ => (ac (qp rfl rfl (.v 6 rfl rfl .nil) (q_load rfl rfl Try.isAgg9 (.obj 0 rfl rfl)) rfl) (ac (qp rfl rfl (.v 6 rfl rfl .nil) (q_load rfl rfl Try.isAgg9 (.obj 2 rfl rfl)) rfl) zA))) (aq rfl (fun γ => qp rfl rfl (.v 4 rfl rfl (.v 8 rfl rfl .nil)) (q_eql rfl rfl rfl) rfl) (aq rfl (fun γ => qp rfl rfl (.v 9 rfl rfl .nil) (q_asg rfl rfl) rfl) zA)))))))))
 exact (ac (fun γ => eo (Z := Nat × Kps) (fun z => (z, γ.2)) rfl rfl (.v 0 rfl rfl (.v 2 rfl rfl .nil)) (re_call (vs := [.pointer (some ⟨b0, 0, none⟩), str x2_2]) (cap := []) (A := [obj b0 64 [.map (some m0_0), str x0_1, .int .i64 x0_2, .bool x0_3], mapF (mapO m0_0 enc9 encP q0_0) FA68 q0_0 x0_0]) (rst := [obj b1v 52 [.int .i64 x2_0, .int .i64 x2_1, str x2_2, str x2_3, .slice a2_4 x2_4.length c2_4], obj b1 29 [.slice a1_0 x1_0.length c1_0, .int .i64 x1_1, .bool x1_2, str x1_3], Row 36 3 a1_0 x1_0.length c1_0 rs117v.flatten, z1_0, F]) rfl rfl rfl rfl rfl rfl Try.call46 (.sel 1 rfl (.sel 1 rfl (.sel 0 rfl (.sel 0 rfl (.sel 0 rfl (.sel 0 rfl (.sel 0 rfl (.nil _)))))))) (disk_Disk_Remove.calls _ _ b0 m0_0 q0_0 x0_0 x0_1 x0_2 x0_3 x2_2 ) hs120v) (fun _ => ⟨rfl, rfl, rfl, rfl, rfl, rfl, trivial⟩) (fun _ => .inr rfl) (fun z => Ent.refl _)) (ac (fun γ => eo (Z := Option Addr × Nat × HA) (fun z => (γ.1, z)) rfl rfl (.v 5 rfl rfl (.v 7 rfl rfl .nil)) (re_call (vs := [.pointer (some ⟨b1, 0, none⟩), str x2_2]) (cap := []) (A := [obj b1 29 [.slice a1_0 x1_0.length c1_0, .int .i64 x1_1, .bool x1_2, str x1_3], RowV 36 3 (V36 z1_0) a1_0 x1_0 c1_0, z1_0]) (rst := [obj b0 64 [.map (some γ.1.1), str s119v.2.2.1, .int .i64 s119v.2.2.2.1, .bool s119v.2.2.2.2], mapF (mapO γ.1.1 enc9 encP γ.1.2) FA68 γ.1.2 s119v.2.1, obj b1v 52 [.int .i64 x2_0, .int .i64 x2_1, str x2_2, str x2_3, .slice a2_4 x2_4.length c2_4], F]) rfl rfl rfl rfl rfl rfl Try.call53 (.sel 3 rfl (.sel' 3 rfl (RowV.mk hl118v) (.sel 3 rfl (.sel 0 rfl (.sel 0 rfl (.sel 0 rfl (.sel 0 rfl (.nil _)))))))) (synodref4_Disk_Remove.calls _ _ k b1 a1_0 c1_0 x1_0 z1_0 x1_1 x1_2 x1_3 x2_2 ) hs126v) (fun _ => ⟨rfl, rfl, rfl, rfl, rfl, rfl, rfl, rfl, trivial⟩) (fun _ => .inr rfl) (fun z => Ent.refl _)) zA))
 intro g131v
 refine nrm_then (sim_rtn ?_)
 refine rtn_block ?_
 refine rtn_then ?_
 exact rtn_fn (g131v.1.1, g131v.1.2, g131v.2.1, g131v.2.2.1, g131v.2.2.2) rfl rfl rfl (.sel 3 rfl (.sel 3 rfl (.sel 0 rfl (.sel 0 rfl (.sel 0 rfl (.sel 1 rfl (.nil _)))))))
 refine sr ?_
 refine vq (q_eql rfl rfl rfl) rfl ?_
 refine va rfl rfl (simL_nil (nrm_then ?_))
 refine sim_cond rfl (fun h132v => ?_) (fun h133v => ?_)
 refine sr ?_
 refine vm rfl rfl ?_
 refine vq (q_fa rfl rfl Try.underlying52 rfl rfl Try.sizeOf3 rfl) rfl ?_
 refine vq (q_load rfl rfl Try.isAgg3 (.obj 0 rfl rfl)) rfl ?_
 refine simL_bind (fun s134v hs135v => ?_)
 refine simL_eff (re_call (vs := [.pointer (some ⟨b0, 0, none⟩), .int .i64 x2_1]) (cap := []) (A := [obj b0 64 [.map (some m0_0), str x0_1, .int .i64 x0_2, .bool x0_3], mapF (mapO m0_0 enc9 encP q0_0) FA68 q0_0 x0_0]) (rst := [obj b1v 52 [.int .i64 x2_0, .int .i64 x2_1, str x2_2, str x2_3, .slice a2_4 x2_4.length c2_4], obj b1 29 [.slice a1_0 x1_0.length c1_0, .int .i64 x1_1, .bool x1_2, str x1_3], RowV 36 3 (V36 z1_0) a1_0 x1_0 c1_0, z1_0, F]) rfl rfl rfl rfl rfl rfl Try.call47 (.sel 1 rfl (.sel 1 rfl (.sel 0 rfl (.sel 0 rfl (.sel 0 rfl (.sel 0 rfl (.sel 0 rfl (.nil _)))))))) (disk_Disk_Arm.calls _ _ b0 m0_0 q0_0 x0_0 x0_1 x0_2 x0_3 x2_1 ) hs135v) rfl rfl rfl ?_
 intro y136v
 refine nx ?_
 refine vm rfl rfl ?_
 refine vq (q_fa rfl rfl Try.underlying52 rfl rfl Try.sizeOf3 rfl) rfl ?_
 refine vq (q_load rfl rfl Try.isAgg3 (.obj 2 rfl rfl)) rfl ?_
 refine vq (q_max rfl rfl rfl) rfl ?_
 refine vn rfl rfl ?_
 refine vq (q_fa rfl rfl Try.underlying29 rfl rfl Try.sizeOf3 rfl) rfl ?_
 refine simL_do (re_store 3 rfl rfl rfl Try.sizeOf3 rfl rfl (one_of (by rfl)) rfl rfl) rfl rfl ?_
 intro _
 refine nx ?_
 refine va rfl rfl (simL_nil (nrm_then (sim_rtn ?_)))
 refine rtn_block ?_
 refine rtn_then ?_
 exact rtn_fn (m0_0, q0_0, a1_0, c1_0, z1_0) rfl rfl rfl (.sel 0 rfl (.sel 0 rfl (.sel 1 rfl (.sel 1 rfl (.sel 1 rfl (.sel 1 rfl (.nil _)))))))
 refine sr ?_
 refine vq (q_eql rfl rfl rfl) rfl ?_
 refine va rfl rfl (simL_nil (nrm_then ?_))
 refine sim_cond rfl (fun h137v => ?_) (fun h138v => ?_)
 refine sr ?_
 refine vm rfl rfl ?_
 refine vq (q_fa rfl rfl Try.underlying52 rfl rfl Try.sizeOf3 rfl) rfl ?_
 refine vq (q_load rfl rfl Try.isAgg3 (.obj 0 rfl rfl)) rfl ?_
 refine simL_bind (fun s139v hs140v => ?_)
 refine simL_eff (re_call (vs := [.pointer (some ⟨b0, 0, none⟩), .int .i64 x2_1]) (cap := []) (A := [obj b0 64 [.map (some m0_0), str x0_1, .int .i64 x0_2, .bool x0_3], mapF (mapO m0_0 enc9 encP q0_0) FA68 q0_0 x0_0]) (rst := [obj b1v 52 [.int .i64 x2_0, .int .i64 x2_1, str x2_2, str x2_3, .slice a2_4 x2_4.length c2_4], obj b1 29 [.slice a1_0 x1_0.length c1_0, .int .i64 x1_1, .bool x1_2, str x1_3], RowV 36 3 (V36 z1_0) a1_0 x1_0 c1_0, z1_0, F]) rfl rfl rfl rfl rfl rfl Try.call22 (.sel 1 rfl (.sel 1 rfl (.sel 0 rfl (.sel 0 rfl (.sel 0 rfl (.sel 0 rfl (.sel 0 rfl (.nil _)))))))) (disk_Disk_Crash.calls _ _ b0 m0_0 q0_0 x0_0 x0_1 x0_2 x0_3 x2_1 ) hs140v) rfl rfl rfl ?_
 intro y141v
 refine nx ?_
 refine vm rfl rfl ?_
 refine vq (q_fa rfl rfl Try.underlying52 rfl rfl Try.sizeOf3 rfl) rfl ?_
 refine vq (q_load rfl rfl Try.isAgg3 (.obj 2 rfl rfl)) rfl ?_
 refine simL_openV 4 rfl (fun rs142v hl143v => ?_)
 refine simL_bind (fun s144v hs145v => ?_)
 refine simL_eff (re_call (vs := [.pointer (some ⟨b1, 0, none⟩), .int .i64 x2_1]) (cap := []) (A := [obj b1 29 [.slice a1_0 x1_0.length c1_0, .int .i64 x1_1, .bool x1_2, str x1_3], RowV 36 3 (V36 z1_0) a1_0 x1_0 c1_0, z1_0]) (rst := [obj b0 64 [.map (some y141v.1), str s139v.2.1, .int .i64 s139v.2.2.1, .bool s139v.2.2.2], mapF (mapO y141v.1 enc9 encP y141v.2) FA68 y141v.2 s139v.1, obj b1v 52 [.int .i64 x2_0, .int .i64 x2_1, str x2_2, str x2_3, .slice a2_4 x2_4.length c2_4], F]) rfl rfl rfl rfl rfl rfl Try.call54 (.sel 3 rfl (.sel' 3 rfl (RowV.mk hl143v) (.sel 3 rfl (.sel 0 rfl (.sel 0 rfl (.sel 0 rfl (.sel 0 rfl (.nil _)))))))) (synodref4_Disk_Crash.calls _ _ k b1 a1_0 c1_0 x1_0 z1_0 x1_1 x1_2 x1_3 x2_1 ) hs145v) rfl rfl rfl ?_
 intro y146v
 refine nx ?_
 refine va rfl rfl (simL_nil (nrm_then (sim_rtn ?_)))
 refine rtn_block ?_
 refine rtn_then ?_
 exact rtn_fn (y141v.1, y141v.2, y146v.1, y146v.2.1, y146v.2.2) rfl rfl rfl (.sel 3 rfl (.sel 3 rfl (.sel 0 rfl (.sel 0 rfl (.sel 0 rfl (.sel 1 rfl (.nil _)))))))
 refine sim_skip ?_
 refine nrm_block (nrm_then (sr ?_))
 refine vm rfl rfl ?_
 refine vq (q_fa rfl rfl Try.underlying52 rfl rfl Try.sizeOf9 rfl) rfl ?_
 refine vq (q_load rfl rfl Try.isAgg9 (.obj 0 rfl rfl)) rfl ?_
 refine simL_bind (fun s147v hs148v => ?_)
 refine simL_eff (re_call (vs := [.pointer (some ⟨b0, 0, none⟩), str x2_2]) (cap := []) (A := [obj b0 64 [.map (some m0_0), str x0_1, .int .i64 x0_2, .bool x0_3], mapF (mapO m0_0 enc9 encP q0_0) FA68 q0_0 x0_0]) (rst := [obj b1v 52 [.int .i64 x2_0, .int .i64 x2_1, str x2_2, str x2_3, .slice a2_4 x2_4.length c2_4], obj b1 29 [.slice a1_0 x1_0.length c1_0, .int .i64 x1_1, .bool x1_2, str x1_3], RowV 36 3 (V36 z1_0) a1_0 x1_0 c1_0, z1_0, F]) rfl rfl rfl rfl rfl rfl Try.call55 (.sel 1 rfl (.sel 1 rfl (.sel 0 rfl (.sel 0 rfl (.sel 0 rfl (.sel 0 rfl (.sel 0 rfl (.nil _)))))))) (disk_Disk_Read.calls _ _ b0 m0_0 q0_0 x0_0 x0_1 x0_2 x0_3 x2_2 ) hs148v) rfl rfl rfl ?_
 intro y149v
 refine vm rfl rfl ?_
 refine vq (q_ext rfl rfl rfl) rfl ?_
 refine vq (q_ext rfl rfl rfl) rfl ?_
 refine va rfl rfl ?_
 refine va rfl rfl (nx ?_)
 refine vm rfl rfl ?_
 refine vq (q_fa rfl rfl Try.underlying52 rfl rfl Try.sizeOf9 rfl) rfl ?_
 refine vq (q_load rfl rfl Try.isAgg9 (.obj 3 rfl rfl)) rfl ?_
 refine simL_openV 5 rfl (fun rs150v hl151v => ?_)
 refine simL_bind (fun s156v hs157v => ?_)
 refine simL_lend 5 rfl (fun hq152v hq153v hq154v hq155v => ?_)
 refine simL_eff (re_call (vs := [.pointer (some ⟨b1, 0, none⟩), str x2_2]) (cap := []) (A := [obj b1 29 [.slice a1_0 x1_0.length c1_0, .int .i64 x1_1, .bool x1_2, str x1_3]]) (rst := [Row 5 1 y149v.1 s147v.1.length y149v.2 (encB s147v.1), obj b0 64 [.map (some m0_0), str x0_1, .int .i64 x0_2, .bool x0_3], mapF (mapO m0_0 enc9 encP q0_0) FA68 q0_0 x0_0, obj b1v 52 [.int .i64 x2_0, .int .i64 x2_1, str x2_2, str x2_3, .slice a2_4 x2_4.length c2_4], Row 36 3 a1_0 x1_0.length c1_0 rs150v.flatten, z1_0, F]) rfl rfl rfl rfl rfl rfl Try.call56 (.sel 4 rfl (.sel 0 rfl (.sel 0 rfl (.sel 0 rfl (.sel 0 rfl (.sel 0 rfl (.sel 0 rfl (.sel 0 rfl (.nil _))))))))) (synodref4_Disk_Read.calls _ _ k b1 a1_0 c1_0 x1_0 x1_1 x1_2 x1_3 x2_2 ((Rd.asV hl151v hq152v).up (Up.lend 4 rfl) (V36.up (Up.lend 5 rfl))) hq153v hq154v) hs157v) rfl rfl rfl ?_
 intro y158v
 refine vm rfl rfl ?_
 refine vq (q_ext rfl rfl rfl) rfl ?_
 refine vq (q_ext rfl rfl rfl) rfl ?_
 refine va rfl rfl ?_
 refine va rfl rfl (nx ?_)
 refine vm rfl rfl ?_
 refine vm rfl rfl ?_
 refine simL_bind (fun s167v hs168v => ?_)
 refine simL_lend 2 rfl (fun hq159v hq160v hq161v hq162v => ?_)
 refine simL_lend 0 rfl (fun hq163v hq164v hq165v hq166v => ?_)
 refine simL_eff (re_call (vs := [.slice y149v.1 s147v.1.length y149v.2, .slice y158v.1 s156v.1.length y158v.2]) (cap := []) (A := []) (rst := [Row 5 1 y158v.1 s156v.1.length y158v.2 (encB s156v.1), obj b1 29 [.slice a1_0 x1_0.length c1_0, .int .i64 x1_1, .bool x1_2, str x1_3], Row 5 1 y149v.1 s147v.1.length y149v.2 (encB s147v.1), obj b0 64 [.map (some m0_0), str x0_1, .int .i64 x0_2, .bool x0_3], mapF (mapO m0_0 enc9 encP q0_0) FA68 q0_0 x0_0, obj b1v 52 [.int .i64 x2_0, .int .i64 x2_1, str x2_2, str x2_3, .slice a2_4 x2_4.length c2_4], Row 36 3 a1_0 x1_0.length c1_0 rs150v.flatten, z1_0, F]) rfl rfl rfl rfl rfl rfl Try.call24 (.sel 0 rfl (.sel 0 rfl (.sel 0 rfl (.sel 0 rfl (.sel 0 rfl (.sel 0 rfl (.sel 0 rfl (.sel 0 rfl (.sel 0 rfl (.nil _)))))))))) (synodref_SameBytes.calls _ _ k y149v.1 y149v.2 s147v.1 y158v.1 y158v.2 s156v.1 (hq159v.lend 2 rfl) hq160v hq161v (hq163v.lend 0 rfl) hq164v hq165v) hs168v) rfl rfl rfl ?_
 intro y169v
 refine va rfl rfl (simL_nil (nrm_then ?_))
 refine sim_cut (S := Unit) (Unit) (fun s y => [(0, .pointer (some ⟨b0, 0, none⟩)), (5, .pointer (some ⟨b1v, 0, none⟩)), (12, .int .i64 s147v.2), (14, .int .i64 s156v.2), (15, .bool s167v)]) (fun s y => [obj b1 29 [.slice a1_0 x1_0.length c1_0, .int .i64 x1_1, .bool x1_2, str x1_3], obj b0 64 [.map (some m0_0), str x0_1, .int .i64 x0_2, .bool x0_3], obj b1v 52 [.int .i64 x2_0, .int .i64 x2_1, str x2_2, str x2_3, .slice a2_4 x2_4.length c2_4], RowV 36 3 (V36 (z1_0)) a1_0 x1_0 c1_0, mapF (mapO m0_0 enc9 encP q0_0) FA68 q0_0 x0_0, z1_0, F]) ?_ ?_
 refine sr ?_
 refine va rfl rfl (simL_nil (nrm_then ?_))
 refine sim_block ?_
 refine sim_loop (S := List UInt8 × Int) (Unit) (fun k s => synodlaw4_Does.l1 k s.1 s.2) (fun s y => [(0, .pointer (some ⟨b0, 0, none⟩)), (5, .pointer (some ⟨b1v, 0, none⟩)), (11, .slice y149v.1 s.1.length y149v.2), (12, .int .i64 s147v.2), (14, .int .i64 s156v.2), (15, .bool s167v), (16, .int .i64 s.2)]) (fun s y => [obj b1 29 [.slice a1_0 x1_0.length c1_0, .int .i64 x1_1, .bool x1_2, str x1_3], obj b0 64 [.map (some m0_0), str x0_1, .int .i64 x0_2, .bool x0_3], obj b1v 52 [.int .i64 x2_0, .int .i64 x2_1, str x2_2, str x2_3, .slice a2_4 x2_4.length c2_4], Row 5 1 y149v.1 s.1.length y149v.2 (encB s.1), RowV 36 3 (V36 (z1_0)) a1_0 x1_0 c1_0, mapF (mapO m0_0 enc9 encP q0_0) FA68 q0_0 x0_0, z1_0, F]) (fun _ => by rw [synodlaw4_Does.l1]) ?_ k (s147v.1, 0) () ⟨rfl, rfl, rfl, rfl, rfl, rfl, rfl, trivial⟩ (.sel 1 rfl (.sel 2 rfl (.sel 3 rfl (.sel 1 rfl (.sel' 2 rfl (RowV.mk hl151v) (.sel 1 rfl (.sel 1 rfl (.sel 1 rfl (.nil _)))))))))
 intro k s172v y173v
 refine sim_eq (by rw [synodlaw4_Does.l1]) ?_
 refine sim_seq (sr ?_)
 refine vm rfl rfl ?_
 refine vm rfl rfl ?_
 refine vq (q_len rfl rfl rfl Try.underlying34) rfl ?_
 refine vq (q_lss rfl rfl rfl) rfl (simL_nil (nrm_then ?_))
 refine sim_cond rfl (fun h176v => ?_) (fun h177v => ?_)
 refine sim_skip ?_
 refine nrm_then (sim_seq ?_)
 refine sim_block ?_
 refine sim_region ?_
 refine vm rfl rfl ?_
 refine vm rfl rfl ?_
 refine simL_ask (fun hi178v => ?_)
 refine simL_row 3 rfl (encB_ne (j := s172v.2.toNat) (by omega)) (fun b179v b179vo ha180v => ?_)
 refine vq (q_idx1 rfl rfl rfl ha180v Try.underlying34 Try.sizeOf5 hi178v.1 hi178v.2) rfl ?_
 refine simL_do (re_storeb 98 3 rfl rfl rfl Try.sizeOf5 rfl ha180v hi178v.2 hi178v.1 rfl) rfl rfl ?_
 intro _
 refine simL_ren (.slice y149v.1 ((s172v.1.set s172v.2.toNat 98).length) y149v.2) (d := 11) rfl (slc_len (by simp)) ?_
 refine simL_ren (.slice y149v.1 ((s172v.1.set s172v.2.toNat 98).length) y149v.2) (d := 162) rfl (slc_len (by simp)) ?_
 refine simL_ren (.slice y149v.1 ((s172v.1.set s172v.2.toNat 98).length) y149v.2) (d := 167) rfl (slc_len (by simp)) ?_
 refine simL_nil (nrm_block (nrm_then (sim_region ?_)))
 refine vm rfl rfl ?_
 refine vq (q_add rfl rfl rfl) rfl ?_
 refine va rfl rfl (simL_nil ?_)
 exact nrm_again (s := (s172v.1.set s172v.2.toNat 98, IntKind.i64.wrap (s172v.2 + 1))) () ⟨rfl, rfl, rfl, rfl, rfl, rfl, rfl, trivial⟩ (.sel 0 rfl (.sel 0 rfl (.sel 0 rfl (.sel 0 rfl (.sel 0 rfl (.sel 0 rfl (.sel 0 rfl (.sel 0 rfl (.nil _)))))))))
 refine sim_exi ?_
 refine exi_then ?_
 refine exi_loop ?_
 refine exi_here ?_
 exact nrm_cut (s := ()) () ⟨rfl, rfl, rfl, rfl, rfl, trivial⟩ (.sel 0 rfl (.sel 0 rfl (.sel 0 rfl (.sel 1 rfl (.sel 1 rfl (.sel 1 rfl (.sel 1 rfl (.nil _))))))))
 intro s170v y171v
 refine sr ?_
 refine vm rfl rfl ?_
 refine vm rfl rfl ?_
 refine simL_cut' 5 (S := Bool) (Unit) (fun s y => [(0, .pointer (some ⟨b0, 0, none⟩)), (5, .pointer (some ⟨b1v, 0, none⟩)), (14, .int .i64 s156v.2), (176, .bool s)]) (fun s y => [obj b1 29 [.slice a1_0 x1_0.length c1_0, .int .i64 x1_1, .bool x1_2, str x1_3], obj b0 64 [.map (some m0_0), str x0_1, .int .i64 x0_2, .bool x0_3], obj b1v 52 [.int .i64 x2_0, .int .i64 x2_1, str x2_2, str x2_3, .slice a2_4 x2_4.length c2_4], RowV 36 3 (V36 (z1_0)) a1_0 x1_0 c1_0, mapF (mapO m0_0 enc9 encP q0_0) FA68 q0_0 x0_0, z1_0, F]) ?_ ?_
 refine simL_caseb (fun hb188v => ?_) (fun hb189v => ?_)
 rw [hb188v]
 refine simL_valg (q_move rfl rfl) rfl rfl rfl rfl rfl rfl ?_
 refine simL_bind (fun s185v hs186v => ?_)
 refine simL_effg (re_call (vs := [.int .i64 s147v.2]) (cap := []) (A := []) (rst := [obj b1 29 [.slice a1_0 x1_0.length c1_0, .int .i64 x1_1, .bool x1_2, str x1_3], obj b0 64 [.map (some m0_0), str x0_1, .int .i64 x0_2, .bool x0_3], obj b1v 52 [.int .i64 x2_0, .int .i64 x2_1, str x2_2, str x2_3, .slice a2_4 x2_4.length c2_4], RowV 36 3 (V36 (z1_0)) a1_0 x1_0 c1_0, mapF (mapO m0_0 enc9 encP q0_0) FA68 q0_0 x0_0, z1_0, F]) rfl rfl rfl rfl rfl rfl Try.call11 (.sel 0 rfl (.sel 0 rfl (.sel 0 rfl (.sel 0 rfl (.sel 0 rfl (.sel 0 rfl (.sel 0 rfl (.nil _)))))))) (synodref_Num.calls _ _ s147v.2 ) hs186v) rfl rfl rfl rfl rfl rfl ?_
 intro y187v
 refine simL_valg (q_move rfl rfl) rfl rfl rfl rfl rfl rfl ?_
 refine simL_valg (q_eql rfl rfl rfl) rfl rfl rfl rfl rfl rfl ?_
 refine vq (q_pick rfl rfl rfl rfl rfl) rfl (simL_nil ?_)
 exact nrm_cut (s := decide (s185v = s156v.2)) () ⟨rfl, rfl, rfl, rfl, trivial⟩ (.sel 0 rfl (.sel 0 rfl (.sel 0 rfl (.sel 0 rfl (.sel 0 rfl (.sel 0 rfl (.sel 0 rfl (.nil _))))))))
 rw [hb189v]
 refine simL_skipd rfl rfl rfl rfl rfl rfl ?_
 refine simL_skipd rfl rfl rfl rfl rfl rfl ?_
 refine simL_skipd rfl rfl rfl rfl rfl rfl ?_
 refine simL_skipd rfl rfl rfl rfl rfl rfl ?_
 refine vq (q_pick rfl rfl rfl rfl rfl) rfl (simL_nil ?_)
 exact nrm_cut (s := false) () ⟨rfl, rfl, rfl, rfl, trivial⟩ (.sel 0 rfl (.sel 0 rfl (.sel 0 rfl (.sel 0 rfl (.sel 0 rfl (.sel 0 rfl (.sel 0 rfl (.nil _))))))))
 intro s183v y184v
 refine vm rfl rfl ?_
 refine simL_cut' 8 (S := Bool) (Unit) (fun s y => [(185, .bool s)]) (fun s y => [obj b0 64 [.map (some m0_0), str x0_1, .int .i64 x0_2, .bool x0_3], obj b1 29 [.slice a1_0 x1_0.length c1_0, .int .i64 x1_1, .bool x1_2, str x1_3], mapF (mapO m0_0 enc9 encP q0_0) FA68 q0_0 x0_0, RowV 36 3 (V36 (z1_0)) a1_0 x1_0 c1_0, z1_0, F]) ?_ ?_
 refine simL_caseb (fun hb195v => ?_) (fun hb196v => ?_)
 rw [hb195v]
 refine simL_valg (q_move rfl rfl) rfl rfl rfl rfl rfl rfl ?_
 refine simL_valg (q_fa rfl rfl Try.underlying52 rfl rfl Try.sizeOf9 rfl) rfl rfl rfl rfl rfl rfl ?_
 refine simL_valg (q_load rfl rfl Try.isAgg9 (.obj 2 rfl rfl)) rfl rfl rfl rfl rfl rfl ?_
 refine simL_bind (fun s192v hs193v => ?_)
 refine simL_effg (re_call (vs := [.pointer (some ⟨b0, 0, none⟩), str x2_2]) (cap := []) (A := [obj b0 64 [.map (some m0_0), str x0_1, .int .i64 x0_2, .bool x0_3], mapF (mapO m0_0 enc9 encP q0_0) FA68 q0_0 x0_0]) (rst := [obj b1 29 [.slice a1_0 x1_0.length c1_0, .int .i64 x1_1, .bool x1_2, str x1_3], obj b1v 52 [.int .i64 x2_0, .int .i64 x2_1, str x2_2, str x2_3, .slice a2_4 x2_4.length c2_4], RowV 36 3 (V36 (z1_0)) a1_0 x1_0 c1_0, z1_0, F]) rfl rfl rfl rfl rfl rfl Try.call34 (.sel 1 rfl (.sel 3 rfl (.sel 0 rfl (.sel 0 rfl (.sel 0 rfl (.sel 0 rfl (.sel 0 rfl (.nil _)))))))) (disk_Disk_Has.calls _ _ b0 m0_0 q0_0 x0_0 x0_1 x0_2 x0_3 x2_2 ) hs193v) rfl rfl rfl rfl rfl rfl ?_
 intro y194v
 refine simL_valg (q_move rfl rfl) rfl rfl rfl rfl rfl rfl ?_
 refine simL_valg (q_eql rfl rfl rfl) rfl rfl rfl rfl rfl rfl ?_
 refine simL_valg (q_eqb rfl rfl rfl Try.underlying4) rfl rfl rfl rfl rfl rfl ?_
 refine vq (q_pick rfl rfl rfl rfl rfl) rfl (simL_nil ?_)
 exact nrm_cut (s := s192v == (decide (s156v.2 = (0 : Int)))) () ⟨rfl, trivial⟩ (.sel 0 rfl (.sel 1 rfl (.sel 0 rfl (.sel 1 rfl (.sel 1 rfl (.sel 1 rfl (.nil _)))))))
 rw [hb196v]
 refine simL_skipd rfl rfl rfl rfl rfl rfl ?_
 refine simL_skipd rfl rfl rfl rfl rfl rfl ?_
 refine simL_skipd rfl rfl rfl rfl rfl rfl ?_
 refine simL_skipd rfl rfl rfl rfl rfl rfl ?_
 refine simL_skipd rfl rfl rfl rfl rfl rfl ?_
 refine simL_skipd rfl rfl rfl rfl rfl rfl ?_
 refine simL_skipd rfl rfl rfl rfl rfl rfl ?_
 refine vq (q_pick rfl rfl rfl rfl rfl) rfl (simL_nil ?_)
 exact nrm_cut (s := false) () ⟨rfl, trivial⟩ (.sel 1 rfl (.sel 0 rfl (.sel 2 rfl (.sel 1 rfl (.sel 1 rfl (.sel 1 rfl (.nil _)))))))
 intro s190v y191v
 refine va rfl rfl (simL_nil (nrm_then (sim_rtn ?_)))
 exact rtn_fn (m0_0, q0_0, a1_0, c1_0, z1_0) rfl rfl rfl (.sel 0 rfl (.sel 1 rfl (.sel 0 rfl (.sel 0 rfl (.sel 0 rfl (.sel 0 rfl (.nil _)))))))

def synodlaw4_DiskLoads.l3 (x1 : List (Ty52)) : Nat → Bool → Int → List ((List UInt8) × (List UInt8 × Int)) → List UInt8 → Int → Bool → List (Ty36) → Int → Bool → List UInt8 → Option (Bool)
  | 0, _, _, _, _, _, _, _, _, _, _ => none
  | k + 1, z138v, z139v, z140v, z141v, z142v, z143v, z144v, z145v, z146v, z147v => if ((decide (z139v < (x1.length : Int))) && z138v) = true then (if 0 ≤ z139v ∧ z139v < (x1.length : Int) then ((synodlaw4_Does.f k z140v z141v z142v z143v z144v z145v z146v z147v ((x1.getD z139v.toNat dz52).1) ((x1.getD z139v.toNat dz52).2.1) ((x1.getD z139v.toNat dz52).2.2.1) ((x1.getD z139v.toNat dz52).2.2.2.1) ((x1.getD z139v.toNat dz52).2.2.2.2)).bind fun s165v => ((if s165v.1 = true then ((synodlaw4_Same.f k s165v.2.1 s165v.2.2.1 s165v.2.2.2.1 s165v.2.2.2.2.1 s165v.2.2.2.2.2.1 s165v.2.2.2.2.2.2.1 s165v.2.2.2.2.2.2.2.1 s165v.2.2.2.2.2.2.2.2).bind fun s176v => (some s176v)) else (some false)).bind fun s168v => (synodlaw4_DiskLoads.l3 x1 k s168v (IntKind.i64.wrap (z139v + 1)) s165v.2.1 s165v.2.2.1 s165v.2.2.2.1 s165v.2.2.2.2.1 s165v.2.2.2.2.2.1 s165v.2.2.2.2.2.2.1 s165v.2.2.2.2.2.2.2.1 s165v.2.2.2.2.2.2.2.2))) else none) else (some z138v)
def synodlaw4_DiskLoads.l2 (s46v : List (Ty36)) (s81v : Int) : Nat → Int → Option (Unit)
  | 0, _ => none
  | k + 1, z90v => if 0 ≤ s81v ∧ s81v < (s46v.length : Int) then (if z90v < (((s46v.getD s81v.toNat dz36).2.1).length : Int) then (if 0 ≤ s81v ∧ s81v < (s46v.length : Int) then (if 0 ≤ z90v ∧ z90v < (((s46v.getD s81v.toNat dz36).2.1).length : Int) then (synodlaw4_DiskLoads.l2 s46v s81v k (IntKind.i64.wrap (z90v + 1))) else none) else none) else (some ())) else none
def synodlaw4_DiskLoads.l1 (s46v : List (Ty36)) : Nat → Int → Option (Unit)
  | 0, _ => none
  | k + 1, z83v => if z83v < (s46v.length : Int) then ((synodlaw4_DiskLoads.l2 s46v z83v k 0).bind fun s86v => (synodlaw4_DiskLoads.l1 s46v k (IntKind.i64.wrap (z83v + 1)))) else (some ())
def synodlaw4_DiskLoads.l0 (x0 : List (Ty36)) : Nat → Int → Int → Option (Int)
  | 0, _, _ => none
  | k + 1, z11v, z12v => if ((decide (z12v < (x0.length : Int))) && (decide (z12v < (300 : Int)))) = true then (if 0 ≤ z12v ∧ z12v < (x0.length : Int) then (if 0 ≤ z12v ∧ z12v < (x0.length : Int) then (synodlaw4_DiskLoads.l0 x0 k (IntKind.i64.wrap ((IntKind.i64.wrap (z11v + (min (((x0.getD z12v.toNat dz36).2.1).length : Int) (20000 : Int)))) + (min (((x0.getD z12v.toNat dz36).1).length : Int) (20000 : Int)))) (IntKind.i64.wrap (z12v + 1))) else none) else none) else (some z11v)
def synodlaw4_DiskLoads.f (k : Nat) (x0 : List (Ty36)) (x1 : List (Ty52)) : Option (Bool) := (synodlaw4_first.f k).bind fun s1v => ((synodlaw4_few.f k x1).bind fun s4v => ((synodlaw4_DiskLoads.l0 x0 k 0 0).bind fun s7v => (if ((((!s1v) || (!s4v)) || (decide ((300 : Int) < (x0.length : Int)))) || (decide ((20000 : Int) < s7v))) = true then (some s1v) else ((synodref_Files.f k x0).bind fun s46v => ((disk_Load.f k s46v).bind fun s55v => (if s55v.1 = true then ((synodref4_Load.f k x0).bind fun s59v => (if s59v.1 = true then ((synodref_SameFiles.f k s46v x0).bind fun s67v => ((if (!s67v) = true then (some true) else ((synodref_Num.f s55v.2.2.2.2.2).bind fun s72v => (some (!decide (s72v = s59v.2.2.2.2.2))))).bind fun s70v => (if (s70v || false) = true then (some false) else ((synodlaw4_DiskLoads.l1 s46v k 0).bind fun s79v => ((synodlaw4_Same.f k s55v.2.1 s55v.2.2.1 s55v.2.2.2.1 s55v.2.2.2.2.1 s59v.2.1 s59v.2.2.1 s59v.2.2.2.1 s59v.2.2.2.2.1).bind fun s131v => ((synodlaw4_DiskLoads.l3 x1 k s131v 0 s55v.2.1 s55v.2.2.1 s55v.2.2.2.1 s55v.2.2.2.2.1 s59v.2.1 s59v.2.2.1 s59v.2.2.2.1 s59v.2.2.2.2.1).bind fun s134v => (some s134v))))))) else ((synodref_SameFiles.f k s46v x0).bind fun s192v => ((if (!s192v) = true then (some true) else ((synodref_Num.f s55v.2.2.2.2.2).bind fun s197v => (some (!decide (s197v = s59v.2.2.2.2.2))))).bind fun s195v => (some false))))) else ((synodref4_Load.f k x0).bind fun s208v => (if s208v.1 = true then ((synodref_SameFiles.f k s46v x0).bind fun s216v => ((if (!s216v) = true then (some true) else ((synodref_Num.f s55v.2.2.2.2.2).bind fun s221v => (some (!decide (s221v = s208v.2.2.2.2.2))))).bind fun s219v => (some false))) else ((synodref_SameFiles.f k s46v x0).bind fun s236v => ((if (!s236v) = true then (some true) else ((synodref_Num.f s55v.2.2.2.2.2).bind fun s241v => (some (!decide (s241v = s208v.2.2.2.2.2))))).bind fun s239v => (if (s239v || false) = true then (some false) else (some true))))))))))))
theorem synodlaw4_DiskLoads.calls (W : World) (F : HA) (k : Nat) (a0 : Option Addr) (c0 : Nat) (x0 : List (Ty36)) (a1 : Option Addr) (c1 : Nat) (x1 : List (Ty52)) (h0 : RdV F 3 (V36 F) a0 x0) (hc0 : x0.length ≤ c0) (hm0 : c0 ≤ maxLen) (h1 : RdV F 5 (V52 F) a1 x1) (hc1 : x1.length ≤ c1) (hm1 : c1 ≤ maxLen) :
    Fn Try.prog W 8 [.slice a0 x0.length c0, .slice a1 x1.length c1] [] F (synodlaw4_DiskLoads.f k x0 x1) (fun (r : Bool) (y : Unit) => .bool r) (fun r y => []) := by
 unfold synodlaw4_DiskLoads.f
 refine fn_intro 147 Try.func8 rfl Try.ntmps8 rfl ?_
 refine sr ?_
 refine va rfl rfl (nx ?_)
 refine simL_bind (fun s1v hs2v => ?_)
 refine simL_eff (re_call (vs := []) (cap := []) (A := []) (rst := [F]) rfl rfl rfl rfl rfl rfl Try.call9 (.sel 0 rfl (.nil _)) (synodlaw4_first.calls _ _ k  ) hs2v) rfl rfl rfl ?_
 intro y3v
 refine va rfl rfl (nx ?_)
 refine vm rfl rfl ?_
 refine simL_bind (fun s4v hs5v => ?_)
 refine simL_eff (re_call (vs := [.slice a1 x1.length c1]) (cap := []) (A := []) (rst := [F]) rfl rfl rfl rfl rfl rfl Try.call19 (.sel 0 rfl (.nil _)) (synodlaw4_few.calls _ _ k a1 c1 x1 (h1.up (Up.lend 0 rfl) (V52.up (Up.lend 0 rfl))) hc1 hm1) hs5v) rfl rfl rfl ?_
 intro y6v
 refine va rfl rfl (nx ?_)
 refine va rfl rfl (simL_nil (nrm_then ?_))
 refine sim_cut (S := Int) (Unit) (fun s y => [(0, .slice a0 x0.length c0), (1, .slice a1 x1.length c1), (5, .bool s1v), (6, .bool s4v), (7, .int .i64 s)]) (fun s y => [F]) ?_ ?_
 refine sr ?_
 refine va rfl rfl (simL_nil (nrm_then ?_))
 refine sim_block ?_
 refine sim_loop (S := Int × Int) (Unit) (fun k s => synodlaw4_DiskLoads.l0 x0 k s.1 s.2) (fun s y => [(0, .slice a0 x0.length c0), (1, .slice a1 x1.length c1), (5, .bool s1v), (6, .bool s4v), (7, .int .i64 s.1), (8, .int .i64 s.2)]) (fun s y => [F]) (fun _ => by rw [synodlaw4_DiskLoads.l0]) ?_ k (0, 0) () ⟨rfl, rfl, rfl, rfl, rfl, rfl, trivial⟩ (.sel 0 rfl (.nil _))
 intro k s9v y10v
 refine sim_eq (by rw [synodlaw4_DiskLoads.l0]) ?_
 refine sim_seq (sr ?_)
 refine vm rfl rfl ?_
 refine vm rfl rfl ?_
 refine vq (q_len rfl rfl rfl Try.underlying27) rfl ?_
 refine vq (q_lss rfl rfl rfl) rfl ?_
 refine vm rfl rfl ?_
 refine simL_valc (b := decide (s9v.2 < (x0.length : Int))) (fun hb43v => RQ.sub (E' := [(8, .int .i64 s9v.2)]) ⟨rfl, trivial⟩ (q_move rfl rfl)) rfl rfl rfl rfl rfl ?_
 refine simL_valc (b := decide (s9v.2 < (x0.length : Int))) (fun hb42v => RQ.sub (E' := [(28, .int .i64 s9v.2)]) ⟨lk_cv rfl hb42v, trivial⟩ (q_lss rfl rfl rfl)) rfl rfl rfl rfl rfl ?_
 refine vq (q_and rfl rfl rfl) rfl (simL_nil (nrm_then ?_))
 refine sim_condb rfl (fun h13v => ?_) (fun h14v => ?_)
 refine sim_skip ?_
 refine nrm_then (sim_seq ?_)
 refine sim_block ?_
 refine sim_ask (fun hi15v => ?_)
 obtain ⟨b16v, b16vo, r19v, ha17v, hV20v, hlr21v, hcell22v⟩ := RdV.pos h0 (Up.refl _) rfl (i := s9v.2.toNat) (by omega) dz36
 obtain ⟨a23v, c24v, rfl, ⟨he25v, hc26v, hm27v⟩⟩ := hV20v
 refine sim_ask (fun hi28v => ?_)
 obtain ⟨b29v, b29vo, r32v, ha30v, hV33v, hlr34v, hcell35v⟩ := RdV.pos h0 (Up.refl _) rfl (i := s9v.2.toNat) (by omega) dz36
 obtain ⟨a36v, c37v, rfl, ⟨he38v, hc39v, hm40v⟩⟩ := hV33v
 refine sim_draw (Γ := Unit) () [[], [], [], [1, 2], [1, 2, 3], [1, 2, 3, 4], [1, 2, 3, 4, 5], [1, 2, 3, 4, 5, 6], rL 8, [], [], [9, 10], [9, 10, 11], [9, 10, 11, 12], [9, 10, 11, 12, 13], [9, 10, 11, 12, 13, 14], rL 16, rL 17] [] [0, 1, 2, 3, 4, 5, 6, 7, 8, 9, 10, 11, 12, 13, 14, 15, 16, 17] (fun i => [[0], [0], [0], [0], [0], [0], [0], [0], [0], [0], [0], [0], [0], [0], [0], [0], [0], [0]].getD i []) (fun i => [[], [], [], [], [], [], [], [], [], [], [], [], [], [], [], [], [], []].getD i []) (fun γ i => [.int .i64 s9v.1, .slice a0 x0.length c0, .int .i64 s9v.2, .pointer (some ⟨b16v, b16vo + s9v.2.toNat * 3, none⟩), .pointer (some ⟨b16v, b16vo + s9v.2.toNat * 3 + 1, none⟩), .slice a23v (((x0.getD s9v.2.toNat dz36).2.1).length) c24v, .int .i64 (((x0.getD s9v.2.toNat dz36).2.1).length : Int), .int .i64 (min (((x0.getD s9v.2.toNat dz36).2.1).length : Int) (20000 : Int)), .int .i64 (IntKind.i64.wrap (s9v.1 + (min (((x0.getD s9v.2.toNat dz36).2.1).length : Int) (20000 : Int)))), .slice a0 x0.length c0, .int .i64 s9v.2, .pointer (some ⟨b29v, b29vo + s9v.2.toNat * 3, none⟩), .pointer (some ⟨b29v, b29vo + s9v.2.toNat * 3 + 0, none⟩), str ((x0.getD s9v.2.toNat dz36).1), .int .i64 (((x0.getD s9v.2.toNat dz36).1).length : Int), .int .i64 (min (((x0.getD s9v.2.toNat dz36).1).length : Int) (20000 : Int)), .int .i64 (IntKind.i64.wrap ((IntKind.i64.wrap (s9v.1 + (min (((x0.getD s9v.2.toNat dz36).2.1).length : Int) (20000 : Int)))) + (min (((x0.getD s9v.2.toNat dz36).1).length : Int) (20000 : Int)))), .int .i64 (IntKind.i64.wrap ((IntKind.i64.wrap (s9v.1 + (min (((x0.getD s9v.2.toNat dz36).2.1).length : Int) (20000 : Int)))) + (min (((x0.getD s9v.2.toNat dz36).1).length : Int) (20000 : Int))))].getD i undef) (fun j γ => [[F]].getD j []) (fun γ => [(0, .slice a0 x0.length c0), (1, .slice a1 x1.length c1), (5, .bool s1v), (6, .bool s4v), (7, .int .i64 (IntKind.i64.wrap ((IntKind.i64.wrap (s9v.1 + (min (((x0.getD s9v.2.toNat dz36).2.1).length : Int) (20000 : Int)))) + (min (((x0.getD s9v.2.toNat dz36).1).length : Int) (20000 : Int))))), (8, .int .i64 s9v.2), (28, cv ((decide (s9v.2 < (x0.length : Int))) == true) (.int .i64 s9v.2)), (29, cv ((decide (s9v.2 < (x0.length : Int))) == true) (.bool (decide (s9v.2 < (300 : Int)))))]) mixed (by decide) (by decide) (by decide) (by decide) (by decide) (by decide) (by decide) 147 rfl (by decide) (by decide) (by decide) (Ent.refl _) ?_ ?_ (fun _ => ⟨rfl, rfl, rfl, rfl, rfl, rfl, rfl, rfl, trivial⟩) ?_
 exact (aq rfl (fun γ => qm rfl (.o (s := 7) rfl (by decide) .nil) rfl) (aq rfl (fun γ => qm rfl (.o (s := 0) rfl (by decide) .nil) rfl) (aq rfl (fun γ => qm rfl (.o (s := 8) rfl (by decide) .nil) rfl) (aq rfl (fun γ => qp rfl rfl (.v 1 rfl rfl (.v 2 rfl rfl .nil)) (q_idx rfl rfl rfl ha17v Try.underlying27 Try.sizeOf36 hi15v.1 hi15v.2) rfl) (aq rfl (fun γ => qp rfl rfl (.v 3 rfl rfl .nil) (q_fa rfl rfl Try.underlying36 rfl rfl Try.sizeOf34 rfl) rfl) (aq rfl (fun γ => qp rfl rfl (.v 4 rfl rfl .nil) (q_load rfl rfl Try.isAgg34 (hcell22v 0 rfl 1 _ rfl)) rfl) (aq rfl (fun γ => qp rfl rfl (.v 5 rfl rfl .nil) (q_len rfl rfl rfl Try.underlying34) rfl) (aq rfl (fun γ => qp rfl rfl (.v 6 rfl rfl .nil) (q_min rfl rfl rfl) rfl) (aq rfl (fun γ => qp rfl rfl (.v 0 rfl rfl (.v 7 rfl rfl .nil)) (q_add rfl rfl rfl) rfl) (aq rfl (fun γ => qm rfl (.o (s := 0) rfl (by decide) .nil) rfl) (aq rfl (fun γ => qm rfl (.o (s := 8) rfl (by decide) .nil) rfl) (aq rfl (fun γ => qp rfl rfl (.v 9 rfl rfl (.v 10 rfl rfl .nil)) (q_idx rfl rfl rfl ha30v Try.underlying27 Try.sizeOf36 hi28v.1 hi28v.2) rfl) (aq rfl (fun γ => qp rfl rfl (.v 11 rfl rfl .nil) (q_fa rfl rfl Try.underlying36 rfl rfl Try.sizeOf9 rfl) rfl) (aq rfl (fun γ => qp rfl rfl (.v 12 rfl rfl .nil) (q_load rfl rfl Try.isAgg9 (hcell35v 0 rfl 0 _ rfl)) rfl) (aq rfl (fun γ => qp rfl rfl (.v 13 rfl rfl .nil) (q_lens rfl rfl rfl Try.underlying9) rfl) (aq rfl (fun γ => qp rfl rfl (.v 14 rfl rfl .nil) (q_min rfl rfl rfl) rfl) (aq rfl (fun γ => qp rfl rfl (.v 8 rfl rfl (.v 15 rfl rfl .nil)) (q_add rfl rfl rfl) rfl) (aq rfl (fun γ => qp rfl rfl (.v 16 rfl rfl .nil) (q_asg rfl rfl) rfl) zA))))))))))))))))))
 exact zA
 intro g41v
 refine nrm_block (nrm_then (sim_region ?_))
 refine vm rfl rfl ?_
 refine vq (q_add rfl rfl rfl) rfl ?_
 refine va rfl rfl (simL_nil ?_)
 exact nrm_again (s := (IntKind.i64.wrap ((IntKind.i64.wrap (s9v.1 + (min (((x0.getD s9v.2.toNat dz36).2.1).length : Int) (20000 : Int)))) + (min (((x0.getD s9v.2.toNat dz36).1).length : Int) (20000 : Int))), IntKind.i64.wrap (s9v.2 + 1))) () ⟨rfl, rfl, rfl, rfl, rfl, rfl, trivial⟩ (.sel 0 rfl (.nil _))
 refine sim_exi ?_
 refine exi_then ?_
 refine exi_loop ?_
 refine exi_here ?_
 exact nrm_cut (s := s9v.1) () ⟨rfl, rfl, rfl, rfl, rfl, trivial⟩ (.sel 0 rfl (.nil _))
 intro s7v y8v
 refine sim_seq (sr ?_)
 refine vm rfl rfl ?_
 refine vq (q_not rfl rfl) rfl ?_
 refine vm rfl rfl ?_
 refine simL_valc (b := !s1v) (fun hb259v => RQ.sub (E' := [(6, .bool s4v)]) ⟨rfl, trivial⟩ (q_move rfl rfl)) rfl rfl rfl rfl rfl ?_
 refine simL_valc (b := !s1v) (fun hb258v => RQ.sub (E' := [(53, .bool s4v)]) ⟨lk_cv rfl hb258v, trivial⟩ (q_not rfl rfl)) rfl rfl rfl rfl rfl ?_
 refine vq (q_or rfl rfl rfl) rfl ?_
 refine vm rfl rfl ?_
 refine simL_valc (b := (!s1v) || (!s4v)) (fun hb257v => RQ.sub (E' := [(0, .slice a0 x0.length c0)]) ⟨rfl, trivial⟩ (q_move rfl rfl)) rfl rfl rfl rfl rfl ?_
 refine simL_valc (b := (!s1v) || (!s4v)) (fun hb256v => RQ.sub (E' := [(57, .slice a0 x0.length c0)]) ⟨lk_cv rfl hb256v, trivial⟩ (q_len rfl rfl rfl Try.underlying27)) rfl rfl rfl rfl rfl ?_
 refine simL_valc (b := (!s1v) || (!s4v)) (fun hb255v => RQ.sub (E' := [(58, .int .i64 (x0.length : Int))]) ⟨lk_cv rfl hb255v, trivial⟩ (q_gtr rfl rfl rfl)) rfl rfl rfl rfl rfl ?_
 refine vq (q_or rfl rfl rfl) rfl ?_
 refine vm rfl rfl ?_
 refine simL_valc (b := ((!s1v) || (!s4v)) || (decide ((300 : Int) < (x0.length : Int)))) (fun hb254v => RQ.sub (E' := [(7, .int .i64 s7v)]) ⟨rfl, trivial⟩ (q_move rfl rfl)) rfl rfl rfl rfl rfl ?_
 refine simL_valc (b := ((!s1v) || (!s4v)) || (decide ((300 : Int) < (x0.length : Int)))) (fun hb253v => RQ.sub (E' := [(62, .int .i64 s7v)]) ⟨lk_cv rfl hb253v, trivial⟩ (q_gtr rfl rfl rfl)) rfl rfl rfl rfl rfl ?_
 refine vq (q_or rfl rfl rfl) rfl (simL_nil (nrm_then ?_))
 refine sim_condb rfl (fun h44v => ?_) (fun h45v => ?_)
 refine sr ?_
 refine vm rfl rfl ?_
 refine va rfl rfl (simL_nil (nrm_then (sim_rtn ?_)))
 refine rtn_then ?_
 exact rtn_fn () rfl rfl rfl (.sel 0 rfl (.nil _))
 refine sim_skip ?_
 refine nrm_then (sr ?_)
 refine vm rfl rfl ?_
 refine simL_bind (fun s46v hs47v => ?_)
 refine simL_eff (re_call (vs := [.slice a0 x0.length c0]) (cap := []) (A := []) (rst := [F]) rfl rfl rfl rfl rfl rfl Try.call30 (.sel 0 rfl (.nil _)) (synodref_Files.calls _ _ k a0 c0 x0 (h0.up (Up.lend 0 rfl) (V36.up (Up.lend 0 rfl))) hc0 hm0) hs47v) rfl rfl rfl ?_
 intro y48v
 refine va rfl rfl (nx ?_)
 refine vm rfl rfl ?_
 refine simL_openV 0 rfl (fun rs49v hl50v => ?_)
 refine simL_bind (fun s55v hs56v => ?_)
 refine simL_if (fun hb57v => ?_) (fun hb57v => ?_)
 refine simL_lend 0 rfl (fun hq51v hq52v hq53v hq54v => ?_)
 refine simL_eff (re_call (vs := [.slice y48v.1 s46v.length y48v.2.1]) (cap := []) (A := []) (rst := [Row 36 3 y48v.1 s46v.length y48v.2.1 rs49v.flatten, y48v.2.2, F]) rfl rfl rfl rfl rfl rfl Try.call29 (.sel 0 rfl (.sel 0 rfl (.sel 0 rfl (.nil _)))) (disk_Load.callsT _ _ k y48v.1 y48v.2.1 s46v ((Rd.asV (hl50v.mono V36w.rd) hq51v).up (Up.lend 0 rfl) (V36.up (Up.lend 1 rfl))) hq52v hq53v) (filt_of hs56v hb57v)) rfl rfl rfl ?_
 intro y58v
 refine vm rfl rfl ?_
 refine vq (q_ext rfl rfl rfl) rfl ?_
 refine vq (q_ext rfl rfl rfl) rfl ?_
 refine va rfl rfl ?_
 refine va rfl rfl (nx ?_)
 refine vm rfl rfl ?_
 refine simL_bind (fun s59v hs60v => ?_)
 refine simL_if (fun hb61v => ?_) (fun hb61v => ?_)
 refine simL_eff (re_call (vs := [.slice a0 x0.length c0]) (cap := []) (A := []) (rst := [obj y58v.1 64 [.map (some y58v.2.1), str s55v.2.2.1, .int .i64 s55v.2.2.2.1, .bool s55v.2.2.2.2.1], mapF (mapO y58v.2.1 enc9 encP y58v.2.2) FA68 y58v.2.2 s55v.2.1, Row 36 3 y48v.1 s46v.length y48v.2.1 rs49v.flatten, y48v.2.2, F]) rfl rfl rfl rfl rfl rfl Try.call31 (.sel 0 rfl (.sel 0 rfl (.sel 0 rfl (.sel 0 rfl (.sel 0 rfl (.nil _)))))) (synodref4_Load.callsT _ _ k a0 c0 x0 (h0.up (Up.lend 4 rfl) (V36.up (Up.lend 4 rfl))) hc0 hm0) (filt_of hs60v hb61v)) rfl rfl rfl ?_
 intro y62v
 refine vm rfl rfl ?_
 refine vq (q_ext rfl rfl rfl) rfl ?_
 refine vq (q_ext rfl rfl rfl) rfl ?_
 refine va rfl rfl ?_
 refine va rfl rfl (nx ?_)
 refine vm rfl rfl ?_
 refine vm rfl rfl ?_
 refine simL_bind (fun s67v hs68v => ?_)
 refine simL_lend 5 rfl (fun hq63v hq64v hq65v hq66v => ?_)
 refine simL_eff (re_call (vs := [.slice y48v.1 s46v.length y48v.2.1, .slice a0 x0.length c0]) (cap := []) (A := []) (rst := [obj y62v.1 29 [.slice y62v.2.1 s59v.2.1.length y62v.2.2.1, .int .i64 s59v.2.2.1, .bool s59v.2.2.2.1, str s59v.2.2.2.2.1], RowV 36 3 (V36 (y62v.2.2.2)) y62v.2.1 s59v.2.1 y62v.2.2.1, y62v.2.2.2, obj y58v.1 64 [.map (some y58v.2.1), str s55v.2.2.1, .int .i64 s55v.2.2.2.1, .bool s55v.2.2.2.2.1], mapF (mapO y58v.2.1 enc9 encP y58v.2.2) FA68 y58v.2.2 s55v.2.1, Row 36 3 y48v.1 s46v.length y48v.2.1 rs49v.flatten, y48v.2.2, F]) rfl rfl rfl rfl rfl rfl Try.call25 (.sel 0 rfl (.sel 0 rfl (.sel 0 rfl (.sel 0 rfl (.sel 0 rfl (.sel 0 rfl (.sel 0 rfl (.sel 0 rfl (.nil _))))))))) (synodref_SameFiles.calls _ _ k y48v.1 y48v.2.1 s46v a0 c0 x0 ((Rd.asV (hl50v.mono V36w.rd) hq63v).up (Up.lend 5 rfl) (V36.up (Up.lend 6 rfl))) hq64v hq65v (h0.up (Up.lend 7 rfl) (V36.up (Up.lend 7 rfl))) hc0 hm0) hs68v) rfl rfl rfl ?_
 intro y69v
 refine va rfl rfl (simL_nil (nrm_then (sim_seq (sr ?_))))
 refine vm rfl rfl ?_
 refine vq (q_not rfl rfl) rfl ?_
 refine vm rfl rfl ?_
 refine simL_cut' 5 (S := Bool) (Unit) (fun s y => [(1, .slice a1 x1.length c1), (9, .slice y48v.1 s46v.length y48v.2.1), (10, .pointer (some ⟨y58v.1, 0, none⟩)), (12, .pointer (some ⟨y62v.1, 0, none⟩)), (88, .bool s)]) (fun s y => [obj y62v.1 29 [.slice y62v.2.1 s59v.2.1.length y62v.2.2.1, .int .i64 s59v.2.2.1, .bool s59v.2.2.2.1, str s59v.2.2.2.2.1], obj y58v.1 64 [.map (some y58v.2.1), str s55v.2.2.1, .int .i64 s55v.2.2.2.1, .bool s55v.2.2.2.2.1], RowV 36 3 (V36w (y48v.2.2)) y48v.1 s46v y48v.2.1, RowV 36 3 (V36 (y62v.2.2.2)) y62v.2.1 s59v.2.1 y62v.2.2.1, mapF (mapO y58v.2.1 enc9 encP y58v.2.2) FA68 y58v.2.2 s55v.2.1, y48v.2.2, y62v.2.2.2, F]) ?_ ?_
 refine simL_caseb (fun hb75v => ?_) (fun hb76v => ?_)
 rw [hb75v]
 refine simL_skipd rfl rfl rfl rfl rfl rfl ?_
 refine simL_skipd rfl rfl rfl rfl rfl rfl ?_
 refine simL_skipd rfl rfl rfl rfl rfl rfl ?_
 refine simL_skipd rfl rfl rfl rfl rfl rfl ?_
 refine vq (q_pick rfl rfl rfl rfl rfl) rfl (simL_nil ?_)
 exact nrm_cut (s := true) () ⟨rfl, rfl, rfl, rfl, rfl, trivial⟩ (.sel 0 rfl (.sel 2 rfl (.sel' 3 rfl (RowV.mk hl50v) (.sel 0 rfl (.sel 1 rfl (.sel 1 rfl (.sel 0 rfl (.sel 0 rfl (.nil _)))))))))
 rw [hb76v]
 refine simL_valg (q_move rfl rfl) rfl rfl rfl rfl rfl rfl ?_
 refine simL_bind (fun s72v hs73v => ?_)
 refine simL_effg (re_call (vs := [.int .i64 s55v.2.2.2.2.2]) (cap := []) (A := []) (rst := [obj y62v.1 29 [.slice y62v.2.1 s59v.2.1.length y62v.2.2.1, .int .i64 s59v.2.2.1, .bool s59v.2.2.2.1, str s59v.2.2.2.2.1], RowV 36 3 (V36 (y62v.2.2.2)) y62v.2.1 s59v.2.1 y62v.2.2.1, y62v.2.2.2, obj y58v.1 64 [.map (some y58v.2.1), str s55v.2.2.1, .int .i64 s55v.2.2.2.1, .bool s55v.2.2.2.2.1], mapF (mapO y58v.2.1 enc9 encP y58v.2.2) FA68 y58v.2.2 s55v.2.1, Row 36 3 y48v.1 s46v.length y48v.2.1 rs49v.flatten, y48v.2.2, F]) rfl rfl rfl rfl rfl rfl Try.call11 (.sel 0 rfl (.sel 0 rfl (.sel 0 rfl (.sel 0 rfl (.sel 0 rfl (.sel 0 rfl (.sel 0 rfl (.sel 0 rfl (.nil _))))))))) (synodref_Num.calls _ _ s55v.2.2.2.2.2 ) hs73v) rfl rfl rfl rfl rfl rfl ?_
 intro y74v
 refine simL_valg (q_move rfl rfl) rfl rfl rfl rfl rfl rfl ?_
 refine simL_valg (q_neq rfl rfl rfl) rfl rfl rfl rfl rfl rfl ?_
 refine vq (q_pick rfl rfl rfl rfl rfl) rfl (simL_nil ?_)
 exact nrm_cut (s := !decide (s72v = s59v.2.2.2.2.2)) () ⟨rfl, rfl, rfl, rfl, rfl, trivial⟩ (.sel 0 rfl (.sel 2 rfl (.sel' 3 rfl (RowV.mk hl50v) (.sel 0 rfl (.sel 1 rfl (.sel 1 rfl (.sel 0 rfl (.sel 0 rfl (.nil _)))))))))
 intro s70v y71v
 refine vm rfl rfl ?_
 refine simL_valc (b := s70v) (fun hb186v => RQ.sub (E' := [(10, .pointer (some ⟨y58v.1, 0, none⟩))]) ⟨rfl, trivial⟩ (q_move rfl rfl)) rfl rfl rfl rfl rfl ?_
 refine simL_valc (b := s70v) (fun hb185v => RQ.sub (E' := [(90, .pointer (some ⟨y58v.1, 0, none⟩))]) ⟨lk_cv rfl hb185v, trivial⟩ (q_eqp rfl rfl rfl Try.underlying24)) rfl rfl rfl rfl rfl ?_
 refine simL_valc (b := s70v) (fun hb184v => RQ.sub (E' := [(12, .pointer (some ⟨y62v.1, 0, none⟩))]) ⟨rfl, trivial⟩ (q_move rfl rfl)) rfl rfl rfl rfl rfl ?_
 refine simL_valc (b := s70v) (fun hb183v => RQ.sub (E' := [(92, .pointer (some ⟨y62v.1, 0, none⟩))]) ⟨lk_cv rfl hb183v, trivial⟩ (q_eqp rfl rfl rfl Try.underlying26)) rfl rfl rfl rfl rfl ?_
 refine simL_valc (b := s70v) (fun hb182v => RQ.sub (E' := [(91, .bool false), (93, .bool false)]) ⟨lk_cv rfl hb182v, lk_cv rfl hb182v, trivial⟩ (q_neb rfl rfl rfl Try.underlying4)) rfl rfl rfl rfl rfl ?_
 refine vq (q_or rfl rfl rfl) rfl (simL_nil (nrm_then ?_))
 refine sim_condb rfl (fun h77v => ?_) (fun h78v => ?_)
 refine sr ?_
 refine va rfl rfl (simL_nil (nrm_then (sim_rtn ?_)))
 refine rtn_then ?_
 exact rtn_fn () rfl rfl rfl (.sel 7 rfl (.nil _))
 refine sim_skip ?_
 refine nrm_then (sim_seq (sr ?_))
 refine vm rfl rfl ?_
 refine vq (q_eqp rfl rfl rfl Try.underlying26) rfl (simL_nil (nrm_then ?_))
 refine sim_false rfl ?_
 refine sim_skip ?_
 refine nrm_then ?_
 refine sim_cut (S := Unit) (Unit) (fun s y => [(1, .slice a1 x1.length c1), (10, .pointer (some ⟨y58v.1, 0, none⟩)), (12, .pointer (some ⟨y62v.1, 0, none⟩))]) (fun s y => [obj y62v.1 29 [.slice y62v.2.1 s59v.2.1.length y62v.2.2.1, .int .i64 s59v.2.2.1, .bool s59v.2.2.2.1, str s59v.2.2.2.2.1], obj y58v.1 64 [.map (some y58v.2.1), str s55v.2.2.1, .int .i64 s55v.2.2.2.1, .bool s55v.2.2.2.2.1], RowV 36 3 (V36 (y62v.2.2.2)) y62v.2.1 s59v.2.1 y62v.2.2.1, mapF (mapO y58v.2.1 enc9 encP y58v.2.2) FA68 y58v.2.2 s55v.2.1, y62v.2.2.2, F]) ?_ ?_
 refine sr ?_
 refine va rfl rfl (simL_nil (nrm_then ?_))
 refine sim_block ?_
 refine sim_ent (H' := [obj y62v.1 29 [.slice y62v.2.1 s59v.2.1.length y62v.2.2.1, .int .i64 s59v.2.2.1, .bool s59v.2.2.2.1, str s59v.2.2.2.2.1], obj y58v.1 64 [.map (some y58v.2.1), str s55v.2.2.1, .int .i64 s55v.2.2.2.1, .bool s55v.2.2.2.2.1], RowV 36 3 (V36w (y48v.2.2)) y48v.1 s46v y48v.2.1, RowV 36 3 (V36 (y62v.2.2.2)) y62v.2.1 s59v.2.1 y62v.2.2.1, mapF (mapO y58v.2.1 enc9 encP y58v.2.2) FA68 y58v.2.2 s55v.2.1, (Shp y48v.2.2), y62v.2.2.2, F]) (Ent.set' 5 rfl (fun h x => Shp.of h x)) ?_
 refine sim_ent (H' := [obj y62v.1 29 [.slice y62v.2.1 s59v.2.1.length y62v.2.2.1, .int .i64 s59v.2.2.1, .bool s59v.2.2.2.1, str s59v.2.2.2.2.1], obj y58v.1 64 [.map (some y58v.2.1), str s55v.2.2.1, .int .i64 s55v.2.2.2.1, .bool s55v.2.2.2.2.1], RowV 36 3 (V36s ((Shp y48v.2.2))) y48v.1 s46v y48v.2.1, RowV 36 3 (V36 (y62v.2.2.2)) y62v.2.1 s59v.2.1 y62v.2.2.1, mapF (mapO y58v.2.1 enc9 encP y58v.2.2) FA68 y58v.2.2 s55v.2.1, (Shp y48v.2.2), y62v.2.2.2, F]) (Ent.set' 2 rfl (fun _ h => by obtain ⟨rs, hl, hr⟩ := h; exact ⟨rs, hl.mono V36w.shp, hr⟩)) ?_
 refine sim_loop (S := Int) (Unit) (fun k s => synodlaw4_DiskLoads.l1 s46v k s) (fun s y => [(1, .slice a1 x1.length c1), (9, .slice y48v.1 s46v.length y48v.2.1), (10, .pointer (some ⟨y58v.1, 0, none⟩)), (12, .pointer (some ⟨y62v.1, 0, none⟩)), (15, .int .i64 s)]) (fun s y => [obj y62v.1 29 [.slice y62v.2.1 s59v.2.1.length y62v.2.2.1, .int .i64 s59v.2.2.1, .bool s59v.2.2.2.1, str s59v.2.2.2.2.1], obj y58v.1 64 [.map (some y58v.2.1), str s55v.2.2.1, .int .i64 s55v.2.2.2.1, .bool s55v.2.2.2.2.1], RowV 36 3 (V36s ((Shp y48v.2.2))) y48v.1 s46v y48v.2.1, RowV 36 3 (V36 (y62v.2.2.2)) y62v.2.1 s59v.2.1 y62v.2.2.1, mapF (mapO y58v.2.1 enc9 encP y58v.2.2) FA68 y58v.2.2 s55v.2.1, (Shp y48v.2.2), y62v.2.2.2, F]) (fun _ => by rw [synodlaw4_DiskLoads.l1]) ?_ k 0 () ⟨rfl, rfl, rfl, rfl, rfl, trivial⟩ (.sel 0 rfl (.sel 0 rfl (.sel 0 rfl (.sel 0 rfl (.sel 0 rfl (.sel 0 rfl (.sel 0 rfl (.sel 0 rfl (.nil _)))))))))
 intro k s81v y82v
 refine sim_eq (by rw [synodlaw4_DiskLoads.l1]) ?_
 refine sim_seq (sr ?_)
 refine vm rfl rfl ?_
 refine vm rfl rfl ?_
 refine vq (q_len rfl rfl rfl Try.underlying27) rfl ?_
 refine vq (q_lss rfl rfl rfl) rfl (simL_nil (nrm_then ?_))
 refine sim_cond rfl (fun h84v => ?_) (fun h85v => ?_)
 refine sim_skip ?_
 refine nrm_then ?_
 refine sim_cut (S := Unit) (Unit) (fun s y => [(1, .slice a1 x1.length c1), (9, .slice y48v.1 s46v.length y48v.2.1), (10, .pointer (some ⟨y58v.1, 0, none⟩)), (12, .pointer (some ⟨y62v.1, 0, none⟩)), (15, .int .i64 s81v)]) (fun s y => [obj y62v.1 29 [.slice y62v.2.1 s59v.2.1.length y62v.2.2.1, .int .i64 s59v.2.2.1, .bool s59v.2.2.2.1, str s59v.2.2.2.2.1], obj y58v.1 64 [.map (some y58v.2.1), str s55v.2.2.1, .int .i64 s55v.2.2.2.1, .bool s55v.2.2.2.2.1], RowV 36 3 (V36s ((Shp y48v.2.2))) y48v.1 s46v y48v.2.1, RowV 36 3 (V36 (y62v.2.2.2)) y62v.2.1 s59v.2.1 y62v.2.2.1, mapF (mapO y58v.2.1 enc9 encP y58v.2.2) FA68 y58v.2.2 s55v.2.1, (Shp y48v.2.2), y62v.2.2.2, F]) ?_ ?_
 refine sim_block ?_
 refine sr ?_
 refine va rfl rfl (simL_nil (nrm_then ?_))
 refine sim_block ?_
 refine sim_loop (S := Int) (Unit) (fun k s => synodlaw4_DiskLoads.l2 s46v s81v k s) (fun s y => [(1, .slice a1 x1.length c1), (9, .slice y48v.1 s46v.length y48v.2.1), (10, .pointer (some ⟨y58v.1, 0, none⟩)), (12, .pointer (some ⟨y62v.1, 0, none⟩)), (15, .int .i64 s81v), (16, .int .i64 s)]) (fun s y => [obj y62v.1 29 [.slice y62v.2.1 s59v.2.1.length y62v.2.2.1, .int .i64 s59v.2.2.1, .bool s59v.2.2.2.1, str s59v.2.2.2.2.1], obj y58v.1 64 [.map (some y58v.2.1), str s55v.2.2.1, .int .i64 s55v.2.2.2.1, .bool s55v.2.2.2.2.1], RowV 36 3 (V36s ((Shp y48v.2.2))) y48v.1 s46v y48v.2.1, RowV 36 3 (V36 (y62v.2.2.2)) y62v.2.1 s59v.2.1 y62v.2.2.1, mapF (mapO y58v.2.1 enc9 encP y58v.2.2) FA68 y58v.2.2 s55v.2.1, (Shp y48v.2.2), y62v.2.2.2, F]) (fun _ => by rw [synodlaw4_DiskLoads.l2]) ?_ k 0 () ⟨rfl, rfl, rfl, rfl, rfl, rfl, trivial⟩ (.sel 0 rfl (.sel 0 rfl (.sel 0 rfl (.sel 0 rfl (.sel 0 rfl (.sel 0 rfl (.sel 0 rfl (.sel 0 rfl (.nil _)))))))))
 intro k s88v y89v
 refine sim_eq (by rw [synodlaw4_DiskLoads.l2]) ?_
 refine sim_seq (sr ?_)
 refine vm rfl rfl ?_
 refine vm rfl rfl ?_
 refine vm rfl rfl ?_
 refine simL_openV 2 rfl (fun rs99v hl100v => ?_)
 refine simL_ask (fun hi91v => ?_)
 refine simL_posV 2 rfl hl100v rfl (i := s81v.toNat) (by omega) dz36 (fun b92v b92vo r95v ha93v hV96v hlr97v hcell98v => ?_)
 obtain ⟨a101v, c102v, rfl, ⟨he103v, hc104v, hm105v⟩⟩ := hV96v
 refine vq (q_idx rfl rfl rfl ha93v Try.underlying27 Try.sizeOf36 hi91v.1 hi91v.2) rfl ?_
 refine vq (q_fa rfl rfl Try.underlying36 rfl rfl Try.sizeOf34 rfl) rfl ?_
 refine vq (q_load rfl rfl Try.isAgg34 (hcell98v 2 rfl 1 _ rfl)) rfl ?_
 refine vq (q_len rfl rfl rfl Try.underlying34) rfl ?_
 refine vq (q_lss rfl rfl rfl) rfl (simL_nil (nrm_then ?_))
 refine sim_cond rfl (fun h106v => ?_) (fun h107v => ?_)
 refine sim_skip ?_
 refine nrm_then (sim_seq ?_)
 refine sim_block ?_
 refine sim_region ?_
 refine vm rfl rfl ?_
 refine vm rfl rfl ?_
 refine simL_ask (fun hi108v => ?_)
 refine simL_posV 2 rfl hl100v rfl (i := s81v.toNat) (by omega) dz36 (fun b109v b109vo r112v ha110v hV113v hlr114v hcell115v => ?_)
 obtain ⟨a116v, c117v, rfl, ⟨he118v, hc119v, hm120v⟩⟩ := hV113v
 refine vq (q_idx rfl rfl rfl ha110v Try.underlying27 Try.sizeOf36 hi108v.1 hi108v.2) rfl ?_
 refine vq (q_fa rfl rfl Try.underlying36 rfl rfl Try.sizeOf34 rfl) rfl ?_
 refine vq (q_load rfl rfl Try.isAgg34 (hcell115v 2 rfl 1 _ rfl)) rfl ?_
 refine vm rfl rfl ?_
 refine simL_ask (fun hi121v => ?_)
 refine simL_wrt 5 rfl he118v (by have := hc119v; omega) (fun b122v b122vo ha123v => ?_)
 refine vq (q_idx1 rfl rfl rfl ha123v Try.underlying34 Try.sizeOf5 hi121v.1 hi121v.2) rfl ?_
 refine simL_do (re_storeS (c := c117v) (j := s88v.toNat) 5 rfl rfl rfl Try.sizeOf5 rfl (one_of (by rfl)) rfl he118v ha123v (by have := hc119v; omega)) rfl rfl ?_
 intro _
 refine simL_nil (nrm_block (nrm_then (sim_region ?_)))
 refine vm rfl rfl ?_
 refine vq (q_add rfl rfl rfl) rfl ?_
 refine va rfl rfl (simL_nil ?_)
 exact nrm_again (s := IntKind.i64.wrap (s88v + 1)) () ⟨rfl, rfl, rfl, rfl, rfl, rfl, trivial⟩ (.sel 0 rfl (.sel 0 rfl (.sel' 0 rfl (RowV.mk hl100v) (.sel 0 rfl (.sel 0 rfl (.sel 0 rfl (.sel 0 rfl (.sel 0 rfl (.nil _)))))))))
 refine sim_exi ?_
 refine exi_then ?_
 refine exi_loop ?_
 refine exi_here ?_
 refine nrm_block ?_
 exact nrm_cut (s := ()) () ⟨rfl, rfl, rfl, rfl, rfl, trivial⟩ (.sel 0 rfl (.sel 0 rfl (.sel' 0 rfl (RowV.mk hl100v) (.sel 0 rfl (.sel 0 rfl (.sel 0 rfl (.sel 0 rfl (.sel 0 rfl (.nil _)))))))))
 intro s86v y87v
 refine sim_region ?_
 refine vm rfl rfl ?_
 refine vq (q_add rfl rfl rfl) rfl ?_
 refine va rfl rfl (simL_nil ?_)
 exact nrm_again (s := IntKind.i64.wrap (s81v + 1)) () ⟨rfl, rfl, rfl, rfl, rfl, trivial⟩ (.sel 0 rfl (.sel 0 rfl (.sel 0 rfl (.sel 0 rfl (.sel 0 rfl (.sel 0 rfl (.sel 0 rfl (.sel 0 rfl (.nil _)))))))))
 refine sim_exi ?_
 refine exi_then ?_
 refine exi_loop ?_
 refine exi_here ?_
 exact nrm_cut (s := ()) () ⟨rfl, rfl, rfl, trivial⟩ (.sel 0 rfl (.sel 0 rfl (.sel 1 rfl (.sel 1 rfl (.sel 2 rfl (.sel 2 rfl (.nil _)))))))
 intro s79v y80v
 refine sr ?_
 refine vm rfl rfl ?_
 refine vm rfl rfl ?_
 refine simL_openV 2 rfl (fun rs125v hl126v => ?_)
 refine simL_bind (fun s131v hs132v => ?_)
 refine simL_lend 2 rfl (fun hq127v hq128v hq129v hq130v => ?_)
 refine simL_eff (re_call (vs := [.pointer (some ⟨y58v.1, 0, none⟩), .pointer (some ⟨y62v.1, 0, none⟩)]) (cap := []) (A := [obj y58v.1 64 [.map (some y58v.2.1), str s55v.2.2.1, .int .i64 s55v.2.2.2.1, .bool s55v.2.2.2.2.1], mapF (mapO y58v.2.1 enc9 encP y58v.2.2) FA68 y58v.2.2 s55v.2.1, obj y62v.1 29 [.slice y62v.2.1 s59v.2.1.length y62v.2.2.1, .int .i64 s59v.2.2.1, .bool s59v.2.2.2.1, str s59v.2.2.2.2.1]]) (rst := [Row 36 3 y62v.2.1 s59v.2.1.length y62v.2.2.1 rs125v.flatten, y62v.2.2.2, F]) rfl rfl rfl rfl rfl rfl Try.call28 (.sel 1 rfl (.sel 2 rfl (.sel 0 rfl (.sel 0 rfl (.sel 0 rfl (.sel 0 rfl (.nil _))))))) (synodlaw4_Same.calls _ _ k y58v.1 y58v.2.1 y58v.2.2 s55v.2.1 s55v.2.2.1 s55v.2.2.2.1 s55v.2.2.2.2.1 y62v.1 y62v.2.1 y62v.2.2.1 s59v.2.1 s59v.2.2.1 s59v.2.2.2.1 s59v.2.2.2.2.1 ((Rd.asV hl126v hq127v).up (Up.lend 0 rfl) (V36.up (Up.lend 1 rfl))) hq128v hq129v) hs132v) rfl rfl rfl ?_
 intro y133v
 refine va rfl rfl (simL_nil (nrm_then ?_))
 refine sim_cut (S := Bool) (Unit) (fun s y => [(17, .bool s)]) (fun s y => [F]) ?_ ?_
 refine sr ?_
 refine va rfl rfl (simL_nil (nrm_then ?_))
 refine sim_block ?_
 refine sim_loop (S := Bool × Int × (List ((List UInt8) × (List UInt8 × Int))) × List UInt8 × Int × Bool × (List (Ty36)) × Int × Bool × List UInt8) (Nat × Kps × HA × Option Addr × Nat) (fun k s => synodlaw4_DiskLoads.l3 x1 k s.1 s.2.1 s.2.2.1 s.2.2.2.1 s.2.2.2.2.1 s.2.2.2.2.2.1 s.2.2.2.2.2.2.1 s.2.2.2.2.2.2.2.1 s.2.2.2.2.2.2.2.2.1 s.2.2.2.2.2.2.2.2.2) (fun s y => [(1, .slice a1 x1.length c1), (10, .pointer (some ⟨y58v.1, 0, none⟩)), (12, .pointer (some ⟨y62v.1, 0, none⟩)), (17, .bool s.1), (18, .int .i64 s.2.1)]) (fun s y => [obj y58v.1 64 [.map (some y.1), str s.2.2.2.1, .int .i64 s.2.2.2.2.1, .bool s.2.2.2.2.2.1], obj y62v.1 29 [.slice y.2.2.2.1 s.2.2.2.2.2.2.1.length y.2.2.2.2, .int .i64 s.2.2.2.2.2.2.2.1, .bool s.2.2.2.2.2.2.2.2.1, str s.2.2.2.2.2.2.2.2.2], mapF (mapO y.1 enc9 encP y.2.1) FA68 y.2.1 s.2.2.1, RowV 36 3 (V36 (y.2.2.1)) y.2.2.2.1 s.2.2.2.2.2.2.1 y.2.2.2.2, y.2.2.1, F]) (fun _ => by rw [synodlaw4_DiskLoads.l3]) ?_ k (s131v, 0, s55v.2.1, s55v.2.2.1, s55v.2.2.2.1, s55v.2.2.2.2.1, s59v.2.1, s59v.2.2.1, s59v.2.2.2.1, s59v.2.2.2.2.1) (y58v.2.1, y58v.2.2, y62v.2.2.2, y62v.2.1, y62v.2.2.1) ⟨rfl, rfl, rfl, rfl, rfl, trivial⟩ (.sel 0 rfl (.sel 1 rfl (.sel 0 rfl (.sel' 0 rfl (RowV.mk hl126v) (.sel 0 rfl (.sel 0 rfl (.nil _)))))))
 intro k s136v y137v
 refine sim_eq (by rw [synodlaw4_DiskLoads.l3]) ?_
 refine sim_seq (sr ?_)
 refine vm rfl rfl ?_
 refine vm rfl rfl ?_
 refine vq (q_len rfl rfl rfl Try.underlying42) rfl ?_
 refine vq (q_lss rfl rfl rfl) rfl ?_
 refine vm rfl rfl ?_
 refine simL_valc (b := decide (s136v.2.1 < (x1.length : Int))) (fun hb181v => RQ.sub (E' := [(17, .bool s136v.1)]) ⟨rfl, trivial⟩ (q_move rfl rfl)) rfl rfl rfl rfl rfl ?_
 refine vq (q_and rfl rfl rfl) rfl (simL_nil (nrm_then ?_))
 refine sim_condb rfl (fun h148v => ?_) (fun h149v => ?_)
 refine sim_skip ?_
 refine nrm_then (sim_seq ?_)
 refine sim_block ?_
 refine sr ?_
 refine vm rfl rfl ?_
 refine vm rfl rfl ?_
 refine vm rfl rfl ?_
 refine vm rfl rfl ?_
 refine simL_ask (fun hi150v => ?_)
 obtain ⟨b151v, b151vo, r154v, ha152v, hV155v, hlr156v, hcell157v⟩ := RdV.pos h1 (Up.refl _) rfl (i := s136v.2.1.toNat) (by omega) dz52
 obtain ⟨a158v, c159v, rfl, ⟨he160v, hc161v, hm162v⟩⟩ := hV155v
 refine vq (q_idx rfl rfl rfl ha152v Try.underlying42 Try.sizeOf52 hi150v.1 hi150v.2) rfl ?_
 refine vq (q_loads rfl rfl Try.isAgg52 Try.sizeOf52 rfl (fun j v hj => hcell157v 5 rfl j v hj)) rfl ?_
 refine simL_openV 3 rfl (fun rs163v hl164v => ?_)
 refine simL_bind (fun s165v hs166v => ?_)
 refine simL_eff (re_call (vs := [.pointer (some ⟨y58v.1, 0, none⟩), .pointer (some ⟨y62v.1, 0, none⟩), .agg #[.int .i64 ((x1.getD s136v.2.1.toNat dz52).1), .int .i64 ((x1.getD s136v.2.1.toNat dz52).2.1), str ((x1.getD s136v.2.1.toNat dz52).2.2.1), str ((x1.getD s136v.2.1.toNat dz52).2.2.2.1), .slice a158v (((x1.getD s136v.2.1.toNat dz52).2.2.2.2).length) c159v]]) (cap := []) (A := [obj y58v.1 64 [.map (some y137v.1), str s136v.2.2.2.1, .int .i64 s136v.2.2.2.2.1, .bool s136v.2.2.2.2.2.1], mapF (mapO y137v.1 enc9 encP y137v.2.1) FA68 y137v.2.1 s136v.2.2.1, obj y62v.1 29 [.slice y137v.2.2.2.1 s136v.2.2.2.2.2.2.1.length y137v.2.2.2.2, .int .i64 s136v.2.2.2.2.2.2.2.1, .bool s136v.2.2.2.2.2.2.2.2.1, str s136v.2.2.2.2.2.2.2.2.2], RowV 36 3 (V36 (y137v.2.2.1)) y137v.2.2.2.1 s136v.2.2.2.2.2.2.1 y137v.2.2.2.2, y137v.2.2.1]) (rst := [F]) rfl rfl rfl rfl rfl rfl Try.call27 (.sel 0 rfl (.sel 1 rfl (.sel 0 rfl (.sel' 0 rfl (RowV.mk hl164v) (.sel 0 rfl (.sel 0 rfl (.nil _))))))) (synodlaw4_Does.calls _ _ k y58v.1 y137v.1 y137v.2.1 s136v.2.2.1 s136v.2.2.2.1 s136v.2.2.2.2.1 s136v.2.2.2.2.2.1 y62v.1 y137v.2.2.2.1 y137v.2.2.2.2 s136v.2.2.2.2.2.2.1 y137v.2.2.1 s136v.2.2.2.2.2.2.2.1 s136v.2.2.2.2.2.2.2.2.1 s136v.2.2.2.2.2.2.2.2.2 ((x1.getD s136v.2.1.toNat dz52).1) ((x1.getD s136v.2.1.toNat dz52).2.1) ((x1.getD s136v.2.1.toNat dz52).2.2.1) ((x1.getD s136v.2.1.toNat dz52).2.2.2.1) a158v c159v ((x1.getD s136v.2.1.toNat dz52).2.2.2.2) (he160v.lend 0 rfl) hc161v hm162v) hs166v) rfl rfl rfl ?_
 intro y167v
 refine va rfl rfl (ny ?_)
 refine vm rfl rfl ?_
 refine vm rfl rfl ?_
 refine simL_cut' 4 (S := Bool) (Unit) (fun s y => [(1, .slice a1 x1.length c1), (10, .pointer (some ⟨y58v.1, 0, none⟩)), (12, .pointer (some ⟨y62v.1, 0, none⟩)), (18, .int .i64 s136v.2.1), (145, .bool s)]) (fun s y => [obj y58v.1 64 [.map (some y167v.1), str s165v.2.2.1, .int .i64 s165v.2.2.2.1, .bool s165v.2.2.2.2.1], obj y62v.1 29 [.slice y167v.2.2.1 s165v.2.2.2.2.2.1.length y167v.2.2.2.1, .int .i64 s165v.2.2.2.2.2.2.1, .bool s165v.2.2.2.2.2.2.2.1, str s165v.2.2.2.2.2.2.2.2], mapF (mapO y167v.1 enc9 encP y167v.2.1) FA68 y167v.2.1 s165v.2.1, RowV 36 3 (V36 (y167v.2.2.2.2)) y167v.2.2.1 s165v.2.2.2.2.2.1 y167v.2.2.2.1, y167v.2.2.2.2, F]) ?_ ?_
 refine simL_caseb (fun hb179v => ?_) (fun hb180v => ?_)
 rw [hb179v]
 refine simL_valg (q_move rfl rfl) rfl rfl rfl rfl rfl rfl ?_
 refine simL_valg (q_move rfl rfl) rfl rfl rfl rfl rfl rfl ?_
 refine simL_openV 3 rfl (fun rs170v hl171v => ?_)
 refine simL_bind (fun s176v hs177v => ?_)
 refine simL_lend 3 rfl (fun hq172v hq173v hq174v hq175v => ?_)
 refine simL_effg (re_call (vs := [.pointer (some ⟨y58v.1, 0, none⟩), .pointer (some ⟨y62v.1, 0, none⟩)]) (cap := []) (A := [obj y58v.1 64 [.map (some y167v.1), str s165v.2.2.1, .int .i64 s165v.2.2.2.1, .bool s165v.2.2.2.2.1], mapF (mapO y167v.1 enc9 encP y167v.2.1) FA68 y167v.2.1 s165v.2.1, obj y62v.1 29 [.slice y167v.2.2.1 s165v.2.2.2.2.2.1.length y167v.2.2.2.1, .int .i64 s165v.2.2.2.2.2.2.1, .bool s165v.2.2.2.2.2.2.2.1, str s165v.2.2.2.2.2.2.2.2]]) (rst := [Row 36 3 y167v.2.2.1 s165v.2.2.2.2.2.1.length y167v.2.2.2.1 rs170v.flatten, y167v.2.2.2.2, F]) rfl rfl rfl rfl rfl rfl Try.call28 (.sel 0 rfl (.sel 0 rfl (.sel 0 rfl (.sel 0 rfl (.sel 0 rfl (.sel 0 rfl (.nil _))))))) (synodlaw4_Same.calls _ _ k y58v.1 y167v.1 y167v.2.1 s165v.2.1 s165v.2.2.1 s165v.2.2.2.1 s165v.2.2.2.2.1 y62v.1 y167v.2.2.1 y167v.2.2.2.1 s165v.2.2.2.2.2.1 s165v.2.2.2.2.2.2.1 s165v.2.2.2.2.2.2.2.1 s165v.2.2.2.2.2.2.2.2 ((Rd.asV hl171v hq172v).up (Up.lend 0 rfl) (V36.up (Up.lend 1 rfl))) hq173v hq174v) hs177v) rfl rfl rfl rfl rfl rfl ?_
 intro y178v
 refine vq (q_pick rfl rfl rfl rfl rfl) rfl (simL_nil ?_)
 exact nrm_cut (s := s176v) () ⟨rfl, rfl, rfl, rfl, rfl, trivial⟩ (.sel 0 rfl (.sel 1 rfl (.sel 0 rfl (.sel' 0 rfl (RowV.mk hl171v) (.sel 0 rfl (.sel 0 rfl (.nil _)))))))
 rw [hb180v]
 refine simL_skipd rfl rfl rfl rfl rfl rfl ?_
 refine simL_skipd rfl rfl rfl rfl rfl rfl ?_
 refine simL_skipd rfl rfl rfl rfl rfl rfl ?_
 refine vq (q_pick rfl rfl rfl rfl rfl) rfl (simL_nil ?_)
 exact nrm_cut (s := false) () ⟨rfl, rfl, rfl, rfl, rfl, trivial⟩ (.sel 0 rfl (.sel 1 rfl (.sel 0 rfl (.sel 0 rfl (.sel 0 rfl (.sel 0 rfl (.nil _)))))))
 intro s168v y169v
 refine va rfl rfl (simL_nil (nrm_block (nrm_then (sim_region ?_))))
 refine vm rfl rfl ?_
 refine vq (q_add rfl rfl rfl) rfl ?_
 refine va rfl rfl (simL_nil ?_)
 exact nrm_again (s := (s168v, IntKind.i64.wrap (s136v.2.1 + 1), s165v.2.1, s165v.2.2.1, s165v.2.2.2.1, s165v.2.2.2.2.1, s165v.2.2.2.2.2.1, s165v.2.2.2.2.2.2.1, s165v.2.2.2.2.2.2.2.1, s165v.2.2.2.2.2.2.2.2)) (y167v.1, y167v.2.1, y167v.2.2.2.2, y167v.2.2.1, y167v.2.2.2.1) ⟨rfl, rfl, rfl, rfl, rfl, trivial⟩ (.sel 0 rfl (.sel 0 rfl (.sel 0 rfl (.sel 0 rfl (.sel 0 rfl (.sel 0 rfl (.nil _)))))))
 refine sim_exi ?_
 refine exi_then ?_
 refine exi_loop ?_
 refine exi_here ?_
 exact nrm_cut (s := s136v.1) () ⟨rfl, trivial⟩ (.sel 5 rfl (.nil _))
 intro s134v y135v
 refine sr ?_
 refine vm rfl rfl ?_
 refine va rfl rfl (simL_nil (nrm_then (sim_rtn ?_)))
 exact rtn_fn () rfl rfl rfl (.sel 0 rfl (.nil _))
 refine simL_eff (re_call (vs := [.slice a0 x0.length c0]) (cap := []) (A := []) (rst := [obj y58v.1 64 [.map (some y58v.2.1), str s55v.2.2.1, .int .i64 s55v.2.2.2.1, .bool s55v.2.2.2.2.1], mapF (mapO y58v.2.1 enc9 encP y58v.2.2) FA68 y58v.2.2 s55v.2.1, Row 36 3 y48v.1 s46v.length y48v.2.1 rs49v.flatten, y48v.2.2, F]) rfl rfl rfl rfl rfl rfl Try.call31 (.sel 0 rfl (.sel 0 rfl (.sel 0 rfl (.sel 0 rfl (.sel 0 rfl (.nil _)))))) (synodref4_Load.callsN _ _ k a0 c0 x0 (h0.up (Up.lend 4 rfl) (V36.up (Up.lend 4 rfl))) hc0 hm0) (filt_of hs60v (eq_false_of_ne_true hb61v))) rfl rfl rfl ?_
 intro y187v
 refine vm rfl rfl ?_
 refine vq (q_ext rfl rfl rfl) rfl ?_
 refine vq (q_ext rfl rfl rfl) rfl ?_
 refine va rfl rfl ?_
 refine va rfl rfl (nx ?_)
 refine vm rfl rfl ?_
 refine vm rfl rfl ?_
 refine simL_bind (fun s192v hs193v => ?_)
 refine simL_lend 2 rfl (fun hq188v hq189v hq190v hq191v => ?_)
 refine simL_eff (re_call (vs := [.slice y48v.1 s46v.length y48v.2.1, .slice a0 x0.length c0]) (cap := []) (A := []) (rst := [obj y58v.1 64 [.map (some y58v.2.1), str s55v.2.2.1, .int .i64 s55v.2.2.2.1, .bool s55v.2.2.2.2.1], mapF (mapO y58v.2.1 enc9 encP y58v.2.2) FA68 y58v.2.2 s55v.2.1, Row 36 3 y48v.1 s46v.length y48v.2.1 rs49v.flatten, y48v.2.2, F]) rfl rfl rfl rfl rfl rfl Try.call25 (.sel 0 rfl (.sel 0 rfl (.sel 0 rfl (.sel 0 rfl (.sel 0 rfl (.nil _)))))) (synodref_SameFiles.calls _ _ k y48v.1 y48v.2.1 s46v a0 c0 x0 ((Rd.asV (hl50v.mono V36w.rd) hq188v).up (Up.lend 2 rfl) (V36.up (Up.lend 3 rfl))) hq189v hq190v (h0.up (Up.lend 4 rfl) (V36.up (Up.lend 4 rfl))) hc0 hm0) hs193v) rfl rfl rfl ?_
 intro y194v
 refine va rfl rfl (simL_nil (nrm_then (sim_seq (sr ?_))))
 refine vm rfl rfl ?_
 refine vq (q_not rfl rfl) rfl ?_
 refine vm rfl rfl ?_
 refine simL_cut' 5 (S := Bool) (Unit) (fun s y => [(1, .slice a1 x1.length c1), (9, .slice y48v.1 s46v.length y48v.2.1), (10, .pointer (some ⟨y58v.1, 0, none⟩)), (12, .pointer none), (88, .bool s)]) (fun s y => [obj y58v.1 64 [.map (some y58v.2.1), str s55v.2.2.1, .int .i64 s55v.2.2.2.1, .bool s55v.2.2.2.2.1], RowV 36 3 (V36w (y48v.2.2)) y48v.1 s46v y48v.2.1, mapF (mapO y58v.2.1 enc9 encP y58v.2.2) FA68 y58v.2.2 s55v.2.1, y48v.2.2, F]) ?_ ?_
 refine simL_caseb (fun hb200v => ?_) (fun hb201v => ?_)
 rw [hb200v]
 refine simL_skipd rfl rfl rfl rfl rfl rfl ?_
 refine simL_skipd rfl rfl rfl rfl rfl rfl ?_
 refine simL_skipd rfl rfl rfl rfl rfl rfl ?_
 refine simL_skipd rfl rfl rfl rfl rfl rfl ?_
 refine vq (q_pick rfl rfl rfl rfl rfl) rfl (simL_nil ?_)
 exact nrm_cut (s := true) () ⟨rfl, rfl, rfl, rfl, rfl, trivial⟩ (.sel 0 rfl (.sel' 1 rfl (RowV.mk hl50v) (.sel 0 rfl (.sel 0 rfl (.sel 0 rfl (.nil _))))))
 rw [hb201v]
 refine simL_valg (q_move rfl rfl) rfl rfl rfl rfl rfl rfl ?_
 refine simL_bind (fun s197v hs198v => ?_)
 refine simL_effg (re_call (vs := [.int .i64 s55v.2.2.2.2.2]) (cap := []) (A := []) (rst := [obj y58v.1 64 [.map (some y58v.2.1), str s55v.2.2.1, .int .i64 s55v.2.2.2.1, .bool s55v.2.2.2.2.1], mapF (mapO y58v.2.1 enc9 encP y58v.2.2) FA68 y58v.2.2 s55v.2.1, Row 36 3 y48v.1 s46v.length y48v.2.1 rs49v.flatten, y48v.2.2, F]) rfl rfl rfl rfl rfl rfl Try.call11 (.sel 0 rfl (.sel 0 rfl (.sel 0 rfl (.sel 0 rfl (.sel 0 rfl (.nil _)))))) (synodref_Num.calls _ _ s55v.2.2.2.2.2 ) hs198v) rfl rfl rfl rfl rfl rfl ?_
 intro y199v
 refine simL_valg (q_move rfl rfl) rfl rfl rfl rfl rfl rfl ?_
 refine simL_valg (q_neq rfl rfl rfl) rfl rfl rfl rfl rfl rfl ?_
 refine vq (q_pick rfl rfl rfl rfl rfl) rfl (simL_nil ?_)
 exact nrm_cut (s := !decide (s197v = s59v.2.2.2.2.2)) () ⟨rfl, rfl, rfl, rfl, rfl, trivial⟩ (.sel 0 rfl (.sel' 1 rfl (RowV.mk hl50v) (.sel 0 rfl (.sel 0 rfl (.sel 0 rfl (.nil _))))))
 intro s195v y196v
 refine vm rfl rfl ?_
 refine simL_valc (b := s195v) (fun hb206v => RQ.sub (E' := [(10, .pointer (some ⟨y58v.1, 0, none⟩))]) ⟨rfl, trivial⟩ (q_move rfl rfl)) rfl rfl rfl rfl rfl ?_
 refine simL_valc (b := s195v) (fun hb205v => RQ.sub (E' := [(90, .pointer (some ⟨y58v.1, 0, none⟩))]) ⟨lk_cv rfl hb205v, trivial⟩ (q_eqp rfl rfl rfl Try.underlying24)) rfl rfl rfl rfl rfl ?_
 refine simL_valc (b := s195v) (fun hb204v => RQ.sub (E' := [(12, .pointer none)]) ⟨rfl, trivial⟩ (q_move rfl rfl)) rfl rfl rfl rfl rfl ?_
 refine simL_valc (b := s195v) (fun hb203v => RQ.sub (E' := [(92, .pointer none)]) ⟨lk_cv rfl hb203v, trivial⟩ (q_eqnn rfl rfl rfl Try.underlying26)) rfl rfl rfl rfl rfl ?_
 refine simL_valc (b := s195v) (fun hb202v => RQ.sub (E' := [(91, .bool false), (93, .bool true)]) ⟨lk_cv rfl hb202v, lk_cv rfl hb202v, trivial⟩ (q_neb rfl rfl rfl Try.underlying4)) rfl rfl rfl rfl rfl ?_
 refine vq (q_or rfl rfl rfl) rfl (simL_nil (nrm_then ?_))
 refine sim_trueb (b := s195v || true) rfl (by simp) ?_
 refine sr ?_
 refine va rfl rfl (simL_nil (nrm_then (sim_rtn ?_)))
 refine rtn_then ?_
 exact rtn_fn () rfl rfl rfl (.sel 4 rfl (.nil _))
 refine simL_lend 0 rfl (fun hq51v hq52v hq53v hq54v => ?_)
 refine simL_eff (re_call (vs := [.slice y48v.1 s46v.length y48v.2.1]) (cap := []) (A := []) (rst := [Row 36 3 y48v.1 s46v.length y48v.2.1 rs49v.flatten, y48v.2.2, F]) rfl rfl rfl rfl rfl rfl Try.call29 (.sel 0 rfl (.sel 0 rfl (.sel 0 rfl (.nil _)))) (disk_Load.callsN _ _ k y48v.1 y48v.2.1 s46v ((Rd.asV (hl50v.mono V36w.rd) hq51v).up (Up.lend 0 rfl) (V36.up (Up.lend 1 rfl))) hq52v hq53v) (filt_of hs56v (eq_false_of_ne_true hb57v))) rfl rfl rfl ?_
 intro y207v
 refine vm rfl rfl ?_
 refine vq (q_ext rfl rfl rfl) rfl ?_
 refine vq (q_ext rfl rfl rfl) rfl ?_
 refine va rfl rfl ?_
 refine va rfl rfl (nx ?_)
 refine vm rfl rfl ?_
 refine simL_bind (fun s208v hs209v => ?_)
 refine simL_if (fun hb210v => ?_) (fun hb210v => ?_)
 refine simL_eff (re_call (vs := [.slice a0 x0.length c0]) (cap := []) (A := []) (rst := [Row 36 3 y48v.1 s46v.length y48v.2.1 rs49v.flatten, y48v.2.2, F]) rfl rfl rfl rfl rfl rfl Try.call31 (.sel 0 rfl (.sel 0 rfl (.sel 0 rfl (.nil _)))) (synodref4_Load.callsT _ _ k a0 c0 x0 (h0.up (Up.lend 2 rfl) (V36.up (Up.lend 2 rfl))) hc0 hm0) (filt_of hs209v hb210v)) rfl rfl rfl ?_
 intro y211v
 refine vm rfl rfl ?_
 refine vq (q_ext rfl rfl rfl) rfl ?_
 refine vq (q_ext rfl rfl rfl) rfl ?_
 refine va rfl rfl ?_
 refine va rfl rfl (nx ?_)
 refine vm rfl rfl ?_
 refine vm rfl rfl ?_
 refine simL_bind (fun s216v hs217v => ?_)
 refine simL_lend 3 rfl (fun hq212v hq213v hq214v hq215v => ?_)
 refine simL_eff (re_call (vs := [.slice y48v.1 s46v.length y48v.2.1, .slice a0 x0.length c0]) (cap := []) (A := []) (rst := [obj y211v.1 29 [.slice y211v.2.1 s208v.2.1.length y211v.2.2.1, .int .i64 s208v.2.2.1, .bool s208v.2.2.2.1, str s208v.2.2.2.2.1], RowV 36 3 (V36 (y211v.2.2.2)) y211v.2.1 s208v.2.1 y211v.2.2.1, y211v.2.2.2, Row 36 3 y48v.1 s46v.length y48v.2.1 rs49v.flatten, y48v.2.2, F]) rfl rfl rfl rfl rfl rfl Try.call25 (.sel 0 rfl (.sel 0 rfl (.sel 0 rfl (.sel 0 rfl (.sel 0 rfl (.sel 0 rfl (.nil _))))))) (synodref_SameFiles.calls _ _ k y48v.1 y48v.2.1 s46v a0 c0 x0 ((Rd.asV (hl50v.mono V36w.rd) hq212v).up (Up.lend 3 rfl) (V36.up (Up.lend 4 rfl))) hq213v hq214v (h0.up (Up.lend 5 rfl) (V36.up (Up.lend 5 rfl))) hc0 hm0) hs217v) rfl rfl rfl ?_
 intro y218v
 refine va rfl rfl (simL_nil (nrm_then (sim_seq (sr ?_))))
 refine vm rfl rfl ?_
 refine vq (q_not rfl rfl) rfl ?_
 refine vm rfl rfl ?_
 refine simL_cut' 5 (S := Bool) (Unit) (fun s y => [(1, .slice a1 x1.length c1), (9, .slice y48v.1 s46v.length y48v.2.1), (10, .pointer none), (12, .pointer (some ⟨y211v.1, 0, none⟩)), (88, .bool s)]) (fun s y => [obj y211v.1 29 [.slice y211v.2.1 s208v.2.1.length y211v.2.2.1, .int .i64 s208v.2.2.1, .bool s208v.2.2.2.1, str s208v.2.2.2.2.1], RowV 36 3 (V36w (y48v.2.2)) y48v.1 s46v y48v.2.1, RowV 36 3 (V36 (y211v.2.2.2)) y211v.2.1 s208v.2.1 y211v.2.2.1, y48v.2.2, y211v.2.2.2, F]) ?_ ?_
 refine simL_caseb (fun hb224v => ?_) (fun hb225v => ?_)
 rw [hb224v]
 refine simL_skipd rfl rfl rfl rfl rfl rfl ?_
 refine simL_skipd rfl rfl rfl rfl rfl rfl ?_
 refine simL_skipd rfl rfl rfl rfl rfl rfl ?_
 refine simL_skipd rfl rfl rfl rfl rfl rfl ?_
 refine vq (q_pick rfl rfl rfl rfl rfl) rfl (simL_nil ?_)
 exact nrm_cut (s := true) () ⟨rfl, rfl, rfl, rfl, rfl, trivial⟩ (.sel 0 rfl (.sel' 2 rfl (RowV.mk hl50v) (.sel 0 rfl (.sel 1 rfl (.sel 0 rfl (.sel 0 rfl (.nil _)))))))
 rw [hb225v]
 refine simL_valg (q_move rfl rfl) rfl rfl rfl rfl rfl rfl ?_
 refine simL_bind (fun s221v hs222v => ?_)
 refine simL_effg (re_call (vs := [.int .i64 s55v.2.2.2.2.2]) (cap := []) (A := []) (rst := [obj y211v.1 29 [.slice y211v.2.1 s208v.2.1.length y211v.2.2.1, .int .i64 s208v.2.2.1, .bool s208v.2.2.2.1, str s208v.2.2.2.2.1], RowV 36 3 (V36 (y211v.2.2.2)) y211v.2.1 s208v.2.1 y211v.2.2.1, y211v.2.2.2, Row 36 3 y48v.1 s46v.length y48v.2.1 rs49v.flatten, y48v.2.2, F]) rfl rfl rfl rfl rfl rfl Try.call11 (.sel 0 rfl (.sel 0 rfl (.sel 0 rfl (.sel 0 rfl (.sel 0 rfl (.sel 0 rfl (.nil _))))))) (synodref_Num.calls _ _ s55v.2.2.2.2.2 ) hs222v) rfl rfl rfl rfl rfl rfl ?_
 intro y223v
 refine simL_valg (q_move rfl rfl) rfl rfl rfl rfl rfl rfl ?_
 refine simL_valg (q_neq rfl rfl rfl) rfl rfl rfl rfl rfl rfl ?_
 refine vq (q_pick rfl rfl rfl rfl rfl) rfl (simL_nil ?_)
 exact nrm_cut (s := !decide (s221v = s208v.2.2.2.2.2)) () ⟨rfl, rfl, rfl, rfl, rfl, trivial⟩ (.sel 0 rfl (.sel' 2 rfl (RowV.mk hl50v) (.sel 0 rfl (.sel 1 rfl (.sel 0 rfl (.sel 0 rfl (.nil _)))))))
 intro s219v y220v
 refine vm rfl rfl ?_
 refine simL_valc (b := s219v) (fun hb230v => RQ.sub (E' := [(10, .pointer none)]) ⟨rfl, trivial⟩ (q_move rfl rfl)) rfl rfl rfl rfl rfl ?_
 refine simL_valc (b := s219v) (fun hb229v => RQ.sub (E' := [(90, .pointer none)]) ⟨lk_cv rfl hb229v, trivial⟩ (q_eqnn rfl rfl rfl Try.underlying24)) rfl rfl rfl rfl rfl ?_
 refine simL_valc (b := s219v) (fun hb228v => RQ.sub (E' := [(12, .pointer (some ⟨y211v.1, 0, none⟩))]) ⟨rfl, trivial⟩ (q_move rfl rfl)) rfl rfl rfl rfl rfl ?_
 refine simL_valc (b := s219v) (fun hb227v => RQ.sub (E' := [(92, .pointer (some ⟨y211v.1, 0, none⟩))]) ⟨lk_cv rfl hb227v, trivial⟩ (q_eqp rfl rfl rfl Try.underlying26)) rfl rfl rfl rfl rfl ?_
 refine simL_valc (b := s219v) (fun hb226v => RQ.sub (E' := [(91, .bool true), (93, .bool false)]) ⟨lk_cv rfl hb226v, lk_cv rfl hb226v, trivial⟩ (q_neb rfl rfl rfl Try.underlying4)) rfl rfl rfl rfl rfl ?_
 refine vq (q_or rfl rfl rfl) rfl (simL_nil (nrm_then ?_))
 refine sim_trueb (b := s219v || true) rfl (by simp) ?_
 refine sr ?_
 refine va rfl rfl (simL_nil (nrm_then (sim_rtn ?_)))
 refine rtn_then ?_
 exact rtn_fn () rfl rfl rfl (.sel 5 rfl (.nil _))
 refine simL_eff (re_call (vs := [.slice a0 x0.length c0]) (cap := []) (A := []) (rst := [Row 36 3 y48v.1 s46v.length y48v.2.1 rs49v.flatten, y48v.2.2, F]) rfl rfl rfl rfl rfl rfl Try.call31 (.sel 0 rfl (.sel 0 rfl (.sel 0 rfl (.nil _)))) (synodref4_Load.callsN _ _ k a0 c0 x0 (h0.up (Up.lend 2 rfl) (V36.up (Up.lend 2 rfl))) hc0 hm0) (filt_of hs209v (eq_false_of_ne_true hb210v))) rfl rfl rfl ?_
 intro y231v
 refine vm rfl rfl ?_
 refine vq (q_ext rfl rfl rfl) rfl ?_
 refine vq (q_ext rfl rfl rfl) rfl ?_
 refine va rfl rfl ?_
 refine va rfl rfl (nx ?_)
 refine vm rfl rfl ?_
 refine vm rfl rfl ?_
 refine simL_bind (fun s236v hs237v => ?_)
 refine simL_lend 0 rfl (fun hq232v hq233v hq234v hq235v => ?_)
 refine simL_eff (re_call (vs := [.slice y48v.1 s46v.length y48v.2.1, .slice a0 x0.length c0]) (cap := []) (A := []) (rst := [Row 36 3 y48v.1 s46v.length y48v.2.1 rs49v.flatten, y48v.2.2, F]) rfl rfl rfl rfl rfl rfl Try.call25 (.sel 0 rfl (.sel 0 rfl (.sel 0 rfl (.nil _)))) (synodref_SameFiles.calls _ _ k y48v.1 y48v.2.1 s46v a0 c0 x0 ((Rd.asV (hl50v.mono V36w.rd) hq232v).up (Up.lend 0 rfl) (V36.up (Up.lend 1 rfl))) hq233v hq234v (h0.up (Up.lend 2 rfl) (V36.up (Up.lend 2 rfl))) hc0 hm0) hs237v) rfl rfl rfl ?_
 intro y238v
 refine va rfl rfl (simL_nil (nrm_then (sim_seq (sr ?_))))
 refine vm rfl rfl ?_
 refine vq (q_not rfl rfl) rfl ?_
 refine vm rfl rfl ?_
 refine simL_cut' 5 (S := Bool) (Unit) (fun s y => [(1, .slice a1 x1.length c1), (9, .slice y48v.1 s46v.length y48v.2.1), (10, .pointer none), (12, .pointer none), (88, .bool s)]) (fun s y => [RowV 36 3 (V36w (y48v.2.2)) y48v.1 s46v y48v.2.1, y48v.2.2, F]) ?_ ?_
 refine simL_caseb (fun hb244v => ?_) (fun hb245v => ?_)
 rw [hb244v]
 refine simL_skipd rfl rfl rfl rfl rfl rfl ?_
 refine simL_skipd rfl rfl rfl rfl rfl rfl ?_
 refine simL_skipd rfl rfl rfl rfl rfl rfl ?_
 refine simL_skipd rfl rfl rfl rfl rfl rfl ?_
 refine vq (q_pick rfl rfl rfl rfl rfl) rfl (simL_nil ?_)
 exact nrm_cut (s := true) () ⟨rfl, rfl, rfl, rfl, rfl, trivial⟩ (.sel' 0 rfl (RowV.mk hl50v) (.sel 0 rfl (.sel 0 rfl (.nil _))))
 rw [hb245v]
 refine simL_valg (q_move rfl rfl) rfl rfl rfl rfl rfl rfl ?_
 refine simL_bind (fun s241v hs242v => ?_)
 refine simL_effg (re_call (vs := [.int .i64 s55v.2.2.2.2.2]) (cap := []) (A := []) (rst := [Row 36 3 y48v.1 s46v.length y48v.2.1 rs49v.flatten, y48v.2.2, F]) rfl rfl rfl rfl rfl rfl Try.call11 (.sel 0 rfl (.sel 0 rfl (.sel 0 rfl (.nil _)))) (synodref_Num.calls _ _ s55v.2.2.2.2.2 ) hs242v) rfl rfl rfl rfl rfl rfl ?_
 intro y243v
 refine simL_valg (q_move rfl rfl) rfl rfl rfl rfl rfl rfl ?_
 refine simL_valg (q_neq rfl rfl rfl) rfl rfl rfl rfl rfl rfl ?_
 refine vq (q_pick rfl rfl rfl rfl rfl) rfl (simL_nil ?_)
 exact nrm_cut (s := !decide (s241v = s208v.2.2.2.2.2)) () ⟨rfl, rfl, rfl, rfl, rfl, trivial⟩ (.sel' 0 rfl (RowV.mk hl50v) (.sel 0 rfl (.sel 0 rfl (.nil _))))
 intro s239v y240v
 refine vm rfl rfl ?_
 refine simL_valc (b := s239v) (fun hb252v => RQ.sub (E' := [(10, .pointer none)]) ⟨rfl, trivial⟩ (q_move rfl rfl)) rfl rfl rfl rfl rfl ?_
 refine simL_valc (b := s239v) (fun hb251v => RQ.sub (E' := [(90, .pointer none)]) ⟨lk_cv rfl hb251v, trivial⟩ (q_eqnn rfl rfl rfl Try.underlying24)) rfl rfl rfl rfl rfl ?_
 refine simL_valc (b := s239v) (fun hb250v => RQ.sub (E' := [(12, .pointer none)]) ⟨rfl, trivial⟩ (q_move rfl rfl)) rfl rfl rfl rfl rfl ?_
 refine simL_valc (b := s239v) (fun hb249v => RQ.sub (E' := [(92, .pointer none)]) ⟨lk_cv rfl hb249v, trivial⟩ (q_eqnn rfl rfl rfl Try.underlying26)) rfl rfl rfl rfl rfl ?_
 refine simL_valc (b := s239v) (fun hb248v => RQ.sub (E' := [(91, .bool true), (93, .bool true)]) ⟨lk_cv rfl hb248v, lk_cv rfl hb248v, trivial⟩ (q_neb rfl rfl rfl Try.underlying4)) rfl rfl rfl rfl rfl ?_
 refine vq (q_or rfl rfl rfl) rfl (simL_nil (nrm_then ?_))
 refine sim_condb rfl (fun h246v => ?_) (fun h247v => ?_)
 refine sr ?_
 refine va rfl rfl (simL_nil (nrm_then (sim_rtn ?_)))
 refine rtn_then ?_
 exact rtn_fn () rfl rfl rfl (.sel 2 rfl (.nil _))
 refine sim_skip ?_
 refine nrm_then (sim_seq (sr ?_))
 refine vm rfl rfl ?_
 refine vq (q_eqnn rfl rfl rfl Try.underlying26) rfl (simL_nil (nrm_then ?_))
 refine sim_true rfl ?_
 refine sr ?_
 refine va rfl rfl (simL_nil (nrm_then (sim_rtn ?_)))
 refine rtn_then ?_
 exact rtn_fn () rfl rfl rfl (.sel 2 rfl (.nil _))

def synodlaw4_told.f (k : Nat) (x0_0 : List ((List UInt8) × (List UInt8 × Int))) (x0_1 : List UInt8) (x0_2 : Int) (x0_3 : Bool) (x1_0 : Int) (x1_1 : Int) (x1_2 : List UInt8) (x1_3 : List UInt8) (x1_4 : List UInt8) : Option (Int × (List ((List UInt8) × (List UInt8 × Int))) × List UInt8 × Int × Bool) := orR (if x1_0 = (0 : Int) then ((disk_Disk_Create.f k x0_0 x0_1 x0_2 x0_3 x1_2).bind fun s6v => ((synodref_Num.f s6v.1).bind fun s9v => (some (.inr (s9v, s6v.2.1, s6v.2.2.1, s6v.2.2.2.1, s6v.2.2.2.2))))) else (if x1_0 = (1 : Int) then ((disk_Disk_Append.f x0_0 x0_1 x0_2 x0_3 x1_2 x1_4).bind fun s14v => ((synodref_Num.f s14v.1).bind fun s17v => (some (.inr (s17v, s14v.2.1, s14v.2.2.1, s14v.2.2.2.1, s14v.2.2.2.2))))) else (if x1_0 = (2 : Int) then ((disk_Disk_Sync.f x0_0 x0_1 x0_2 x0_3 x1_2).bind fun s22v => ((synodref_Num.f s22v.1).bind fun s25v => (some (.inr (s25v, s22v.2.1, s22v.2.2.1, s22v.2.2.2.1, s22v.2.2.2.2))))) else (if x1_0 = (3 : Int) then ((disk_Disk_Cut.f x0_0 x0_1 x0_2 x0_3 x1_2 x1_1).bind fun s30v => ((synodref_Num.f s30v.1).bind fun s33v => (some (.inr (s33v, s30v.2.1, s30v.2.2.1, s30v.2.2.2.1, s30v.2.2.2.2))))) else (if x1_0 = (4 : Int) then ((disk_Disk_Rename.f k x0_0 x0_1 x0_2 x0_3 x1_2 x1_3).bind fun s38v => ((synodref_Num.f s38v.1).bind fun s41v => (some (.inr (s41v, s38v.2.1, s38v.2.2.1, s38v.2.2.2.1, s38v.2.2.2.2))))) else (if x1_0 = (5 : Int) then ((disk_Disk_Remove.f x0_0 x0_1 x0_2 x0_3 x1_2).bind fun s46v => ((synodref_Num.f s46v.1).bind fun s49v => (some (.inr (s49v, s46v.2.1, s46v.2.2.1, s46v.2.2.2.1, s46v.2.2.2.2))))) else (if x1_0 = (6 : Int) then ((disk_Disk_Arm.f x0_0 x0_1 x0_2 x0_3 x1_1).bind fun s54v => (some (.inl (x0_0, s54v.1, s54v.2.1, s54v.2.2)))) else (if x1_0 = (7 : Int) then ((disk_Disk_Crash.f x0_0 x0_1 x0_2 x0_3 x1_1).bind fun s59v => (some (.inl (s59v.1, s59v.2.1, s59v.2.2.1, s59v.2.2.2)))) else (some (.inl (x0_0, x0_1, x0_2, x0_3))))))))))) fun s2v => (some (0, s2v.1, s2v.2.1, s2v.2.2.1, s2v.2.2.2))
theorem synodlaw4_told.calls (W : World) (F : HA) (k : Nat) (b0 : Nat) (m0_0 : Nat) (q0_0 : Kps) (x0_0 : List ((List UInt8) × (List UInt8 × Int))) (x0_1 : List UInt8) (x0_2 : Int) (x0_3 : Bool) (x1_0 : Int) (x1_1 : Int) (x1_2 : List UInt8) (x1_3 : List UInt8) (a1_4 : Option Addr) (c1_4 : Nat) (x1_4 : List UInt8) (h1_4 : Rd F a1_4 (encB x1_4)) (hc1_4 : x1_4.length ≤ c1_4) (hm1_4 : c1_4 ≤ maxLen) :
    Fn Try.prog W 26 [.pointer (some ⟨b0, 0, none⟩), .agg #[.int .i64 x1_0, .int .i64 x1_1, str x1_2, str x1_3, .slice a1_4 x1_4.length c1_4]] [obj b0 64 [.map (some m0_0), str x0_1, .int .i64 x0_2, .bool x0_3], mapF (mapO m0_0 enc9 encP q0_0) FA68 q0_0 x0_0] F (synodlaw4_told.f k x0_0 x0_1 x0_2 x0_3 x1_0 x1_1 x1_2 x1_3 x1_4) (fun (r : Int × (List ((List UInt8) × (List UInt8 × Int))) × List UInt8 × Int × Bool) (y : Nat × Kps) => .int .i64 r.1) (fun r y => [obj b0 64 [.map (some y.1), str r.2.2.1, .int .i64 r.2.2.2.1, .bool r.2.2.2.2], mapF (mapO y.1 enc9 encP y.2) FA68 y.2 r.2.1]) := by
 unfold synodlaw4_told.f
 refine fn_intro 67 Try.func26 rfl Try.ntmps26 rfl ?_
 refine sr ?_
 refine simL_eff (re_box rfl rfl rfl) rfl rfl rfl ?_
 intro b1v
 refine va rfl rfl (simL_nil (nrm_then ?_))
 refine sim_cutR (S := (List ((List UInt8) × (List UInt8 × Int))) × List UInt8 × Int × Bool) (Nat × Kps) (fun s y => []) (fun s y => [obj b0 64 [.map (some y.1), str s.2.1, .int .i64 s.2.2.1, .bool s.2.2.2], mapF (mapO y.1 enc9 encP y.2) FA68 y.2 s.1, F]) ?_ ?_
 refine sr ?_
 refine vq (q_fa rfl rfl Try.underlying52 rfl rfl Try.sizeOf3 rfl) rfl ?_
 refine vq (q_load rfl rfl Try.isAgg3 (.obj 0 rfl rfl)) rfl (simL_nil (nrm_then ?_))
 refine sim_block ?_
 refine sr ?_
 refine vq (q_eql rfl rfl rfl) rfl ?_
 refine va rfl rfl (simL_nil (nrm_then ?_))
 refine sim_cond rfl (fun h4v => ?_) (fun h5v => ?_)
 refine sr ?_
 refine vm rfl rfl ?_
 refine vq (q_fa rfl rfl Try.underlying52 rfl rfl Try.sizeOf9 rfl) rfl ?_
 refine vq (q_load rfl rfl Try.isAgg9 (.obj 0 rfl rfl)) rfl ?_
 refine simL_bind (fun s6v hs7v => ?_)
 refine simL_eff (re_call (vs := [.pointer (some ⟨b0, 0, none⟩), str x1_2]) (cap := []) (A := [obj b0 64 [.map (some m0_0), str x0_1, .int .i64 x0_2, .bool x0_3], mapF (mapO m0_0 enc9 encP q0_0) FA68 q0_0 x0_0]) (rst := [obj b1v 52 [.int .i64 x1_0, .int .i64 x1_1, str x1_2, str x1_3, .slice a1_4 x1_4.length c1_4], F]) rfl rfl rfl rfl rfl rfl Try.call12 (.sel 1 rfl (.sel 1 rfl (.sel 0 rfl (.sel 0 rfl (.nil _))))) (disk_Disk_Create.calls _ _ k b0 m0_0 q0_0 x0_0 x0_1 x0_2 x0_3 x1_2 ) hs7v) rfl rfl rfl ?_
 intro y8v
 refine simL_bind (fun s9v hs10v => ?_)
 refine simL_eff (re_call (vs := [.int .i64 s6v.1]) (cap := []) (A := []) (rst := [obj b0 64 [.map (some y8v.1), str s6v.2.2.1, .int .i64 s6v.2.2.2.1, .bool s6v.2.2.2.2], mapF (mapO y8v.1 enc9 encP y8v.2) FA68 y8v.2 s6v.2.1, obj b1v 52 [.int .i64 x1_0, .int .i64 x1_1, str x1_2, str x1_3, .slice a1_4 x1_4.length c1_4], F]) rfl rfl rfl rfl rfl rfl Try.call11 (.sel 0 rfl (.sel 0 rfl (.sel 0 rfl (.sel 0 rfl (.nil _))))) (synodref_Num.calls _ _ s6v.1 ) hs10v) rfl rfl rfl ?_
 intro y11v
 refine va rfl rfl (simL_nil (nrm_then (sim_rtn ?_)))
 refine rtn_block ?_
 refine rtn_cutR ?_
 exact rtn_fn (y8v.1, y8v.2) rfl rfl rfl (.sel 0 rfl (.sel 0 rfl (.sel 1 rfl (.nil _))))
 refine sr ?_
 refine vq (q_eql rfl rfl rfl) rfl ?_
 refine va rfl rfl (simL_nil (nrm_then ?_))
 refine sim_cond rfl (fun h12v => ?_) (fun h13v => ?_)
 refine sr ?_
 refine vm rfl rfl ?_
 refine vq (q_fa rfl rfl Try.underlying52 rfl rfl Try.sizeOf9 rfl) rfl ?_
 refine vq (q_load rfl rfl Try.isAgg9 (.obj 0 rfl rfl)) rfl ?_
 refine vq (q_fa rfl rfl Try.underlying52 rfl rfl Try.sizeOf34 rfl) rfl ?_
 refine vq (q_load rfl rfl Try.isAgg34 (.obj 0 rfl rfl)) rfl ?_
 refine simL_bind (fun s14v hs15v => ?_)
 refine simL_eff (re_call (vs := [.pointer (some ⟨b0, 0, none⟩), str x1_2, .slice a1_4 x1_4.length c1_4]) (cap := []) (A := [obj b0 64 [.map (some m0_0), str x0_1, .int .i64 x0_2, .bool x0_3], mapF (mapO m0_0 enc9 encP q0_0) FA68 q0_0 x0_0]) (rst := [obj b1v 52 [.int .i64 x1_0, .int .i64 x1_1, str x1_2, str x1_3, .slice a1_4 x1_4.length c1_4], F]) rfl rfl rfl rfl rfl rfl Try.call14 (.sel 1 rfl (.sel 1 rfl (.sel 0 rfl (.sel 0 rfl (.nil _))))) (disk_Disk_Append.calls _ _ b0 m0_0 q0_0 x0_0 x0_1 x0_2 x0_3 x1_2 a1_4 c1_4 x1_4 (h1_4.lend 1 rfl) hc1_4 hm1_4) hs15v) rfl rfl rfl ?_
 intro y16v
 refine simL_bind (fun s17v hs18v => ?_)
 refine simL_eff (re_call (vs := [.int .i64 s14v.1]) (cap := []) (A := []) (rst := [obj b0 64 [.map (some y16v.1), str s14v.2.2.1, .int .i64 s14v.2.2.2.1, .bool s14v.2.2.2.2], mapF (mapO y16v.1 enc9 encP y16v.2) FA68 y16v.2 s14v.2.1, obj b1v 52 [.int .i64 x1_0, .int .i64 x1_1, str x1_2, str x1_3, .slice a1_4 x1_4.length c1_4], F]) rfl rfl rfl rfl rfl rfl Try.call11 (.sel 0 rfl (.sel 0 rfl (.sel 0 rfl (.sel 0 rfl (.nil _))))) (synodref_Num.calls _ _ s14v.1 ) hs18v) rfl rfl rfl ?_
 intro y19v
 refine va rfl rfl (simL_nil (nrm_then (sim_rtn ?_)))
 refine rtn_block ?_
 refine rtn_cutR ?_
 exact rtn_fn (y16v.1, y16v.2) rfl rfl rfl (.sel 0 rfl (.sel 0 rfl (.sel 1 rfl (.nil _))))
 refine sr ?_
 refine vq (q_eql rfl rfl rfl) rfl ?_
 refine va rfl rfl (simL_nil (nrm_then ?_))
 refine sim_cond rfl (fun h20v => ?_) (fun h21v => ?_)
 refine sr ?_
 refine vm rfl rfl ?_
 refine vq (q_fa rfl rfl Try.underlying52 rfl rfl Try.sizeOf9 rfl) rfl ?_
 refine vq (q_load rfl rfl Try.isAgg9 (.obj 0 rfl rfl)) rfl ?_
 refine simL_bind (fun s22v hs23v => ?_)
 refine simL_eff (re_call (vs := [.pointer (some ⟨b0, 0, none⟩), str x1_2]) (cap := []) (A := [obj b0 64 [.map (some m0_0), str x0_1, .int .i64 x0_2, .bool x0_3], mapF (mapO m0_0 enc9 encP q0_0) FA68 q0_0 x0_0]) (rst := [obj b1v 52 [.int .i64 x1_0, .int .i64 x1_1, str x1_2, str x1_3, .slice a1_4 x1_4.length c1_4], F]) rfl rfl rfl rfl rfl rfl Try.call32 (.sel 1 rfl (.sel 1 rfl (.sel 0 rfl (.sel 0 rfl (.nil _))))) (disk_Disk_Sync.calls _ _ b0 m0_0 q0_0 x0_0 x0_1 x0_2 x0_3 x1_2 ) hs23v) rfl rfl rfl ?_
 intro y24v
 refine simL_bind (fun s25v hs26v => ?_)
 refine simL_eff (re_call (vs := [.int .i64 s22v.1]) (cap := []) (A := []) (rst := [obj b0 64 [.map (some y24v.1), str s22v.2.2.1, .int .i64 s22v.2.2.2.1, .bool s22v.2.2.2.2], mapF (mapO y24v.1 enc9 encP y24v.2) FA68 y24v.2 s22v.2.1, obj b1v 52 [.int .i64 x1_0, .int .i64 x1_1, str x1_2, str x1_3, .slice a1_4 x1_4.length c1_4], F]) rfl rfl rfl rfl rfl rfl Try.call11 (.sel 0 rfl (.sel 0 rfl (.sel 0 rfl (.sel 0 rfl (.nil _))))) (synodref_Num.calls _ _ s22v.1 ) hs26v) rfl rfl rfl ?_
 intro y27v
 refine va rfl rfl (simL_nil (nrm_then (sim_rtn ?_)))
 refine rtn_block ?_
 refine rtn_cutR ?_
 exact rtn_fn (y24v.1, y24v.2) rfl rfl rfl (.sel 0 rfl (.sel 0 rfl (.sel 1 rfl (.nil _))))
 refine sr ?_
 refine vq (q_eql rfl rfl rfl) rfl ?_
 refine va rfl rfl (simL_nil (nrm_then ?_))
 refine sim_cond rfl (fun h28v => ?_) (fun h29v => ?_)
 refine sr ?_
 refine vm rfl rfl ?_
 refine vq (q_fa rfl rfl Try.underlying52 rfl rfl Try.sizeOf9 rfl) rfl ?_
 refine vq (q_load rfl rfl Try.isAgg9 (.obj 0 rfl rfl)) rfl ?_
 refine vq (q_fa rfl rfl Try.underlying52 rfl rfl Try.sizeOf3 rfl) rfl ?_
 refine vq (q_load rfl rfl Try.isAgg3 (.obj 0 rfl rfl)) rfl ?_
 refine simL_bind (fun s30v hs31v => ?_)
 refine simL_eff (re_call (vs := [.pointer (some ⟨b0, 0, none⟩), str x1_2, .int .i64 x1_1]) (cap := []) (A := [obj b0 64 [.map (some m0_0), str x0_1, .int .i64 x0_2, .bool x0_3], mapF (mapO m0_0 enc9 encP q0_0) FA68 q0_0 x0_0]) (rst := [obj b1v 52 [.int .i64 x1_0, .int .i64 x1_1, str x1_2, str x1_3, .slice a1_4 x1_4.length c1_4], F]) rfl rfl rfl rfl rfl rfl Try.call44 (.sel 1 rfl (.sel 1 rfl (.sel 0 rfl (.sel 0 rfl (.nil _))))) (disk_Disk_Cut.calls _ _ b0 m0_0 q0_0 x0_0 x0_1 x0_2 x0_3 x1_2 x1_1 ) hs31v) rfl rfl rfl ?_
 intro y32v
 refine simL_bind (fun s33v hs34v => ?_)
 refine simL_eff (re_call (vs := [.int .i64 s30v.1]) (cap := []) (A := []) (rst := [obj b0 64 [.map (some y32v.1), str s30v.2.2.1, .int .i64 s30v.2.2.2.1, .bool s30v.2.2.2.2], mapF (mapO y32v.1 enc9 encP y32v.2) FA68 y32v.2 s30v.2.1, obj b1v 52 [.int .i64 x1_0, .int .i64 x1_1, str x1_2, str x1_3, .slice a1_4 x1_4.length c1_4], F]) rfl rfl rfl rfl rfl rfl Try.call11 (.sel 0 rfl (.sel 0 rfl (.sel 0 rfl (.sel 0 rfl (.nil _))))) (synodref_Num.calls _ _ s30v.1 ) hs34v) rfl rfl rfl ?_
 intro y35v
 refine va rfl rfl (simL_nil (nrm_then (sim_rtn ?_)))
 refine rtn_block ?_
 refine rtn_cutR ?_
 exact rtn_fn (y32v.1, y32v.2) rfl rfl rfl (.sel 0 rfl (.sel 0 rfl (.sel 1 rfl (.nil _))))
 refine sr ?_
 refine vq (q_eql rfl rfl rfl) rfl ?_
 refine va rfl rfl (simL_nil (nrm_then ?_))
 refine sim_cond rfl (fun h36v => ?_) (fun h37v => ?_)
 refine sr ?_
 refine vm rfl rfl ?_
 refine vq (q_fa rfl rfl Try.underlying52 rfl rfl Try.sizeOf9 rfl) rfl ?_
 refine vq (q_load rfl rfl Try.isAgg9 (.obj 0 rfl rfl)) rfl ?_
 refine vq (q_fa rfl rfl Try.underlying52 rfl rfl Try.sizeOf9 rfl) rfl ?_
 refine vq (q_load rfl rfl Try.isAgg9 (.obj 0 rfl rfl)) rfl ?_
 refine simL_bind (fun s38v hs39v => ?_)
 refine simL_eff (re_call (vs := [.pointer (some ⟨b0, 0, none⟩), str x1_2, str x1_3]) (cap := []) (A := [obj b0 64 [.map (some m0_0), str x0_1, .int .i64 x0_2, .bool x0_3], mapF (mapO m0_0 enc9 encP q0_0) FA68 q0_0 x0_0]) (rst := [obj b1v 52 [.int .i64 x1_0, .int .i64 x1_1, str x1_2, str x1_3, .slice a1_4 x1_4.length c1_4], F]) rfl rfl rfl rfl rfl rfl Try.call45 (.sel 1 rfl (.sel 1 rfl (.sel 0 rfl (.sel 0 rfl (.nil _))))) (disk_Disk_Rename.calls _ _ k b0 m0_0 q0_0 x0_0 x0_1 x0_2 x0_3 x1_2 x1_3 ) hs39v) rfl rfl rfl ?_
 intro y40v
 refine simL_bind (fun s41v hs42v => ?_)
 refine simL_eff (re_call (vs := [.int .i64 s38v.1]) (cap := []) (A := []) (rst := [obj b0 64 [.map (some y40v.1), str s38v.2.2.1, .int .i64 s38v.2.2.2.1, .bool s38v.2.2.2.2], mapF (mapO y40v.1 enc9 encP y40v.2) FA68 y40v.2 s38v.2.1, obj b1v 52 [.int .i64 x1_0, .int .i64 x1_1, str x1_2, str x1_3, .slice a1_4 x1_4.length c1_4], F]) rfl rfl rfl rfl rfl rfl Try.call11 (.sel 0 rfl (.sel 0 rfl (.sel 0 rfl (.sel 0 rfl (.nil _))))) (synodref_Num.calls _ _ s38v.1 ) hs42v) rfl rfl rfl ?_
 intro y43v
 refine va rfl rfl (simL_nil (nrm_then (sim_rtn ?_)))
 refine rtn_block ?_
 refine rtn_cutR ?_
 exact rtn_fn (y40v.1, y40v.2) rfl rfl rfl (.sel 0 rfl (.sel 0 rfl (.sel 1 rfl (.nil _))))
 refine sr ?_
 refine vq (q_eql rfl rfl rfl) rfl ?_
 refine va rfl rfl (simL_nil (nrm_then ?_))
 refine sim_cond rfl (fun h44v => ?_) (fun h45v => ?_)
 refine sr ?_
 refine vm rfl rfl ?_
 refine vq (q_fa rfl rfl Try.underlying52 rfl rfl Try.sizeOf9 rfl) rfl ?_
 refine vq (q_load rfl rfl Try.isAgg9 (.obj 0 rfl rfl)) rfl ?_
 refine simL_bind (fun s46v hs47v => ?_)
 refine simL_eff (re_call (vs := [.pointer (some ⟨b0, 0, none⟩), str x1_2]) (cap := []) (A := [obj b0 64 [.map (some m0_0), str x0_1, .int .i64 x0_2, .bool x0_3], mapF (mapO m0_0 enc9 encP q0_0) FA68 q0_0 x0_0]) (rst := [obj b1v 52 [.int .i64 x1_0, .int .i64 x1_1, str x1_2, str x1_3, .slice a1_4 x1_4.length c1_4], F]) rfl rfl rfl rfl rfl rfl Try.call46 (.sel 1 rfl (.sel 1 rfl (.sel 0 rfl (.sel 0 rfl (.nil _))))) (disk_Disk_Remove.calls _ _ b0 m0_0 q0_0 x0_0 x0_1 x0_2 x0_3 x1_2 ) hs47v) rfl rfl rfl ?_
 intro y48v
 refine simL_bind (fun s49v hs50v => ?_)
 refine simL_eff (re_call (vs := [.int .i64 s46v.1]) (cap := []) (A := []) (rst := [obj b0 64 [.map (some y48v.1), str s46v.2.2.1, .int .i64 s46v.2.2.2.1, .bool s46v.2.2.2.2], mapF (mapO y48v.1 enc9 encP y48v.2) FA68 y48v.2 s46v.2.1, obj b1v 52 [.int .i64 x1_0, .int .i64 x1_1, str x1_2, str x1_3, .slice a1_4 x1_4.length c1_4], F]) rfl rfl rfl rfl rfl rfl Try.call11 (.sel 0 rfl (.sel 0 rfl (.sel 0 rfl (.sel 0 rfl (.nil _))))) (synodref_Num.calls _ _ s46v.1 ) hs50v) rfl rfl rfl ?_
 intro y51v
 refine va rfl rfl (simL_nil (nrm_then (sim_rtn ?_)))
 refine rtn_block ?_
 refine rtn_cutR ?_
 exact rtn_fn (y48v.1, y48v.2) rfl rfl rfl (.sel 0 rfl (.sel 0 rfl (.sel 1 rfl (.nil _))))
 refine sr ?_
 refine vq (q_eql rfl rfl rfl) rfl ?_
 refine va rfl rfl (simL_nil (nrm_then ?_))
 refine sim_cond rfl (fun h52v => ?_) (fun h53v => ?_)
 refine sim_region ?_
 refine vm rfl rfl ?_
 refine vq (q_fa rfl rfl Try.underlying52 rfl rfl Try.sizeOf3 rfl) rfl ?_
 refine vq (q_load rfl rfl Try.isAgg3 (.obj 0 rfl rfl)) rfl ?_
 refine simL_bind (fun s54v hs55v => ?_)
 refine simL_eff (re_call (vs := [.pointer (some ⟨b0, 0, none⟩), .int .i64 x1_1]) (cap := []) (A := [obj b0 64 [.map (some m0_0), str x0_1, .int .i64 x0_2, .bool x0_3], mapF (mapO m0_0 enc9 encP q0_0) FA68 q0_0 x0_0]) (rst := [obj b1v 52 [.int .i64 x1_0, .int .i64 x1_1, str x1_2, str x1_3, .slice a1_4 x1_4.length c1_4], F]) rfl rfl rfl rfl rfl rfl Try.call47 (.sel 1 rfl (.sel 1 rfl (.sel 0 rfl (.sel 0 rfl (.nil _))))) (disk_Disk_Arm.calls _ _ b0 m0_0 q0_0 x0_0 x0_1 x0_2 x0_3 x1_1 ) hs55v) rfl rfl rfl ?_
 intro y56v
 refine simL_nil (nrm_block ?_)
 exact nrm_cutR (s := (x0_0, s54v.1, s54v.2.1, s54v.2.2)) (m0_0, q0_0) trivial (.sel 0 rfl (.sel 0 rfl (.sel 1 rfl (.nil _))))
 refine sr ?_
 refine vq (q_eql rfl rfl rfl) rfl ?_
 refine va rfl rfl (simL_nil (nrm_then ?_))
 refine sim_cond rfl (fun h57v => ?_) (fun h58v => ?_)
 refine sim_region ?_
 refine vm rfl rfl ?_
 refine vq (q_fa rfl rfl Try.underlying52 rfl rfl Try.sizeOf3 rfl) rfl ?_
 refine vq (q_load rfl rfl Try.isAgg3 (.obj 0 rfl rfl)) rfl ?_
 refine simL_bind (fun s59v hs60v => ?_)
 refine simL_eff (re_call (vs := [.pointer (some ⟨b0, 0, none⟩), .int .i64 x1_1]) (cap := []) (A := [obj b0 64 [.map (some m0_0), str x0_1, .int .i64 x0_2, .bool x0_3], mapF (mapO m0_0 enc9 encP q0_0) FA68 q0_0 x0_0]) (rst := [obj b1v 52 [.int .i64 x1_0, .int .i64 x1_1, str x1_2, str x1_3, .slice a1_4 x1_4.length c1_4], F]) rfl rfl rfl rfl rfl rfl Try.call22 (.sel 1 rfl (.sel 1 rfl (.sel 0 rfl (.sel 0 rfl (.nil _))))) (disk_Disk_Crash.calls _ _ b0 m0_0 q0_0 x0_0 x0_1 x0_2 x0_3 x1_1 ) hs60v) rfl rfl rfl ?_
 intro y61v
 refine simL_nil (nrm_block ?_)
 exact nrm_cutR (s := (s59v.1, s59v.2.1, s59v.2.2.1, s59v.2.2.2)) (y61v.1, y61v.2) trivial (.sel 0 rfl (.sel 0 rfl (.sel 1 rfl (.nil _))))
 refine sim_skip ?_
 refine nrm_block ?_
 exact nrm_cutR (s := (x0_0, x0_1, x0_2, x0_3)) (m0_0, q0_0) trivial (.sel 1 rfl (.sel 1 rfl (.sel 1 rfl (.nil _))))
 intro s2v y3v
 refine sr ?_
 refine va rfl rfl (simL_nil (nrm_then (sim_rtn ?_)))
 exact rtn_fn (y3v.1, y3v.2) rfl rfl rfl (.sel 0 rfl (.sel 0 rfl (.sel 0 rfl (.nil _))))

def synodlaw4_made.l0 (x0 : List (Ty52)) : Nat → Int → List ((List UInt8) × (List UInt8 × Int)) → List UInt8 → Int → Bool → Option ((List ((List UInt8) × (List UInt8 × Int))) × List UInt8 × Int × Bool)
  | 0, _, _, _, _, _ => none
  | k + 1, z8v, z9v, z10v, z11v, z12v => if z8v < (x0.length : Int) then (if 0 ≤ z8v ∧ z8v < (x0.length : Int) then ((synodlaw4_told.f k z9v z10v z11v z12v ((x0.getD z8v.toNat dz52).1) ((x0.getD z8v.toNat dz52).2.1) ((x0.getD z8v.toNat dz52).2.2.1) ((x0.getD z8v.toNat dz52).2.2.2.1) ((x0.getD z8v.toNat dz52).2.2.2.2)).bind fun s28v => (synodlaw4_made.l0 x0 k (IntKind.i64.wrap (z8v + 1)) s28v.2.1 s28v.2.2.1 s28v.2.2.2.1 s28v.2.2.2.2)) else none) else (some (z9v, z10v, z11v, z12v))
def synodlaw4_made.f (k : Nat) (x0 : List (Ty52)) : Option ((List ((List UInt8) × (List UInt8 × Int))) × List UInt8 × Int × Bool) := (disk_New.f).bind fun s1v => ((synodlaw4_made.l0 x0 k 0 s1v.1 s1v.2.1 s1v.2.2.1 s1v.2.2.2).bind fun s4v => (some (s4v.1, s4v.2.1, s4v.2.2.1, s4v.2.2.2)))
theorem synodlaw4_made.calls (W : World) (F : HA) (k : Nat) (a0 : Option Addr) (c0 : Nat) (x0 : List (Ty52)) (h0 : RdV F 5 (V52 F) a0 x0) (hc0 : x0.length ≤ c0) (hm0 : c0 ≤ maxLen) :
    Fn Try.prog W 20 [.slice a0 x0.length c0] [] F (synodlaw4_made.f k x0) (fun (r : (List ((List UInt8) × (List UInt8 × Int))) × List UInt8 × Int × Bool) (y : Nat × Nat × Kps) => .pointer (some ⟨y.1, 0, none⟩)) (fun r y => [obj y.1 64 [.map (some y.2.1), str r.2.1, .int .i64 r.2.2.1, .bool r.2.2.2], mapF (mapO y.2.1 enc9 encP y.2.2) FA68 y.2.2 r.1]) := by
 unfold synodlaw4_made.f
 refine fn_intro 19 Try.func20 rfl Try.ntmps20 rfl ?_
 refine sr ?_
 refine va rfl rfl (nx ?_)
 refine simL_bind (fun s1v hs2v => ?_)
 refine simL_eff (re_call (vs := []) (cap := []) (A := []) (rst := [F]) rfl rfl rfl rfl rfl rfl Try.call10 (.sel 0 rfl (.nil _)) (disk_New.calls _ _  ) hs2v) rfl rfl rfl ?_
 intro y3v
 refine va rfl rfl (simL_nil (nrm_then ?_))
 refine sim_cut (S := (List ((List UInt8) × (List UInt8 × Int))) × List UInt8 × Int × Bool) (Nat × Kps) (fun s y => [(3, .pointer (some ⟨y3v.1, 0, none⟩))]) (fun s y => [obj y3v.1 64 [.map (some y.1), str s.2.1, .int .i64 s.2.2.1, .bool s.2.2.2], mapF (mapO y.1 enc9 encP y.2) FA68 y.2 s.1, F]) ?_ ?_
 refine sr ?_
 refine va rfl rfl (simL_nil (nrm_then ?_))
 refine sim_block ?_
 refine sim_loop (S := Int × (List ((List UInt8) × (List UInt8 × Int))) × List UInt8 × Int × Bool) (Nat × Kps) (fun k s => synodlaw4_made.l0 x0 k s.1 s.2.1 s.2.2.1 s.2.2.2.1 s.2.2.2.2) (fun s y => [(0, .slice a0 x0.length c0), (3, .pointer (some ⟨y3v.1, 0, none⟩)), (4, .int .i64 s.1)]) (fun s y => [obj y3v.1 64 [.map (some y.1), str s.2.2.1, .int .i64 s.2.2.2.1, .bool s.2.2.2.2], mapF (mapO y.1 enc9 encP y.2) FA68 y.2 s.2.1, F]) (fun _ => by rw [synodlaw4_made.l0]) ?_ k (0, s1v.1, s1v.2.1, s1v.2.2.1, s1v.2.2.2) (y3v.2.1, y3v.2.2) ⟨rfl, rfl, rfl, trivial⟩ (.sel 0 rfl (.sel 0 rfl (.sel 0 rfl (.nil _))))
 intro k s6v y7v
 refine sim_eq (by rw [synodlaw4_made.l0]) ?_
 refine sim_seq (sr ?_)
 refine vm rfl rfl ?_
 refine vm rfl rfl ?_
 refine vq (q_len rfl rfl rfl Try.underlying42) rfl ?_
 refine vq (q_lss rfl rfl rfl) rfl (simL_nil (nrm_then ?_))
 refine sim_cond rfl (fun h13v => ?_) (fun h14v => ?_)
 refine sim_skip ?_
 refine nrm_then (sim_seq ?_)
 refine sim_block ?_
 refine sim_region ?_
 refine vm rfl rfl ?_
 refine vm rfl rfl ?_
 refine vm rfl rfl ?_
 refine simL_ask (fun hi15v => ?_)
 obtain ⟨b16v, b16vo, r19v, ha17v, hV20v, hlr21v, hcell22v⟩ := RdV.pos h0 (Up.refl _) rfl (i := s6v.1.toNat) (by omega) dz52
 obtain ⟨a23v, c24v, rfl, ⟨he25v, hc26v, hm27v⟩⟩ := hV20v
 refine vq (q_idx rfl rfl rfl ha17v Try.underlying42 Try.sizeOf52 hi15v.1 hi15v.2) rfl ?_
 refine vq (q_loads rfl rfl Try.isAgg52 Try.sizeOf52 rfl (fun j v hj => hcell22v 2 rfl j v hj)) rfl ?_
 refine simL_bind (fun s28v hs29v => ?_)
 refine simL_eff (re_call (vs := [.pointer (some ⟨y3v.1, 0, none⟩), .agg #[.int .i64 ((x0.getD s6v.1.toNat dz52).1), .int .i64 ((x0.getD s6v.1.toNat dz52).2.1), str ((x0.getD s6v.1.toNat dz52).2.2.1), str ((x0.getD s6v.1.toNat dz52).2.2.2.1), .slice a23v (((x0.getD s6v.1.toNat dz52).2.2.2.2).length) c24v]]) (cap := []) (A := [obj y3v.1 64 [.map (some y7v.1), str s6v.2.2.1, .int .i64 s6v.2.2.2.1, .bool s6v.2.2.2.2], mapF (mapO y7v.1 enc9 encP y7v.2) FA68 y7v.2 s6v.2.1]) (rst := [F]) rfl rfl rfl rfl rfl rfl Try.call26 (.sel 0 rfl (.sel 0 rfl (.sel 0 rfl (.nil _)))) (synodlaw4_told.calls _ _ k y3v.1 y7v.1 y7v.2 s6v.2.1 s6v.2.2.1 s6v.2.2.2.1 s6v.2.2.2.2 ((x0.getD s6v.1.toNat dz52).1) ((x0.getD s6v.1.toNat dz52).2.1) ((x0.getD s6v.1.toNat dz52).2.2.1) ((x0.getD s6v.1.toNat dz52).2.2.2.1) a23v c24v ((x0.getD s6v.1.toNat dz52).2.2.2.2) (he25v.lend 0 rfl) hc26v hm27v) hs29v) rfl rfl rfl ?_
 intro y30v
 refine simL_nil (nrm_block (nrm_then (sim_region ?_)))
 refine vm rfl rfl ?_
 refine vq (q_add rfl rfl rfl) rfl ?_
 refine va rfl rfl (simL_nil ?_)
 exact nrm_again (s := (IntKind.i64.wrap (s6v.1 + 1), s28v.2.1, s28v.2.2.1, s28v.2.2.2.1, s28v.2.2.2.2)) (y30v.1, y30v.2) ⟨rfl, rfl, rfl, trivial⟩ (.sel 0 rfl (.sel 0 rfl (.sel 0 rfl (.nil _))))
 refine sim_exi ?_
 refine exi_then ?_
 refine exi_loop ?_
 refine exi_here ?_
 exact nrm_cut (s := (s6v.2.1, s6v.2.2.1, s6v.2.2.2.1, s6v.2.2.2.2)) (y7v.1, y7v.2) ⟨rfl, trivial⟩ (.sel 0 rfl (.sel 0 rfl (.sel 0 rfl (.nil _))))
 intro s4v y5v
 refine sr ?_
 refine vm rfl rfl ?_
 refine va rfl rfl (simL_nil (nrm_then (sim_rtn ?_)))
 exact rtn_fn (y3v.1, y5v.1, y5v.2) rfl rfl rfl (.sel 0 rfl (.sel 0 rfl (.sel 0 rfl (.nil _))))
end Go.Proofs.Ytkkbgcocpkipjaa

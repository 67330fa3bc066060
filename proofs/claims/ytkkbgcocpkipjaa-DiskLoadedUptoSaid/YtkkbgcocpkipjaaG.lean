/- Printed by gen.py: pure functions and the proofs that the Go functions simulate them. Conditions: as each theorem says. -/
import Derived.Test.YtkkbgcocpkipjaaG1
namespace Go.Proofs.Ytkkbgcocpkipjaa
open Go.RowKit
set_option linter.unusedVariables false
set_option linter.unusedSimpArgs false
set_option maxRecDepth 20000
set_option maxHeartbeats 20000000
def disk_Load.l0 (x0 : List (Ty36)) (s1v : (List ((List UInt8) × (List UInt8 × Int))) × List UInt8 × Int × Bool) : Nat → Int → List ((List UInt8) × (List UInt8 × Int)) → Option (((List ((List UInt8) × (List UInt8 × Int)))) ⊕ (Bool × (List ((List UInt8) × (List UInt8 × Int))) × List UInt8 × Int × Bool × Int))
  | 0, _, _ => none
  | k + 1, z8v, z9v => if z8v < (x0.length : Int) then (if 0 ≤ z8v ∧ z8v < (x0.length : Int) then ((disk_named.f k ((x0.getD z8v.toNat dz36).1)).bind fun s26v => (if (!s26v) = true then (some (.inr (false, ([] : List ((List UInt8) × (List UInt8 × Int))), ([] : List UInt8), (0 : Int), false, 7))) else ((disk_Disk_Has.f z9v s1v.2.1 s1v.2.2.1 s1v.2.2.2 ((x0.getD z8v.toNat dz36).1)).bind fun s31v => (if s31v = true then (some (.inr (false, ([] : List ((List UInt8) × (List UInt8 × Int))), ([] : List UInt8), (0 : Int), false, 9))) else (if ((decide ((x0.getD z8v.toNat dz36).2.2 < (0 : Int))) || (decide ((((x0.getD z8v.toNat dz36).2.1).length : Int) < (x0.getD z8v.toNat dz36).2.2))) = true then (some (.inr (false, ([] : List ((List UInt8) × (List UInt8 × Int))), ([] : List UInt8), (0 : Int), false, 1))) else ((disk_fresh.f ((x0.getD z8v.toNat dz36).2.1)).bind fun s38v => (disk_Load.l0 x0 s1v k (IntKind.i64.wrap (z8v + 1)) (mput z9v ((x0.getD z8v.toNat dz36).1) (s38v, (x0.getD z8v.toNat dz36).2.2))))))))) else none) else (some (.inl z9v))
def disk_Load.f (k : Nat) (x0 : List (Ty36)) : Option (Bool × (List ((List UInt8) × (List UInt8 × Int))) × List UInt8 × Int × Bool × Int) := (disk_New.f).bind fun s1v => (orR (disk_Load.l0 x0 s1v k 0 s1v.1) fun s4v => ((if (256 : Int) < (x0.length : Int) then (some true) else ((disk_Disk_Size.f s4v s1v.2.1 s1v.2.2.1 s1v.2.2.2).bind fun s51v => (some (decide ((16777216 : Int) < s51v))))).bind fun s49v => (if s49v = true then (some (false, ([] : List ((List UInt8) × (List UInt8 × Int))), ([] : List UInt8), (0 : Int), false, 10)) else (some (true, s4v, s1v.2.1, s1v.2.2.1, s1v.2.2.2, 0)))))
theorem disk_Load.calls (W : World) (F : HA) (k : Nat) (a0 : Option Addr) (c0 : Nat) (x0 : List (Ty36)) (h0 : RdV F 3 (V36 F) a0 x0) (hc0 : x0.length ≤ c0) (hm0 : c0 ≤ maxLen) :
    Fn Try.prog W 29 [.slice a0 x0.length c0] [] F (disk_Load.f k x0) (fun (r : Bool × (List ((List UInt8) × (List UInt8 × Int))) × List UInt8 × Int × Bool × Int) (y : Nat × Nat × Kps) => .tuple #[.pointer (optA r.1 y.1), .int .i64 r.2.2.2.2.2]) (fun r y => [whenA r.1 [obj y.1 64 [.map (some y.2.1), str r.2.2.1, .int .i64 r.2.2.2.1, .bool r.2.2.2.2.1], mapF (mapO y.2.1 enc9 encP y.2.2) FA68 y.2.2 r.2.1]]) := by
 unfold disk_Load.f
 refine fn_intro 59 Try.func29 rfl Try.ntmps29 rfl ?_
 refine sr ?_
 refine va rfl rfl ?_
 refine va rfl rfl (nx ?_)
 refine simL_bind (fun s1v hs2v => ?_)
 refine simL_eff (re_call (vs := []) (cap := []) (A := []) (rst := [F]) rfl rfl rfl rfl rfl rfl Try.call10 (.sel 0 rfl (.nil _)) (disk_New.calls _ _  ) hs2v) rfl rfl rfl ?_
 intro y3v
 refine va rfl rfl (simL_nil (nrm_then ?_))
 refine sim_cutR (S := (List ((List UInt8) × (List UInt8 × Int)))) (Kps) (fun s y => [(0, .slice a0 x0.length c0), (4, .pointer (some ⟨y3v.1, 0, none⟩))]) (fun s y => [obj y3v.1 64 [.map (some y3v.2.1), str s1v.2.1, .int .i64 s1v.2.2.1, .bool s1v.2.2.2], mapF (mapO y3v.2.1 enc9 encP y) FA68 y s, F]) ?_ ?_
 refine sr ?_
 refine vm rfl rfl ?_
 refine vq (q_len rfl rfl rfl Try.underlying27) rfl ?_
 refine vm rfl rfl (simL_nil (nrm_then ?_))
 refine sim_block ?_
 refine sim_loop (S := Int × (List ((List UInt8) × (List UInt8 × Int)))) (Kps) (fun k s => disk_Load.l0 x0 s1v k s.1 s.2) (fun s y => [(0, .slice a0 x0.length c0), (4, .pointer (some ⟨y3v.1, 0, none⟩)), (8, .slice a0 x0.length c0), (9, .int .i64 (x0.length : Int)), (10, .int .i64 s.1)]) (fun s y => [obj y3v.1 64 [.map (some y3v.2.1), str s1v.2.1, .int .i64 s1v.2.2.1, .bool s1v.2.2.2], mapF (mapO y3v.2.1 enc9 encP y) FA68 y s.2, F]) (fun _ => by rw [disk_Load.l0]) ?_ k (0, s1v.1) y3v.2.2 ⟨rfl, rfl, rfl, rfl, rfl, trivial⟩ (.sel 0 rfl (.sel 0 rfl (.sel 0 rfl (.nil _))))
 intro k s6v y7v
 refine sim_eq (by rw [disk_Load.l0]) ?_
 refine sr ?_
 refine vq (q_lss rfl rfl rfl) rfl (simL_nil (nrm_then (sim_seq ?_)))
 refine sim_cond rfl (fun h10v => ?_) (fun h11v => ?_)
 refine sim_skip ?_
 refine nrm_then (sim_seq ?_)
 refine sim_block ?_
 refine sr ?_
 refine simL_ask (fun hi12v => ?_)
 obtain ⟨b13v, b13vo, r16v, ha14v, hV17v, hlr18v, hcell19v⟩ := RdV.pos h0 (Up.refl _) rfl (i := s6v.1.toNat) (by omega) dz36
 obtain ⟨a20v, c21v, rfl, ⟨he22v, hc23v, hm24v⟩⟩ := hV17v
 refine vq (q_idx rfl rfl rfl ha14v Try.underlying27 Try.sizeOf36 hi12v.1 hi12v.2) rfl ?_
 refine vq (q_loads rfl rfl Try.isAgg36 Try.sizeOf36 rfl (fun j v hj => hcell19v 2 rfl j v hj)) rfl ?_
 refine simL_eff (re_alloc rfl Try.zeroValue36 rfl) rfl rfl rfl ?_
 intro b25v
 refine simL_do (re_store 0 rfl rfl rfl Try.sizeOf36 rfl rfl (one_of (by rfl)) rfl rfl) rfl rfl ?_
 intro _
 refine simL_nil (nrm_then (sim_seq ?_))
 refine sim_block ?_
 refine sr ?_
 refine vq (q_fa rfl rfl Try.underlying36 rfl rfl Try.sizeOf9 rfl) rfl ?_
 refine vq (q_load rfl rfl Try.isAgg9 (.obj 0 rfl rfl)) rfl ?_
 refine simL_bind (fun s26v hs27v => ?_)
 refine simL_eff (re_call (vs := [str ((x0.getD s6v.1.toNat dz36).1)]) (cap := []) (A := []) (rst := [obj b25v 36 [str ((x0.getD s6v.1.toNat dz36).1), .slice a20v (((x0.getD s6v.1.toNat dz36).2.1).length) c21v, .int .i64 ((x0.getD s6v.1.toNat dz36).2.2)], obj y3v.1 64 [.map (some y3v.2.1), str s1v.2.1, .int .i64 s1v.2.2.1, .bool s1v.2.2.2], mapF (mapO y3v.2.1 enc9 encP y7v) FA68 y7v s6v.2, F]) rfl rfl rfl rfl rfl rfl Try.call33 (.sel 0 rfl (.sel 0 rfl (.sel 0 rfl (.sel 0 rfl (.nil _))))) (disk_named.calls _ _ k ((x0.getD s6v.1.toNat dz36).1) ) hs27v) rfl rfl rfl ?_
 intro y28v
 refine vq (q_not rfl rfl) rfl ?_
 refine va rfl rfl (simL_nil (nrm_then ?_))
 refine sim_condb rfl (fun h29v => ?_) (fun h30v => ?_)
 refine sr ?_
 refine va rfl rfl ?_
 refine va rfl rfl (simL_nil (nrm_then (sim_rtn ?_)))
 refine rtn_block ?_
 refine rtn_then ?_
 refine rtn_block ?_
 refine rtn_then ?_
 refine rtn_loop ?_
 refine rtn_block ?_
 refine rtn_cutR ?_
 exact rtn_fn (0, 0, ([] : Kps)) rfl rfl rfl (.when_no rfl (.sel 3 rfl (.nil _)))
 refine sr ?_
 refine vm rfl rfl ?_
 refine vq (q_fa rfl rfl Try.underlying36 rfl rfl Try.sizeOf9 rfl) rfl ?_
 refine vq (q_load rfl rfl Try.isAgg9 (.obj 0 rfl rfl)) rfl ?_
 refine simL_bind (fun s31v hs32v => ?_)
 refine simL_eff (re_call (vs := [.pointer (some ⟨y3v.1, 0, none⟩), str ((x0.getD s6v.1.toNat dz36).1)]) (cap := []) (A := [obj y3v.1 64 [.map (some y3v.2.1), str s1v.2.1, .int .i64 s1v.2.2.1, .bool s1v.2.2.2], mapF (mapO y3v.2.1 enc9 encP y7v) FA68 y7v s6v.2]) (rst := [obj b25v 36 [str ((x0.getD s6v.1.toNat dz36).1), .slice a20v (((x0.getD s6v.1.toNat dz36).2.1).length) c21v, .int .i64 ((x0.getD s6v.1.toNat dz36).2.2)], F]) rfl rfl rfl rfl rfl rfl Try.call34 (.sel 1 rfl (.sel 1 rfl (.sel 0 rfl (.sel 0 rfl (.nil _))))) (disk_Disk_Has.calls _ _ y3v.1 y3v.2.1 y7v s6v.2 s1v.2.1 s1v.2.2.1 s1v.2.2.2 ((x0.getD s6v.1.toNat dz36).1) ) hs32v) rfl rfl rfl ?_
 intro y33v
 refine va rfl rfl (simL_nil (nrm_then ?_))
 refine sim_condb rfl (fun h34v => ?_) (fun h35v => ?_)
 refine sr ?_
 refine va rfl rfl ?_
 refine va rfl rfl (simL_nil (nrm_then (sim_rtn ?_)))
 refine rtn_block ?_
 refine rtn_then ?_
 refine rtn_block ?_
 refine rtn_then ?_
 refine rtn_loop ?_
 refine rtn_block ?_
 refine rtn_cutR ?_
 exact rtn_fn (0, 0, ([] : Kps)) rfl rfl rfl (.when_no rfl (.sel 3 rfl (.nil _)))
 refine sr ?_
 refine vq (q_fa rfl rfl Try.underlying36 rfl rfl Try.sizeOf3 rfl) rfl ?_
 refine vq (q_load rfl rfl Try.isAgg3 (.obj 2 rfl rfl)) rfl ?_
 refine vq (q_lss rfl rfl rfl) rfl ?_
 refine vm rfl rfl ?_
 refine simL_valc (b := decide ((x0.getD s6v.1.toNat dz36).2.2 < (0 : Int))) (fun hb48v => RQ.sub (E' := [(6, .pointer (some ⟨b25v, 0, none⟩))]) ⟨rfl, trivial⟩ (q_fa rfl rfl Try.underlying36 rfl rfl Try.sizeOf3 rfl)) rfl rfl rfl rfl rfl ?_
 refine simL_valc (b := decide ((x0.getD s6v.1.toNat dz36).2.2 < (0 : Int))) (fun hb47v => RQ.sub (E' := [(29, .pointer (some ⟨b25v, 2, none⟩))]) ⟨lk_cv rfl hb47v, trivial⟩ (q_load rfl rfl Try.isAgg3 (.obj 2 rfl rfl))) rfl rfl rfl rfl rfl ?_
 refine simL_valc (b := decide ((x0.getD s6v.1.toNat dz36).2.2 < (0 : Int))) (fun hb46v => RQ.sub (E' := [(6, .pointer (some ⟨b25v, 0, none⟩))]) ⟨rfl, trivial⟩ (q_fa rfl rfl Try.underlying36 rfl rfl Try.sizeOf34 rfl)) rfl rfl rfl rfl rfl ?_
 refine simL_valc (b := decide ((x0.getD s6v.1.toNat dz36).2.2 < (0 : Int))) (fun hb45v => RQ.sub (E' := [(31, .pointer (some ⟨b25v, 1, none⟩))]) ⟨lk_cv rfl hb45v, trivial⟩ (q_load rfl rfl Try.isAgg34 (.obj 2 rfl rfl))) rfl rfl rfl rfl rfl ?_
 refine simL_valc (b := decide ((x0.getD s6v.1.toNat dz36).2.2 < (0 : Int))) (fun hb44v => RQ.sub (E' := [(32, .slice a20v (((x0.getD s6v.1.toNat dz36).2.1).length) c21v)]) ⟨lk_cv rfl hb44v, trivial⟩ (q_len rfl rfl rfl Try.underlying34)) rfl rfl rfl rfl rfl ?_
 refine simL_valc (b := decide ((x0.getD s6v.1.toNat dz36).2.2 < (0 : Int))) (fun hb43v => RQ.sub (E' := [(30, .int .i64 ((x0.getD s6v.1.toNat dz36).2.2)), (33, .int .i64 (((x0.getD s6v.1.toNat dz36).2.1).length : Int))]) ⟨lk_cv rfl hb43v, lk_cv rfl hb43v, trivial⟩ (q_gtr rfl rfl rfl)) rfl rfl rfl rfl rfl ?_
 refine vq (q_or rfl rfl rfl) rfl ?_
 refine va rfl rfl (simL_nil (nrm_then ?_))
 refine sim_condb rfl (fun h36v => ?_) (fun h37v => ?_)
 refine sr ?_
 refine va rfl rfl ?_
 refine va rfl rfl (simL_nil (nrm_then (sim_rtn ?_)))
 refine rtn_block ?_
 refine rtn_then ?_
 refine rtn_block ?_
 refine rtn_then ?_
 refine rtn_loop ?_
 refine rtn_block ?_
 refine rtn_cutR ?_
 exact rtn_fn (0, 0, ([] : Kps)) rfl rfl rfl (.when_no rfl (.sel 3 rfl (.nil _)))
 refine sim_skip ?_
 refine nrm_block (nrm_then ?_)
 refine sim_bind (fun s38v hs39v => ?_)
 refine sim_draw (Γ := (Option Addr × Nat) × Nat) ((none, 0), 0) [[], [0], [0, 1], [0, 1, 2], [], [4], [], [6], [6, 7], [], [9], [6, 7, 8, 9, 10], [6, 7, 8, 9, 10, 11], rL 13] [8, 12, 13] [0, 1, 2, 3, 4, 5, 6, 7, 9, 10, 11] (fun i => [[0, 1, 2], [0, 1, 2], [0, 1, 2], [0, 1, 2], [0, 1, 2], [0, 1, 2], [0], [0], [], [0, 1], [0, 1], [1], [], []].getD i []) (fun i => [[], [], [], [], [], [], [], [], [0, 1, 2, 3, 4, 5, 6, 7, 9, 10], [], [], [], rL 12, rL 13].getD i []) (fun γ i => [.pointer (some ⟨y3v.1, 0, none⟩), .pointer (some ⟨y3v.1, 0, none⟩), .pointer (some ⟨y3v.1, 0, none⟩), .map (some y3v.2.1), .pointer (some ⟨b25v, 0, none⟩), str ((x0.getD s6v.1.toNat dz36).1), .pointer (some ⟨b25v, 1, none⟩), .slice a20v (((x0.getD s6v.1.toNat dz36).2.1).length) c21v, .slice γ.1.1 s38v.length γ.1.2, .pointer (some ⟨b25v, 2, none⟩), .int .i64 ((x0.getD s6v.1.toNat dz36).2.2), .agg #[.slice γ.1.1 s38v.length γ.1.2, .int .i64 ((x0.getD s6v.1.toNat dz36).2.2)], .pointer (some ⟨γ.2, 0, none⟩), undef].getD i undef) (fun j γ => [[obj y3v.1 64 [.map (some y3v.2.1), str s1v.2.1, .int .i64 s1v.2.2.1, .bool s1v.2.2.2], mapF (mapO y3v.2.1 enc9 encP y7v) FA68 y7v s6v.2, obj b25v 36 [str ((x0.getD s6v.1.toNat dz36).1), .slice a20v (((x0.getD s6v.1.toNat dz36).2.1).length) c21v, .int .i64 ((x0.getD s6v.1.toNat dz36).2.2)], F], [Row 5 1 γ.1.1 s38v.length γ.1.2 (encB s38v), obj y3v.1 64 [.map (some y3v.2.1), str s1v.2.1, .int .i64 s1v.2.2.1, .bool s1v.2.2.2], mapF (mapO y3v.2.1 enc9 encP y7v) FA68 y7v s6v.2, obj b25v 36 [str ((x0.getD s6v.1.toNat dz36).1), .slice a20v (((x0.getD s6v.1.toNat dz36).2.1).length) c21v, .int .i64 ((x0.getD s6v.1.toNat dz36).2.2)], F], [obj γ.2 68 [.slice γ.1.1 s38v.length γ.1.2, .int .i64 ((x0.getD s6v.1.toNat dz36).2.2)], Row 5 1 γ.1.1 s38v.length γ.1.2 (encB s38v), obj y3v.1 64 [.map (some y3v.2.1), str s1v.2.1, .int .i64 s1v.2.2.1, .bool s1v.2.2.2], mapF (mapO y3v.2.1 enc9 encP y7v) FA68 y7v s6v.2, obj b25v 36 [str ((x0.getD s6v.1.toNat dz36).1), .slice a20v (((x0.getD s6v.1.toNat dz36).2.1).length) c21v, .int .i64 ((x0.getD s6v.1.toNat dz36).2.2)], F], [obj y3v.1 64 [.map (some y3v.2.1), str s1v.2.1, .int .i64 s1v.2.2.1, .bool s1v.2.2.2], mapF (mapO y3v.2.1 enc9 encP (mput y7v ((x0.getD s6v.1.toNat dz36).1) γ.2)) FA68 (mput y7v ((x0.getD s6v.1.toNat dz36).1) γ.2) (mput s6v.2 ((x0.getD s6v.1.toNat dz36).1) (s38v, (x0.getD s6v.1.toNat dz36).2.2)), obj b25v 36 [str ((x0.getD s6v.1.toNat dz36).1), .slice a20v (((x0.getD s6v.1.toNat dz36).2.1).length) c21v, .int .i64 ((x0.getD s6v.1.toNat dz36).2.2)], F]].getD j []) (fun γ => [(0, .slice a0 x0.length c0), (4, .pointer (some ⟨y3v.1, 0, none⟩)), (8, .slice a0 x0.length c0), (9, .int .i64 (x0.length : Int)), (10, .int .i64 s6v.1), (29, cv ((decide ((x0.getD s6v.1.toNat dz36).2.2 < (0 : Int))) == false) (.pointer (some ⟨b25v, 2, none⟩))), (30, cv ((decide ((x0.getD s6v.1.toNat dz36).2.2 < (0 : Int))) == false) (.int .i64 ((x0.getD s6v.1.toNat dz36).2.2))), (31, cv ((decide ((x0.getD s6v.1.toNat dz36).2.2 < (0 : Int))) == false) (.pointer (some ⟨b25v, 1, none⟩))), (32, cv ((decide ((x0.getD s6v.1.toNat dz36).2.2 < (0 : Int))) == false) (.slice a20v (((x0.getD s6v.1.toNat dz36).2.1).length) c21v)), (33, cv ((decide ((x0.getD s6v.1.toNat dz36).2.2 < (0 : Int))) == false) (.int .i64 (((x0.getD s6v.1.toNat dz36).2.1).length : Int))), (34, cv ((decide ((x0.getD s6v.1.toNat dz36).2.2 < (0 : Int))) == false) (.bool (decide ((((x0.getD s6v.1.toNat dz36).2.1).length : Int) < (x0.getD s6v.1.toNat dz36).2.2))))]) mixed (by decide) (by decide) (by decide) (by decide) (by decide) (by decide) (by decide) 59 rfl (by decide) (by decide) (by decide) (Ent.refl _) ?_ ?_ (fun _ => ⟨rfl, rfl, rfl, rfl, rfl, rfl, rfl, rfl, rfl, rfl, rfl, trivial⟩) ?_
 exact (ac (fun γ => (ac (qm rfl (.o (s := 4) rfl (by decide) .nil) rfl) (ac (qm rfl (.o (s := 4) rfl (by decide) .nil) rfl) (ac (qm rfl (.o (s := 4) rfl (by decide) .nil) rfl) zA)))) (ac (fun γ => (ac (qp rfl rfl (.v 0 rfl rfl .nil) (q_nil rfl rfl) rfl) (ac (qp rfl rfl (.v 0 rfl rfl .nil) (q_nil rfl rfl) rfl) (ac (qp rfl rfl (.v 0 rfl rfl .nil) (q_nil rfl rfl) rfl) zA)))) (ac (fun γ => (ac (qp rfl rfl (.v 1 rfl rfl .nil) (q_fa rfl rfl Try.underlying64 rfl rfl Try.sizeOf62 rfl) rfl) (ac (qp rfl rfl (.v 1 rfl rfl .nil) (q_fa rfl rfl Try.underlying64 rfl rfl Try.sizeOf62 rfl) rfl) (ac (qp rfl rfl (.v 1 rfl rfl .nil) (q_fa rfl rfl Try.underlying64 rfl rfl Try.sizeOf62 rfl) rfl) zA)))) (ac (fun γ => (ac (qp rfl rfl (.v 2 rfl rfl .nil) (q_load rfl rfl Try.isAgg62 (.obj 0 rfl rfl)) rfl) (ac (qp rfl rfl (.v 2 rfl rfl .nil) (q_load rfl rfl Try.isAgg62 (.obj 1 rfl rfl)) rfl) (ac (qp rfl rfl (.v 2 rfl rfl .nil) (q_load rfl rfl Try.isAgg62 (.obj 2 rfl rfl)) rfl) zA)))) (ac (fun γ => (ac (qp rfl rfl (.o (s := 6) rfl (by decide) .nil) (q_fa rfl rfl Try.underlying36 rfl rfl Try.sizeOf9 rfl) rfl) (ac (qp rfl rfl (.o (s := 6) rfl (by decide) .nil) (q_fa rfl rfl Try.underlying36 rfl rfl Try.sizeOf9 rfl) rfl) (ac (qp rfl rfl (.o (s := 6) rfl (by decide) .nil) (q_fa rfl rfl Try.underlying36 rfl rfl Try.sizeOf9 rfl) rfl) zA)))) (ac (fun γ => (ac (qp rfl rfl (.v 4 rfl rfl .nil) (q_load rfl rfl Try.isAgg9 (.obj 2 rfl rfl)) rfl) (ac (qp rfl rfl (.v 4 rfl rfl .nil) (q_load rfl rfl Try.isAgg9 (.obj 3 rfl rfl)) rfl) (ac (qp rfl rfl (.v 4 rfl rfl .nil) (q_load rfl rfl Try.isAgg9 (.obj 4 rfl rfl)) rfl) zA)))) (aq rfl (fun γ => qp rfl rfl (.o (s := 6) rfl (by decide) .nil) (q_fa rfl rfl Try.underlying36 rfl rfl Try.sizeOf34 rfl) rfl) (aq rfl (fun γ => qp rfl rfl (.v 6 rfl rfl .nil) (q_load rfl rfl Try.isAgg34 (.obj 2 rfl rfl)) rfl) (ac (fun γ => (ac (qp rfl rfl (.o (s := 6) rfl (by decide) .nil) (q_fa rfl rfl Try.underlying36 rfl rfl Try.sizeOf3 rfl) rfl) (ac (qp rfl rfl (.o (s := 6) rfl (by decide) .nil) (q_fa rfl rfl Try.underlying36 rfl rfl Try.sizeOf3 rfl) rfl) zA))) (ac (fun γ => (ac (qp rfl rfl (.v 9 rfl rfl .nil) (q_load rfl rfl Try.isAgg3 (.obj 2 rfl rfl)) rfl) (ac (qp rfl rfl (.v 9 rfl rfl .nil) (q_load rfl rfl Try.isAgg3 (.obj 3 rfl rfl)) rfl) zA))) (aq rfl (fun γ => qp rfl rfl (.v 8 rfl rfl (.v 10 rfl rfl .nil)) (q_build (v := .agg #[.slice γ.1.1 s38v.length γ.1.2, .int .i64 ((x0.getD s6v.1.toNat dz36).2.2)]) rfl rfl (fun _ => by kernel_rfl)) rfl) zA)))))))))))
 exact (ac (fun γ => eo (Z := Option Addr × Nat) (fun z => (z, γ.2)) rfl rfl (.v 7 rfl rfl .nil) (re_call (vs := [.slice a20v (((x0.getD s6v.1.toNat dz36).2.1).length) c21v]) (cap := []) (A := []) (rst := [obj y3v.1 64 [.map (some y3v.2.1), str s1v.2.1, .int .i64 s1v.2.2.1, .bool s1v.2.2.2], mapF (mapO y3v.2.1 enc9 encP y7v) FA68 y7v s6v.2, obj b25v 36 [str ((x0.getD s6v.1.toNat dz36).1), .slice a20v (((x0.getD s6v.1.toNat dz36).2.1).length) c21v, .int .i64 ((x0.getD s6v.1.toNat dz36).2.2)], F]) rfl rfl rfl rfl rfl rfl Try.call43 (.sel 0 rfl (.sel 0 rfl (.sel 0 rfl (.sel 0 rfl (.nil _))))) (disk_fresh.calls _ _ a20v c21v ((x0.getD s6v.1.toNat dz36).2.1) (he22v.lend 3 rfl) hc23v hm24v) hs39v) (fun _ => ⟨rfl, rfl, rfl, rfl, rfl, rfl, rfl, rfl, rfl, rfl, trivial⟩) (fun _ => .inr rfl) (fun z => Ent.refl _)) (ac (fun γ => eo (Z := Nat) (fun z => (γ.1, z)) rfl rfl (.v 11 rfl rfl .nil) (re_box rfl rfl rfl) (fun _ => ⟨rfl, rfl, rfl, rfl, rfl, rfl, rfl, rfl, rfl, rfl, rfl, rfl, trivial⟩) (fun _ => .inr rfl) (fun z => Ent.refl _)) (ac (fun γ => eo (Z := Unit) (fun z => (γ.1, γ.2)) rfl rfl (.v 3 rfl rfl (.v 5 rfl rfl (.v 12 rfl rfl .nil))) (re_mputF (ek := enc9) 3 ((x0.getD s6v.1.toNat dz36).1) γ.2 rfl rfl rfl rfl Try.underlying62 key9 rfl) (fun _ => ⟨rfl, rfl, rfl, rfl, rfl, rfl, rfl, rfl, rfl, rfl, rfl, rfl, rfl, trivial⟩) (fun _ => .inl rfl) (fun z => ((.sel 2 rfl (.foldU (x := (x0.getD s6v.1.toNat dz36).1) (p := γ.2) (v := (s38v, (x0.getD s6v.1.toNat dz36).2.2)) (γ.1.1, γ.1.2) (.sel 2 rfl (.sel 0 rfl (.sel 0 rfl (.sel 0 rfl (.sel 0 rfl (.nil _))))))))))) zA)))
 intro g42v
 refine nrm_block (nrm_then (sim_region ?_))
 refine vq (q_add rfl rfl rfl) rfl ?_
 refine vm rfl rfl (simL_nil ?_)
 exact nrm_again (s := (IntKind.i64.wrap (s6v.1 + 1), mput s6v.2 ((x0.getD s6v.1.toNat dz36).1) (s38v, (x0.getD s6v.1.toNat dz36).2.2))) (mput y7v ((x0.getD s6v.1.toNat dz36).1) g42v.2) ⟨rfl, rfl, rfl, rfl, rfl, trivial⟩ (.sel 0 rfl (.sel 0 rfl (.sel 1 rfl (.nil _))))
 refine sim_exi ?_
 refine exi_then ?_
 refine exi_loop ?_
 refine exi_here ?_
 exact nrm_cutR (s := s6v.2) y7v ⟨rfl, rfl, trivial⟩ (.sel 0 rfl (.sel 0 rfl (.sel 0 rfl (.nil _))))
 intro s4v y5v
 refine sim_seq (sr ?_)
 refine vm rfl rfl ?_
 refine vq (q_len rfl rfl rfl Try.underlying27) rfl ?_
 refine vq (q_gtr rfl rfl rfl) rfl ?_
 refine vm rfl rfl ?_
 refine simL_cut' 4 (S := Bool) (Unit) (fun s y => [(4, .pointer (some ⟨y3v.1, 0, none⟩)), (57, .bool s)]) (fun s y => [obj y3v.1 64 [.map (some y3v.2.1), str s1v.2.1, .int .i64 s1v.2.2.1, .bool s1v.2.2.2], mapF (mapO y3v.2.1 enc9 encP y5v) FA68 y5v s4v, F]) ?_ ?_
 refine simL_casep (fun hb54v => ?_) (fun hb55v => ?_)
 rw [hb54v]
 refine simL_skipd rfl rfl rfl rfl rfl rfl ?_
 refine simL_skipd rfl rfl rfl rfl rfl rfl ?_
 refine simL_skipd rfl rfl rfl rfl rfl rfl ?_
 refine vq (q_pick rfl rfl rfl rfl rfl) rfl (simL_nil ?_)
 exact nrm_cut (s := true) () ⟨rfl, rfl, trivial⟩ (.sel 0 rfl (.sel 0 rfl (.sel 0 rfl (.nil _))))
 rw [hb55v]
 refine simL_valg (q_move rfl rfl) rfl rfl rfl rfl rfl rfl ?_
 refine simL_bind (fun s51v hs52v => ?_)
 refine simL_effg (re_call (vs := [.pointer (some ⟨y3v.1, 0, none⟩)]) (cap := []) (A := [obj y3v.1 64 [.map (some y3v.2.1), str s1v.2.1, .int .i64 s1v.2.2.1, .bool s1v.2.2.2], mapF (mapO y3v.2.1 enc9 encP y5v) FA68 y5v s4v]) (rst := [F]) rfl rfl rfl rfl rfl rfl Try.call16 (.sel 0 rfl (.sel 0 rfl (.sel 0 rfl (.nil _)))) (disk_Disk_Size.calls _ _ y3v.1 y3v.2.1 y5v s4v s1v.2.1 s1v.2.2.1 s1v.2.2.2 ) hs52v) rfl rfl rfl rfl rfl rfl ?_
 intro y53v
 refine simL_valg (q_gtr rfl rfl rfl) rfl rfl rfl rfl rfl rfl ?_
 refine vq (q_pick rfl rfl rfl rfl rfl) rfl (simL_nil ?_)
 exact nrm_cut (s := decide ((16777216 : Int) < s51v)) () ⟨rfl, rfl, trivial⟩ (.sel 0 rfl (.sel 0 rfl (.sel 0 rfl (.nil _))))
 intro s49v y50v
 refine simL_nil (nrm_then ?_)
 refine sim_condb rfl (fun h56v => ?_) (fun h57v => ?_)
 refine sr ?_
 refine va rfl rfl ?_
 refine va rfl rfl (simL_nil (nrm_then (sim_rtn ?_)))
 refine rtn_then ?_
 exact rtn_fn (0, 0, ([] : Kps)) rfl rfl rfl (.when_no rfl (.sel 2 rfl (.nil _)))
 refine sim_skip ?_
 refine nrm_then (sr ?_)
 refine vm rfl rfl ?_
 refine va rfl rfl ?_
 refine va rfl rfl (simL_nil (nrm_then (sim_rtn ?_)))
 exact rtn_fn (y3v.1, y3v.2.1, y5v) rfl rfl rfl (.when_yes rfl (.sel 0 rfl (.sel 0 rfl (.sel 0 rfl (.nil _)))))
theorem disk_Load.callsT (W : World) (F : HA) (k : Nat) (a0 : Option Addr) (c0 : Nat) (x0 : List (Ty36)) (h0 : RdV F 3 (V36 F) a0 x0) (hc0 : x0.length ≤ c0) (hm0 : c0 ≤ maxLen) :
    Fn Try.prog W 29 [.slice a0 x0.length c0] [] F ((disk_Load.f k x0).filter fun (r : Bool × (List ((List UInt8) × (List UInt8 × Int))) × List UInt8 × Int × Bool × Int) => r.1 == true) (fun (r : Bool × (List ((List UInt8) × (List UInt8 × Int))) × List UInt8 × Int × Bool × Int) (y : Nat × Nat × Kps) => .tuple #[.pointer (some ⟨y.1, 0, none⟩), .int .i64 r.2.2.2.2.2]) (fun r y => [obj y.1 64 [.map (some y.2.1), str r.2.2.1, .int .i64 r.2.2.2.1, .bool r.2.2.2.2.1], mapF (mapO y.2.1 enc9 encP y.2.2) FA68 y.2.2 r.2.1]) :=
  Fn.when (disk_Load.calls W F k a0 c0 x0 h0 hc0 hm0) _ true (fun r y h => by simp only [h]; rfl) (fun r y h => (Ent.when_yo h _))
theorem disk_Load.callsN (W : World) (F : HA) (k : Nat) (a0 : Option Addr) (c0 : Nat) (x0 : List (Ty36)) (h0 : RdV F 3 (V36 F) a0 x0) (hc0 : x0.length ≤ c0) (hm0 : c0 ≤ maxLen) :
    Fn Try.prog W 29 [.slice a0 x0.length c0] [] F ((disk_Load.f k x0).filter fun (r : Bool × (List ((List UInt8) × (List UInt8 × Int))) × List UInt8 × Int × Bool × Int) => r.1 == false) (fun (r : Bool × (List ((List UInt8) × (List UInt8 × Int))) × List UInt8 × Int × Bool × Int) (y : Nat × Nat × Kps) => .tuple #[.pointer none, .int .i64 r.2.2.2.2.2]) (fun r y => []) :=
  Fn.when (disk_Load.calls W F k a0 c0 x0 h0 hc0 hm0) _ false (fun r y h => by simp only [h]; rfl) (fun r y h => (Ent.when_no_ h _))

def synodref_SameFiles.l0 (x0 : List (Ty36)) (x1 : List (Ty36)) : Nat → Int → Option ((Unit) ⊕ (Bool))
  | 0, _ => none
  | k + 1, z7v => if z7v < (x0.length : Int) then (if 0 ≤ z7v ∧ z7v < (x0.length : Int) then (if 0 ≤ z7v ∧ z7v < (x1.length : Int) then ((synodref_SameBytes.f k ((x0.getD z7v.toNat dz36).2.1) ((x1.getD z7v.toNat dz36).2.1)).bind fun s36v => ((if (!s36v) = true then (some true) else (if 0 ≤ z7v ∧ z7v < (x0.length : Int) then (if 0 ≤ z7v ∧ z7v < (x1.length : Int) then (if ((x0.getD z7v.toNat dz36).1) = ((x1.getD z7v.toNat dz36).1) then (if 0 ≤ z7v ∧ z7v < (x0.length : Int) then (if 0 ≤ z7v ∧ z7v < (x1.length : Int) then (some (!decide ((x0.getD z7v.toNat dz36).2.2 = (x1.getD z7v.toNat dz36).2.2))) else none) else none) else (some true)) else none) else none)).bind fun s40v => (if s40v = true then (some (.inr false)) else (synodref_SameFiles.l0 x0 x1 k (IntKind.i64.wrap (z7v + 1)))))) else none) else none) else (some (.inl ()))
def synodref_SameFiles.f (k : Nat) (x0 : List (Ty36)) (x1 : List (Ty36)) : Option (Bool) := if (x0.length : Int) = (x1.length : Int) then (orR (synodref_SameFiles.l0 x0 x1 k 0) fun s3v => (some true)) else (some false)
theorem synodref_SameFiles.calls (W : World) (F : HA) (k : Nat) (a0 : Option Addr) (c0 : Nat) (x0 : List (Ty36)) (a1 : Option Addr) (c1 : Nat) (x1 : List (Ty36)) (h0 : RdV F 3 (V36 F) a0 x0) (hc0 : x0.length ≤ c0) (hm0 : c0 ≤ maxLen) (h1 : RdV F 3 (V36 F) a1 x1) (hc1 : x1.length ≤ c1) (hm1 : c1 ≤ maxLen) :
    Fn Try.prog W 25 [.slice a0 x0.length c0, .slice a1 x1.length c1] [] F (synodref_SameFiles.f k x0 x1) (fun (r : Bool) (y : Unit) => .bool r) (fun r y => []) := by
 unfold synodref_SameFiles.f
 refine fn_intro 57 Try.func25 rfl Try.ntmps25 rfl ?_
 refine sr ?_
 refine va rfl rfl (simL_nil (nrm_then (sim_seq (sr ?_))))
 refine vm rfl rfl ?_
 refine vq (q_len rfl rfl rfl Try.underlying27) rfl ?_
 refine vm rfl rfl ?_
 refine vq (q_len rfl rfl rfl Try.underlying27) rfl ?_
 refine vq (q_neq rfl rfl rfl) rfl (simL_nil (nrm_then ?_))
 refine sim_condn rfl (fun h1v => ?_) (fun h2v => ?_)
 refine sim_skip ?_
 refine nrm_then ?_
 refine sim_cutR (S := Unit) (Unit) (fun s y => []) (fun s y => [F]) ?_ ?_
 refine sr ?_
 refine va rfl rfl (simL_nil (nrm_then ?_))
 refine sim_block ?_
 refine sim_loop (S := Int) (Unit) (fun k s => synodref_SameFiles.l0 x0 x1 k s) (fun s y => [(0, .slice a0 x0.length c0), (1, .slice a1 x1.length c1), (5, .int .i64 s)]) (fun s y => [F]) (fun _ => by rw [synodref_SameFiles.l0]) ?_ k 0 () ⟨rfl, rfl, rfl, trivial⟩ (.sel 0 rfl (.nil _))
 intro k s5v y6v
 refine sim_eq (by rw [synodref_SameFiles.l0]) ?_
 refine sim_seq (sr ?_)
 refine vm rfl rfl ?_
 refine vm rfl rfl ?_
 refine vq (q_len rfl rfl rfl Try.underlying27) rfl ?_
 refine vq (q_lss rfl rfl rfl) rfl (simL_nil (nrm_then ?_))
 refine sim_cond rfl (fun h8v => ?_) (fun h9v => ?_)
 refine sim_skip ?_
 refine nrm_then (sim_seq ?_)
 refine sim_block ?_
 refine sim_seq ?_
 refine sim_ask (fun hi10v => ?_)
 obtain ⟨b11v, b11vo, r14v, ha12v, hV15v, hlr16v, hcell17v⟩ := RdV.pos h0 (Up.refl _) rfl (i := s5v.toNat) (by omega) dz36
 obtain ⟨a18v, c19v, rfl, ⟨he20v, hc21v, hm22v⟩⟩ := hV15v
 refine sim_ask (fun hi23v => ?_)
 obtain ⟨b24v, b24vo, r27v, ha25v, hV28v, hlr29v, hcell30v⟩ := RdV.pos h1 (Up.refl _) rfl (i := s5v.toNat) (by omega) dz36
 obtain ⟨a31v, c32v, rfl, ⟨he33v, hc34v, hm35v⟩⟩ := hV28v
 refine sim_bind (fun s36v hs37v => ?_)
 refine sim_draw (Γ := Unit) () [[], [], [0, 1], [0, 1, 2], rL 4, [], [], [5, 6], [5, 6, 7], [5, 6, 7, 8], rL 10, rL 11] [10] [0, 1, 2, 3, 4, 5, 6, 7, 8, 9, 11] (fun i => [[0], [0], [0], [0], [0], [0], [0], [0], [0], [0], [], [1]].getD i []) (fun i => [[], [], [], [], [], [], [], [], [], [], rL 10, []].getD i []) (fun γ i => [.slice a0 x0.length c0, .int .i64 s5v, .pointer (some ⟨b11v, b11vo + s5v.toNat * 3, none⟩), .pointer (some ⟨b11v, b11vo + s5v.toNat * 3 + 1, none⟩), .slice a18v (((x0.getD s5v.toNat dz36).2.1).length) c19v, .slice a1 x1.length c1, .int .i64 s5v, .pointer (some ⟨b24v, b24vo + s5v.toNat * 3, none⟩), .pointer (some ⟨b24v, b24vo + s5v.toNat * 3 + 1, none⟩), .slice a31v (((x1.getD s5v.toNat dz36).2.1).length) c32v, .bool s36v, .bool s36v].getD i undef) (fun j γ => [[F], [F]].getD j []) (fun γ => [(0, .slice a0 x0.length c0), (1, .slice a1 x1.length c1), (5, .int .i64 s5v), (6, .bool s36v)]) mixed (by decide) (by decide) (by decide) (by decide) (by decide) (by decide) (by decide) 57 rfl (by decide) (by decide) (by decide) (Ent.refl _) ?_ ?_ (fun _ => ⟨rfl, rfl, rfl, rfl, trivial⟩) ?_
 exact (aq rfl (fun γ => qm rfl (.o (s := 0) rfl (by decide) .nil) rfl) (aq rfl (fun γ => qm rfl (.o (s := 5) rfl (by decide) .nil) rfl) (aq rfl (fun γ => qp rfl rfl (.v 0 rfl rfl (.v 1 rfl rfl .nil)) (q_idx rfl rfl rfl ha12v Try.underlying27 Try.sizeOf36 hi10v.1 hi10v.2) rfl) (aq rfl (fun γ => qp rfl rfl (.v 2 rfl rfl .nil) (q_fa rfl rfl Try.underlying36 rfl rfl Try.sizeOf34 rfl) rfl) (aq rfl (fun γ => qp rfl rfl (.v 3 rfl rfl .nil) (q_load rfl rfl Try.isAgg34 (hcell17v 0 rfl 1 _ rfl)) rfl) (aq rfl (fun γ => qm rfl (.o (s := 1) rfl (by decide) .nil) rfl) (aq rfl (fun γ => qm rfl (.o (s := 5) rfl (by decide) .nil) rfl) (aq rfl (fun γ => qp rfl rfl (.v 5 rfl rfl (.v 6 rfl rfl .nil)) (q_idx rfl rfl rfl ha25v Try.underlying27 Try.sizeOf36 hi23v.1 hi23v.2) rfl) (aq rfl (fun γ => qp rfl rfl (.v 7 rfl rfl .nil) (q_fa rfl rfl Try.underlying36 rfl rfl Try.sizeOf34 rfl) rfl) (aq rfl (fun γ => qp rfl rfl (.v 8 rfl rfl .nil) (q_load rfl rfl Try.isAgg34 (hcell30v 0 rfl 1 _ rfl)) rfl) (aq rfl (fun γ => qp rfl rfl (.v 10 rfl rfl .nil) (q_asg rfl rfl) rfl) zA)))))))))))
 exact (ac (fun γ => eo (Z := Unit) (fun z => ()) rfl rfl (.v 4 rfl rfl (.v 9 rfl rfl .nil)) (re_call (vs := [.slice a18v (((x0.getD s5v.toNat dz36).2.1).length) c19v, .slice a31v (((x1.getD s5v.toNat dz36).2.1).length) c32v]) (cap := []) (A := []) (rst := [F]) rfl rfl rfl rfl rfl rfl Try.call24 (.sel 0 rfl (.nil _)) (synodref_SameBytes.calls _ _ k a18v c19v ((x0.getD s5v.toNat dz36).2.1) a31v c32v ((x1.getD s5v.toNat dz36).2.1) (he20v.lend 0 rfl) hc21v hm22v (he33v.lend 0 rfl) hc34v hm35v) hs37v) (fun _ => ⟨rfl, rfl, rfl, rfl, rfl, rfl, rfl, rfl, rfl, rfl, trivial⟩) (fun _ => .inr rfl) (fun z => Ent.refl _)) zA)
 intro g39v
 refine nrm_then ?_
 refine sim_cut (S := Bool) (Unit) (fun s y => [(0, .slice a0 x0.length c0), (1, .slice a1 x1.length c1), (5, .int .i64 s5v), (56, .bool s)]) (fun s y => [F]) ?_ ?_
 refine sim_if (fun hk42v => ?_) (fun hk42v => ?_)
 refine sim_draw (Γ := Unit) () [[], [0], [0, 1], [0, 1, 2], [0, 1, 2], rL 5, rL 6, rL 7, [0, 1, 2], [0, 1, 2], [0, 1, 2, 8, 9], [0, 1, 2, 8, 9, 10], [0, 1, 2, 8, 9, 10, 11], rL 13, rL 14, rL 15, rL 16, rL 16, rL 18, rL 19, rL 20, rL 16, rL 16, [0, 1, 2, 3, 4, 5, 6, 7, 8, 9, 10, 11, 12, 13, 14, 15, 21, 22], [0, 1, 2, 3, 4, 5, 6, 7, 8, 9, 10, 11, 12, 13, 14, 15, 21, 22, 23], [0, 1, 2, 3, 4, 5, 6, 7, 8, 9, 10, 11, 12, 13, 14, 15, 21, 22, 23, 24], rL 26, rL 27] [] [0, 1, 2, 3, 4, 5, 6, 7, 8, 9, 10, 11, 12, 13, 14, 15, 16, 17, 18, 19, 20, 21, 22, 23, 24, 25, 26, 27] (fun i => [[0], [0], [0], [0], [0], [0], [0], [0], [0], [0], [0], [0], [0], [0], [0], [0], [0], [0], [0], [0], [0], [0], [0], [0], [0], [0], [0], [0]].getD i []) (fun i => [[], [], [], [], [], [], [], [], [], [], [], [], [], [], [], [], [], [], [], [], [], [], [], [], [], [], [], []].getD i []) (fun γ i => [.bool s36v, .bool (!s36v), .bool (!s36v), undef, undef, undef, undef, undef, undef, undef, undef, undef, undef, undef, .bool true, .bool true, undef, undef, undef, undef, undef, undef, undef, undef, undef, undef, undef, .bool true].getD i undef) (fun j γ => [[F]].getD j []) (fun γ => [(0, .slice a0 x0.length c0), (1, .slice a1 x1.length c1), (5, .int .i64 s5v), (32, undef), (33, undef), (34, undef), (35, undef), (36, undef), (37, undef), (38, undef), (39, undef), (40, undef), (41, undef), (42, undef), (45, undef), (46, undef), (47, undef), (48, undef), (49, undef), (50, undef), (51, undef), (52, undef), (53, undef), (54, undef), (55, undef), (56, .bool true)]) mixed (by decide) (by decide) (by decide) (by decide) (by decide) (by decide) (by decide) 57 rfl (by decide) (by decide) (by decide) (Ent.refl _) ?_ ?_ (fun _ => ⟨rfl, rfl, rfl, rfl, rfl, rfl, rfl, rfl, rfl, rfl, rfl, rfl, rfl, rfl, rfl, rfl, rfl, rfl, rfl, rfl, rfl, rfl, rfl, rfl, rfl, rfl, trivial⟩) ?_
 exact (aq rfl (fun γ => qm rfl (.o (s := 6) rfl (by decide) .nil) rfl) (aq rfl (fun γ => qp rfl rfl (.v 0 rfl rfl .nil) (q_not rfl rfl) rfl) (aq rfl (fun γ => qm rfl (.v 1 rfl rfl .nil) rfl) (aq rfl (fun γ => qn rfl rfl (.o (s := 0) rfl (by decide) (.v 2 rfl rfl .nil)) rfl rfl (beq_yes' hk42v) rfl) (aq rfl (fun γ => qn rfl rfl (.o (s := 5) rfl (by decide) (.v 2 rfl rfl .nil)) rfl rfl (beq_yes' hk42v) rfl) (aq rfl (fun γ => qn rfl rfl (.v 2 rfl rfl (.v 3 rfl rfl (.v 4 rfl rfl .nil))) rfl rfl (beq_yes' hk42v) rfl) (aq rfl (fun γ => qn rfl rfl (.v 2 rfl rfl (.v 5 rfl rfl .nil)) rfl rfl (beq_yes' hk42v) rfl) (aq rfl (fun γ => qn rfl rfl (.v 2 rfl rfl (.v 6 rfl rfl .nil)) rfl rfl (beq_yes' hk42v) rfl) (aq rfl (fun γ => qn rfl rfl (.o (s := 1) rfl (by decide) (.v 2 rfl rfl .nil)) rfl rfl (beq_yes' hk42v) rfl) (aq rfl (fun γ => qn rfl rfl (.o (s := 5) rfl (by decide) (.v 2 rfl rfl .nil)) rfl rfl (beq_yes' hk42v) rfl) (aq rfl (fun γ => qn rfl rfl (.v 2 rfl rfl (.v 8 rfl rfl (.v 9 rfl rfl .nil))) rfl rfl (beq_yes' hk42v) rfl) (aq rfl (fun γ => qn rfl rfl (.v 2 rfl rfl (.v 10 rfl rfl .nil)) rfl rfl (beq_yes' hk42v) rfl) (aq rfl (fun γ => qn rfl rfl (.v 2 rfl rfl (.v 11 rfl rfl .nil)) rfl rfl (beq_yes' hk42v) rfl) (aq rfl (fun γ => qn rfl rfl (.v 2 rfl rfl (.v 7 rfl rfl (.v 12 rfl rfl .nil))) rfl rfl (beq_yes' hk42v) rfl) (aq rfl (fun γ => qp rfl rfl (.v 2 rfl rfl (.v 13 rfl rfl .nil)) (q_pick rfl rfl rfl rfl (bif_yes hk42v _ _)) rfl) (aq rfl (fun γ => qm rfl (.v 14 rfl rfl .nil) rfl) (aq rfl (fun γ => qn rfl rfl (.o (s := 0) rfl (by decide) (.v 15 rfl rfl .nil)) rfl rfl rfl rfl) (aq rfl (fun γ => qn rfl rfl (.o (s := 5) rfl (by decide) (.v 15 rfl rfl .nil)) rfl rfl rfl rfl) (aq rfl (fun γ => qn rfl rfl (.v 15 rfl rfl (.v 16 rfl rfl (.v 17 rfl rfl .nil))) rfl rfl rfl rfl) (aq rfl (fun γ => qn rfl rfl (.v 15 rfl rfl (.v 18 rfl rfl .nil)) rfl rfl rfl rfl) (aq rfl (fun γ => qn rfl rfl (.v 15 rfl rfl (.v 19 rfl rfl .nil)) rfl rfl rfl rfl) (aq rfl (fun γ => qn rfl rfl (.o (s := 1) rfl (by decide) (.v 15 rfl rfl .nil)) rfl rfl rfl rfl) (aq rfl (fun γ => qn rfl rfl (.o (s := 5) rfl (by decide) (.v 15 rfl rfl .nil)) rfl rfl rfl rfl) (aq rfl (fun γ => qn rfl rfl (.v 15 rfl rfl (.v 21 rfl rfl (.v 22 rfl rfl .nil))) rfl rfl rfl rfl) (aq rfl (fun γ => qn rfl rfl (.v 15 rfl rfl (.v 23 rfl rfl .nil)) rfl rfl rfl rfl) (aq rfl (fun γ => qn rfl rfl (.v 15 rfl rfl (.v 24 rfl rfl .nil)) rfl rfl rfl rfl) (aq rfl (fun γ => qn rfl rfl (.v 15 rfl rfl (.v 20 rfl rfl (.v 25 rfl rfl .nil))) rfl rfl rfl rfl) (aq rfl (fun γ => qp rfl rfl (.v 15 rfl rfl (.v 26 rfl rfl .nil)) (q_pick rfl rfl rfl rfl rfl) rfl) zA))))))))))))))))))))))))))))
 exact zA
 intro g43v
 exact nrm_cut (s := true) () ⟨rfl, rfl, rfl, rfl, trivial⟩ (.sel 0 rfl (.nil _))
 refine sim_ask (fun hi44v => ?_)
 obtain ⟨b45v, b45vo, r48v, ha46v, hV49v, hlr50v, hcell51v⟩ := RdV.pos h0 (Up.refl _) rfl (i := s5v.toNat) (by omega) dz36
 obtain ⟨a52v, c53v, rfl, ⟨he54v, hc55v, hm56v⟩⟩ := hV49v
 refine sim_ask (fun hi57v => ?_)
 obtain ⟨b58v, b58vo, r61v, ha59v, hV62v, hlr63v, hcell64v⟩ := RdV.pos h1 (Up.refl _) rfl (i := s5v.toNat) (by omega) dz36
 obtain ⟨a65v, c66v, rfl, ⟨he67v, hc68v, hm69v⟩⟩ := hV62v
 refine sim_if (fun hk70v => ?_) (fun hk70v => ?_)
 refine sim_ask (fun hi72v => ?_)
 obtain ⟨b73v, b73vo, r76v, ha74v, hV77v, hlr78v, hcell79v⟩ := RdV.pos h0 (Up.refl _) rfl (i := s5v.toNat) (by omega) dz36
 obtain ⟨a80v, c81v, rfl, ⟨he82v, hc83v, hm84v⟩⟩ := hV77v
 refine sim_ask (fun hi85v => ?_)
 obtain ⟨b86v, b86vo, r89v, ha87v, hV90v, hlr91v, hcell92v⟩ := RdV.pos h1 (Up.refl _) rfl (i := s5v.toNat) (by omega) dz36
 obtain ⟨a93v, c94v, rfl, ⟨he95v, hc96v, hm97v⟩⟩ := hV90v
 refine sim_draw (Γ := Unit) () [[], [0], [0, 1], [0, 1, 2], [0, 1, 2], rL 5, rL 6, rL 7, [0, 1, 2], [0, 1, 2], [0, 1, 2, 8, 9], [0, 1, 2, 8, 9, 10], [0, 1, 2, 8, 9, 10, 11], rL 13, rL 14, rL 15, rL 16, rL 16, rL 18, rL 19, rL 20, rL 16, rL 16, [0, 1, 2, 3, 4, 5, 6, 7, 8, 9, 10, 11, 12, 13, 14, 15, 21, 22], [0, 1, 2, 3, 4, 5, 6, 7, 8, 9, 10, 11, 12, 13, 14, 15, 21, 22, 23], [0, 1, 2, 3, 4, 5, 6, 7, 8, 9, 10, 11, 12, 13, 14, 15, 21, 22, 23, 24], rL 26, rL 27] [] [0, 1, 2, 3, 4, 5, 6, 7, 8, 9, 10, 11, 12, 13, 14, 15, 16, 17, 18, 19, 20, 21, 22, 23, 24, 25, 26, 27] (fun i => [[0], [0], [0], [0], [0], [0], [0], [0], [0], [0], [0], [0], [0], [0], [0], [0], [0], [0], [0], [0], [0], [0], [0], [0], [0], [0], [0], [0]].getD i []) (fun i => [[], [], [], [], [], [], [], [], [], [], [], [], [], [], [], [], [], [], [], [], [], [], [], [], [], [], [], []].getD i []) (fun γ i => [.bool s36v, .bool (!s36v), .bool (!s36v), .slice a0 x0.length c0, .int .i64 s5v, .pointer (some ⟨b45v, b45vo + s5v.toNat * 3, none⟩), .pointer (some ⟨b45v, b45vo + s5v.toNat * 3 + 0, none⟩), str ((x0.getD s5v.toNat dz36).1), .slice a1 x1.length c1, .int .i64 s5v, .pointer (some ⟨b58v, b58vo + s5v.toNat * 3, none⟩), .pointer (some ⟨b58v, b58vo + s5v.toNat * 3 + 0, none⟩), str ((x1.getD s5v.toNat dz36).1), .bool (!decide (((x0.getD s5v.toNat dz36).1) = ((x1.getD s5v.toNat dz36).1))), .bool (!decide (((x0.getD s5v.toNat dz36).1) = ((x1.getD s5v.toNat dz36).1))), .bool (!decide (((x0.getD s5v.toNat dz36).1) = ((x1.getD s5v.toNat dz36).1))), .slice a0 x0.length c0, .int .i64 s5v, .pointer (some ⟨b73v, b73vo + s5v.toNat * 3, none⟩), .pointer (some ⟨b73v, b73vo + s5v.toNat * 3 + 2, none⟩), .int .i64 ((x0.getD s5v.toNat dz36).2.2), .slice a1 x1.length c1, .int .i64 s5v, .pointer (some ⟨b86v, b86vo + s5v.toNat * 3, none⟩), .pointer (some ⟨b86v, b86vo + s5v.toNat * 3 + 2, none⟩), .int .i64 ((x1.getD s5v.toNat dz36).2.2), .bool (!decide ((x0.getD s5v.toNat dz36).2.2 = (x1.getD s5v.toNat dz36).2.2)), .bool (!decide ((x0.getD s5v.toNat dz36).2.2 = (x1.getD s5v.toNat dz36).2.2))].getD i undef) (fun j γ => [[F]].getD j []) (fun γ => [(0, .slice a0 x0.length c0), (1, .slice a1 x1.length c1), (5, .int .i64 s5v), (32, .slice a0 x0.length c0), (33, .int .i64 s5v), (34, .pointer (some ⟨b45v, b45vo + s5v.toNat * 3, none⟩)), (35, .pointer (some ⟨b45v, b45vo + s5v.toNat * 3 + 0, none⟩)), (36, str ((x0.getD s5v.toNat dz36).1)), (37, .slice a1 x1.length c1), (38, .int .i64 s5v), (39, .pointer (some ⟨b58v, b58vo + s5v.toNat * 3, none⟩)), (40, .pointer (some ⟨b58v, b58vo + s5v.toNat * 3 + 0, none⟩)), (41, str ((x1.getD s5v.toNat dz36).1)), (42, .bool (!decide (((x0.getD s5v.toNat dz36).1) = ((x1.getD s5v.toNat dz36).1)))), (45, .slice a0 x0.length c0), (46, .int .i64 s5v), (47, .pointer (some ⟨b73v, b73vo + s5v.toNat * 3, none⟩)), (48, .pointer (some ⟨b73v, b73vo + s5v.toNat * 3 + 2, none⟩)), (49, .int .i64 ((x0.getD s5v.toNat dz36).2.2)), (50, .slice a1 x1.length c1), (51, .int .i64 s5v), (52, .pointer (some ⟨b86v, b86vo + s5v.toNat * 3, none⟩)), (53, .pointer (some ⟨b86v, b86vo + s5v.toNat * 3 + 2, none⟩)), (54, .int .i64 ((x1.getD s5v.toNat dz36).2.2)), (55, .bool (!decide ((x0.getD s5v.toNat dz36).2.2 = (x1.getD s5v.toNat dz36).2.2))), (56, .bool (!decide ((x0.getD s5v.toNat dz36).2.2 = (x1.getD s5v.toNat dz36).2.2)))]) mixed (by decide) (by decide) (by decide) (by decide) (by decide) (by decide) (by decide) 57 rfl (by decide) (by decide) (by decide) (Ent.refl _) ?_ ?_ (fun _ => ⟨rfl, rfl, rfl, rfl, rfl, rfl, rfl, rfl, rfl, rfl, rfl, rfl, rfl, rfl, rfl, rfl, rfl, rfl, rfl, rfl, rfl, rfl, rfl, rfl, rfl, rfl, trivial⟩) ?_
 exact (aq rfl (fun γ => qm rfl (.o (s := 6) rfl (by decide) .nil) rfl) (aq rfl (fun γ => qp rfl rfl (.v 0 rfl rfl .nil) (q_not rfl rfl) rfl) (aq rfl (fun γ => qm rfl (.v 1 rfl rfl .nil) rfl) (aq rfl (fun γ => qy rfl rfl (.o (s := 0) rfl (by decide) (.v 2 rfl rfl .nil)) rfl rfl (beq_no (eq_false_of_ne_true hk42v)) (q_move rfl rfl) rfl) (aq rfl (fun γ => qy rfl rfl (.o (s := 5) rfl (by decide) (.v 2 rfl rfl .nil)) rfl rfl (beq_no (eq_false_of_ne_true hk42v)) (q_move rfl rfl) rfl) (aq rfl (fun γ => qy rfl rfl (.v 2 rfl rfl (.v 3 rfl rfl (.v 4 rfl rfl .nil))) rfl rfl (beq_no (eq_false_of_ne_true hk42v)) (q_idx rfl rfl rfl ha46v Try.underlying27 Try.sizeOf36 hi44v.1 hi44v.2) rfl) (aq rfl (fun γ => qy rfl rfl (.v 2 rfl rfl (.v 5 rfl rfl .nil)) rfl rfl (beq_no (eq_false_of_ne_true hk42v)) (q_fa rfl rfl Try.underlying36 rfl rfl Try.sizeOf9 rfl) rfl) (aq rfl (fun γ => qy rfl rfl (.v 2 rfl rfl (.v 6 rfl rfl .nil)) rfl rfl (beq_no (eq_false_of_ne_true hk42v)) (q_load rfl rfl Try.isAgg9 (hcell51v 0 rfl 0 _ rfl)) rfl) (aq rfl (fun γ => qy rfl rfl (.o (s := 1) rfl (by decide) (.v 2 rfl rfl .nil)) rfl rfl (beq_no (eq_false_of_ne_true hk42v)) (q_move rfl rfl) rfl) (aq rfl (fun γ => qy rfl rfl (.o (s := 5) rfl (by decide) (.v 2 rfl rfl .nil)) rfl rfl (beq_no (eq_false_of_ne_true hk42v)) (q_move rfl rfl) rfl) (aq rfl (fun γ => qy rfl rfl (.v 2 rfl rfl (.v 8 rfl rfl (.v 9 rfl rfl .nil))) rfl rfl (beq_no (eq_false_of_ne_true hk42v)) (q_idx rfl rfl rfl ha59v Try.underlying27 Try.sizeOf36 hi57v.1 hi57v.2) rfl) (aq rfl (fun γ => qy rfl rfl (.v 2 rfl rfl (.v 10 rfl rfl .nil)) rfl rfl (beq_no (eq_false_of_ne_true hk42v)) (q_fa rfl rfl Try.underlying36 rfl rfl Try.sizeOf9 rfl) rfl) (aq rfl (fun γ => qy rfl rfl (.v 2 rfl rfl (.v 11 rfl rfl .nil)) rfl rfl (beq_no (eq_false_of_ne_true hk42v)) (q_load rfl rfl Try.isAgg9 (hcell64v 0 rfl 0 _ rfl)) rfl) (aq rfl (fun γ => qy rfl rfl (.v 2 rfl rfl (.v 7 rfl rfl (.v 12 rfl rfl .nil))) rfl rfl (beq_no (eq_false_of_ne_true hk42v)) (q_nes rfl rfl rfl) rfl) (aq rfl (fun γ => qp rfl rfl (.v 2 rfl rfl (.v 13 rfl rfl .nil)) (q_pick rfl rfl rfl rfl (bif_no (eq_false_of_ne_true hk42v) _ _)) rfl) (aq rfl (fun γ => qm rfl (.v 14 rfl rfl .nil) rfl) (aq rfl (fun γ => qy rfl rfl (.o (s := 0) rfl (by decide) (.v 15 rfl rfl .nil)) rfl rfl (beq_no (ndec_no hk70v)) (q_move rfl rfl) rfl) (aq rfl (fun γ => qy rfl rfl (.o (s := 5) rfl (by decide) (.v 15 rfl rfl .nil)) rfl rfl (beq_no (ndec_no hk70v)) (q_move rfl rfl) rfl) (aq rfl (fun γ => qy rfl rfl (.v 15 rfl rfl (.v 16 rfl rfl (.v 17 rfl rfl .nil))) rfl rfl (beq_no (ndec_no hk70v)) (q_idx rfl rfl rfl ha74v Try.underlying27 Try.sizeOf36 hi72v.1 hi72v.2) rfl) (aq rfl (fun γ => qy rfl rfl (.v 15 rfl rfl (.v 18 rfl rfl .nil)) rfl rfl (beq_no (ndec_no hk70v)) (q_fa rfl rfl Try.underlying36 rfl rfl Try.sizeOf3 rfl) rfl) (aq rfl (fun γ => qy rfl rfl (.v 15 rfl rfl (.v 19 rfl rfl .nil)) rfl rfl (beq_no (ndec_no hk70v)) (q_load rfl rfl Try.isAgg3 (hcell79v 0 rfl 2 _ rfl)) rfl) (aq rfl (fun γ => qy rfl rfl (.o (s := 1) rfl (by decide) (.v 15 rfl rfl .nil)) rfl rfl (beq_no (ndec_no hk70v)) (q_move rfl rfl) rfl) (aq rfl (fun γ => qy rfl rfl (.o (s := 5) rfl (by decide) (.v 15 rfl rfl .nil)) rfl rfl (beq_no (ndec_no hk70v)) (q_move rfl rfl) rfl) (aq rfl (fun γ => qy rfl rfl (.v 15 rfl rfl (.v 21 rfl rfl (.v 22 rfl rfl .nil))) rfl rfl (beq_no (ndec_no hk70v)) (q_idx rfl rfl rfl ha87v Try.underlying27 Try.sizeOf36 hi85v.1 hi85v.2) rfl) (aq rfl (fun γ => qy rfl rfl (.v 15 rfl rfl (.v 23 rfl rfl .nil)) rfl rfl (beq_no (ndec_no hk70v)) (q_fa rfl rfl Try.underlying36 rfl rfl Try.sizeOf3 rfl) rfl) (aq rfl (fun γ => qy rfl rfl (.v 15 rfl rfl (.v 24 rfl rfl .nil)) rfl rfl (beq_no (ndec_no hk70v)) (q_load rfl rfl Try.isAgg3 (hcell92v 0 rfl 2 _ rfl)) rfl) (aq rfl (fun γ => qy rfl rfl (.v 15 rfl rfl (.v 20 rfl rfl (.v 25 rfl rfl .nil))) rfl rfl (beq_no (ndec_no hk70v)) (q_neq rfl rfl rfl) rfl) (aq rfl (fun γ => qp rfl rfl (.v 15 rfl rfl (.v 26 rfl rfl .nil)) (q_pick rfl rfl rfl rfl (bif_no (ndec_no hk70v) _ _)) rfl) zA))))))))))))))))))))))))))))
 exact zA
 intro g98v
 exact nrm_cut (s := !decide ((x0.getD s5v.toNat dz36).2.2 = (x1.getD s5v.toNat dz36).2.2)) () ⟨rfl, rfl, rfl, rfl, trivial⟩ (.sel 0 rfl (.nil _))
 refine sim_draw (Γ := Unit) () [[], [0], [0, 1], [0, 1, 2], [0, 1, 2], rL 5, rL 6, rL 7, [0, 1, 2], [0, 1, 2], [0, 1, 2, 8, 9], [0, 1, 2, 8, 9, 10], [0, 1, 2, 8, 9, 10, 11], rL 13, rL 14, rL 15, rL 16, rL 16, rL 18, rL 19, rL 20, rL 16, rL 16, [0, 1, 2, 3, 4, 5, 6, 7, 8, 9, 10, 11, 12, 13, 14, 15, 21, 22], [0, 1, 2, 3, 4, 5, 6, 7, 8, 9, 10, 11, 12, 13, 14, 15, 21, 22, 23], [0, 1, 2, 3, 4, 5, 6, 7, 8, 9, 10, 11, 12, 13, 14, 15, 21, 22, 23, 24], rL 26, rL 27] [] [0, 1, 2, 3, 4, 5, 6, 7, 8, 9, 10, 11, 12, 13, 14, 15, 16, 17, 18, 19, 20, 21, 22, 23, 24, 25, 26, 27] (fun i => [[0], [0], [0], [0], [0], [0], [0], [0], [0], [0], [0], [0], [0], [0], [0], [0], [0], [0], [0], [0], [0], [0], [0], [0], [0], [0], [0], [0]].getD i []) (fun i => [[], [], [], [], [], [], [], [], [], [], [], [], [], [], [], [], [], [], [], [], [], [], [], [], [], [], [], []].getD i []) (fun γ i => [.bool s36v, .bool (!s36v), .bool (!s36v), .slice a0 x0.length c0, .int .i64 s5v, .pointer (some ⟨b45v, b45vo + s5v.toNat * 3, none⟩), .pointer (some ⟨b45v, b45vo + s5v.toNat * 3 + 0, none⟩), str ((x0.getD s5v.toNat dz36).1), .slice a1 x1.length c1, .int .i64 s5v, .pointer (some ⟨b58v, b58vo + s5v.toNat * 3, none⟩), .pointer (some ⟨b58v, b58vo + s5v.toNat * 3 + 0, none⟩), str ((x1.getD s5v.toNat dz36).1), .bool (!decide (((x0.getD s5v.toNat dz36).1) = ((x1.getD s5v.toNat dz36).1))), .bool (!decide (((x0.getD s5v.toNat dz36).1) = ((x1.getD s5v.toNat dz36).1))), .bool (!decide (((x0.getD s5v.toNat dz36).1) = ((x1.getD s5v.toNat dz36).1))), undef, undef, undef, undef, undef, undef, undef, undef, undef, undef, undef, .bool true].getD i undef) (fun j γ => [[F]].getD j []) (fun γ => [(0, .slice a0 x0.length c0), (1, .slice a1 x1.length c1), (5, .int .i64 s5v), (32, .slice a0 x0.length c0), (33, .int .i64 s5v), (34, .pointer (some ⟨b45v, b45vo + s5v.toNat * 3, none⟩)), (35, .pointer (some ⟨b45v, b45vo + s5v.toNat * 3 + 0, none⟩)), (36, str ((x0.getD s5v.toNat dz36).1)), (37, .slice a1 x1.length c1), (38, .int .i64 s5v), (39, .pointer (some ⟨b58v, b58vo + s5v.toNat * 3, none⟩)), (40, .pointer (some ⟨b58v, b58vo + s5v.toNat * 3 + 0, none⟩)), (41, str ((x1.getD s5v.toNat dz36).1)), (42, .bool (!decide (((x0.getD s5v.toNat dz36).1) = ((x1.getD s5v.toNat dz36).1)))), (45, undef), (46, undef), (47, undef), (48, undef), (49, undef), (50, undef), (51, undef), (52, undef), (53, undef), (54, undef), (55, undef), (56, .bool true)]) mixed (by decide) (by decide) (by decide) (by decide) (by decide) (by decide) (by decide) 57 rfl (by decide) (by decide) (by decide) (Ent.refl _) ?_ ?_ (fun _ => ⟨rfl, rfl, rfl, rfl, rfl, rfl, rfl, rfl, rfl, rfl, rfl, rfl, rfl, rfl, rfl, rfl, rfl, rfl, rfl, rfl, rfl, rfl, rfl, rfl, rfl, rfl, trivial⟩) ?_
 exact (aq rfl (fun γ => qm rfl (.o (s := 6) rfl (by decide) .nil) rfl) (aq rfl (fun γ => qp rfl rfl (.v 0 rfl rfl .nil) (q_not rfl rfl) rfl) (aq rfl (fun γ => qm rfl (.v 1 rfl rfl .nil) rfl) (aq rfl (fun γ => qy rfl rfl (.o (s := 0) rfl (by decide) (.v 2 rfl rfl .nil)) rfl rfl (beq_no (eq_false_of_ne_true hk42v)) (q_move rfl rfl) rfl) (aq rfl (fun γ => qy rfl rfl (.o (s := 5) rfl (by decide) (.v 2 rfl rfl .nil)) rfl rfl (beq_no (eq_false_of_ne_true hk42v)) (q_move rfl rfl) rfl) (aq rfl (fun γ => qy rfl rfl (.v 2 rfl rfl (.v 3 rfl rfl (.v 4 rfl rfl .nil))) rfl rfl (beq_no (eq_false_of_ne_true hk42v)) (q_idx rfl rfl rfl ha46v Try.underlying27 Try.sizeOf36 hi44v.1 hi44v.2) rfl) (aq rfl (fun γ => qy rfl rfl (.v 2 rfl rfl (.v 5 rfl rfl .nil)) rfl rfl (beq_no (eq_false_of_ne_true hk42v)) (q_fa rfl rfl Try.underlying36 rfl rfl Try.sizeOf9 rfl) rfl) (aq rfl (fun γ => qy rfl rfl (.v 2 rfl rfl (.v 6 rfl rfl .nil)) rfl rfl (beq_no (eq_false_of_ne_true hk42v)) (q_load rfl rfl Try.isAgg9 (hcell51v 0 rfl 0 _ rfl)) rfl) (aq rfl (fun γ => qy rfl rfl (.o (s := 1) rfl (by decide) (.v 2 rfl rfl .nil)) rfl rfl (beq_no (eq_false_of_ne_true hk42v)) (q_move rfl rfl) rfl) (aq rfl (fun γ => qy rfl rfl (.o (s := 5) rfl (by decide) (.v 2 rfl rfl .nil)) rfl rfl (beq_no (eq_false_of_ne_true hk42v)) (q_move rfl rfl) rfl) (aq rfl (fun γ => qy rfl rfl (.v 2 rfl rfl (.v 8 rfl rfl (.v 9 rfl rfl .nil))) rfl rfl (beq_no (eq_false_of_ne_true hk42v)) (q_idx rfl rfl rfl ha59v Try.underlying27 Try.sizeOf36 hi57v.1 hi57v.2) rfl) (aq rfl (fun γ => qy rfl rfl (.v 2 rfl rfl (.v 10 rfl rfl .nil)) rfl rfl (beq_no (eq_false_of_ne_true hk42v)) (q_fa rfl rfl Try.underlying36 rfl rfl Try.sizeOf9 rfl) rfl) (aq rfl (fun γ => qy rfl rfl (.v 2 rfl rfl (.v 11 rfl rfl .nil)) rfl rfl (beq_no (eq_false_of_ne_true hk42v)) (q_load rfl rfl Try.isAgg9 (hcell64v 0 rfl 0 _ rfl)) rfl) (aq rfl (fun γ => qy rfl rfl (.v 2 rfl rfl (.v 7 rfl rfl (.v 12 rfl rfl .nil))) rfl rfl (beq_no (eq_false_of_ne_true hk42v)) (q_nes rfl rfl rfl) rfl) (aq rfl (fun γ => qp rfl rfl (.v 2 rfl rfl (.v 13 rfl rfl .nil)) (q_pick rfl rfl rfl rfl (bif_no (eq_false_of_ne_true hk42v) _ _)) rfl) (aq rfl (fun γ => qm rfl (.v 14 rfl rfl .nil) rfl) (aq rfl (fun γ => qn rfl rfl (.o (s := 0) rfl (by decide) (.v 15 rfl rfl .nil)) rfl rfl (beq_yes' (ndec_yes hk70v)) rfl) (aq rfl (fun γ => qn rfl rfl (.o (s := 5) rfl (by decide) (.v 15 rfl rfl .nil)) rfl rfl (beq_yes' (ndec_yes hk70v)) rfl) (aq rfl (fun γ => qn rfl rfl (.v 15 rfl rfl (.v 16 rfl rfl (.v 17 rfl rfl .nil))) rfl rfl (beq_yes' (ndec_yes hk70v)) rfl) (aq rfl (fun γ => qn rfl rfl (.v 15 rfl rfl (.v 18 rfl rfl .nil)) rfl rfl (beq_yes' (ndec_yes hk70v)) rfl) (aq rfl (fun γ => qn rfl rfl (.v 15 rfl rfl (.v 19 rfl rfl .nil)) rfl rfl (beq_yes' (ndec_yes hk70v)) rfl) (aq rfl (fun γ => qn rfl rfl (.o (s := 1) rfl (by decide) (.v 15 rfl rfl .nil)) rfl rfl (beq_yes' (ndec_yes hk70v)) rfl) (aq rfl (fun γ => qn rfl rfl (.o (s := 5) rfl (by decide) (.v 15 rfl rfl .nil)) rfl rfl (beq_yes' (ndec_yes hk70v)) rfl) (aq rfl (fun γ => qn rfl rfl (.v 15 rfl rfl (.v 21 rfl rfl (.v 22 rfl rfl .nil))) rfl rfl (beq_yes' (ndec_yes hk70v)) rfl) (aq rfl (fun γ => qn rfl rfl (.v 15 rfl rfl (.v 23 rfl rfl .nil)) rfl rfl (beq_yes' (ndec_yes hk70v)) rfl) (aq rfl (fun γ => qn rfl rfl (.v 15 rfl rfl (.v 24 rfl rfl .nil)) rfl rfl (beq_yes' (ndec_yes hk70v)) rfl) (aq rfl (fun γ => qn rfl rfl (.v 15 rfl rfl (.v 20 rfl rfl (.v 25 rfl rfl .nil))) rfl rfl (beq_yes' (ndec_yes hk70v)) rfl) (aq rfl (fun γ => qp rfl rfl (.v 15 rfl rfl (.v 26 rfl rfl .nil)) (q_pick rfl rfl rfl rfl (bif_yes (ndec_yes hk70v) _ _)) rfl) zA))))))))))))))))))))))))))))
 exact zA
 intro g71v
 exact nrm_cut (s := true) () ⟨rfl, rfl, rfl, rfl, trivial⟩ (.sel 0 rfl (.nil _))
 intro s40v y41v
 refine sim_condb rfl (fun h99v => ?_) (fun h100v => ?_)
 refine sr ?_
 refine va rfl rfl (simL_nil (nrm_then (sim_rtn ?_)))
 refine rtn_block ?_
 refine rtn_then ?_
 refine rtn_loop ?_
 refine rtn_block ?_
 refine rtn_cutR ?_
 exact rtn_fn () rfl rfl rfl (.sel 0 rfl (.nil _))
 refine sim_skip ?_
 refine nrm_block (nrm_then (sim_region ?_))
 refine vm rfl rfl ?_
 refine vq (q_add rfl rfl rfl) rfl ?_
 refine va rfl rfl (simL_nil ?_)
 exact nrm_again (s := IntKind.i64.wrap (s5v + 1)) () ⟨rfl, rfl, rfl, trivial⟩ (.sel 0 rfl (.nil _))
 refine sim_exi ?_
 refine exi_then ?_
 refine exi_loop ?_
 refine exi_here ?_
 exact nrm_cutR (s := ()) () trivial (.sel 0 rfl (.nil _))
 intro s3v y4v
 refine sr ?_
 refine va rfl rfl (simL_nil (nrm_then (sim_rtn ?_)))
 exact rtn_fn () rfl rfl rfl (.sel 0 rfl (.nil _))
 refine sr ?_
 refine va rfl rfl (simL_nil (nrm_then (sim_rtn ?_)))
 refine rtn_then ?_
 exact rtn_fn () rfl rfl rfl (.sel 0 rfl (.nil _))

def disk_Disk_Down.f (x0_0 : List ((List UInt8) × (List UInt8 × Int))) (x0_1 : List UInt8) (x0_2 : Int) (x0_3 : Bool) : Option (Bool) := some x0_3
theorem disk_Disk_Down.calls (W : World) (F : HA) (b0 : Nat) (m0_0 : Nat) (q0_0 : Kps) (x0_0 : List ((List UInt8) × (List UInt8 × Int))) (x0_1 : List UInt8) (x0_2 : Int) (x0_3 : Bool)  :
    Fn Try.prog W 23 [.pointer (some ⟨b0, 0, none⟩)] [obj b0 64 [.map (some m0_0), str x0_1, .int .i64 x0_2, .bool x0_3], mapF (mapO m0_0 enc9 encP q0_0) FA68 q0_0 x0_0] F (disk_Disk_Down.f x0_0 x0_1 x0_2 x0_3) (fun (r : Bool) (y : Unit) => .bool r) (fun r y => [obj b0 64 [.map (some m0_0), str x0_1, .int .i64 x0_2, .bool x0_3], mapF (mapO m0_0 enc9 encP q0_0) FA68 q0_0 x0_0]) := by
 unfold disk_Disk_Down.f
 refine fn_intro 7 Try.func23 rfl Try.ntmps23 rfl ?_
 refine sr ?_
 refine va rfl rfl (nx ?_)
 refine vm rfl rfl ?_
 refine vn rfl rfl ?_
 refine vq (q_fa rfl rfl Try.underlying64 rfl rfl Try.sizeOf4 rfl) rfl ?_
 refine vq (q_load rfl rfl Try.isAgg4 (.obj 0 rfl rfl)) rfl ?_
 refine va rfl rfl (simL_nil (nrm_then (sim_rtn ?_)))
 exact rtn_fn () rfl rfl rfl (.sel 0 rfl (.sel 0 rfl (.sel 0 rfl (.nil _))))
def disk_Disk_Down.v (x0_0 : List ((List UInt8) × (List UInt8 × Int))) (x0_1 : List UInt8) (x0_2 : Int) (x0_3 : Bool) : Bool := (disk_Disk_Down.f x0_0 x0_1 x0_2 x0_3).getD false
theorem disk_Disk_Down.tot (x0_0 : List ((List UInt8) × (List UInt8 × Int))) (x0_1 : List UInt8) (x0_2 : Int) (x0_3 : Bool) : disk_Disk_Down.f x0_0 x0_1 x0_2 x0_3 = some (disk_Disk_Down.v x0_0 x0_1 x0_2 x0_3) := by
  have h : ∃ r, disk_Disk_Down.f x0_0 x0_1 x0_2 x0_3 = some r := by
    unfold disk_Disk_Down.f
    repeat' (first | exact ⟨_, rfl⟩ | split | simp only [Option.bind_some])
  obtain ⟨r, h⟩ := h
  unfold disk_Disk_Down.v
  rw [h]; rfl

def synodlaw4_DiskLoaded.l0 (x1 : List (Ty52)) : Nat → Int → List ((List UInt8) × (List UInt8 × Int)) → List UInt8 → Int → Bool → List ((List UInt8) × (List UInt8 × Int)) → List UInt8 → Int → Bool → Option (((List ((List UInt8) × (List UInt8 × Int))) × List UInt8 × Int × Bool × (List ((List UInt8) × (List UInt8 × Int))) × List UInt8 × Int × Bool) ⊕ (Bool))
  | 0, _, _, _, _, _, _, _, _, _ => none
  | k + 1, z68v, z69v, z70v, z71v, z72v, z73v, z74v, z75v, z76v => if z68v < (x1.length : Int) then (if 0 ≤ z68v ∧ z68v < (x1.length : Int) then ((synodlaw4_told.f k z73v z74v z75v z76v ((x1.getD z68v.toNat dz52).1) ((x1.getD z68v.toNat dz52).2.1) ((x1.getD z68v.toNat dz52).2.2.1) ((x1.getD z68v.toNat dz52).2.2.2.1) ((x1.getD z68v.toNat dz52).2.2.2.2)).bind fun s92v => (if 0 ≤ z68v ∧ z68v < (x1.length : Int) then ((synodlaw4_told.f k z69v z70v z71v z72v ((x1.getD z68v.toNat dz52).1) ((x1.getD z68v.toNat dz52).2.1) ((x1.getD z68v.toNat dz52).2.2.1) ((x1.getD z68v.toNat dz52).2.2.2.1) ((x1.getD z68v.toNat dz52).2.2.2.2)).bind fun s108v => (if s92v.1 = s108v.1 then (synodlaw4_DiskLoaded.l0 x1 k (IntKind.i64.wrap (z68v + 1)) s108v.2.1 s108v.2.2.1 s108v.2.2.2.1 s108v.2.2.2.2 s92v.2.1 s92v.2.2.1 s92v.2.2.2.1 s92v.2.2.2.2) else (some (.inr false)))) else none)) else none) else (some (.inl (z69v, z70v, z71v, z72v, z73v, z74v, z75v, z76v)))
def synodlaw4_DiskLoaded.f (k : Nat) (x0 : List (Ty52)) (x1 : List (Ty52)) : Option (Bool) := (synodlaw4_first.f k).bind fun s1v => ((synodlaw4_few.f k x0).bind fun s4v => ((if s4v = true then ((synodlaw4_few.f k x1).bind fun s9v => (some s9v)) else (some false)).bind fun s7v => (if ((!s1v) || (!s7v)) = true then (some s1v) else ((synodlaw4_made.f k x0).bind fun s16v => ((disk_Disk_Files.f k s16v.1 s16v.2.1 s16v.2.2.1 s16v.2.2.2).bind fun s19v => ((disk_Load.f k s19v).bind fun s28v => (if s28v.1 = true then ((synodref_Num.f s28v.2.2.2.2.2).bind fun s32v => (if ((!decide (s32v = (0 : Int))) || false) = true then (some false) else ((disk_Disk_Files.f k s28v.2.1 s28v.2.2.1 s28v.2.2.2.1 s28v.2.2.2.2.1).bind fun s37v => ((disk_Disk_Files.f k s16v.1 s16v.2.1 s16v.2.2.1 s16v.2.2.2).bind fun s40v => ((synodref_SameFiles.f k s37v s40v).bind fun s55v => ((disk_Disk_Crash.f s28v.2.1 s28v.2.2.1 s28v.2.2.2.1 s28v.2.2.2.2.1 (5 : Int)).bind fun s58v => ((disk_Disk_Crash.f s16v.1 s16v.2.1 s16v.2.2.1 s16v.2.2.2 (0 : Int)).bind fun s61v => (orR (synodlaw4_DiskLoaded.l0 x1 k 0 s61v.1 s61v.2.1 s61v.2.2.1 s61v.2.2.2 s58v.1 s58v.2.1 s58v.2.2.1 s58v.2.2.2) fun s64v => ((disk_Disk_Files.f k s64v.2.2.2.2.1 s64v.2.2.2.2.2.1 s64v.2.2.2.2.2.2.1 s64v.2.2.2.2.2.2.2).bind fun s114v => ((disk_Disk_Files.f k s64v.1 s64v.2.1 s64v.2.2.1 s64v.2.2.2.1).bind fun s117v => ((synodref_SameFiles.f k s114v s117v).bind fun s132v => ((if (s55v && s132v) = true then ((disk_Disk_Down.f s64v.2.2.2.2.1 s64v.2.2.2.2.2.1 s64v.2.2.2.2.2.2.1 s64v.2.2.2.2.2.2.2).bind fun s137v => ((disk_Disk_Down.f s64v.1 s64v.2.1 s64v.2.2.1 s64v.2.2.2.1).bind fun s140v => (some (s137v == s140v)))) else (some false)).bind fun s135v => ((if s135v = true then ((disk_Disk_Size.f s64v.2.2.2.2.1 s64v.2.2.2.2.2.1 s64v.2.2.2.2.2.2.1 s64v.2.2.2.2.2.2.2).bind fun s147v => ((disk_Disk_Size.f s64v.1 s64v.2.1 s64v.2.2.1 s64v.2.2.2.1).bind fun s150v => (some (decide (s147v = s150v))))) else (some false)).bind fun s145v => (some s145v)))))))))))))) else ((synodref_Num.f s28v.2.2.2.2.2).bind fun s159v => (some false)))))))))
theorem synodlaw4_DiskLoaded.calls (W : World) (F : HA) (k : Nat) (a0 : Option Addr) (c0 : Nat) (x0 : List (Ty52)) (a1 : Option Addr) (c1 : Nat) (x1 : List (Ty52)) (h0 : RdV F 5 (V52 F) a0 x0) (hc0 : x0.length ≤ c0) (hm0 : c0 ≤ maxLen) (h1 : RdV F 5 (V52 F) a1 x1) (hc1 : x1.length ≤ c1) (hm1 : c1 ≤ maxLen) :
    Fn Try.prog W 7 [.slice a0 x0.length c0, .slice a1 x1.length c1] [] F (synodlaw4_DiskLoaded.f k x0 x1) (fun (r : Bool) (y : Unit) => .bool r) (fun r y => []) := by
 unfold synodlaw4_DiskLoaded.f
 refine fn_intro 93 Try.func7 rfl Try.ntmps7 rfl ?_
 refine sr ?_
 refine va rfl rfl (nx ?_)
 refine simL_bind (fun s1v hs2v => ?_)
 refine simL_eff (re_call (vs := []) (cap := []) (A := []) (rst := [F]) rfl rfl rfl rfl rfl rfl Try.call9 (.sel 0 rfl (.nil _)) (synodlaw4_first.calls _ _ k  ) hs2v) rfl rfl rfl ?_
 intro y3v
 refine va rfl rfl (nx ?_)
 refine vm rfl rfl ?_
 refine simL_bind (fun s4v hs5v => ?_)
 refine simL_eff (re_call (vs := [.slice a0 x0.length c0]) (cap := []) (A := []) (rst := [F]) rfl rfl rfl rfl rfl rfl Try.call19 (.sel 0 rfl (.nil _)) (synodlaw4_few.calls _ _ k a0 c0 x0 (h0.up (Up.lend 0 rfl) (V52.up (Up.lend 0 rfl))) hc0 hm0) hs5v) rfl rfl rfl ?_
 intro y6v
 refine vm rfl rfl ?_
 refine simL_cut' 3 (S := Bool) (Unit) (fun s y => [(0, .slice a0 x0.length c0), (1, .slice a1 x1.length c1), (5, .bool s1v), (19, .bool s)]) (fun s y => [F]) ?_ ?_
 refine simL_caseb (fun hb12v => ?_) (fun hb13v => ?_)
 rw [hb12v]
 refine simL_valg (q_move rfl rfl) rfl rfl rfl rfl rfl rfl ?_
 refine simL_bind (fun s9v hs10v => ?_)
 refine simL_effg (re_call (vs := [.slice a1 x1.length c1]) (cap := []) (A := []) (rst := [F]) rfl rfl rfl rfl rfl rfl Try.call19 (.sel 0 rfl (.nil _)) (synodlaw4_few.calls _ _ k a1 c1 x1 (h1.up (Up.lend 0 rfl) (V52.up (Up.lend 0 rfl))) hc1 hm1) hs10v) rfl rfl rfl rfl rfl rfl ?_
 intro y11v
 refine vq (q_pick rfl rfl rfl rfl rfl) rfl (simL_nil ?_)
 exact nrm_cut (s := s9v) () ⟨rfl, rfl, rfl, rfl, trivial⟩ (.sel 0 rfl (.nil _))
 rw [hb13v]
 refine simL_skipd rfl rfl rfl rfl rfl rfl ?_
 refine simL_skipd rfl rfl rfl rfl rfl rfl ?_
 refine vq (q_pick rfl rfl rfl rfl rfl) rfl (simL_nil ?_)
 exact nrm_cut (s := false) () ⟨rfl, rfl, rfl, rfl, trivial⟩ (.sel 0 rfl (.nil _))
 intro s7v y8v
 refine va rfl rfl (simL_nil (nrm_then (sim_seq (sr ?_))))
 refine vm rfl rfl ?_
 refine vq (q_not rfl rfl) rfl ?_
 refine vm rfl rfl ?_
 refine simL_valc (b := !s1v) (fun hb165v => RQ.sub (E' := [(6, .bool s7v)]) ⟨rfl, trivial⟩ (q_move rfl rfl)) rfl rfl rfl rfl rfl ?_
 refine simL_valc (b := !s1v) (fun hb164v => RQ.sub (E' := [(23, .bool s7v)]) ⟨lk_cv rfl hb164v, trivial⟩ (q_not rfl rfl)) rfl rfl rfl rfl rfl ?_
 refine vq (q_or rfl rfl rfl) rfl (simL_nil (nrm_then ?_))
 refine sim_condb rfl (fun h14v => ?_) (fun h15v => ?_)
 refine sr ?_
 refine vm rfl rfl ?_
 refine va rfl rfl (simL_nil (nrm_then (sim_rtn ?_)))
 refine rtn_then ?_
 exact rtn_fn () rfl rfl rfl (.sel 0 rfl (.nil _))
 refine sim_skip ?_
 refine nrm_then (sr ?_)
 refine vm rfl rfl ?_
 refine simL_bind (fun s16v hs17v => ?_)
 refine simL_eff (re_call (vs := [.slice a0 x0.length c0]) (cap := []) (A := []) (rst := [F]) rfl rfl rfl rfl rfl rfl Try.call20 (.sel 0 rfl (.nil _)) (synodlaw4_made.calls _ _ k a0 c0 x0 (h0.up (Up.lend 0 rfl) (V52.up (Up.lend 0 rfl))) hc0 hm0) hs17v) rfl rfl rfl ?_
 intro y18v
 refine va rfl rfl (nx ?_)
 refine vm rfl rfl ?_
 refine simL_bind (fun s19v hs20v => ?_)
 refine simL_eff (re_call (vs := [.pointer (some ⟨y18v.1, 0, none⟩)]) (cap := []) (A := [obj y18v.1 64 [.map (some y18v.2.1), str s16v.2.1, .int .i64 s16v.2.2.1, .bool s16v.2.2.2], mapF (mapO y18v.2.1 enc9 encP y18v.2.2) FA68 y18v.2.2 s16v.1]) (rst := [F]) rfl rfl rfl rfl rfl rfl Try.call21 (.sel 0 rfl (.sel 0 rfl (.sel 0 rfl (.nil _)))) (disk_Disk_Files.calls _ _ k y18v.1 y18v.2.1 y18v.2.2 s16v.1 s16v.2.1 s16v.2.2.1 s16v.2.2.2 ) hs20v) rfl rfl rfl ?_
 intro y21v
 refine simL_openV 0 rfl (fun rs22v hl23v => ?_)
 refine simL_bind (fun s28v hs29v => ?_)
 refine simL_if (fun hb30v => ?_) (fun hb30v => ?_)
 refine simL_lend 0 rfl (fun hq24v hq25v hq26v hq27v => ?_)
 refine simL_eff (re_call (vs := [.slice y21v.1 s19v.length y21v.2.1]) (cap := []) (A := []) (rst := [Row 36 3 y21v.1 s19v.length y21v.2.1 rs22v.flatten, y21v.2.2, obj y18v.1 64 [.map (some y18v.2.1), str s16v.2.1, .int .i64 s16v.2.2.1, .bool s16v.2.2.2], mapF (mapO y18v.2.1 enc9 encP y18v.2.2) FA68 y18v.2.2 s16v.1, F]) rfl rfl rfl rfl rfl rfl Try.call29 (.sel 0 rfl (.sel 0 rfl (.sel 0 rfl (.sel 0 rfl (.sel 0 rfl (.nil _)))))) (disk_Load.callsT _ _ k y21v.1 y21v.2.1 s19v ((Rd.asV hl23v hq24v).up (Up.lend 0 rfl) (V36.up (Up.lend 1 rfl))) hq25v hq26v) (filt_of hs29v hb30v)) rfl rfl rfl ?_
 intro y31v
 refine vm rfl rfl ?_
 refine vq (q_ext rfl rfl rfl) rfl ?_
 refine vq (q_ext rfl rfl rfl) rfl ?_
 refine va rfl rfl ?_
 refine va rfl rfl (simL_nil (nrm_then (sim_seq (sr ?_))))
 refine vm rfl rfl ?_
 refine simL_bind (fun s32v hs33v => ?_)
 refine simL_eff (re_call (vs := [.int .i64 s28v.2.2.2.2.2]) (cap := []) (A := []) (rst := [obj y31v.1 64 [.map (some y31v.2.1), str s28v.2.2.1, .int .i64 s28v.2.2.2.1, .bool s28v.2.2.2.2.1], mapF (mapO y31v.2.1 enc9 encP y31v.2.2) FA68 y31v.2.2 s28v.2.1, Row 36 3 y21v.1 s19v.length y21v.2.1 rs22v.flatten, y21v.2.2, obj y18v.1 64 [.map (some y18v.2.1), str s16v.2.1, .int .i64 s16v.2.2.1, .bool s16v.2.2.2], mapF (mapO y18v.2.1 enc9 encP y18v.2.2) FA68 y18v.2.2 s16v.1, F]) rfl rfl rfl rfl rfl rfl Try.call11 (.sel 0 rfl (.sel 0 rfl (.sel 0 rfl (.sel 0 rfl (.sel 0 rfl (.sel 0 rfl (.sel 0 rfl (.nil _)))))))) (synodref_Num.calls _ _ s28v.2.2.2.2.2 ) hs33v) rfl rfl rfl ?_
 intro y34v
 refine vq (q_neq rfl rfl rfl) rfl ?_
 refine vm rfl rfl ?_
 refine simL_valc (b := !decide (s32v = (0 : Int))) (fun hb157v => RQ.sub (E' := [(8, .pointer (some ⟨y31v.1, 0, none⟩))]) ⟨rfl, trivial⟩ (q_move rfl rfl)) rfl rfl rfl rfl rfl ?_
 refine simL_valc (b := !decide (s32v = (0 : Int))) (fun hb156v => RQ.sub (E' := [(39, .pointer (some ⟨y31v.1, 0, none⟩))]) ⟨lk_cv rfl hb156v, trivial⟩ (q_eqp rfl rfl rfl Try.underlying24)) rfl rfl rfl rfl rfl ?_
 refine vq (q_or rfl rfl rfl) rfl (simL_nil (nrm_then ?_))
 refine sim_condb rfl (fun h35v => ?_) (fun h36v => ?_)
 refine sr ?_
 refine va rfl rfl (simL_nil (nrm_then (sim_rtn ?_)))
 refine rtn_then ?_
 exact rtn_fn () rfl rfl rfl (.sel 6 rfl (.nil _))
 refine sim_skip ?_
 refine nrm_then (sr ?_)
 refine vm rfl rfl ?_
 refine simL_bind (fun s37v hs38v => ?_)
 refine simL_eff (re_call (vs := [.pointer (some ⟨y31v.1, 0, none⟩)]) (cap := []) (A := [obj y31v.1 64 [.map (some y31v.2.1), str s28v.2.2.1, .int .i64 s28v.2.2.2.1, .bool s28v.2.2.2.2.1], mapF (mapO y31v.2.1 enc9 encP y31v.2.2) FA68 y31v.2.2 s28v.2.1]) (rst := [Row 36 3 y21v.1 s19v.length y21v.2.1 rs22v.flatten, y21v.2.2, obj y18v.1 64 [.map (some y18v.2.1), str s16v.2.1, .int .i64 s16v.2.2.1, .bool s16v.2.2.2], mapF (mapO y18v.2.1 enc9 encP y18v.2.2) FA68 y18v.2.2 s16v.1, F]) rfl rfl rfl rfl rfl rfl Try.call21 (.sel 0 rfl (.sel 0 rfl (.sel 0 rfl (.sel 0 rfl (.sel 0 rfl (.sel 0 rfl (.sel 0 rfl (.nil _)))))))) (disk_Disk_Files.calls _ _ k y31v.1 y31v.2.1 y31v.2.2 s28v.2.1 s28v.2.2.1 s28v.2.2.2.1 s28v.2.2.2.2.1 ) hs38v) rfl rfl rfl ?_
 intro y39v
 refine vm rfl rfl ?_
 refine simL_bind (fun s40v hs41v => ?_)
 refine simL_eff (re_call (vs := [.pointer (some ⟨y18v.1, 0, none⟩)]) (cap := []) (A := [obj y18v.1 64 [.map (some y18v.2.1), str s16v.2.1, .int .i64 s16v.2.2.1, .bool s16v.2.2.2], mapF (mapO y18v.2.1 enc9 encP y18v.2.2) FA68 y18v.2.2 s16v.1]) (rst := [RowV 36 3 (V36 (y39v.2.2)) y39v.1 s37v y39v.2.1, y39v.2.2, obj y31v.1 64 [.map (some y31v.2.1), str s28v.2.2.1, .int .i64 s28v.2.2.2.1, .bool s28v.2.2.2.2.1], mapF (mapO y31v.2.1 enc9 encP y31v.2.2) FA68 y31v.2.2 s28v.2.1, Row 36 3 y21v.1 s19v.length y21v.2.1 rs22v.flatten, y21v.2.2, F]) rfl rfl rfl rfl rfl rfl Try.call21 (.sel 6 rfl (.sel 6 rfl (.sel 0 rfl (.sel 0 rfl (.sel 0 rfl (.sel 0 rfl (.sel 0 rfl (.sel 0 rfl (.sel 0 rfl (.nil _)))))))))) (disk_Disk_Files.calls _ _ k y18v.1 y18v.2.1 y18v.2.2 s16v.1 s16v.2.1 s16v.2.2.1 s16v.2.2.2 ) hs41v) rfl rfl rfl ?_
 intro y42v
 refine simL_openV 0 rfl (fun rs43v hl44v => ?_)
 refine simL_openV 4 rfl (fun rs45v hl46v => ?_)
 refine simL_bind (fun s55v hs56v => ?_)
 refine simL_lend 4 rfl (fun hq47v hq48v hq49v hq50v => ?_)
 refine simL_lend 0 rfl (fun hq51v hq52v hq53v hq54v => ?_)
 refine simL_eff (re_call (vs := [.slice y39v.1 s37v.length y39v.2.1, .slice y42v.1 s40v.length y42v.2.1]) (cap := []) (A := []) (rst := [Row 36 3 y42v.1 s40v.length y42v.2.1 rs43v.flatten, y42v.2.2, obj y18v.1 64 [.map (some y18v.2.1), str s16v.2.1, .int .i64 s16v.2.2.1, .bool s16v.2.2.2], mapF (mapO y18v.2.1 enc9 encP y18v.2.2) FA68 y18v.2.2 s16v.1, Row 36 3 y39v.1 s37v.length y39v.2.1 rs45v.flatten, y39v.2.2, obj y31v.1 64 [.map (some y31v.2.1), str s28v.2.2.1, .int .i64 s28v.2.2.2.1, .bool s28v.2.2.2.2.1], mapF (mapO y31v.2.1 enc9 encP y31v.2.2) FA68 y31v.2.2 s28v.2.1, Row 36 3 y21v.1 s19v.length y21v.2.1 rs22v.flatten, y21v.2.2, F]) rfl rfl rfl rfl rfl rfl Try.call25 (.sel 0 rfl (.sel 0 rfl (.sel 0 rfl (.sel 0 rfl (.sel 0 rfl (.sel 0 rfl (.sel 0 rfl (.sel 0 rfl (.sel 0 rfl (.sel 0 rfl (.sel 0 rfl (.nil _)))))))))))) (synodref_SameFiles.calls _ _ k y39v.1 y39v.2.1 s37v y42v.1 y42v.2.1 s40v ((Rd.asV hl46v hq47v).up (Up.lend 4 rfl) (V36.up (Up.lend 5 rfl))) hq48v hq49v ((Rd.asV hl44v hq51v).up (Up.lend 0 rfl) (V36.up (Up.lend 1 rfl))) hq52v hq53v) hs56v) rfl rfl rfl ?_
 intro y57v
 refine va rfl rfl (nx ?_)
 refine vm rfl rfl ?_
 refine simL_bind (fun s58v hs59v => ?_)
 refine simL_eff (re_call (vs := [.pointer (some ⟨y31v.1, 0, none⟩), .int .i64 5]) (cap := []) (A := [obj y31v.1 64 [.map (some y31v.2.1), str s28v.2.2.1, .int .i64 s28v.2.2.2.1, .bool s28v.2.2.2.2.1], mapF (mapO y31v.2.1 enc9 encP y31v.2.2) FA68 y31v.2.2 s28v.2.1]) (rst := [Row 36 3 y42v.1 s40v.length y42v.2.1 rs43v.flatten, y42v.2.2, obj y18v.1 64 [.map (some y18v.2.1), str s16v.2.1, .int .i64 s16v.2.2.1, .bool s16v.2.2.2], mapF (mapO y18v.2.1 enc9 encP y18v.2.2) FA68 y18v.2.2 s16v.1, Row 36 3 y39v.1 s37v.length y39v.2.1 rs45v.flatten, y39v.2.2, Row 36 3 y21v.1 s19v.length y21v.2.1 rs22v.flatten, y21v.2.2, F]) rfl rfl rfl rfl rfl rfl Try.call22 (.sel 6 rfl (.sel 6 rfl (.sel 0 rfl (.sel 0 rfl (.sel 0 rfl (.sel 0 rfl (.sel 0 rfl (.sel 0 rfl (.sel 0 rfl (.sel 0 rfl (.sel 0 rfl (.nil _)))))))))))) (disk_Disk_Crash.calls _ _ y31v.1 y31v.2.1 y31v.2.2 s28v.2.1 s28v.2.2.1 s28v.2.2.2.1 s28v.2.2.2.2.1 (5 : Int) ) hs59v) rfl rfl rfl ?_
 intro y60v
 refine nx ?_
 refine vm rfl rfl ?_
 refine simL_bind (fun s61v hs62v => ?_)
 refine simL_eff (re_call (vs := [.pointer (some ⟨y18v.1, 0, none⟩), .int .i64 0]) (cap := []) (A := [obj y18v.1 64 [.map (some y18v.2.1), str s16v.2.1, .int .i64 s16v.2.2.1, .bool s16v.2.2.2], mapF (mapO y18v.2.1 enc9 encP y18v.2.2) FA68 y18v.2.2 s16v.1]) (rst := [obj y31v.1 64 [.map (some y60v.1), str s58v.2.1, .int .i64 s58v.2.2.1, .bool s58v.2.2.2], mapF (mapO y60v.1 enc9 encP y60v.2) FA68 y60v.2 s58v.1, Row 36 3 y42v.1 s40v.length y42v.2.1 rs43v.flatten, y42v.2.2, Row 36 3 y39v.1 s37v.length y39v.2.1 rs45v.flatten, y39v.2.2, Row 36 3 y21v.1 s19v.length y21v.2.1 rs22v.flatten, y21v.2.2, F]) rfl rfl rfl rfl rfl rfl Try.call22 (.sel 4 rfl (.sel 4 rfl (.sel 0 rfl (.sel 0 rfl (.sel 0 rfl (.sel 0 rfl (.sel 0 rfl (.sel 0 rfl (.sel 0 rfl (.sel 0 rfl (.sel 0 rfl (.nil _)))))))))))) (disk_Disk_Crash.calls _ _ y18v.1 y18v.2.1 y18v.2.2 s16v.1 s16v.2.1 s16v.2.2.1 s16v.2.2.2 (0 : Int) ) hs62v) rfl rfl rfl ?_
 intro y63v
 refine simL_nil (nrm_then ?_)
 refine sim_cutR (S := (List ((List UInt8) × (List UInt8 × Int))) × List UInt8 × Int × Bool × (List ((List UInt8) × (List UInt8 × Int))) × List UInt8 × Int × Bool) (Nat × Kps × Nat × Kps) (fun s y => [(7, .pointer (some ⟨y18v.1, 0, none⟩)), (8, .pointer (some ⟨y31v.1, 0, none⟩)), (10, .bool s55v)]) (fun s y => [obj y18v.1 64 [.map (some y.1), str s.2.1, .int .i64 s.2.2.1, .bool s.2.2.2.1], obj y31v.1 64 [.map (some y.2.2.1), str s.2.2.2.2.2.1, .int .i64 s.2.2.2.2.2.2.1, .bool s.2.2.2.2.2.2.2], mapF (mapO y.1 enc9 encP y.2.1) FA68 y.2.1 s.1, mapF (mapO y.2.2.1 enc9 encP y.2.2.2) FA68 y.2.2.2 s.2.2.2.2.1, F]) ?_ ?_
 refine sr ?_
 refine va rfl rfl (simL_nil (nrm_then ?_))
 refine sim_block ?_
 refine sim_loop (S := Int × (List ((List UInt8) × (List UInt8 × Int))) × List UInt8 × Int × Bool × (List ((List UInt8) × (List UInt8 × Int))) × List UInt8 × Int × Bool) (Nat × Kps × Nat × Kps) (fun k s => synodlaw4_DiskLoaded.l0 x1 k s.1 s.2.1 s.2.2.1 s.2.2.2.1 s.2.2.2.2.1 s.2.2.2.2.2.1 s.2.2.2.2.2.2.1 s.2.2.2.2.2.2.2.1 s.2.2.2.2.2.2.2.2) (fun s y => [(1, .slice a1 x1.length c1), (7, .pointer (some ⟨y18v.1, 0, none⟩)), (8, .pointer (some ⟨y31v.1, 0, none⟩)), (10, .bool s55v), (11, .int .i64 s.1)]) (fun s y => [obj y18v.1 64 [.map (some y.1), str s.2.2.1, .int .i64 s.2.2.2.1, .bool s.2.2.2.2.1], obj y31v.1 64 [.map (some y.2.2.1), str s.2.2.2.2.2.2.1, .int .i64 s.2.2.2.2.2.2.2.1, .bool s.2.2.2.2.2.2.2.2], mapF (mapO y.1 enc9 encP y.2.1) FA68 y.2.1 s.2.1, mapF (mapO y.2.2.1 enc9 encP y.2.2.2) FA68 y.2.2.2 s.2.2.2.2.2.1, F]) (fun _ => by rw [synodlaw4_DiskLoaded.l0]) ?_ k (0, s61v.1, s61v.2.1, s61v.2.2.1, s61v.2.2.2, s58v.1, s58v.2.1, s58v.2.2.1, s58v.2.2.2) (y63v.1, y63v.2, y60v.1, y60v.2) ⟨rfl, rfl, rfl, rfl, rfl, trivial⟩ (.sel 0 rfl (.sel 1 rfl (.sel 0 rfl (.sel 0 rfl (.sel 6 rfl (.nil _))))))
 intro k s66v y67v
 refine sim_eq (by rw [synodlaw4_DiskLoaded.l0]) ?_
 refine sim_seq (sr ?_)
 refine vm rfl rfl ?_
 refine vm rfl rfl ?_
 refine vq (q_len rfl rfl rfl Try.underlying42) rfl ?_
 refine vq (q_lss rfl rfl rfl) rfl (simL_nil (nrm_then ?_))
 refine sim_cond rfl (fun h77v => ?_) (fun h78v => ?_)
 refine sim_skip ?_
 refine nrm_then (sim_seq ?_)
 refine sim_block ?_
 refine sim_seq ?_
 refine sim_ask (fun hi79v => ?_)
 obtain ⟨b80v, b80vo, r83v, ha81v, hV84v, hlr85v, hcell86v⟩ := RdV.pos h1 (Up.refl _) rfl (i := s66v.1.toNat) (by omega) dz52
 obtain ⟨a87v, c88v, rfl, ⟨he89v, hc90v, hm91v⟩⟩ := hV84v
 refine sim_bind (fun s92v hs93v => ?_)
 refine sim_ask (fun hi95v => ?_)
 obtain ⟨b96v, b96vo, r99v, ha97v, hV100v, hlr101v, hcell102v⟩ := RdV.pos h1 (Up.refl _) rfl (i := s66v.1.toNat) (by omega) dz52
 obtain ⟨a103v, c104v, rfl, ⟨he105v, hc106v, hm107v⟩⟩ := hV100v
 refine sim_bind (fun s108v hs109v => ?_)
 refine sim_draw (Γ := (Nat × Kps) × (Nat × Kps)) ((0, ([] : Kps)), (0, ([] : Kps))) [[], [], [], [1, 2], [1, 2, 3], rL 5, [], [], [], [7, 8], [7, 8, 9], rL 11, rL 12] [5, 11] [0, 1, 2, 3, 4, 6, 7, 8, 9, 10, 12] (fun i => [[0], [0], [0], [0], [0], [], [0, 1], [0, 1], [0, 1], [0, 1], [0, 1], [], [2]].getD i []) (fun i => [[], [], [], [], [], [0, 1, 2, 3, 4, 6, 7, 8, 9, 10], [], [], [], [], [], rL 11, []].getD i []) (fun γ i => [.pointer (some ⟨y31v.1, 0, none⟩), .slice a1 x1.length c1, .int .i64 s66v.1, .pointer (some ⟨b80v, b80vo + s66v.1.toNat * 5, none⟩), .agg #[.int .i64 ((x1.getD s66v.1.toNat dz52).1), .int .i64 ((x1.getD s66v.1.toNat dz52).2.1), str ((x1.getD s66v.1.toNat dz52).2.2.1), str ((x1.getD s66v.1.toNat dz52).2.2.2.1), .slice a87v (((x1.getD s66v.1.toNat dz52).2.2.2.2).length) c88v], .int .i64 s92v.1, .pointer (some ⟨y18v.1, 0, none⟩), .slice a1 x1.length c1, .int .i64 s66v.1, .pointer (some ⟨b96v, b96vo + s66v.1.toNat * 5, none⟩), .agg #[.int .i64 ((x1.getD s66v.1.toNat dz52).1), .int .i64 ((x1.getD s66v.1.toNat dz52).2.1), str ((x1.getD s66v.1.toNat dz52).2.2.1), str ((x1.getD s66v.1.toNat dz52).2.2.2.1), .slice a103v (((x1.getD s66v.1.toNat dz52).2.2.2.2).length) c104v], .int .i64 s108v.1, .bool (!decide (s92v.1 = s108v.1))].getD i undef) (fun j γ => [[obj y18v.1 64 [.map (some y67v.1), str s66v.2.2.1, .int .i64 s66v.2.2.2.1, .bool s66v.2.2.2.2.1], obj y31v.1 64 [.map (some y67v.2.2.1), str s66v.2.2.2.2.2.2.1, .int .i64 s66v.2.2.2.2.2.2.2.1, .bool s66v.2.2.2.2.2.2.2.2], mapF (mapO y67v.1 enc9 encP y67v.2.1) FA68 y67v.2.1 s66v.2.1, mapF (mapO y67v.2.2.1 enc9 encP y67v.2.2.2) FA68 y67v.2.2.2 s66v.2.2.2.2.2.1, F], [obj y31v.1 64 [.map (some γ.1.1), str s92v.2.2.1, .int .i64 s92v.2.2.2.1, .bool s92v.2.2.2.2], mapF (mapO γ.1.1 enc9 encP γ.1.2) FA68 γ.1.2 s92v.2.1, obj y18v.1 64 [.map (some y67v.1), str s66v.2.2.1, .int .i64 s66v.2.2.2.1, .bool s66v.2.2.2.2.1], mapF (mapO y67v.1 enc9 encP y67v.2.1) FA68 y67v.2.1 s66v.2.1, F], [obj y18v.1 64 [.map (some γ.2.1), str s108v.2.2.1, .int .i64 s108v.2.2.2.1, .bool s108v.2.2.2.2], mapF (mapO γ.2.1 enc9 encP γ.2.2) FA68 γ.2.2 s108v.2.1, obj y31v.1 64 [.map (some γ.1.1), str s92v.2.2.1, .int .i64 s92v.2.2.2.1, .bool s92v.2.2.2.2], mapF (mapO γ.1.1 enc9 encP γ.1.2) FA68 γ.1.2 s92v.2.1, F]].getD j []) (fun γ => [(1, .slice a1 x1.length c1), (7, .pointer (some ⟨y18v.1, 0, none⟩)), (8, .pointer (some ⟨y31v.1, 0, none⟩)), (10, .bool s55v), (11, .int .i64 s66v.1), (69, .bool (!decide (s92v.1 = s108v.1)))]) mixed (by decide) (by decide) (by decide) (by decide) (by decide) (by decide) (by decide) 93 rfl (by decide) (by decide) (by decide) (Ent.refl _) ?_ ?_ (fun _ => ⟨rfl, rfl, rfl, rfl, rfl, rfl, trivial⟩) ?_
 exact (aq rfl (fun γ => qm rfl (.o (s := 8) rfl (by decide) .nil) rfl) (aq rfl (fun γ => qm rfl (.o (s := 1) rfl (by decide) .nil) rfl) (aq rfl (fun γ => qm rfl (.o (s := 11) rfl (by decide) .nil) rfl) (aq rfl (fun γ => qp rfl rfl (.v 1 rfl rfl (.v 2 rfl rfl .nil)) (q_idx rfl rfl rfl ha81v Try.underlying42 Try.sizeOf52 hi79v.1 hi79v.2) rfl) (aq rfl (fun γ => qp rfl rfl (.v 3 rfl rfl .nil) (q_loads rfl rfl Try.isAgg52 Try.sizeOf52 rfl (fun j v hj => hcell86v 4 rfl j v hj)) rfl) (ac (fun γ => (ac (qm rfl (.o (s := 7) rfl (by decide) .nil) rfl) (ac (qm rfl (.o (s := 7) rfl (by decide) .nil) rfl) zA))) (ac (fun γ => (ac (qm rfl (.o (s := 1) rfl (by decide) .nil) rfl) (ac (qm rfl (.o (s := 1) rfl (by decide) .nil) rfl) zA))) (ac (fun γ => (ac (qm rfl (.o (s := 11) rfl (by decide) .nil) rfl) (ac (qm rfl (.o (s := 11) rfl (by decide) .nil) rfl) zA))) (ac (fun γ => (ac (qp rfl rfl (.v 7 rfl rfl (.v 8 rfl rfl .nil)) (q_idx rfl rfl rfl ha97v Try.underlying42 Try.sizeOf52 hi95v.1 hi95v.2) rfl) (ac (qp rfl rfl (.v 7 rfl rfl (.v 8 rfl rfl .nil)) (q_idx rfl rfl rfl ha97v Try.underlying42 Try.sizeOf52 hi95v.1 hi95v.2) rfl) zA))) (ac (fun γ => (ac (qp rfl rfl (.v 9 rfl rfl .nil) (q_loads rfl rfl Try.isAgg52 Try.sizeOf52 rfl (fun j v hj => hcell102v 4 rfl j v hj)) rfl) (ac (qp rfl rfl (.v 9 rfl rfl .nil) (q_loads rfl rfl Try.isAgg52 Try.sizeOf52 rfl (fun j v hj => hcell102v 4 rfl j v hj)) rfl) zA))) (aq rfl (fun γ => qp rfl rfl (.v 5 rfl rfl (.v 11 rfl rfl .nil)) (q_neq rfl rfl rfl) rfl) zA)))))))))))
 exact (ac (fun γ => eo (Z := Nat × Kps) (fun z => (z, γ.2)) rfl rfl (.v 0 rfl rfl (.v 4 rfl rfl .nil)) (re_call (vs := [.pointer (some ⟨y31v.1, 0, none⟩), .agg #[.int .i64 ((x1.getD s66v.1.toNat dz52).1), .int .i64 ((x1.getD s66v.1.toNat dz52).2.1), str ((x1.getD s66v.1.toNat dz52).2.2.1), str ((x1.getD s66v.1.toNat dz52).2.2.2.1), .slice a87v (((x1.getD s66v.1.toNat dz52).2.2.2.2).length) c88v]]) (cap := []) (A := [obj y31v.1 64 [.map (some y67v.2.2.1), str s66v.2.2.2.2.2.2.1, .int .i64 s66v.2.2.2.2.2.2.2.1, .bool s66v.2.2.2.2.2.2.2.2], mapF (mapO y67v.2.2.1 enc9 encP y67v.2.2.2) FA68 y67v.2.2.2 s66v.2.2.2.2.2.1]) (rst := [obj y18v.1 64 [.map (some y67v.1), str s66v.2.2.1, .int .i64 s66v.2.2.2.1, .bool s66v.2.2.2.2.1], mapF (mapO y67v.1 enc9 encP y67v.2.1) FA68 y67v.2.1 s66v.2.1, F]) rfl rfl rfl rfl rfl rfl Try.call26 (.sel 1 rfl (.sel 2 rfl (.sel 0 rfl (.sel 0 rfl (.sel 0 rfl (.nil _)))))) (synodlaw4_told.calls _ _ k y31v.1 y67v.2.2.1 y67v.2.2.2 s66v.2.2.2.2.2.1 s66v.2.2.2.2.2.2.1 s66v.2.2.2.2.2.2.2.1 s66v.2.2.2.2.2.2.2.2 ((x1.getD s66v.1.toNat dz52).1) ((x1.getD s66v.1.toNat dz52).2.1) ((x1.getD s66v.1.toNat dz52).2.2.1) ((x1.getD s66v.1.toNat dz52).2.2.2.1) a87v c88v ((x1.getD s66v.1.toNat dz52).2.2.2.2) (he89v.lend 2 rfl) hc90v hm91v) hs93v) (fun _ => ⟨rfl, rfl, rfl, rfl, rfl, rfl, rfl, rfl, rfl, rfl, trivial⟩) (fun _ => .inr rfl) (fun z => Ent.refl _)) (ac (fun γ => eo (Z := Nat × Kps) (fun z => (γ.1, z)) rfl rfl (.v 6 rfl rfl (.v 10 rfl rfl .nil)) (re_call (vs := [.pointer (some ⟨y18v.1, 0, none⟩), .agg #[.int .i64 ((x1.getD s66v.1.toNat dz52).1), .int .i64 ((x1.getD s66v.1.toNat dz52).2.1), str ((x1.getD s66v.1.toNat dz52).2.2.1), str ((x1.getD s66v.1.toNat dz52).2.2.2.1), .slice a103v (((x1.getD s66v.1.toNat dz52).2.2.2.2).length) c104v]]) (cap := []) (A := [obj y18v.1 64 [.map (some y67v.1), str s66v.2.2.1, .int .i64 s66v.2.2.2.1, .bool s66v.2.2.2.2.1], mapF (mapO y67v.1 enc9 encP y67v.2.1) FA68 y67v.2.1 s66v.2.1]) (rst := [obj y31v.1 64 [.map (some γ.1.1), str s92v.2.2.1, .int .i64 s92v.2.2.2.1, .bool s92v.2.2.2.2], mapF (mapO γ.1.1 enc9 encP γ.1.2) FA68 γ.1.2 s92v.2.1, F]) rfl rfl rfl rfl rfl rfl Try.call26 (.sel 2 rfl (.sel 2 rfl (.sel 0 rfl (.sel 0 rfl (.sel 0 rfl (.nil _)))))) (synodlaw4_told.calls _ _ k y18v.1 y67v.1 y67v.2.1 s66v.2.1 s66v.2.2.1 s66v.2.2.2.1 s66v.2.2.2.2.1 ((x1.getD s66v.1.toNat dz52).1) ((x1.getD s66v.1.toNat dz52).2.1) ((x1.getD s66v.1.toNat dz52).2.2.1) ((x1.getD s66v.1.toNat dz52).2.2.2.1) a103v c104v ((x1.getD s66v.1.toNat dz52).2.2.2.2) (he105v.lend 2 rfl) hc106v hm107v) hs109v) (fun _ => ⟨rfl, rfl, rfl, rfl, rfl, rfl, rfl, rfl, rfl, rfl, rfl, trivial⟩) (fun _ => .inr rfl) (fun z => Ent.refl _)) zA))
 intro g111v
 refine nrm_then ?_
 refine sim_condn rfl (fun h112v => ?_) (fun h113v => ?_)
 refine sim_skip ?_
 refine nrm_block (nrm_then (sim_region ?_))
 refine vm rfl rfl ?_
 refine vq (q_add rfl rfl rfl) rfl ?_
 refine va rfl rfl (simL_nil ?_)
 exact nrm_again (s := (IntKind.i64.wrap (s66v.1 + 1), s108v.2.1, s108v.2.2.1, s108v.2.2.2.1, s108v.2.2.2.2, s92v.2.1, s92v.2.2.1, s92v.2.2.2.1, s92v.2.2.2.2)) (g111v.2.1, g111v.2.2, g111v.1.1, g111v.1.2) ⟨rfl, rfl, rfl, rfl, rfl, trivial⟩ (.sel 0 rfl (.sel 1 rfl (.sel 0 rfl (.sel 0 rfl (.sel 0 rfl (.nil _))))))
 refine sr ?_
 refine va rfl rfl (simL_nil (nrm_then (sim_rtn ?_)))
 refine rtn_block ?_
 refine rtn_then ?_
 refine rtn_loop ?_
 refine rtn_block ?_
 refine rtn_cutR ?_
 exact rtn_fn () rfl rfl rfl (.sel 4 rfl (.nil _))
 refine sim_exi ?_
 refine exi_then ?_
 refine exi_loop ?_
 refine exi_here ?_
 exact nrm_cutR (s := (s66v.2.1, s66v.2.2.1, s66v.2.2.2.1, s66v.2.2.2.2.1, s66v.2.2.2.2.2.1, s66v.2.2.2.2.2.2.1, s66v.2.2.2.2.2.2.2.1, s66v.2.2.2.2.2.2.2.2)) (y67v.1, y67v.2.1, y67v.2.2.1, y67v.2.2.2) ⟨rfl, rfl, rfl, trivial⟩ (.sel 0 rfl (.sel 0 rfl (.sel 0 rfl (.sel 0 rfl (.sel 0 rfl (.nil _))))))
 intro s64v y65v
 refine sr ?_
 refine vm rfl rfl ?_
 refine simL_bind (fun s114v hs115v => ?_)
 refine simL_eff (re_call (vs := [.pointer (some ⟨y31v.1, 0, none⟩)]) (cap := []) (A := [obj y31v.1 64 [.map (some y65v.2.2.1), str s64v.2.2.2.2.2.1, .int .i64 s64v.2.2.2.2.2.2.1, .bool s64v.2.2.2.2.2.2.2], mapF (mapO y65v.2.2.1 enc9 encP y65v.2.2.2) FA68 y65v.2.2.2 s64v.2.2.2.2.1]) (rst := [obj y18v.1 64 [.map (some y65v.1), str s64v.2.1, .int .i64 s64v.2.2.1, .bool s64v.2.2.2.1], mapF (mapO y65v.1 enc9 encP y65v.2.1) FA68 y65v.2.1 s64v.1, F]) rfl rfl rfl rfl rfl rfl Try.call21 (.sel 1 rfl (.sel 2 rfl (.sel 0 rfl (.sel 0 rfl (.sel 0 rfl (.nil _)))))) (disk_Disk_Files.calls _ _ k y31v.1 y65v.2.2.1 y65v.2.2.2 s64v.2.2.2.2.1 s64v.2.2.2.2.2.1 s64v.2.2.2.2.2.2.1 s64v.2.2.2.2.2.2.2 ) hs115v) rfl rfl rfl ?_
 intro y116v
 refine vm rfl rfl ?_
 refine simL_bind (fun s117v hs118v => ?_)
 refine simL_eff (re_call (vs := [.pointer (some ⟨y18v.1, 0, none⟩)]) (cap := []) (A := [obj y18v.1 64 [.map (some y65v.1), str s64v.2.1, .int .i64 s64v.2.2.1, .bool s64v.2.2.2.1], mapF (mapO y65v.1 enc9 encP y65v.2.1) FA68 y65v.2.1 s64v.1]) (rst := [RowV 36 3 (V36 (y116v.2.2)) y116v.1 s114v y116v.2.1, y116v.2.2, obj y31v.1 64 [.map (some y65v.2.2.1), str s64v.2.2.2.2.2.1, .int .i64 s64v.2.2.2.2.2.2.1, .bool s64v.2.2.2.2.2.2.2], mapF (mapO y65v.2.2.1 enc9 encP y65v.2.2.2) FA68 y65v.2.2.2 s64v.2.2.2.2.1, F]) rfl rfl rfl rfl rfl rfl Try.call21 (.sel 4 rfl (.sel 4 rfl (.sel 0 rfl (.sel 0 rfl (.sel 0 rfl (.sel 0 rfl (.sel 0 rfl (.nil _)))))))) (disk_Disk_Files.calls _ _ k y18v.1 y65v.1 y65v.2.1 s64v.1 s64v.2.1 s64v.2.2.1 s64v.2.2.2.1 ) hs118v) rfl rfl rfl ?_
 intro y119v
 refine simL_openV 0 rfl (fun rs120v hl121v => ?_)
 refine simL_openV 4 rfl (fun rs122v hl123v => ?_)
 refine simL_bind (fun s132v hs133v => ?_)
 refine simL_lend 4 rfl (fun hq124v hq125v hq126v hq127v => ?_)
 refine simL_lend 0 rfl (fun hq128v hq129v hq130v hq131v => ?_)
 refine simL_eff (re_call (vs := [.slice y116v.1 s114v.length y116v.2.1, .slice y119v.1 s117v.length y119v.2.1]) (cap := []) (A := []) (rst := [Row 36 3 y119v.1 s117v.length y119v.2.1 rs120v.flatten, y119v.2.2, obj y18v.1 64 [.map (some y65v.1), str s64v.2.1, .int .i64 s64v.2.2.1, .bool s64v.2.2.2.1], mapF (mapO y65v.1 enc9 encP y65v.2.1) FA68 y65v.2.1 s64v.1, Row 36 3 y116v.1 s114v.length y116v.2.1 rs122v.flatten, y116v.2.2, obj y31v.1 64 [.map (some y65v.2.2.1), str s64v.2.2.2.2.2.1, .int .i64 s64v.2.2.2.2.2.2.1, .bool s64v.2.2.2.2.2.2.2], mapF (mapO y65v.2.2.1 enc9 encP y65v.2.2.2) FA68 y65v.2.2.2 s64v.2.2.2.2.1, F]) rfl rfl rfl rfl rfl rfl Try.call25 (.sel 0 rfl (.sel 0 rfl (.sel 0 rfl (.sel 0 rfl (.sel 0 rfl (.sel 0 rfl (.sel 0 rfl (.sel 0 rfl (.sel 0 rfl (.nil _)))))))))) (synodref_SameFiles.calls _ _ k y116v.1 y116v.2.1 s114v y119v.1 y119v.2.1 s117v ((Rd.asV hl123v hq124v).up (Up.lend 4 rfl) (V36.up (Up.lend 5 rfl))) hq125v hq126v ((Rd.asV hl121v hq128v).up (Up.lend 0 rfl) (V36.up (Up.lend 1 rfl))) hq129v hq130v) hs133v) rfl rfl rfl ?_
 intro y134v
 refine va rfl rfl (nx ?_)
 refine vm rfl rfl ?_
 refine vm rfl rfl ?_
 refine simL_valc (b := s55v) (fun hb155v => RQ.sub (E' := [(12, .bool s132v)]) ⟨rfl, trivial⟩ (q_move rfl rfl)) rfl rfl rfl rfl rfl ?_
 refine vq (q_and rfl rfl rfl) rfl ?_
 refine vm rfl rfl ?_
 refine simL_cut' 6 (S := Bool) (Unit) (fun s y => [(7, .pointer (some ⟨y18v.1, 0, none⟩)), (8, .pointer (some ⟨y31v.1, 0, none⟩)), (85, .bool s)]) (fun s y => [obj y18v.1 64 [.map (some y65v.1), str s64v.2.1, .int .i64 s64v.2.2.1, .bool s64v.2.2.2.1], obj y31v.1 64 [.map (some y65v.2.2.1), str s64v.2.2.2.2.2.1, .int .i64 s64v.2.2.2.2.2.2.1, .bool s64v.2.2.2.2.2.2.2], mapF (mapO y65v.1 enc9 encP y65v.2.1) FA68 y65v.2.1 s64v.1, mapF (mapO y65v.2.2.1 enc9 encP y65v.2.2.2) FA68 y65v.2.2.2 s64v.2.2.2.2.1, F]) ?_ ?_
 refine simL_caseb (fun hb143v => ?_) (fun hb144v => ?_)
 rw [hb143v]
 refine simL_valg (q_move rfl rfl) rfl rfl rfl rfl rfl rfl ?_
 refine simL_bind (fun s137v hs138v => ?_)
 refine simL_effg (re_call (vs := [.pointer (some ⟨y31v.1, 0, none⟩)]) (cap := []) (A := [obj y31v.1 64 [.map (some y65v.2.2.1), str s64v.2.2.2.2.2.1, .int .i64 s64v.2.2.2.2.2.2.1, .bool s64v.2.2.2.2.2.2.2], mapF (mapO y65v.2.2.1 enc9 encP y65v.2.2.2) FA68 y65v.2.2.2 s64v.2.2.2.2.1]) (rst := [Row 36 3 y119v.1 s117v.length y119v.2.1 rs120v.flatten, y119v.2.2, obj y18v.1 64 [.map (some y65v.1), str s64v.2.1, .int .i64 s64v.2.2.1, .bool s64v.2.2.2.1], mapF (mapO y65v.1 enc9 encP y65v.2.1) FA68 y65v.2.1 s64v.1, Row 36 3 y116v.1 s114v.length y116v.2.1 rs122v.flatten, y116v.2.2, F]) rfl rfl rfl rfl rfl rfl Try.call23 (.sel 6 rfl (.sel 6 rfl (.sel 0 rfl (.sel 0 rfl (.sel 0 rfl (.sel 0 rfl (.sel 0 rfl (.sel 0 rfl (.sel 0 rfl (.nil _)))))))))) (disk_Disk_Down.calls _ _ y31v.1 y65v.2.2.1 y65v.2.2.2 s64v.2.2.2.2.1 s64v.2.2.2.2.2.1 s64v.2.2.2.2.2.2.1 s64v.2.2.2.2.2.2.2 ) hs138v) rfl rfl rfl rfl rfl rfl ?_
 intro y139v
 refine simL_valg (q_move rfl rfl) rfl rfl rfl rfl rfl rfl ?_
 refine simL_bind (fun s140v hs141v => ?_)
 refine simL_effg (re_call (vs := [.pointer (some ⟨y18v.1, 0, none⟩)]) (cap := []) (A := [obj y18v.1 64 [.map (some y65v.1), str s64v.2.1, .int .i64 s64v.2.2.1, .bool s64v.2.2.2.1], mapF (mapO y65v.1 enc9 encP y65v.2.1) FA68 y65v.2.1 s64v.1]) (rst := [obj y31v.1 64 [.map (some y65v.2.2.1), str s64v.2.2.2.2.2.1, .int .i64 s64v.2.2.2.2.2.2.1, .bool s64v.2.2.2.2.2.2.2], mapF (mapO y65v.2.2.1 enc9 encP y65v.2.2.2) FA68 y65v.2.2.2 s64v.2.2.2.2.1, Row 36 3 y119v.1 s117v.length y119v.2.1 rs120v.flatten, y119v.2.2, Row 36 3 y116v.1 s114v.length y116v.2.1 rs122v.flatten, y116v.2.2, F]) rfl rfl rfl rfl rfl rfl Try.call23 (.sel 4 rfl (.sel 4 rfl (.sel 0 rfl (.sel 0 rfl (.sel 0 rfl (.sel 0 rfl (.sel 0 rfl (.sel 0 rfl (.sel 0 rfl (.nil _)))))))))) (disk_Disk_Down.calls _ _ y18v.1 y65v.1 y65v.2.1 s64v.1 s64v.2.1 s64v.2.2.1 s64v.2.2.2.1 ) hs141v) rfl rfl rfl rfl rfl rfl ?_
 intro y142v
 refine simL_valg (q_eqb rfl rfl rfl Try.underlying4) rfl rfl rfl rfl rfl rfl ?_
 refine vq (q_pick rfl rfl rfl rfl rfl) rfl (simL_nil ?_)
 exact nrm_cut (s := s137v == s140v) () ⟨rfl, rfl, rfl, trivial⟩ (.sel 0 rfl (.sel 1 rfl (.sel 0 rfl (.sel 0 rfl (.sel 4 rfl (.nil _))))))
 rw [hb144v]
 refine simL_skipd rfl rfl rfl rfl rfl rfl ?_
 refine simL_skipd rfl rfl rfl rfl rfl rfl ?_
 refine simL_skipd rfl rfl rfl rfl rfl rfl ?_
 refine simL_skipd rfl rfl rfl rfl rfl rfl ?_
 refine simL_skipd rfl rfl rfl rfl rfl rfl ?_
 refine vq (q_pick rfl rfl rfl rfl rfl) rfl (simL_nil ?_)
 exact nrm_cut (s := false) () ⟨rfl, rfl, rfl, trivial⟩ (.sel 2 rfl (.sel 5 rfl (.sel 2 rfl (.sel 4 rfl (.sel 4 rfl (.nil _))))))
 intro s135v y136v
 refine vm rfl rfl ?_
 refine simL_cut' 6 (S := Bool) (Unit) (fun s y => [(92, .bool s)]) (fun s y => [F]) ?_ ?_
 refine simL_caseb (fun hb153v => ?_) (fun hb154v => ?_)
 rw [hb153v]
 refine simL_valg (q_move rfl rfl) rfl rfl rfl rfl rfl rfl ?_
 refine simL_bind (fun s147v hs148v => ?_)
 refine simL_effg (re_call (vs := [.pointer (some ⟨y31v.1, 0, none⟩)]) (cap := []) (A := [obj y31v.1 64 [.map (some y65v.2.2.1), str s64v.2.2.2.2.2.1, .int .i64 s64v.2.2.2.2.2.2.1, .bool s64v.2.2.2.2.2.2.2], mapF (mapO y65v.2.2.1 enc9 encP y65v.2.2.2) FA68 y65v.2.2.2 s64v.2.2.2.2.1]) (rst := [obj y18v.1 64 [.map (some y65v.1), str s64v.2.1, .int .i64 s64v.2.2.1, .bool s64v.2.2.2.1], mapF (mapO y65v.1 enc9 encP y65v.2.1) FA68 y65v.2.1 s64v.1, F]) rfl rfl rfl rfl rfl rfl Try.call16 (.sel 1 rfl (.sel 2 rfl (.sel 0 rfl (.sel 0 rfl (.sel 0 rfl (.nil _)))))) (disk_Disk_Size.calls _ _ y31v.1 y65v.2.2.1 y65v.2.2.2 s64v.2.2.2.2.1 s64v.2.2.2.2.2.1 s64v.2.2.2.2.2.2.1 s64v.2.2.2.2.2.2.2 ) hs148v) rfl rfl rfl rfl rfl rfl ?_
 intro y149v
 refine simL_valg (q_move rfl rfl) rfl rfl rfl rfl rfl rfl ?_
 refine simL_bind (fun s150v hs151v => ?_)
 refine simL_effg (re_call (vs := [.pointer (some ⟨y18v.1, 0, none⟩)]) (cap := []) (A := [obj y18v.1 64 [.map (some y65v.1), str s64v.2.1, .int .i64 s64v.2.2.1, .bool s64v.2.2.2.1], mapF (mapO y65v.1 enc9 encP y65v.2.1) FA68 y65v.2.1 s64v.1]) (rst := [obj y31v.1 64 [.map (some y65v.2.2.1), str s64v.2.2.2.2.2.1, .int .i64 s64v.2.2.2.2.2.2.1, .bool s64v.2.2.2.2.2.2.2], mapF (mapO y65v.2.2.1 enc9 encP y65v.2.2.2) FA68 y65v.2.2.2 s64v.2.2.2.2.1, F]) rfl rfl rfl rfl rfl rfl Try.call16 (.sel 2 rfl (.sel 2 rfl (.sel 0 rfl (.sel 0 rfl (.sel 0 rfl (.nil _)))))) (disk_Disk_Size.calls _ _ y18v.1 y65v.1 y65v.2.1 s64v.1 s64v.2.1 s64v.2.2.1 s64v.2.2.2.1 ) hs151v) rfl rfl rfl rfl rfl rfl ?_
 intro y152v
 refine simL_valg (q_eql rfl rfl rfl) rfl rfl rfl rfl rfl rfl ?_
 refine vq (q_pick rfl rfl rfl rfl rfl) rfl (simL_nil ?_)
 exact nrm_cut (s := decide (s147v = s150v)) () ⟨rfl, trivial⟩ (.sel 4 rfl (.nil _))
 rw [hb154v]
 refine simL_skipd rfl rfl rfl rfl rfl rfl ?_
 refine simL_skipd rfl rfl rfl rfl rfl rfl ?_
 refine simL_skipd rfl rfl rfl rfl rfl rfl ?_
 refine simL_skipd rfl rfl rfl rfl rfl rfl ?_
 refine simL_skipd rfl rfl rfl rfl rfl rfl ?_
 refine vq (q_pick rfl rfl rfl rfl rfl) rfl (simL_nil ?_)
 exact nrm_cut (s := false) () ⟨rfl, trivial⟩ (.sel 4 rfl (.nil _))
 intro s145v y146v
 refine va rfl rfl (simL_nil (nrm_then (sim_rtn ?_)))
 exact rtn_fn () rfl rfl rfl (.sel 0 rfl (.nil _))
 refine simL_lend 0 rfl (fun hq24v hq25v hq26v hq27v => ?_)
 refine simL_eff (re_call (vs := [.slice y21v.1 s19v.length y21v.2.1]) (cap := []) (A := []) (rst := [Row 36 3 y21v.1 s19v.length y21v.2.1 rs22v.flatten, y21v.2.2, obj y18v.1 64 [.map (some y18v.2.1), str s16v.2.1, .int .i64 s16v.2.2.1, .bool s16v.2.2.2], mapF (mapO y18v.2.1 enc9 encP y18v.2.2) FA68 y18v.2.2 s16v.1, F]) rfl rfl rfl rfl rfl rfl Try.call29 (.sel 0 rfl (.sel 0 rfl (.sel 0 rfl (.sel 0 rfl (.sel 0 rfl (.nil _)))))) (disk_Load.callsN _ _ k y21v.1 y21v.2.1 s19v ((Rd.asV hl23v hq24v).up (Up.lend 0 rfl) (V36.up (Up.lend 1 rfl))) hq25v hq26v) (filt_of hs29v (eq_false_of_ne_true hb30v))) rfl rfl rfl ?_
 intro y158v
 refine vm rfl rfl ?_
 refine vq (q_ext rfl rfl rfl) rfl ?_
 refine vq (q_ext rfl rfl rfl) rfl ?_
 refine va rfl rfl ?_
 refine va rfl rfl (simL_nil (nrm_then (sim_seq (sr ?_))))
 refine vm rfl rfl ?_
 refine simL_bind (fun s159v hs160v => ?_)
 refine simL_eff (re_call (vs := [.int .i64 s28v.2.2.2.2.2]) (cap := []) (A := []) (rst := [Row 36 3 y21v.1 s19v.length y21v.2.1 rs22v.flatten, y21v.2.2, obj y18v.1 64 [.map (some y18v.2.1), str s16v.2.1, .int .i64 s16v.2.2.1, .bool s16v.2.2.2], mapF (mapO y18v.2.1 enc9 encP y18v.2.2) FA68 y18v.2.2 s16v.1, F]) rfl rfl rfl rfl rfl rfl Try.call11 (.sel 0 rfl (.sel 0 rfl (.sel 0 rfl (.sel 0 rfl (.sel 0 rfl (.nil _)))))) (synodref_Num.calls _ _ s28v.2.2.2.2.2 ) hs160v) rfl rfl rfl ?_
 intro y161v
 refine vq (q_neq rfl rfl rfl) rfl ?_
 refine vm rfl rfl ?_
 refine simL_valc (b := !decide (s159v = (0 : Int))) (fun hb163v => RQ.sub (E' := [(8, .pointer none)]) ⟨rfl, trivial⟩ (q_move rfl rfl)) rfl rfl rfl rfl rfl ?_
 refine simL_valc (b := !decide (s159v = (0 : Int))) (fun hb162v => RQ.sub (E' := [(39, .pointer none)]) ⟨lk_cv rfl hb162v, trivial⟩ (q_eqnn rfl rfl rfl Try.underlying24)) rfl rfl rfl rfl rfl ?_
 refine vq (q_or rfl rfl rfl) rfl (simL_nil (nrm_then ?_))
 refine sim_trueb (b := (!decide (s159v = (0 : Int))) || true) rfl (by simp) ?_
 refine sr ?_
 refine va rfl rfl (simL_nil (nrm_then (sim_rtn ?_)))
 refine rtn_then ?_
 exact rtn_fn () rfl rfl rfl (.sel 4 rfl (.nil _))
end Go.Proofs.Ytkkbgcocpkipjaa

/- Printed by gen.py: pure functions and the proofs that the Go functions simulate them. Conditions: as each theorem says. -/
import Derived.Test.YtkkbgcocpkipjaaG3
namespace Go.Proofs.Ytkkbgcocpkipjaa
open Go.RowKit
set_option linter.unusedVariables false
set_option linter.unusedSimpArgs false
set_option maxRecDepth 20000
set_option maxHeartbeats 20000000
def disk_Load.l0 (x0 : List (Ty36)) (s1v : (List ((List UInt8) × (List UInt8 × Int))) × List UInt8 × Int × Bool) : Nat → Int → List ((List UInt8) × (List UInt8 × Int)) → Option (((List ((List UInt8) × (List UInt8 × Int)))) ⊕ (Bool × (List ((List UInt8) × (List UInt8 × Int))) × List UInt8 × Int × Bool × Int))
  | 0, _, _ => none
  | k + 1, z8v, z9v => if z8v < (x0.length : Int) then (if 0 ≤ z8v ∧ z8v < (x0.length : Int) then ((disk_named.f k ((x0.getD z8v.toNat dz36).1)).bind fun s26v => (if (!s26v) = true then (some (.inr (false, ([] : List ((List UInt8) × (List UInt8 × Int))), ([] : List UInt8), (0 : Int), false, 7))) else ((disk_Disk_Has.f z9v s1v.2.1 s1v.2.2.1 s1v.2.2.2 ((x0.getD z8v.toNat dz36).1)).bind fun s31v => (if s31v = true then (some (.inr (false, ([] : List ((List UInt8) × (List UInt8 × Int))), ([] : List UInt8), (0 : Int), false, 9))) else (if ((decide ((x0.getD z8v.toNat dz36).2.2 < (0 : Int))) || (decide ((((x0.getD z8v.toNat dz36).2.1).length : Int) < (x0.getD z8v.toNat dz36).2.2))) = true then (some (.inr (false, ([] : List ((List UInt8) × (List UInt8 × Int))), ([] : List UInt8), (0 : Int), false, 1))) else ((disk_fresh.f ((x0.getD z8v.toNat dz36).2.1)).bind fun s38v => (disk_Load.l0 x0 s1v k (IntKind.i64.wrap (z8v + 1)) (mput z9v ((x0.getD z8v.toNat dz36).1) (s38v, (x0.getD z8v.toNat dz36).2.2))))))))) else none) else (some (.inl z9v))
def disk_Load.f (k : Nat) (x0 : List (Ty36)) : Option (Bool × (List ((List UInt8) × (List UInt8 × Int))) × List UInt8 × Int × Bool × Int) := (disk_New.f).bind fun s1v => (orR (disk_Load.l0 x0 s1v k 0 s1v.1) fun s4v => ((if (256 : Int) < (x0.length : Int) then (some true) else ((disk_Disk_Size.f s4v s1v.2.1 s1v.2.2.1 s1v.2.2.2).bind fun s51v => (some (decide ((16777216 : Int) < s51v))))).bind fun s49v => (if s49v = true then (some (false, ([] : List ((List UInt8) × (List UInt8 × Int))), ([] : List UInt8), (0 : Int), false, 10)) else (some (true, s4v, s1v.2.1, s1v.2.2.1, s1v.2.2.2, 0)))))
theorem disk_Load.calls (W : World) (F : HA) (k : Nat) (a0 : Option Addr) (c0 : Nat) (x0 : List (Ty36)) (h0 : RdV F 3 (V36 F) a0 x0) (hc0 : x0.length ≤ c0) (hm0 : c0 ≤ maxLen) :
    Fn Try.prog W 29 [.slice a0 x0.length c0] [] F (disk_Load.f k x0) (fun (r : Bool × (List ((List UInt8) × (List UInt8 × Int))) × List UInt8 × Int × Bool × Int) (y : Nat × Nat × Kps) => .tuple #[.pointer (optA r.1 y.1), .int .i64 r.2.2.2.2.2]) (fun r y => [whenA r.1 [obj y.1 64 [.map (some y.2.1), str r.2.2.1, .int .i64 r.2.2.2.1, .bool r.2.2.2.2.1], mapF (mapO y.2.1 enc9 encP y.2.2) FA68 y.2.2 r.2.1]]) := by
 unfold disk_Load.f
 refine fn_intro 59 Try.func29 rfl Try.ntmps29 rfl ?_
 refine sr ?_
 refine va rfl rfl ?_
 refine va rfl rfl (nx ?_)
 refine simL_bind (fun s1v hs2v => ?_)
 refine simL_eff (re_call (vs := []) (cap := []) (A := []) (rst := [F]) rfl rfl rfl rfl rfl rfl Try.call10 (.sel 0 rfl (.nil _)) (disk_New.calls _ _  ) hs2v) rfl rfl rfl ?_
 intro y3v
 refine va rfl rfl (simL_nil (nrm_then ?_))
 refine sim_cutR (S := (List ((List UInt8) × (List UInt8 × Int)))) (Kps) (fun s y => [(0, .slice a0 x0.length c0), (4, .pointer (some ⟨y3v.1, 0, none⟩))]) (fun s y => [obj y3v.1 64 [.map (some y3v.2.1), str s1v.2.1, .int .i64 s1v.2.2.1, .bool s1v.2.2.2], mapF (mapO y3v.2.1 enc9 encP y) FA68 y s, F]) ?_ ?_
 refine sr ?_
 refine vm rfl rfl ?_
 refine vq (q_len rfl rfl rfl Try.underlying27) rfl ?_
 refine vm rfl rfl (simL_nil (nrm_then ?_))
 refine sim_block ?_
 refine sim_loop (S := Int × (List ((List UInt8) × (List UInt8 × Int)))) (Kps) (fun k s => disk_Load.l0 x0 s1v k s.1 s.2) (fun s y => [(0, .slice a0 x0.length c0), (4, .pointer (some ⟨y3v.1, 0, none⟩)), (8, .slice a0 x0.length c0), (9, .int .i64 (x0.length : Int)), (10, .int .i64 s.1)]) (fun s y => [obj y3v.1 64 [.map (some y3v.2.1), str s1v.2.1, .int .i64 s1v.2.2.1, .bool s1v.2.2.2], mapF (mapO y3v.2.1 enc9 encP y) FA68 y s.2, F]) (fun _ => by rw [disk_Load.l0]) ?_ k (0, s1v.1) y3v.2.2 ⟨rfl, rfl, rfl, rfl, rfl, trivial⟩ (.sel 0 rfl (.sel 0 rfl (.sel 0 rfl (.nil _))))
 intro k s6v y7v
 refine sim_eq (by rw [disk_Load.l0]) ?_
 refine sr ?_
 refine vq (q_lss rfl rfl rfl) rfl (simL_nil (nrm_then (sim_seq ?_)))
 refine sim_cond rfl (fun h10v => ?_) (fun h11v => ?_)
 refine sim_skip ?_
 refine nrm_then (sim_seq ?_)
 refine sim_block ?_
 refine sr ?_
 refine simL_ask (fun hi12v => ?_)
 obtain ⟨b13v, b13vo, r16v, ha14v, hV17v, hlr18v, hcell19v⟩ := RdV.pos h0 (Up.refl _) rfl (i := s6v.1.toNat) (by omega) dz36
 obtain ⟨a20v, c21v, rfl, ⟨he22v, hc23v, hm24v⟩⟩ := hV17v
 refine vq (q_idx rfl rfl rfl ha14v Try.underlying27 Try.sizeOf36 hi12v.1 hi12v.2) rfl ?_
 refine vq (q_loads rfl rfl Try.isAgg36 Try.sizeOf36 rfl (fun j v hj => hcell19v 2 rfl j v hj)) rfl ?_
 refine simL_eff (re_alloc rfl Try.zeroValue36 rfl) rfl rfl rfl ?_
 intro b25v
 refine simL_do (re_store 0 rfl rfl rfl Try.sizeOf36 rfl rfl (one_of (by rfl)) rfl rfl) rfl rfl ?_
 intro _
 refine simL_nil (nrm_then (sim_seq ?_))
 refine sim_block ?_
 refine sr ?_
 refine vq (q_fa rfl rfl Try.underlying36 rfl rfl Try.sizeOf9 rfl) rfl ?_
 refine vq (q_load rfl rfl Try.isAgg9 (.obj 0 rfl rfl)) rfl ?_
 refine simL_bind (fun s26v hs27v => ?_)
 refine simL_eff (re_call (vs := [str ((x0.getD s6v.1.toNat dz36).1)]) (cap := []) (A := []) (rst := [obj b25v 36 [str ((x0.getD s6v.1.toNat dz36).1), .slice a20v (((x0.getD s6v.1.toNat dz36).2.1).length) c21v, .int .i64 ((x0.getD s6v.1.toNat dz36).2.2)], obj y3v.1 64 [.map (some y3v.2.1), str s1v.2.1, .int .i64 s1v.2.2.1, .bool s1v.2.2.2], mapF (mapO y3v.2.1 enc9 encP y7v) FA68 y7v s6v.2, F]) rfl rfl rfl rfl rfl rfl Try.call33 (.sel 0 rfl (.sel 0 rfl (.sel 0 rfl (.sel 0 rfl (.nil _))))) (disk_named.calls _ _ k ((x0.getD s6v.1.toNat dz36).1) ) hs27v) rfl rfl rfl ?_
 intro y28v
 refine vq (q_not rfl rfl) rfl ?_
 refine va rfl rfl (simL_nil (nrm_then ?_))
 refine sim_condb rfl (fun h29v => ?_) (fun h30v => ?_)
 refine sr ?_
 refine va rfl rfl ?_
 refine va rfl rfl (simL_nil (nrm_then (sim_rtn ?_)))
 refine rtn_block ?_
 refine rtn_then ?_
 refine rtn_block ?_
 refine rtn_then ?_
 refine rtn_loop ?_
 refine rtn_block ?_
 refine rtn_cutR ?_
 exact rtn_fn (0, 0, ([] : Kps)) rfl rfl rfl (.when_no rfl (.sel 3 rfl (.nil _)))
 refine sr ?_
 refine vm rfl rfl ?_
 refine vq (q_fa rfl rfl Try.underlying36 rfl rfl Try.sizeOf9 rfl) rfl ?_
 refine vq (q_load rfl rfl Try.isAgg9 (.obj 0 rfl rfl)) rfl ?_
 refine simL_bind (fun s31v hs32v => ?_)
 refine simL_eff (re_call (vs := [.pointer (some ⟨y3v.1, 0, none⟩), str ((x0.getD s6v.1.toNat dz36).1)]) (cap := []) (A := [obj y3v.1 64 [.map (some y3v.2.1), str s1v.2.1, .int .i64 s1v.2.2.1, .bool s1v.2.2.2], mapF (mapO y3v.2.1 enc9 encP y7v) FA68 y7v s6v.2]) (rst := [obj b25v 36 [str ((x0.getD s6v.1.toNat dz36).1), .slice a20v (((x0.getD s6v.1.toNat dz36).2.1).length) c21v, .int .i64 ((x0.getD s6v.1.toNat dz36).2.2)], F]) rfl rfl rfl rfl rfl rfl Try.call34 (.sel 1 rfl (.sel 1 rfl (.sel 0 rfl (.sel 0 rfl (.nil _))))) (disk_Disk_Has.calls _ _ y3v.1 y3v.2.1 y7v s6v.2 s1v.2.1 s1v.2.2.1 s1v.2.2.2 ((x0.getD s6v.1.toNat dz36).1) ) hs32v) rfl rfl rfl ?_
 intro y33v
 refine va rfl rfl (simL_nil (nrm_then ?_))
 refine sim_condb rfl (fun h34v => ?_) (fun h35v => ?_)
 refine sr ?_
 refine va rfl rfl ?_
 refine va rfl rfl (simL_nil (nrm_then (sim_rtn ?_)))
 refine rtn_block ?_
 refine rtn_then ?_
 refine rtn_block ?_
 refine rtn_then ?_
 refine rtn_loop ?_
 refine rtn_block ?_
 refine rtn_cutR ?_
 exact rtn_fn (0, 0, ([] : Kps)) rfl rfl rfl (.when_no rfl (.sel 3 rfl (.nil _)))
 refine sr ?_
 refine vq (q_fa rfl rfl Try.underlying36 rfl rfl Try.sizeOf3 rfl) rfl ?_
 refine vq (q_load rfl rfl Try.isAgg3 (.obj 2 rfl rfl)) rfl ?_
 refine vq (q_lss rfl rfl rfl) rfl ?_
 refine vm rfl rfl ?_
 refine simL_valc (b := decide ((x0.getD s6v.1.toNat dz36).2.2 < (0 : Int))) (fun hb48v => RQ.sub (E' := [(6, .pointer (some ⟨b25v, 0, none⟩))]) ⟨rfl, trivial⟩ (q_fa rfl rfl Try.underlying36 rfl rfl Try.sizeOf3 rfl)) rfl rfl rfl rfl rfl ?_
 refine simL_valc (b := decide ((x0.getD s6v.1.toNat dz36).2.2 < (0 : Int))) (fun hb47v => RQ.sub (E' := [(29, .pointer (some ⟨b25v, 2, none⟩))]) ⟨lk_cv rfl hb47v, trivial⟩ (q_load rfl rfl Try.isAgg3 (.obj 2 rfl rfl))) rfl rfl rfl rfl rfl ?_
 refine simL_valc (b := decide ((x0.getD s6v.1.toNat dz36).2.2 < (0 : Int))) (fun hb46v => RQ.sub (E' := [(6, .pointer (some ⟨b25v, 0, none⟩))]) ⟨rfl, trivial⟩ (q_fa rfl rfl Try.underlying36 rfl rfl Try.sizeOf34 rfl)) rfl rfl rfl rfl rfl ?_
 refine simL_valc (b := decide ((x0.getD s6v.1.toNat dz36).2.2 < (0 : Int))) (fun hb45v => RQ.sub (E' := [(31, .pointer (some ⟨b25v, 1, none⟩))]) ⟨lk_cv rfl hb45v, trivial⟩ (q_load rfl rfl Try.isAgg34 (.obj 2 rfl rfl))) rfl rfl rfl rfl rfl ?_
 refine simL_valc (b := decide ((x0.getD s6v.1.toNat dz36).2.2 < (0 : Int))) (fun hb44v => RQ.sub (E' := [(32, .slice a20v (((x0.getD s6v.1.toNat dz36).2.1).length) c21v)]) ⟨lk_cv rfl hb44v, trivial⟩ (q_len rfl rfl rfl Try.underlying34)) rfl rfl rfl rfl rfl ?_
 refine simL_valc (b := decide ((x0.getD s6v.1.toNat dz36).2.2 < (0 : Int))) (fun hb43v => RQ.sub (E' := [(30, .int .i64 ((x0.getD s6v.1.toNat dz36).2.2)), (33, .int .i64 (((x0.getD s6v.1.toNat dz36).2.1).length : Int))]) ⟨lk_cv rfl hb43v, lk_cv rfl hb43v, trivial⟩ (q_gtr rfl rfl rfl)) rfl rfl rfl rfl rfl ?_
 refine vq (q_or rfl rfl rfl) rfl ?_
 refine va rfl rfl (simL_nil (nrm_then ?_))
 refine sim_condb rfl (fun h36v => ?_) (fun h37v => ?_)
 refine sr ?_
 refine va rfl rfl ?_
 refine va rfl rfl (simL_nil (nrm_then (sim_rtn ?_)))
 refine rtn_block ?_
 refine rtn_then ?_
 refine rtn_block ?_
 refine rtn_then ?_
 refine rtn_loop ?_
 refine rtn_block ?_
 refine rtn_cutR ?_
 exact rtn_fn (0, 0, ([] : Kps)) rfl rfl rfl (.when_no rfl (.sel 3 rfl (.nil _)))
 refine sim_skip ?_
 refine nrm_block (nrm_then ?_)
 refine sim_bind (fun s38v hs39v => ?_)
 refine sim_draw (Γ := (Option Addr × Nat) × Nat) ((none, 0), 0) [[], [0], [0, 1], [0, 1, 2], [], [4], [], [6], [6, 7], [], [9], [6, 7, 8, 9, 10], [6, 7, 8, 9, 10, 11], rL 13] [8, 12, 13] [0, 1, 2, 3, 4, 5, 6, 7, 9, 10, 11] (fun i => [[0, 1, 2], [0, 1, 2], [0, 1, 2], [0, 1, 2], [0, 1, 2], [0, 1, 2], [0], [0], [], [0, 1], [0, 1], [1], [], []].getD i []) (fun i => [[], [], [], [], [], [], [], [], [0, 1, 2, 3, 4, 5, 6, 7, 9, 10], [], [], [], rL 12, rL 13].getD i []) (fun γ i => [.pointer (some ⟨y3v.1, 0, none⟩), .pointer (some ⟨y3v.1, 0, none⟩), .pointer (some ⟨y3v.1, 0, none⟩), .map (some y3v.2.1), .pointer (some ⟨b25v, 0, none⟩), str ((x0.getD s6v.1.toNat dz36).1), .pointer (some ⟨b25v, 1, none⟩), .slice a20v (((x0.getD s6v.1.toNat dz36).2.1).length) c21v, .slice γ.1.1 s38v.length γ.1.2, .pointer (some ⟨b25v, 2, none⟩), .int .i64 ((x0.getD s6v.1.toNat dz36).2.2), .agg #[.slice γ.1.1 s38v.length γ.1.2, .int .i64 ((x0.getD s6v.1.toNat dz36).2.2)], .pointer (some ⟨γ.2, 0, none⟩), undef].getD i undef) (fun j γ => [[obj y3v.1 64 [.map (some y3v.2.1), str s1v.2.1, .int .i64 s1v.2.2.1, .bool s1v.2.2.2], mapF (mapO y3v.2.1 enc9 encP y7v) FA68 y7v s6v.2, obj b25v 36 [str ((x0.getD s6v.1.toNat dz36).1), .slice a20v (((x0.getD s6v.1.toNat dz36).2.1).length) c21v, .int .i64 ((x0.getD s6v.1.toNat dz36).2.2)], F], [Row 5 1 γ.1.1 s38v.length γ.1.2 (encB s38v), obj y3v.1 64 [.map (some y3v.2.1), str s1v.2.1, .int .i64 s1v.2.2.1, .bool s1v.2.2.2], mapF (mapO y3v.2.1 enc9 encP y7v) FA68 y7v s6v.2, obj b25v 36 [str ((x0.getD s6v.1.toNat dz36).1), .slice a20v (((x0.getD s6v.1.toNat dz36).2.1).length) c21v, .int .i64 ((x0.getD s6v.1.toNat dz36).2.2)], F], [obj γ.2 68 [.slice γ.1.1 s38v.length γ.1.2, .int .i64 ((x0.getD s6v.1.toNat dz36).2.2)], Row 5 1 γ.1.1 s38v.length γ.1.2 (encB s38v), obj y3v.1 64 [.map (some y3v.2.1), str s1v.2.1, .int .i64 s1v.2.2.1, .bool s1v.2.2.2], mapF (mapO y3v.2.1 enc9 encP y7v) FA68 y7v s6v.2, obj b25v 36 [str ((x0.getD s6v.1.toNat dz36).1), .slice a20v (((x0.getD s6v.1.toNat dz36).2.1).length) c21v, .int .i64 ((x0.getD s6v.1.toNat dz36).2.2)], F], [obj y3v.1 64 [.map (some y3v.2.1), str s1v.2.1, .int .i64 s1v.2.2.1, .bool s1v.2.2.2], mapF (mapO y3v.2.1 enc9 encP (mput y7v ((x0.getD s6v.1.toNat dz36).1) γ.2)) FA68 (mput y7v ((x0.getD s6v.1.toNat dz36).1) γ.2) (mput s6v.2 ((x0.getD s6v.1.toNat dz36).1) (s38v, (x0.getD s6v.1.toNat dz36).2.2)), obj b25v 36 [str ((x0.getD s6v.1.toNat dz36).1), .slice a20v (((x0.getD s6v.1.toNat dz36).2.1).length) c21v, .int .i64 ((x0.getD s6v.1.toNat dz36).2.2)], F]].getD j []) (fun γ => [(0, .slice a0 x0.length c0), (4, .pointer (some ⟨y3v.1, 0, none⟩)), (8, .slice a0 x0.length c0), (9, .int .i64 (x0.length : Int)), (10, .int .i64 s6v.1), (29, cv ((decide ((x0.getD s6v.1.toNat dz36).2.2 < (0 : Int))) == false) (.pointer (some ⟨b25v, 2, none⟩))), (30, cv ((decide ((x0.getD s6v.1.toNat dz36).2.2 < (0 : Int))) == false) (.int .i64 ((x0.getD s6v.1.toNat dz36).2.2))), (31, cv ((decide ((x0.getD s6v.1.toNat dz36).2.2 < (0 : Int))) == false) (.pointer (some ⟨b25v, 1, none⟩))), (32, cv ((decide ((x0.getD s6v.1.toNat dz36).2.2 < (0 : Int))) == false) (.slice a20v (((x0.getD s6v.1.toNat dz36).2.1).length) c21v)), (33, cv ((decide ((x0.getD s6v.1.toNat dz36).2.2 < (0 : Int))) == false) (.int .i64 (((x0.getD s6v.1.toNat dz36).2.1).length : Int))), (34, cv ((decide ((x0.getD s6v.1.toNat dz36).2.2 < (0 : Int))) == false) (.bool (decide ((((x0.getD s6v.1.toNat dz36).2.1).length : Int) < (x0.getD s6v.1.toNat dz36).2.2))))]) mixed (by decide) (by decide) (by decide) (by decide) (by decide) (by decide) (by decide) 59 rfl (by decide) (by decide) (by decide) (Ent.refl _) ?_ ?_ (fun _ => ⟨rfl, rfl, rfl, rfl, rfl, rfl, rfl, rfl, rfl, rfl, rfl, trivial⟩) ?_
 exact (ac (fun γ => (ac (qm rfl (.o (s := 4) rfl (by decide) .nil) rfl) (ac (qm rfl (.o (s := 4) rfl (by decide) .nil) rfl) (ac (qm rfl (.o (s := 4) rfl (by decide) .nil) rfl) zA)))) (ac (fun γ => (ac (qp rfl rfl (.v 0 rfl rfl .nil) (q_nil rfl rfl) rfl) (ac (qp rfl rfl (.v 0 rfl rfl .nil) (q_nil rfl rfl) rfl) (ac (qp rfl rfl (.v 0 rfl rfl .nil) (q_nil rfl rfl) rfl) zA)))) (ac (fun γ => (ac (qp rfl rfl (.v 1 rfl rfl .nil) (q_fa rfl rfl Try.underlying64 rfl rfl Try.sizeOf62 rfl) rfl) (ac (qp rfl rfl (.v 1 rfl rfl .nil) (q_fa rfl rfl Try.underlying64 rfl rfl Try.sizeOf62 rfl) rfl) (ac (qp rfl rfl (.v 1 rfl rfl .nil) (q_fa rfl rfl Try.underlying64 rfl rfl Try.sizeOf62 rfl) rfl) zA)))) (ac (fun γ => (ac (qp rfl rfl (.v 2 rfl rfl .nil) (q_load rfl rfl Try.isAgg62 (.obj 0 rfl rfl)) rfl) (ac (qp rfl rfl (.v 2 rfl rfl .nil) (q_load rfl rfl Try.isAgg62 (.obj 1 rfl rfl)) rfl) (ac (qp rfl rfl (.v 2 rfl rfl .nil) (q_load rfl rfl Try.isAgg62 (.obj 2 rfl rfl)) rfl) zA)))) (ac (fun γ => (ac (qp rfl rfl (.o (s := 6) rfl (by decide) .nil) (q_fa rfl rfl Try.underlying36 rfl rfl Try.sizeOf9 rfl) rfl) (ac (qp rfl rfl (.o (s := 6) rfl (by decide) .nil) (q_fa rfl rfl Try.underlying36 rfl rfl Try.sizeOf9 rfl) rfl) (ac (qp rfl rfl (.o (s := 6) rfl (by decide) .nil) (q_fa rfl rfl Try.underlying36 rfl rfl Try.sizeOf9 rfl) rfl) zA)))) (ac (fun γ => (ac (qp rfl rfl (.v 4 rfl rfl .nil) (q_load rfl rfl Try.isAgg9 (.obj 2 rfl rfl)) rfl) (ac (qp rfl rfl (.v 4 rfl rfl .nil) (q_load rfl rfl Try.isAgg9 (.obj 3 rfl rfl)) rfl) (ac (qp rfl rfl (.v 4 rfl rfl .nil) (q_load rfl rfl Try.isAgg9 (.obj 4 rfl rfl)) rfl) zA)))) (aq rfl (fun γ => qp rfl rfl (.o (s := 6) rfl (by decide) .nil) (q_fa rfl rfl Try.underlying36 rfl rfl Try.sizeOf34 rfl) rfl) (aq rfl (fun γ => qp rfl rfl (.v 6 rfl rfl .nil) (q_load rfl rfl Try.isAgg34 (.obj 2 rfl rfl)) rfl) (ac (fun γ => (ac (qp rfl rfl (.o (s := 6) rfl (by decide) .nil) (q_fa rfl rfl Try.underlying36 rfl rfl Try.sizeOf3 rfl) rfl) (ac (qp rfl rfl (.o (s := 6) rfl (by decide) .nil) (q_fa rfl rfl Try.underlying36 rfl rfl Try.sizeOf3 rfl) rfl) zA))) (ac (fun γ => (ac (qp rfl rfl (.v 9 rfl rfl .nil) (q_load rfl rfl Try.isAgg3 (.obj 2 rfl rfl)) rfl) (ac (qp rfl rfl (.v 9 rfl rfl .nil) (q_load rfl rfl Try.isAgg3 (.obj 3 rfl rfl)) rfl) zA))) (aq rfl (fun γ => qp rfl rfl (.v 8 rfl rfl (.v 10 rfl rfl .nil)) (q_build (v := .agg #[.slice γ.1.1 s38v.length γ.1.2, .int .i64 ((x0.getD s6v.1.toNat dz36).2.2)]) rfl rfl (fun _ => by kernel_rfl)) rfl) zA)))))))))))
 exact (ac (fun γ => eo (Z := Option Addr × Nat) (fun z => (z, γ.2)) rfl rfl (.v 7 rfl rfl .nil) (re_call (vs := [.slice a20v (((x0.getD s6v.1.toNat dz36).2.1).length) c21v]) (cap := []) (A := []) (rst := [obj y3v.1 64 [.map (some y3v.2.1), str s1v.2.1, .int .i64 s1v.2.2.1, .bool s1v.2.2.2], mapF (mapO y3v.2.1 enc9 encP y7v) FA68 y7v s6v.2, obj b25v 36 [str ((x0.getD s6v.1.toNat dz36).1), .slice a20v (((x0.getD s6v.1.toNat dz36).2.1).length) c21v, .int .i64 ((x0.getD s6v.1.toNat dz36).2.2)], F]) rfl rfl rfl rfl rfl rfl Try.call43 (.sel 0 rfl (.sel 0 rfl (.sel 0 rfl (.sel 0 rfl (.nil _))))) (disk_fresh.calls _ _ a20v c21v ((x0.getD s6v.1.toNat dz36).2.1) (he22v.lend 3 rfl) hc23v hm24v) hs39v) (fun _ => ⟨rfl, rfl, rfl, rfl, rfl, rfl, rfl, rfl, rfl, rfl, trivial⟩) (fun _ => .inr rfl) (fun z => Ent.refl _)) (ac (fun γ => eo (Z := Nat) (fun z => (γ.1, z)) rfl rfl (.v 11 rfl rfl .nil) (re_box rfl rfl rfl) (fun _ => ⟨rfl, rfl, rfl, rfl, rfl, rfl, rfl, rfl, rfl, rfl, rfl, rfl, trivial⟩) (fun _ => .inr rfl) (fun z => Ent.refl _)) (ac (fun γ => eo (Z := Unit) (fun z => (γ.1, γ.2)) rfl rfl (.v 3 rfl rfl (.v 5 rfl rfl (.v 12 rfl rfl .nil))) (re_mputF (ek := enc9) 3 ((x0.getD s6v.1.toNat dz36).1) γ.2 rfl rfl rfl rfl Try.underlying62 key9 rfl) (fun _ => ⟨rfl, rfl, rfl, rfl, rfl, rfl, rfl, rfl, rfl, rfl, rfl, rfl, rfl, trivial⟩) (fun _ => .inl rfl) (fun z => ((.sel 2 rfl (.foldU (x := (x0.getD s6v.1.toNat dz36).1) (p := γ.2) (v := (s38v, (x0.getD s6v.1.toNat dz36).2.2)) (γ.1.1, γ.1.2) (.sel 2 rfl (.sel 0 rfl (.sel 0 rfl (.sel 0 rfl (.sel 0 rfl (.nil _))))))))))) zA)))
 intro g42v
 refine nrm_block (nrm_then (sim_region ?_))
 refine vq (q_add rfl rfl rfl) rfl ?_
 refine vm rfl rfl (simL_nil ?_)
 exact nrm_again (s := (IntKind.i64.wrap (s6v.1 + 1), mput s6v.2 ((x0.getD s6v.1.toNat dz36).1) (s38v, (x0.getD s6v.1.toNat dz36).2.2))) (mput y7v ((x0.getD s6v.1.toNat dz36).1) g42v.2) ⟨rfl, rfl, rfl, rfl, rfl, trivial⟩ (.sel 0 rfl (.sel 0 rfl (.sel 1 rfl (.nil _))))
 refine sim_exi ?_
 refine exi_then ?_
 refine exi_loop ?_
 refine exi_here ?_
 exact nrm_cutR (s := s6v.2) y7v ⟨rfl, rfl, trivial⟩ (.sel 0 rfl (.sel 0 rfl (.sel 0 rfl (.nil _))))
 intro s4v y5v
 refine sim_seq (sr ?_)
 refine vm rfl rfl ?_
 refine vq (q_len rfl rfl rfl Try.underlying27) rfl ?_
 refine vq (q_gtr rfl rfl rfl) rfl ?_
 refine vm rfl rfl ?_
 refine simL_cut' 4 (S := Bool) (Unit) (fun s y => [(4, .pointer (some ⟨y3v.1, 0, none⟩)), (57, .bool s)]) (fun s y => [obj y3v.1 64 [.map (some y3v.2.1), str s1v.2.1, .int .i64 s1v.2.2.1, .bool s1v.2.2.2], mapF (mapO y3v.2.1 enc9 encP y5v) FA68 y5v s4v, F]) ?_ ?_
 refine simL_casep (fun hb54v => ?_) (fun hb55v => ?_)
 rw [hb54v]
 refine simL_skipd rfl rfl rfl rfl rfl rfl ?_
 refine simL_skipd rfl rfl rfl rfl rfl rfl ?_
 refine simL_skipd rfl rfl rfl rfl rfl rfl ?_
 refine vq (q_pick rfl rfl rfl rfl rfl) rfl (simL_nil ?_)
 exact nrm_cut (s := true) () ⟨rfl, rfl, trivial⟩ (.sel 0 rfl (.sel 0 rfl (.sel 0 rfl (.nil _))))
 rw [hb55v]
 refine simL_valg (q_move rfl rfl) rfl rfl rfl rfl rfl rfl ?_
 refine simL_bind (fun s51v hs52v => ?_)
 refine simL_effg (re_call (vs := [.pointer (some ⟨y3v.1, 0, none⟩)]) (cap := []) (A := [obj y3v.1 64 [.map (some y3v.2.1), str s1v.2.1, .int .i64 s1v.2.2.1, .bool s1v.2.2.2], mapF (mapO y3v.2.1 enc9 encP y5v) FA68 y5v s4v]) (rst := [F]) rfl rfl rfl rfl rfl rfl Try.call16 (.sel 0 rfl (.sel 0 rfl (.sel 0 rfl (.nil _)))) (disk_Disk_Size.calls _ _ y3v.1 y3v.2.1 y5v s4v s1v.2.1 s1v.2.2.1 s1v.2.2.2 ) hs52v) rfl rfl rfl rfl rfl rfl ?_
 intro y53v
 refine simL_valg (q_gtr rfl rfl rfl) rfl rfl rfl rfl rfl rfl ?_
 refine vq (q_pick rfl rfl rfl rfl rfl) rfl (simL_nil ?_)
 exact nrm_cut (s := decide ((16777216 : Int) < s51v)) () ⟨rfl, rfl, trivial⟩ (.sel 0 rfl (.sel 0 rfl (.sel 0 rfl (.nil _))))
 intro s49v y50v
 refine simL_nil (nrm_then ?_)
 refine sim_condb rfl (fun h56v => ?_) (fun h57v => ?_)
 refine sr ?_
 refine va rfl rfl ?_
 refine va rfl rfl (simL_nil (nrm_then (sim_rtn ?_)))
 refine rtn_then ?_
 exact rtn_fn (0, 0, ([] : Kps)) rfl rfl rfl (.when_no rfl (.sel 2 rfl (.nil _)))
 refine sim_skip ?_
 refine nrm_then (sr ?_)
 refine vm rfl rfl ?_
 refine va rfl rfl ?_
 refine va rfl rfl (simL_nil (nrm_then (sim_rtn ?_)))
 exact rtn_fn (y3v.1, y3v.2.1, y5v) rfl rfl rfl (.when_yes rfl (.sel 0 rfl (.sel 0 rfl (.sel 0 rfl (.nil _)))))
theorem disk_Load.callsT (W : World) (F : HA) (k : Nat) (a0 : Option Addr) (c0 : Nat) (x0 : List (Ty36)) (h0 : RdV F 3 (V36 F) a0 x0) (hc0 : x0.length ≤ c0) (hm0 : c0 ≤ maxLen) :
    Fn Try.prog W 29 [.slice a0 x0.length c0] [] F ((disk_Load.f k x0).filter fun (r : Bool × (List ((List UInt8) × (List UInt8 × Int))) × List UInt8 × Int × Bool × Int) => r.1 == true) (fun (r : Bool × (List ((List UInt8) × (List UInt8 × Int))) × List UInt8 × Int × Bool × Int) (y : Nat × Nat × Kps) => .tuple #[.pointer (some ⟨y.1, 0, none⟩), .int .i64 r.2.2.2.2.2]) (fun r y => [obj y.1 64 [.map (some y.2.1), str r.2.2.1, .int .i64 r.2.2.2.1, .bool r.2.2.2.2.1], mapF (mapO y.2.1 enc9 encP y.2.2) FA68 y.2.2 r.2.1]) :=
  Fn.when (disk_Load.calls W F k a0 c0 x0 h0 hc0 hm0) _ true (fun r y h => by simp only [h]; rfl) (fun r y h => (Ent.when_yo h _))
theorem disk_Load.callsN (W : World) (F : HA) (k : Nat) (a0 : Option Addr) (c0 : Nat) (x0 : List (Ty36)) (h0 : RdV F 3 (V36 F) a0 x0) (hc0 : x0.length ≤ c0) (hm0 : c0 ≤ maxLen) :
    Fn Try.prog W 29 [.slice a0 x0.length c0] [] F ((disk_Load.f k x0).filter fun (r : Bool × (List ((List UInt8) × (List UInt8 × Int))) × List UInt8 × Int × Bool × Int) => r.1 == false) (fun (r : Bool × (List ((List UInt8) × (List UInt8 × Int))) × List UInt8 × Int × Bool × Int) (y : Nat × Nat × Kps) => .tuple #[.pointer none, .int .i64 r.2.2.2.2.2]) (fun r y => []) :=
  Fn.when (disk_Load.calls W F k a0 c0 x0 h0 hc0 hm0) _ false (fun r y h => by simp only [h]; rfl) (fun r y h => (Ent.when_no_ h _))
end Go.Proofs.Ytkkbgcocpkipjaa

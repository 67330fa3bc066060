/- Printed by gen.py: pure functions and the proofs that the Go functions simulate them. Conditions: as each theorem says. -/
import Derived.Test.YtkkbgcocpkipjaaG1
namespace Go.Proofs.Ytkkbgcocpkipjaa
open Go.RowKit
set_option linter.unusedVariables false
set_option linter.unusedSimpArgs false
set_option maxRecDepth 20000
set_option maxHeartbeats 20000000
def synodref_SameFiles.l0 (x0 : List (Ty36)) (x1 : List (Ty36)) : Nat → Int → Option ((Unit) ⊕ (Bool))
  | 0, _ => none
  | k + 1, z7v => if z7v < (x0.length : Int) then (if 0 ≤ z7v ∧ z7v < (x0.length : Int) then (if 0 ≤ z7v ∧ z7v < (x1.length : Int) then ((synodref_SameBytes.f k ((x0.getD z7v.toNat dz36).2.1) ((x1.getD z7v.toNat dz36).2.1)).bind fun s36v => ((if (!s36v) = true then (some true) else (if 0 ≤ z7v ∧ z7v < (x0.length : Int) then (if 0 ≤ z7v ∧ z7v < (x1.length : Int) then (if ((x0.getD z7v.toNat dz36).1) = ((x1.getD z7v.toNat dz36).1) then (if 0 ≤ z7v ∧ z7v < (x0.length : Int) then (if 0 ≤ z7v ∧ z7v < (x1.length : Int) then (some (!decide ((x0.getD z7v.toNat dz36).2.2 = (x1.getD z7v.toNat dz36).2.2))) else none) else none) else (some true)) else none) else none)).bind fun s40v => (if s40v = true then (some (.inr false)) else (synodref_SameFiles.l0 x0 x1 k (IntKind.i64.wrap (z7v + 1)))))) else none) else none) else (some (.inl ()))
def synodref_SameFiles.f (k : Nat) (x0 : List (Ty36)) (x1 : List (Ty36)) : Option (Bool) := if (x0.length : Int) = (x1.length : Int) then (orR (synodref_SameFiles.l0 x0 x1 k 0) fun s3v => (some true)) else (some false)
theorem synodref_SameFiles.calls (W : World) (F : HA) (k : Nat) (a0 : Option Addr) (c0 : Nat) (x0 : List (Ty36)) (a1 : Option Addr) (c1 : Nat) (x1 : List (Ty36)) (h0 : RdV F 3 (V36 F) a0 x0) (hc0 : x0.length ≤ c0) (hm0 : c0 ≤ maxLen) (h1 : RdV F 3 (V36 F) a1 x1) (hc1 : x1.length ≤ c1) (hm1 : c1 ≤ maxLen) :
    Fn Try.prog W 25 [.slice a0 x0.length c0, .slice a1 x1.length c1] [] F (synodref_SameFiles.f k x0 x1) (fun (r : Bool) (y : Unit) => .bool r) (fun r y => []) := by
 unfold synodref_SameFiles.f
 refine fn_intro 57 Try.func25 rfl Try.ntmps25 rfl ?_
 refine sr ?_
 refine va rfl rfl (simL_nil (nrm_then (sim_seq (sr ?_))))
 refine vm rfl rfl ?_
 refine vq (q_len rfl rfl rfl Try.underlying27) rfl ?_
 refine vm rfl rfl ?_
 refine vq (q_len rfl rfl rfl Try.underlying27) rfl ?_
 refine vq (q_neq rfl rfl rfl) rfl (simL_nil (nrm_then ?_))
 refine sim_condn rfl (fun h1v => ?_) (fun h2v => ?_)
 refine sim_skip ?_
 refine nrm_then ?_
 refine sim_cutR (S := Unit) (Unit) (fun s y => []) (fun s y => [F]) ?_ ?_
 refine sr ?_
 refine va rfl rfl (simL_nil (nrm_then ?_))
 refine sim_block ?_
 refine sim_loop (S := Int) (Unit) (fun k s => synodref_SameFiles.l0 x0 x1 k s) (fun s y => [(0, .slice a0 x0.length c0), (1, .slice a1 x1.length c1), (5, .int .i64 s)]) (fun s y => [F]) (fun _ => by rw [synodref_SameFiles.l0]) ?_ k 0 () ⟨rfl, rfl, rfl, trivial⟩ (.sel 0 rfl (.nil _))
 intro k s5v y6v
 refine sim_eq (by rw [synodref_SameFiles.l0]) ?_
 refine sim_seq (sr ?_)
 refine vm rfl rfl ?_
 refine vm rfl rfl ?_
 refine vq (q_len rfl rfl rfl Try.underlying27) rfl ?_
 refine vq (q_lss rfl rfl rfl) rfl (simL_nil (nrm_then ?_))
 refine sim_cond rfl (fun h8v => ?_) (fun h9v => ?_)
 refine sim_skip ?_
 refine nrm_then (sim_seq ?_)
 refine sim_block ?_
 refine sim_seq ?_
 refine sim_ask (fun hi10v => ?_)
 obtain ⟨b11v, b11vo, r14v, ha12v, hV15v, hlr16v, hcell17v⟩ := RdV.pos h0 (Up.refl _) rfl (i := s5v.toNat) (by omega) dz36
 obtain ⟨a18v, c19v, rfl, ⟨he20v, hc21v, hm22v⟩⟩ := hV15v
 refine sim_ask (fun hi23v => ?_)
 obtain ⟨b24v, b24vo, r27v, ha25v, hV28v, hlr29v, hcell30v⟩ := RdV.pos h1 (Up.refl _) rfl (i := s5v.toNat) (by omega) dz36
 obtain ⟨a31v, c32v, rfl, ⟨he33v, hc34v, hm35v⟩⟩ := hV28v
 refine sim_bind (fun s36v hs37v => ?_)
 refine sim_draw (Γ := Unit) () [[], [], [0, 1], [0, 1, 2], rL 4, [], [], [5, 6], [5, 6, 7], [5, 6, 7, 8], rL 10, rL 11] [10] [0, 1, 2, 3, 4, 5, 6, 7, 8, 9, 11] (fun i => [[0], [0], [0], [0], [0], [0], [0], [0], [0], [0], [], [1]].getD i []) (fun i => [[], [], [], [], [], [], [], [], [], [], rL 10, []].getD i []) (fun γ i => [.slice a0 x0.length c0, .int .i64 s5v, .pointer (some ⟨b11v, b11vo + s5v.toNat * 3, none⟩), .pointer (some ⟨b11v, b11vo + s5v.toNat * 3 + 1, none⟩), .slice a18v (((x0.getD s5v.toNat dz36).2.1).length) c19v, .slice a1 x1.length c1, .int .i64 s5v, .pointer (some ⟨b24v, b24vo + s5v.toNat * 3, none⟩), .pointer (some ⟨b24v, b24vo + s5v.toNat * 3 + 1, none⟩), .slice a31v (((x1.getD s5v.toNat dz36).2.1).length) c32v, .bool s36v, .bool s36v].getD i undef) (fun j γ => [[F], [F]].getD j []) (fun γ => [(0, .slice a0 x0.length c0), (1, .slice a1 x1.length c1), (5, .int .i64 s5v), (6, .bool s36v)]) mixed (by decide) (by decide) (by decide) (by decide) (by decide) (by decide) (by decide) 57 rfl (by decide) (by decide) (by decide) (Ent.refl _) ?_ ?_ (fun _ => ⟨rfl, rfl, rfl, rfl, trivial⟩) ?_
 exact (aq rfl (fun γ => qm rfl (.o (s := 0) rfl (by decide) .nil) rfl) (aq rfl (fun γ => qm rfl (.o (s := 5) rfl (by decide) .nil) rfl) (aq rfl (fun γ => qp rfl rfl (.v 0 rfl rfl (.v 1 rfl rfl .nil)) (q_idx rfl rfl rfl ha12v Try.underlying27 Try.sizeOf36 hi10v.1 hi10v.2) rfl) (aq rfl (fun γ => qp rfl rfl (.v 2 rfl rfl .nil) (q_fa rfl rfl Try.underlying36 rfl rfl Try.sizeOf34 rfl) rfl) (aq rfl (fun γ => qp rfl rfl (.v 3 rfl rfl .nil) (q_load rfl rfl Try.isAgg34 (hcell17v 0 rfl 1 _ rfl)) rfl) (aq rfl (fun γ => qm rfl (.o (s := 1) rfl (by decide) .nil) rfl) (aq rfl (fun γ => qm rfl (.o (s := 5) rfl (by decide) .nil) rfl) (aq rfl (fun γ => qp rfl rfl (.v 5 rfl rfl (.v 6 rfl rfl .nil)) (q_idx rfl rfl rfl ha25v Try.underlying27 Try.sizeOf36 hi23v.1 hi23v.2) rfl) (aq rfl (fun γ => qp rfl rfl (.v 7 rfl rfl .nil) (q_fa rfl rfl Try.underlying36 rfl rfl Try.sizeOf34 rfl) rfl) (aq rfl (fun γ => qp rfl rfl (.v 8 rfl rfl .nil) (q_load rfl rfl Try.isAgg34 (hcell30v 0 rfl 1 _ rfl)) rfl) (aq rfl (fun γ => qp rfl rfl (.v 10 rfl rfl .nil) (q_asg rfl rfl) rfl) zA)))))))))))
 exact (ac (fun γ => eo (Z := Unit) (fun z => ()) rfl rfl (.v 4 rfl rfl (.v 9 rfl rfl .nil)) (re_call (vs := [.slice a18v (((x0.getD s5v.toNat dz36).2.1).length) c19v, .slice a31v (((x1.getD s5v.toNat dz36).2.1).length) c32v]) (cap := []) (A := []) (rst := [F]) rfl rfl rfl rfl rfl rfl Try.call24 (.sel 0 rfl (.nil _)) (synodref_SameBytes.calls _ _ k a18v c19v ((x0.getD s5v.toNat dz36).2.1) a31v c32v ((x1.getD s5v.toNat dz36).2.1) (he20v.lend 0 rfl) hc21v hm22v (he33v.lend 0 rfl) hc34v hm35v) hs37v) (fun _ => ⟨rfl, rfl, rfl, rfl, rfl, rfl, rfl, rfl, rfl, rfl, trivial⟩) (fun _ => .inr rfl) (fun z => Ent.refl _)) zA)
 intro g39v
 refine nrm_then ?_
 refine sim_cut (S := Bool) (Unit) (fun s y => [(0, .slice a0 x0.length c0), (1, .slice a1 x1.length c1), (5, .int .i64 s5v), (56, .bool s)]) (fun s y => [F]) ?_ ?_
 refine sim_if (fun hk42v => ?_) (fun hk42v => ?_)
 refine sim_draw (Γ := Unit) () [[], [0], [0, 1], [0, 1, 2], [0, 1, 2], rL 5, rL 6, rL 7, [0, 1, 2], [0, 1, 2], [0, 1, 2, 8, 9], [0, 1, 2, 8, 9, 10], [0, 1, 2, 8, 9, 10, 11], rL 13, rL 14, rL 15, rL 16, rL 16, rL 18, rL 19, rL 20, rL 16, rL 16, [0, 1, 2, 3, 4, 5, 6, 7, 8, 9, 10, 11, 12, 13, 14, 15, 21, 22], [0, 1, 2, 3, 4, 5, 6, 7, 8, 9, 10, 11, 12, 13, 14, 15, 21, 22, 23], [0, 1, 2, 3, 4, 5, 6, 7, 8, 9, 10, 11, 12, 13, 14, 15, 21, 22, 23, 24], rL 26, rL 27] [] [0, 1, 2, 3, 4, 5, 6, 7, 8, 9, 10, 11, 12, 13, 14, 15, 16, 17, 18, 19, 20, 21, 22, 23, 24, 25, 26, 27] (fun i => [[0], [0], [0], [0], [0], [0], [0], [0], [0], [0], [0], [0], [0], [0], [0], [0], [0], [0], [0], [0], [0], [0], [0], [0], [0], [0], [0], [0]].getD i []) (fun i => [[], [], [], [], [], [], [], [], [], [], [], [], [], [], [], [], [], [], [], [], [], [], [], [], [], [], [], []].getD i []) (fun γ i => [.bool s36v, .bool (!s36v), .bool (!s36v), undef, undef, undef, undef, undef, undef, undef, undef, undef, undef, undef, .bool true, .bool true, undef, undef, undef, undef, undef, undef, undef, undef, undef, undef, undef, .bool true].getD i undef) (fun j γ => [[F]].getD j []) (fun γ => [(0, .slice a0 x0.length c0), (1, .slice a1 x1.length c1), (5, .int .i64 s5v), (32, undef), (33, undef), (34, undef), (35, undef), (36, undef), (37, undef), (38, undef), (39, undef), (40, undef), (41, undef), (42, undef), (45, undef), (46, undef), (47, undef), (48, undef), (49, undef), (50, undef), (51, undef), (52, undef), (53, undef), (54, undef), (55, undef), (56, .bool true)]) mixed (by decide) (by decide) (by decide) (by decide) (by decide) (by decide) (by decide) 57 rfl (by decide) (by decide) (by decide) (Ent.refl _) ?_ ?_ (fun _ => ⟨rfl, rfl, rfl, rfl, rfl, rfl, rfl, rfl, rfl, rfl, rfl, rfl, rfl, rfl, rfl, rfl, rfl, rfl, rfl, rfl, rfl, rfl, rfl, rfl, rfl, rfl, trivial⟩) ?_
 exact (aq rfl (fun γ => qm rfl (.o (s := 6) rfl (by decide) .nil) rfl) (aq rfl (fun γ => qp rfl rfl (.v 0 rfl rfl .nil) (q_not rfl rfl) rfl) (aq rfl (fun γ => qm rfl (.v 1 rfl rfl .nil) rfl) (aq rfl (fun γ => qn rfl rfl (.o (s := 0) rfl (by decide) (.v 2 rfl rfl .nil)) rfl rfl (beq_yes' hk42v) rfl) (aq rfl (fun γ => qn rfl rfl (.o (s := 5) rfl (by decide) (.v 2 rfl rfl .nil)) rfl rfl (beq_yes' hk42v) rfl) (aq rfl (fun γ => qn rfl rfl (.v 2 rfl rfl (.v 3 rfl rfl (.v 4 rfl rfl .nil))) rfl rfl (beq_yes' hk42v) rfl) (aq rfl (fun γ => qn rfl rfl (.v 2 rfl rfl (.v 5 rfl rfl .nil)) rfl rfl (beq_yes' hk42v) rfl) (aq rfl (fun γ => qn rfl rfl (.v 2 rfl rfl (.v 6 rfl rfl .nil)) rfl rfl (beq_yes' hk42v) rfl) (aq rfl (fun γ => qn rfl rfl (.o (s := 1) rfl (by decide) (.v 2 rfl rfl .nil)) rfl rfl (beq_yes' hk42v) rfl) (aq rfl (fun γ => qn rfl rfl (.o (s := 5) rfl (by decide) (.v 2 rfl rfl .nil)) rfl rfl (beq_yes' hk42v) rfl) (aq rfl (fun γ => qn rfl rfl (.v 2 rfl rfl (.v 8 rfl rfl (.v 9 rfl rfl .nil))) rfl rfl (beq_yes' hk42v) rfl) (aq rfl (fun γ => qn rfl rfl (.v 2 rfl rfl (.v 10 rfl rfl .nil)) rfl rfl (beq_yes' hk42v) rfl) (aq rfl (fun γ => qn rfl rfl (.v 2 rfl rfl (.v 11 rfl rfl .nil)) rfl rfl (beq_yes' hk42v) rfl) (aq rfl (fun γ => qn rfl rfl (.v 2 rfl rfl (.v 7 rfl rfl (.v 12 rfl rfl .nil))) rfl rfl (beq_yes' hk42v) rfl) (aq rfl (fun γ => qp rfl rfl (.v 2 rfl rfl (.v 13 rfl rfl .nil)) (q_pick rfl rfl rfl rfl (bif_yes hk42v _ _)) rfl) (aq rfl (fun γ => qm rfl (.v 14 rfl rfl .nil) rfl) (aq rfl (fun γ => qn rfl rfl (.o (s := 0) rfl (by decide) (.v 15 rfl rfl .nil)) rfl rfl rfl rfl) (aq rfl (fun γ => qn rfl rfl (.o (s := 5) rfl (by decide) (.v 15 rfl rfl .nil)) rfl rfl rfl rfl) (aq rfl (fun γ => qn rfl rfl (.v 15 rfl rfl (.v 16 rfl rfl (.v 17 rfl rfl .nil))) rfl rfl rfl rfl) (aq rfl (fun γ => qn rfl rfl (.v 15 rfl rfl (.v 18 rfl rfl .nil)) rfl rfl rfl rfl) (aq rfl (fun γ => qn rfl rfl (.v 15 rfl rfl (.v 19 rfl rfl .nil)) rfl rfl rfl rfl) (aq rfl (fun γ => qn rfl rfl (.o (s := 1) rfl (by decide) (.v 15 rfl rfl .nil)) rfl rfl rfl rfl) (aq rfl (fun γ => qn rfl rfl (.o (s := 5) rfl (by decide) (.v 15 rfl rfl .nil)) rfl rfl rfl rfl) (aq rfl (fun γ => qn rfl rfl (.v 15 rfl rfl (.v 21 rfl rfl (.v 22 rfl rfl .nil))) rfl rfl rfl rfl) (aq rfl (fun γ => qn rfl rfl (.v 15 rfl rfl (.v 23 rfl rfl .nil)) rfl rfl rfl rfl) (aq rfl (fun γ => qn rfl rfl (.v 15 rfl rfl (.v 24 rfl rfl .nil)) rfl rfl rfl rfl) (aq rfl (fun γ => qn rfl rfl (.v 15 rfl rfl (.v 20 rfl rfl (.v 25 rfl rfl .nil))) rfl rfl rfl rfl) (aq rfl (fun γ => qp rfl rfl (.v 15 rfl rfl (.v 26 rfl rfl .nil)) (q_pick rfl rfl rfl rfl rfl) rfl) zA))))))))))))))))))))))))))))
 exact zA
 intro g43v
 exact nrm_cut (s := true) () ⟨rfl, rfl, rfl, rfl, trivial⟩ (.sel 0 rfl (.nil _))
 refine sim_ask (fun hi44v => ?_)
 obtain ⟨b45v, b45vo, r48v, ha46v, hV49v, hlr50v, hcell51v⟩ := RdV.pos h0 (Up.refl _) rfl (i := s5v.toNat) (by omega) dz36
 obtain ⟨a52v, c53v, rfl, ⟨he54v, hc55v, hm56v⟩⟩ := hV49v
 refine sim_ask (fun hi57v => ?_)
 obtain ⟨b58v, b58vo, r61v, ha59v, hV62v, hlr63v, hcell64v⟩ := RdV.pos h1 (Up.refl _) rfl (i := s5v.toNat) (by omega) dz36
 obtain ⟨a65v, c66v, rfl, ⟨he67v, hc68v, hm69v⟩⟩ := hV62v
 refine sim_if (fun hk70v => ?_) (fun hk70v => ?_)
 refine sim_ask (fun hi72v => ?_)
 obtain ⟨b73v, b73vo, r76v, ha74v, hV77v, hlr78v, hcell79v⟩ := RdV.pos h0 (Up.refl _) rfl (i := s5v.toNat) (by omega) dz36
 obtain ⟨a80v, c81v, rfl, ⟨he82v, hc83v, hm84v⟩⟩ := hV77v
 refine sim_ask (fun hi85v => ?_)
 obtain ⟨b86v, b86vo, r89v, ha87v, hV90v, hlr91v, hcell92v⟩ := RdV.pos h1 (Up.refl _) rfl (i := s5v.toNat) (by omega) dz36
 obtain ⟨a93v, c94v, rfl, ⟨he95v, hc96v, hm97v⟩⟩ := hV90v
 refine sim_draw (Γ := Unit) () [[], [0], [0, 1], [0, 1, 2], [0, 1, 2], rL 5, rL 6, rL 7, [0, 1, 2], [0, 1, 2], [0, 1, 2, 8, 9], [0, 1, 2, 8, 9, 10], [0, 1, 2, 8, 9, 10, 11], rL 13, rL 14, rL 15, rL 16, rL 16, rL 18, rL 19, rL 20, rL 16, rL 16, [0, 1, 2, 3, 4, 5, 6, 7, 8, 9, 10, 11, 12, 13, 14, 15, 21, 22], [0, 1, 2, 3, 4, 5, 6, 7, 8, 9, 10, 11, 12, 13, 14, 15, 21, 22, 23], [0, 1, 2, 3, 4, 5, 6, 7, 8, 9, 10, 11, 12, 13, 14, 15, 21, 22, 23, 24], rL 26, rL 27] [] [0, 1, 2, 3, 4, 5, 6, 7, 8, 9, 10, 11, 12, 13, 14, 15, 16, 17, 18, 19, 20, 21, 22, 23, 24, 25, 26, 27] (fun i => [[0], [0], [0], [0], [0], [0], [0], [0], [0], [0], [0], [0], [0], [0], [0], [0], [0], [0], [0], [0], [0], [0], [0], [0], [0], [0], [0], [0]].getD i []) (fun i => [[], [], [], [], [], [], [], [], [], [], [], [], [], [], [], [], [], [], [], [], [], [], [], [], [], [], [], []].getD i []) (fun γ i => [.bool s36v, .bool (!s36v), .bool (!s36v), .slice a0 x0.length c0, .int .i64 s5v, .pointer (some ⟨b45v, b45vo + s5v.toNat * 3, none⟩), .pointer (some ⟨b45v, b45vo + s5v.toNat * 3 + 0, none⟩), str ((x0.getD s5v.toNat dz36).1), .slice a1 x1.length c1, .int .i64 s5v, .pointer (some ⟨b58v, b58vo + s5v.toNat * 3, none⟩), .pointer (some ⟨b58v, b58vo + s5v.toNat * 3 + 0, none⟩), str ((x1.getD s5v.toNat dz36).1), .bool (!decide (((x0.getD s5v.toNat dz36).1) = ((x1.getD s5v.toNat dz36).1))), .bool (!decide (((x0.getD s5v.toNat dz36).1) = ((x1.getD s5v.toNat dz36).1))), .bool (!decide (((x0.getD s5v.toNat dz36).1) = ((x1.getD s5v.toNat dz36).1))), .slice a0 x0.length c0, .int .i64 s5v, .pointer (some ⟨b73v, b73vo + s5v.toNat * 3, none⟩), .pointer (some ⟨b73v, b73vo + s5v.toNat * 3 + 2, none⟩), .int .i64 ((x0.getD s5v.toNat dz36).2.2), .slice a1 x1.length c1, .int .i64 s5v, .pointer (some ⟨b86v, b86vo + s5v.toNat * 3, none⟩), .pointer (some ⟨b86v, b86vo + s5v.toNat * 3 + 2, none⟩), .int .i64 ((x1.getD s5v.toNat dz36).2.2), .bool (!decide ((x0.getD s5v.toNat dz36).2.2 = (x1.getD s5v.toNat dz36).2.2)), .bool (!decide ((x0.getD s5v.toNat dz36).2.2 = (x1.getD s5v.toNat dz36).2.2))].getD i undef) (fun j γ => [[F]].getD j []) (fun γ => [(0, .slice a0 x0.length c0), (1, .slice a1 x1.length c1), (5, .int .i64 s5v), (32, .slice a0 x0.length c0), (33, .int .i64 s5v), (34, .pointer (some ⟨b45v, b45vo + s5v.toNat * 3, none⟩)), (35, .pointer (some ⟨b45v, b45vo + s5v.toNat * 3 + 0, none⟩)), (36, str ((x0.getD s5v.toNat dz36).1)), (37, .slice a1 x1.length c1), (38, .int .i64 s5v), (39, .pointer (some ⟨b58v, b58vo + s5v.toNat * 3, none⟩)), (40, .pointer (some ⟨b58v, b58vo + s5v.toNat * 3 + 0, none⟩)), (41, str ((x1.getD s5v.toNat dz36).1)), (42, .bool (!decide (((x0.getD s5v.toNat dz36).1) = ((x1.getD s5v.toNat dz36).1)))), (45, .slice a0 x0.length c0), (46, .int .i64 s5v), (47, .pointer (some ⟨b73v, b73vo + s5v.toNat * 3, none⟩)), (48, .pointer (some ⟨b73v, b73vo + s5v.toNat * 3 + 2, none⟩)), (49, .int .i64 ((x0.getD s5v.toNat dz36).2.2)), (50, .slice a1 x1.length c1), (51, .int .i64 s5v), (52, .pointer (some ⟨b86v, b86vo + s5v.toNat * 3, none⟩)), (53, .pointer (some ⟨b86v, b86vo + s5v.toNat * 3 + 2, none⟩)), (54, .int .i64 ((x1.getD s5v.toNat dz36).2.2)), (55, .bool (!decide ((x0.getD s5v.toNat dz36).2.2 = (x1.getD s5v.toNat dz36).2.2))), (56, .bool (!decide ((x0.getD s5v.toNat dz36).2.2 = (x1.getD s5v.toNat dz36).2.2)))]) mixed (by decide) (by decide) (by decide) (by decide) (by decide) (by decide) (by decide) 57 rfl (by decide) (by decide) (by decide) (Ent.refl _) ?_ ?_ (fun _ => ⟨rfl, rfl, rfl, rfl, rfl, rfl, rfl, rfl, rfl, rfl, rfl, rfl, rfl, rfl, rfl, rfl, rfl, rfl, rfl, rfl, rfl, rfl, rfl, rfl, rfl, rfl, trivial⟩) ?_
 exact (aq rfl (fun γ => qm rfl (.o (s := 6) rfl (by decide) .nil) rfl) (aq rfl (fun γ => qp rfl rfl (.v 0 rfl rfl .nil) (q_not rfl rfl) rfl) (aq rfl (fun γ => qm rfl (.v 1 rfl rfl .nil) rfl) (aq rfl (fun γ => qy rfl rfl (.o (s := 0) rfl (by decide) (.v 2 rfl rfl .nil)) rfl rfl (beq_no (eq_false_of_ne_true hk42v)) (q_move rfl rfl) rfl) (aq rfl (fun γ => qy rfl rfl (.o (s := 5) rfl (by decide) (.v 2 rfl rfl .nil)) rfl rfl (beq_no (eq_false_of_ne_true hk42v)) (q_move rfl rfl) rfl) (aq rfl (fun γ => qy rfl rfl (.v 2 rfl rfl (.v 3 rfl rfl (.v 4 rfl rfl .nil))) rfl rfl (beq_no (eq_false_of_ne_true hk42v)) (q_idx rfl rfl rfl ha46v Try.underlying27 Try.sizeOf36 hi44v.1 hi44v.2) rfl) (aq rfl (fun γ => qy rfl rfl (.v 2 rfl rfl (.v 5 rfl rfl .nil)) rfl rfl (beq_no (eq_false_of_ne_true hk42v)) (q_fa rfl rfl Try.underlying36 rfl rfl Try.sizeOf9 rfl) rfl) (aq rfl (fun γ => qy rfl rfl (.v 2 rfl rfl (.v 6 rfl rfl .nil)) rfl rfl (beq_no (eq_false_of_ne_true hk42v)) (q_load rfl rfl Try.isAgg9 (hcell51v 0 rfl 0 _ rfl)) rfl) (aq rfl (fun γ => qy rfl rfl (.o (s := 1) rfl (by decide) (.v 2 rfl rfl .nil)) rfl rfl (beq_no (eq_false_of_ne_true hk42v)) (q_move rfl rfl) rfl) (aq rfl (fun γ => qy rfl rfl (.o (s := 5) rfl (by decide) (.v 2 rfl rfl .nil)) rfl rfl (beq_no (eq_false_of_ne_true hk42v)) (q_move rfl rfl) rfl) (aq rfl (fun γ => qy rfl rfl (.v 2 rfl rfl (.v 8 rfl rfl (.v 9 rfl rfl .nil))) rfl rfl (beq_no (eq_false_of_ne_true hk42v)) (q_idx rfl rfl rfl ha59v Try.underlying27 Try.sizeOf36 hi57v.1 hi57v.2) rfl) (aq rfl (fun γ => qy rfl rfl (.v 2 rfl rfl (.v 10 rfl rfl .nil)) rfl rfl (beq_no (eq_false_of_ne_true hk42v)) (q_fa rfl rfl Try.underlying36 rfl rfl Try.sizeOf9 rfl) rfl) (aq rfl (fun γ => qy rfl rfl (.v 2 rfl rfl (.v 11 rfl rfl .nil)) rfl rfl (beq_no (eq_false_of_ne_true hk42v)) (q_load rfl rfl Try.isAgg9 (hcell64v 0 rfl 0 _ rfl)) rfl) (aq rfl (fun γ => qy rfl rfl (.v 2 rfl rfl (.v 7 rfl rfl (.v 12 rfl rfl .nil))) rfl rfl (beq_no (eq_false_of_ne_true hk42v)) (q_nes rfl rfl rfl) rfl) (aq rfl (fun γ => qp rfl rfl (.v 2 rfl rfl (.v 13 rfl rfl .nil)) (q_pick rfl rfl rfl rfl (bif_no (eq_false_of_ne_true hk42v) _ _)) rfl) (aq rfl (fun γ => qm rfl (.v 14 rfl rfl .nil) rfl) (aq rfl (fun γ => qy rfl rfl (.o (s := 0) rfl (by decide) (.v 15 rfl rfl .nil)) rfl rfl (beq_no (ndec_no hk70v)) (q_move rfl rfl) rfl) (aq rfl (fun γ => qy rfl rfl (.o (s := 5) rfl (by decide) (.v 15 rfl rfl .nil)) rfl rfl (beq_no (ndec_no hk70v)) (q_move rfl rfl) rfl) (aq rfl (fun γ => qy rfl rfl (.v 15 rfl rfl (.v 16 rfl rfl (.v 17 rfl rfl .nil))) rfl rfl (beq_no (ndec_no hk70v)) (q_idx rfl rfl rfl ha74v Try.underlying27 Try.sizeOf36 hi72v.1 hi72v.2) rfl) (aq rfl (fun γ => qy rfl rfl (.v 15 rfl rfl (.v 18 rfl rfl .nil)) rfl rfl (beq_no (ndec_no hk70v)) (q_fa rfl rfl Try.underlying36 rfl rfl Try.sizeOf3 rfl) rfl) (aq rfl (fun γ => qy rfl rfl (.v 15 rfl rfl (.v 19 rfl rfl .nil)) rfl rfl (beq_no (ndec_no hk70v)) (q_load rfl rfl Try.isAgg3 (hcell79v 0 rfl 2 _ rfl)) rfl) (aq rfl (fun γ => qy rfl rfl (.o (s := 1) rfl (by decide) (.v 15 rfl rfl .nil)) rfl rfl (beq_no (ndec_no hk70v)) (q_move rfl rfl) rfl) (aq rfl (fun γ => qy rfl rfl (.o (s := 5) rfl (by decide) (.v 15 rfl rfl .nil)) rfl rfl (beq_no (ndec_no hk70v)) (q_move rfl rfl) rfl) (aq rfl (fun γ => qy rfl rfl (.v 15 rfl rfl (.v 21 rfl rfl (.v 22 rfl rfl .nil))) rfl rfl (beq_no (ndec_no hk70v)) (q_idx rfl rfl rfl ha87v Try.underlying27 Try.sizeOf36 hi85v.1 hi85v.2) rfl) (aq rfl (fun γ => qy rfl rfl (.v 15 rfl rfl (.v 23 rfl rfl .nil)) rfl rfl (beq_no (ndec_no hk70v)) (q_fa rfl rfl Try.underlying36 rfl rfl Try.sizeOf3 rfl) rfl) (aq rfl (fun γ => qy rfl rfl (.v 15 rfl rfl (.v 24 rfl rfl .nil)) rfl rfl (beq_no (ndec_no hk70v)) (q_load rfl rfl Try.isAgg3 (hcell92v 0 rfl 2 _ rfl)) rfl) (aq rfl (fun γ => qy rfl rfl (.v 15 rfl rfl (.v 20 rfl rfl (.v 25 rfl rfl .nil))) rfl rfl (beq_no (ndec_no hk70v)) (q_neq rfl rfl rfl) rfl) (aq rfl (fun γ => qp rfl rfl (.v 15 rfl rfl (.v 26 rfl rfl .nil)) (q_pick rfl rfl rfl rfl (bif_no (ndec_no hk70v) _ _)) rfl) zA))))))))))))))))))))))))))))
 exact zA
 intro g98v
 exact nrm_cut (s := !decide ((x0.getD s5v.toNat dz36).2.2 = (x1.getD s5v.toNat dz36).2.2)) () ⟨rfl, rfl, rfl, rfl, trivial⟩ (.sel 0 rfl (.nil _))
 refine sim_draw (Γ := Unit) () [[], [0], [0, 1], [0, 1, 2], [0, 1, 2], rL 5, rL 6, rL 7, [0, 1, 2], [0, 1, 2], [0, 1, 2, 8, 9], [0, 1, 2, 8, 9, 10], [0, 1, 2, 8, 9, 10, 11], rL 13, rL 14, rL 15, rL 16, rL 16, rL 18, rL 19, rL 20, rL 16, rL 16, [0, 1, 2, 3, 4, 5, 6, 7, 8, 9, 10, 11, 12, 13, 14, 15, 21, 22], [0, 1, 2, 3, 4, 5, 6, 7, 8, 9, 10, 11, 12, 13, 14, 15, 21, 22, 23], [0, 1, 2, 3, 4, 5, 6, 7, 8, 9, 10, 11, 12, 13, 14, 15, 21, 22, 23, 24], rL 26, rL 27] [] [0, 1, 2, 3, 4, 5, 6, 7, 8, 9, 10, 11, 12, 13, 14, 15, 16, 17, 18, 19, 20, 21, 22, 23, 24, 25, 26, 27] (fun i => [[0], [0], [0], [0], [0], [0], [0], [0], [0], [0], [0], [0], [0], [0], [0], [0], [0], [0], [0], [0], [0], [0], [0], [0], [0], [0], [0], [0]].getD i []) (fun i => [[], [], [], [], [], [], [], [], [], [], [], [], [], [], [], [], [], [], [], [], [], [], [], [], [], [], [], []].getD i []) (fun γ i => [.bool s36v, .bool (!s36v), .bool (!s36v), .slice a0 x0.length c0, .int .i64 s5v, .pointer (some ⟨b45v, b45vo + s5v.toNat * 3, none⟩), .pointer (some ⟨b45v, b45vo + s5v.toNat * 3 + 0, none⟩), str ((x0.getD s5v.toNat dz36).1), .slice a1 x1.length c1, .int .i64 s5v, .pointer (some ⟨b58v, b58vo + s5v.toNat * 3, none⟩), .pointer (some ⟨b58v, b58vo + s5v.toNat * 3 + 0, none⟩), str ((x1.getD s5v.toNat dz36).1), .bool (!decide (((x0.getD s5v.toNat dz36).1) = ((x1.getD s5v.toNat dz36).1))), .bool (!decide (((x0.getD s5v.toNat dz36).1) = ((x1.getD s5v.toNat dz36).1))), .bool (!decide (((x0.getD s5v.toNat dz36).1) = ((x1.getD s5v.toNat dz36).1))), undef, undef, undef, undef, undef, undef, undef, undef, undef, undef, undef, .bool true].getD i undef) (fun j γ => [[F]].getD j []) (fun γ => [(0, .slice a0 x0.length c0), (1, .slice a1 x1.length c1), (5, .int .i64 s5v), (32, .slice a0 x0.length c0), (33, .int .i64 s5v), (34, .pointer (some ⟨b45v, b45vo + s5v.toNat * 3, none⟩)), (35, .pointer (some ⟨b45v, b45vo + s5v.toNat * 3 + 0, none⟩)), (36, str ((x0.getD s5v.toNat dz36).1)), (37, .slice a1 x1.length c1), (38, .int .i64 s5v), (39, .pointer (some ⟨b58v, b58vo + s5v.toNat * 3, none⟩)), (40, .pointer (some ⟨b58v, b58vo + s5v.toNat * 3 + 0, none⟩)), (41, str ((x1.getD s5v.toNat dz36).1)), (42, .bool (!decide (((x0.getD s5v.toNat dz36).1) = ((x1.getD s5v.toNat dz36).1)))), (45, undef), (46, undef), (47, undef), (48, undef), (49, undef), (50, undef), (51, undef), (52, undef), (53, undef), (54, undef), (55, undef), (56, .bool true)]) mixed (by decide) (by decide) (by decide) (by decide) (by decide) (by decide) (by decide) 57 rfl (by decide) (by decide) (by decide) (Ent.refl _) ?_ ?_ (fun _ => ⟨rfl, rfl, rfl, rfl, rfl, rfl, rfl, rfl, rfl, rfl, rfl, rfl, rfl, rfl, rfl, rfl, rfl, rfl, rfl, rfl, rfl, rfl, rfl, rfl, rfl, rfl, trivial⟩) ?_
 exact (aq rfl (fun γ => qm rfl (.o (s := 6) rfl (by decide) .nil) rfl) (aq rfl (fun γ => qp rfl rfl (.v 0 rfl rfl .nil) (q_not rfl rfl) rfl) (aq rfl (fun γ => qm rfl (.v 1 rfl rfl .nil) rfl) (aq rfl (fun γ => qy rfl rfl (.o (s := 0) rfl (by decide) (.v 2 rfl rfl .nil)) rfl rfl (beq_no (eq_false_of_ne_true hk42v)) (q_move rfl rfl) rfl) (aq rfl (fun γ => qy rfl rfl (.o (s := 5) rfl (by decide) (.v 2 rfl rfl .nil)) rfl rfl (beq_no (eq_false_of_ne_true hk42v)) (q_move rfl rfl) rfl) (aq rfl (fun γ => qy rfl rfl (.v 2 rfl rfl (.v 3 rfl rfl (.v 4 rfl rfl .nil))) rfl rfl (beq_no (eq_false_of_ne_true hk42v)) (q_idx rfl rfl rfl ha46v Try.underlying27 Try.sizeOf36 hi44v.1 hi44v.2) rfl) (aq rfl (fun γ => qy rfl rfl (.v 2 rfl rfl (.v 5 rfl rfl .nil)) rfl rfl (beq_no (eq_false_of_ne_true hk42v)) (q_fa rfl rfl Try.underlying36 rfl rfl Try.sizeOf9 rfl) rfl) (aq rfl (fun γ => qy rfl rfl (.v 2 rfl rfl (.v 6 rfl rfl .nil)) rfl rfl (beq_no (eq_false_of_ne_true hk42v)) (q_load rfl rfl Try.isAgg9 (hcell51v 0 rfl 0 _ rfl)) rfl) (aq rfl (fun γ => qy rfl rfl (.o (s := 1) rfl (by decide) (.v 2 rfl rfl .nil)) rfl rfl (beq_no (eq_false_of_ne_true hk42v)) (q_move rfl rfl) rfl) (aq rfl (fun γ => qy rfl rfl (.o (s := 5) rfl (by decide) (.v 2 rfl rfl .nil)) rfl rfl (beq_no (eq_false_of_ne_true hk42v)) (q_move rfl rfl) rfl) (aq rfl (fun γ => qy rfl rfl (.v 2 rfl rfl (.v 8 rfl rfl (.v 9 rfl rfl .nil))) rfl rfl (beq_no (eq_false_of_ne_true hk42v)) (q_idx rfl rfl rfl ha59v Try.underlying27 Try.sizeOf36 hi57v.1 hi57v.2) rfl) (aq rfl (fun γ => qy rfl rfl (.v 2 rfl rfl (.v 10 rfl rfl .nil)) rfl rfl (beq_no (eq_false_of_ne_true hk42v)) (q_fa rfl rfl Try.underlying36 rfl rfl Try.sizeOf9 rfl) rfl) (aq rfl (fun γ => qy rfl rfl (.v 2 rfl rfl (.v 11 rfl rfl .nil)) rfl rfl (beq_no (eq_false_of_ne_true hk42v)) (q_load rfl rfl Try.isAgg9 (hcell64v 0 rfl 0 _ rfl)) rfl) (aq rfl (fun γ => qy rfl rfl (.v 2 rfl rfl (.v 7 rfl rfl (.v 12 rfl rfl .nil))) rfl rfl (beq_no (eq_false_of_ne_true hk42v)) (q_nes rfl rfl rfl) rfl) (aq rfl (fun γ => qp rfl rfl (.v 2 rfl rfl (.v 13 rfl rfl .nil)) (q_pick rfl rfl rfl rfl (bif_no (eq_false_of_ne_true hk42v) _ _)) rfl) (aq rfl (fun γ => qm rfl (.v 14 rfl rfl .nil) rfl) (aq rfl (fun γ => qn rfl rfl (.o (s := 0) rfl (by decide) (.v 15 rfl rfl .nil)) rfl rfl (beq_yes' (ndec_yes hk70v)) rfl) (aq rfl (fun γ => qn rfl rfl (.o (s := 5) rfl (by decide) (.v 15 rfl rfl .nil)) rfl rfl (beq_yes' (ndec_yes hk70v)) rfl) (aq rfl (fun γ => qn rfl rfl (.v 15 rfl rfl (.v 16 rfl rfl (.v 17 rfl rfl .nil))) rfl rfl (beq_yes' (ndec_yes hk70v)) rfl) (aq rfl (fun γ => qn rfl rfl (.v 15 rfl rfl (.v 18 rfl rfl .nil)) rfl rfl (beq_yes' (ndec_yes hk70v)) rfl) (aq rfl (fun γ => qn rfl rfl (.v 15 rfl rfl (.v 19 rfl rfl .nil)) rfl rfl (beq_yes' (ndec_yes hk70v)) rfl) (aq rfl (fun γ => qn rfl rfl (.o (s := 1) rfl (by decide) (.v 15 rfl rfl .nil)) rfl rfl (beq_yes' (ndec_yes hk70v)) rfl) (aq rfl (fun γ => qn rfl rfl (.o (s := 5) rfl (by decide) (.v 15 rfl rfl .nil)) rfl rfl (beq_yes' (ndec_yes hk70v)) rfl) (aq rfl (fun γ => qn rfl rfl (.v 15 rfl rfl (.v 21 rfl rfl (.v 22 rfl rfl .nil))) rfl rfl (beq_yes' (ndec_yes hk70v)) rfl) (aq rfl (fun γ => qn rfl rfl (.v 15 rfl rfl (.v 23 rfl rfl .nil)) rfl rfl (beq_yes' (ndec_yes hk70v)) rfl) (aq rfl (fun γ => qn rfl rfl (.v 15 rfl rfl (.v 24 rfl rfl .nil)) rfl rfl (beq_yes' (ndec_yes hk70v)) rfl) (aq rfl (fun γ => qn rfl rfl (.v 15 rfl rfl (.v 20 rfl rfl (.v 25 rfl rfl .nil))) rfl rfl (beq_yes' (ndec_yes hk70v)) rfl) (aq rfl (fun γ => qp rfl rfl (.v 15 rfl rfl (.v 26 rfl rfl .nil)) (q_pick rfl rfl rfl rfl (bif_yes (ndec_yes hk70v) _ _)) rfl) zA))))))))))))))))))))))))))))
 exact zA
 intro g71v
 exact nrm_cut (s := true) () ⟨rfl, rfl, rfl, rfl, trivial⟩ (.sel 0 rfl (.nil _))
 intro s40v y41v
 refine sim_condb rfl (fun h99v => ?_) (fun h100v => ?_)
 refine sr ?_
 refine va rfl rfl (simL_nil (nrm_then (sim_rtn ?_)))
 refine rtn_block ?_
 refine rtn_then ?_
 refine rtn_loop ?_
 refine rtn_block ?_
 refine rtn_cutR ?_
 exact rtn_fn () rfl rfl rfl (.sel 0 rfl (.nil _))
 refine sim_skip ?_
 refine nrm_block (nrm_then (sim_region ?_))
 refine vm rfl rfl ?_
 refine vq (q_add rfl rfl rfl) rfl ?_
 refine va rfl rfl (simL_nil ?_)
 exact nrm_again (s := IntKind.i64.wrap (s5v + 1)) () ⟨rfl, rfl, rfl, trivial⟩ (.sel 0 rfl (.nil _))
 refine sim_exi ?_
 refine exi_then ?_
 refine exi_loop ?_
 refine exi_here ?_
 exact nrm_cutR (s := ()) () trivial (.sel 0 rfl (.nil _))
 intro s3v y4v
 refine sr ?_
 refine va rfl rfl (simL_nil (nrm_then (sim_rtn ?_)))
 exact rtn_fn () rfl rfl rfl (.sel 0 rfl (.nil _))
 refine sr ?_
 refine va rfl rfl (simL_nil (nrm_then (sim_rtn ?_)))
 refine rtn_then ?_
 exact rtn_fn () rfl rfl rfl (.sel 0 rfl (.nil _))

def disk_Disk_Down.f (x0_0 : List ((List UInt8) × (List UInt8 × Int))) (x0_1 : List UInt8) (x0_2 : Int) (x0_3 : Bool) : Option (Bool) := some x0_3
theorem disk_Disk_Down.calls (W : World) (F : HA) (b0 : Nat) (m0_0 : Nat) (q0_0 : Kps) (x0_0 : List ((List UInt8) × (List UInt8 × Int))) (x0_1 : List UInt8) (x0_2 : Int) (x0_3 : Bool)  :
    Fn Try.prog W 23 [.pointer (some ⟨b0, 0, none⟩)] [obj b0 64 [.map (some m0_0), str x0_1, .int .i64 x0_2, .bool x0_3], mapF (mapO m0_0 enc9 encP q0_0) FA68 q0_0 x0_0] F (disk_Disk_Down.f x0_0 x0_1 x0_2 x0_3) (fun (r : Bool) (y : Unit) => .bool r) (fun r y => [obj b0 64 [.map (some m0_0), str x0_1, .int .i64 x0_2, .bool x0_3], mapF (mapO m0_0 enc9 encP q0_0) FA68 q0_0 x0_0]) := by
 unfold disk_Disk_Down.f
 refine fn_intro 7 Try.func23 rfl Try.ntmps23 rfl ?_
 refine sr ?_
 refine va rfl rfl (nx ?_)
 refine vm rfl rfl ?_
 refine vn rfl rfl ?_
 refine vq (q_fa rfl rfl Try.underlying64 rfl rfl Try.sizeOf4 rfl) rfl ?_
 refine vq (q_load rfl rfl Try.isAgg4 (.obj 0 rfl rfl)) rfl ?_
 refine va rfl rfl (simL_nil (nrm_then (sim_rtn ?_)))
 exact rtn_fn () rfl rfl rfl (.sel 0 rfl (.sel 0 rfl (.sel 0 rfl (.nil _))))
def disk_Disk_Down.v (x0_0 : List ((List UInt8) × (List UInt8 × Int))) (x0_1 : List UInt8) (x0_2 : Int) (x0_3 : Bool) : Bool := (disk_Disk_Down.f x0_0 x0_1 x0_2 x0_3).getD false
theorem disk_Disk_Down.tot (x0_0 : List ((List UInt8) × (List UInt8 × Int))) (x0_1 : List UInt8) (x0_2 : Int) (x0_3 : Bool) : disk_Disk_Down.f x0_0 x0_1 x0_2 x0_3 = some (disk_Disk_Down.v x0_0 x0_1 x0_2 x0_3) := by
  have h : ∃ r, disk_Disk_Down.f x0_0 x0_1 x0_2 x0_3 = some r := by
    unfold disk_Disk_Down.f
    repeat' (first | exact ⟨_, rfl⟩ | split | simp only [Option.bind_some])
  obtain ⟨r, h⟩ := h
  unfold disk_Disk_Down.v
  rw [h]; rfl

def synodlaw4_DiskTwo.l0 (x0 : List (Ty52)) (x1 : List (Ty52)) : Nat → Int → List ((List UInt8) × (List UInt8 × Int)) → List UInt8 → Int → Bool → List ((List UInt8) × (List UInt8 × Int)) → List UInt8 → Int → Bool → Option ((List ((List UInt8) × (List UInt8 × Int))) × List UInt8 × Int × Bool × (List ((List UInt8) × (List UInt8 × Int))) × List UInt8 × Int × Bool)
  | 0, _, _, _, _, _, _, _, _, _ => none
  | k + 1, z26v, z27v, z28v, z29v, z30v, z31v, z32v, z33v, z34v => if ((decide (z26v < (x0.length : Int))) || (decide (z26v < (x1.length : Int)))) = true then ((if z26v < (x0.length : Int) then (if 0 ≤ z26v ∧ z26v < (x0.length : Int) then ((synodlaw4_told.f k z31v z32v z33v z34v ((x0.getD z26v.toNat dz52).1) ((x0.getD z26v.toNat dz52).2.1) ((x0.getD z26v.toNat dz52).2.2.1) ((x0.getD z26v.toNat dz52).2.2.2.1) ((x0.getD z26v.toNat dz52).2.2.2.2)).bind fun s54v => (some (s54v.2.1, s54v.2.2.1, s54v.2.2.2.1, s54v.2.2.2.2))) else none) else (some (z31v, z32v, z33v, z34v))).bind fun s37v => (if z26v < (x1.length : Int) then (if 0 ≤ z26v ∧ z26v < (x1.length : Int) then ((synodlaw4_told.f k z27v z28v z29v z30v ((x1.getD z26v.toNat dz52).1) ((x1.getD z26v.toNat dz52).2.1) ((x1.getD z26v.toNat dz52).2.2.1) ((x1.getD z26v.toNat dz52).2.2.2.1) ((x1.getD z26v.toNat dz52).2.2.2.2)).bind fun s72v => (synodlaw4_DiskTwo.l0 x0 x1 k (IntKind.i64.wrap (z26v + 1)) s72v.2.1 s72v.2.2.1 s72v.2.2.2.1 s72v.2.2.2.2 s37v.1 s37v.2.1 s37v.2.2.1 s37v.2.2.2)) else none) else (synodlaw4_DiskTwo.l0 x0 x1 k (IntKind.i64.wrap (z26v + 1)) z27v z28v z29v z30v s37v.1 s37v.2.1 s37v.2.2.1 s37v.2.2.2))) else (some (z27v, z28v, z29v, z30v, z31v, z32v, z33v, z34v))
def synodlaw4_DiskTwo.f (k : Nat) (x0 : List (Ty52)) (x1 : List (Ty52)) : Option (Bool) := (synodlaw4_first.f k).bind fun s1v => ((synodlaw4_few.f k x0).bind fun s4v => ((if s4v = true then ((synodlaw4_few.f k x1).bind fun s9v => (some s9v)) else (some false)).bind fun s7v => (if ((!s1v) || (!s7v)) = true then (some s1v) else ((disk_New.f).bind fun s16v => ((disk_New.f).bind fun s19v => ((synodlaw4_DiskTwo.l0 x0 x1 k 0 s19v.1 s19v.2.1 s19v.2.2.1 s19v.2.2.2 s16v.1 s16v.2.1 s16v.2.2.1 s16v.2.2.2).bind fun s22v => ((synodlaw4_made.f k x0).bind fun s79v => ((synodlaw4_made.f k x1).bind fun s82v => ((disk_Disk_Files.f k s22v.2.2.2.2.1 s22v.2.2.2.2.2.1 s22v.2.2.2.2.2.2.1 s22v.2.2.2.2.2.2.2).bind fun s85v => ((disk_Disk_Files.f k s79v.1 s79v.2.1 s79v.2.2.1 s79v.2.2.2).bind fun s88v => ((synodref_SameFiles.f k s85v s88v).bind fun s103v => ((if s103v = true then ((disk_Disk_Down.f s22v.2.2.2.2.1 s22v.2.2.2.2.2.1 s22v.2.2.2.2.2.2.1 s22v.2.2.2.2.2.2.2).bind fun s108v => ((disk_Disk_Down.f s79v.1 s79v.2.1 s79v.2.2.1 s79v.2.2.2).bind fun s111v => (some (s108v == s111v)))) else (some false)).bind fun s106v => ((disk_Disk_Files.f k s22v.1 s22v.2.1 s22v.2.2.1 s22v.2.2.2.1).bind fun s116v => ((disk_Disk_Files.f k s82v.1 s82v.2.1 s82v.2.2.1 s82v.2.2.2).bind fun s119v => ((synodref_SameFiles.f k s116v s119v).bind fun s134v => ((if s134v = true then ((disk_Disk_Down.f s22v.1 s22v.2.1 s22v.2.2.1 s22v.2.2.2.1).bind fun s139v => ((disk_Disk_Down.f s82v.1 s82v.2.1 s82v.2.2.1 s82v.2.2.2).bind fun s142v => (some (s139v == s142v)))) else (some false)).bind fun s137v => ((disk_Disk_Crash.f s22v.2.2.2.2.1 s22v.2.2.2.2.2.1 s22v.2.2.2.2.2.2.1 s22v.2.2.2.2.2.2.2 (3 : Int)).bind fun s147v => ((disk_Disk_Crash.f s79v.1 s79v.2.1 s79v.2.2.1 s79v.2.2.2 (3 : Int)).bind fun s150v => ((if (s106v && s137v) = true then ((disk_Disk_Files.f k s147v.1 s147v.2.1 s147v.2.2.1 s147v.2.2.2).bind fun s155v => ((disk_Disk_Files.f k s150v.1 s150v.2.1 s150v.2.2.1 s150v.2.2.2).bind fun s158v => ((synodref_SameFiles.f k s155v s158v).bind fun s173v => (some s173v)))) else (some false)).bind fun s153v => (some s153v))))))))))))))))))))
theorem synodlaw4_DiskTwo.calls (W : World) (F : HA) (k : Nat) (a0 : Option Addr) (c0 : Nat) (x0 : List (Ty52)) (a1 : Option Addr) (c1 : Nat) (x1 : List (Ty52)) (h0 : RdV F 5 (V52 F) a0 x0) (hc0 : x0.length ≤ c0) (hm0 : c0 ≤ maxLen) (h1 : RdV F 5 (V52 F) a1 x1) (hc1 : x1.length ≤ c1) (hm1 : c1 ≤ maxLen) :
    Fn Try.prog W 5 [.slice a0 x0.length c0, .slice a1 x1.length c1] [] F (synodlaw4_DiskTwo.f k x0 x1) (fun (r : Bool) (y : Unit) => .bool r) (fun r y => []) := by
 unfold synodlaw4_DiskTwo.f
 refine fn_intro 105 Try.func5 rfl Try.ntmps5 rfl ?_
 refine sr ?_
 refine va rfl rfl (nx ?_)
 refine simL_bind (fun s1v hs2v => ?_)
 refine simL_eff (re_call (vs := []) (cap := []) (A := []) (rst := [F]) rfl rfl rfl rfl rfl rfl Try.call9 (.sel 0 rfl (.nil _)) (synodlaw4_first.calls _ _ k  ) hs2v) rfl rfl rfl ?_
 intro y3v
 refine va rfl rfl (nx ?_)
 refine vm rfl rfl ?_
 refine simL_bind (fun s4v hs5v => ?_)
 refine simL_eff (re_call (vs := [.slice a0 x0.length c0]) (cap := []) (A := []) (rst := [F]) rfl rfl rfl rfl rfl rfl Try.call19 (.sel 0 rfl (.nil _)) (synodlaw4_few.calls _ _ k a0 c0 x0 (h0.up (Up.lend 0 rfl) (V52.up (Up.lend 0 rfl))) hc0 hm0) hs5v) rfl rfl rfl ?_
 intro y6v
 refine vm rfl rfl ?_
 refine simL_cut' 3 (S := Bool) (Unit) (fun s y => [(0, .slice a0 x0.length c0), (1, .slice a1 x1.length c1), (5, .bool s1v), (20, .bool s)]) (fun s y => [F]) ?_ ?_
 refine simL_caseb (fun hb12v => ?_) (fun hb13v => ?_)
 rw [hb12v]
 refine simL_valg (q_move rfl rfl) rfl rfl rfl rfl rfl rfl ?_
 refine simL_bind (fun s9v hs10v => ?_)
 refine simL_effg (re_call (vs := [.slice a1 x1.length c1]) (cap := []) (A := []) (rst := [F]) rfl rfl rfl rfl rfl rfl Try.call19 (.sel 0 rfl (.nil _)) (synodlaw4_few.calls _ _ k a1 c1 x1 (h1.up (Up.lend 0 rfl) (V52.up (Up.lend 0 rfl))) hc1 hm1) hs10v) rfl rfl rfl rfl rfl rfl ?_
 intro y11v
 refine vq (q_pick rfl rfl rfl rfl rfl) rfl (simL_nil ?_)
 exact nrm_cut (s := s9v) () ⟨rfl, rfl, rfl, rfl, trivial⟩ (.sel 0 rfl (.nil _))
 rw [hb13v]
 refine simL_skipd rfl rfl rfl rfl rfl rfl ?_
 refine simL_skipd rfl rfl rfl rfl rfl rfl ?_
 refine vq (q_pick rfl rfl rfl rfl rfl) rfl (simL_nil ?_)
 exact nrm_cut (s := false) () ⟨rfl, rfl, rfl, rfl, trivial⟩ (.sel 0 rfl (.nil _))
 intro s7v y8v
 refine va rfl rfl (simL_nil (nrm_then (sim_seq (sr ?_))))
 refine vm rfl rfl ?_
 refine vq (q_not rfl rfl) rfl ?_
 refine vm rfl rfl ?_
 refine simL_valc (b := !s1v) (fun hb180v => RQ.sub (E' := [(6, .bool s7v)]) ⟨rfl, trivial⟩ (q_move rfl rfl)) rfl rfl rfl rfl rfl ?_
 refine simL_valc (b := !s1v) (fun hb179v => RQ.sub (E' := [(24, .bool s7v)]) ⟨lk_cv rfl hb179v, trivial⟩ (q_not rfl rfl)) rfl rfl rfl rfl rfl ?_
 refine vq (q_or rfl rfl rfl) rfl (simL_nil (nrm_then ?_))
 refine sim_condb rfl (fun h14v => ?_) (fun h15v => ?_)
 refine sr ?_
 refine vm rfl rfl ?_
 refine va rfl rfl (simL_nil (nrm_then (sim_rtn ?_)))
 refine rtn_then ?_
 exact rtn_fn () rfl rfl rfl (.sel 0 rfl (.nil _))
 refine sim_skip ?_
 refine nrm_then (sr ?_)
 refine simL_bind (fun s16v hs17v => ?_)
 refine simL_eff (re_call (vs := []) (cap := []) (A := []) (rst := [F]) rfl rfl rfl rfl rfl rfl Try.call10 (.sel 0 rfl (.nil _)) (disk_New.calls _ _  ) hs17v) rfl rfl rfl ?_
 intro y18v
 refine va rfl rfl (nx ?_)
 refine simL_bind (fun s19v hs20v => ?_)
 refine simL_eff (re_call (vs := []) (cap := []) (A := []) (rst := [obj y18v.1 64 [.map (some y18v.2.1), str s16v.2.1, .int .i64 s16v.2.2.1, .bool s16v.2.2.2], mapF (mapO y18v.2.1 enc9 encP y18v.2.2) FA68 y18v.2.2 s16v.1, F]) rfl rfl rfl rfl rfl rfl Try.call10 (.sel 0 rfl (.sel 0 rfl (.sel 0 rfl (.nil _)))) (disk_New.calls _ _  ) hs20v) rfl rfl rfl ?_
 intro y21v
 refine va rfl rfl (simL_nil (nrm_then ?_))
 refine sim_cut (S := (List ((List UInt8) × (List UInt8 × Int))) × List UInt8 × Int × Bool × (List ((List UInt8) × (List UInt8 × Int))) × List UInt8 × Int × Bool) (Nat × Kps × Nat × Kps) (fun s y => [(0, .slice a0 x0.length c0), (1, .slice a1 x1.length c1), (7, .pointer (some ⟨y18v.1, 0, none⟩)), (8, .pointer (some ⟨y21v.1, 0, none⟩))]) (fun s y => [obj y21v.1 64 [.map (some y.1), str s.2.1, .int .i64 s.2.2.1, .bool s.2.2.2.1], obj y18v.1 64 [.map (some y.2.2.1), str s.2.2.2.2.2.1, .int .i64 s.2.2.2.2.2.2.1, .bool s.2.2.2.2.2.2.2], mapF (mapO y.1 enc9 encP y.2.1) FA68 y.2.1 s.1, mapF (mapO y.2.2.1 enc9 encP y.2.2.2) FA68 y.2.2.2 s.2.2.2.2.1, F]) ?_ ?_
 refine sr ?_
 refine va rfl rfl (simL_nil (nrm_then ?_))
 refine sim_block ?_
 refine sim_loop (S := Int × (List ((List UInt8) × (List UInt8 × Int))) × List UInt8 × Int × Bool × (List ((List UInt8) × (List UInt8 × Int))) × List UInt8 × Int × Bool) (Nat × Kps × Nat × Kps) (fun k s => synodlaw4_DiskTwo.l0 x0 x1 k s.1 s.2.1 s.2.2.1 s.2.2.2.1 s.2.2.2.2.1 s.2.2.2.2.2.1 s.2.2.2.2.2.2.1 s.2.2.2.2.2.2.2.1 s.2.2.2.2.2.2.2.2) (fun s y => [(0, .slice a0 x0.length c0), (1, .slice a1 x1.length c1), (7, .pointer (some ⟨y18v.1, 0, none⟩)), (8, .pointer (some ⟨y21v.1, 0, none⟩)), (9, .int .i64 s.1)]) (fun s y => [obj y21v.1 64 [.map (some y.1), str s.2.2.1, .int .i64 s.2.2.2.1, .bool s.2.2.2.2.1], obj y18v.1 64 [.map (some y.2.2.1), str s.2.2.2.2.2.2.1, .int .i64 s.2.2.2.2.2.2.2.1, .bool s.2.2.2.2.2.2.2.2], mapF (mapO y.1 enc9 encP y.2.1) FA68 y.2.1 s.2.1, mapF (mapO y.2.2.1 enc9 encP y.2.2.2) FA68 y.2.2.2 s.2.2.2.2.2.1, F]) (fun _ => by rw [synodlaw4_DiskTwo.l0]) ?_ k (0, s19v.1, s19v.2.1, s19v.2.2.1, s19v.2.2.2, s16v.1, s16v.2.1, s16v.2.2.1, s16v.2.2.2) (y21v.2.1, y21v.2.2, y18v.2.1, y18v.2.2) ⟨rfl, rfl, rfl, rfl, rfl, trivial⟩ (.sel 0 rfl (.sel 1 rfl (.sel 0 rfl (.sel 0 rfl (.sel 0 rfl (.nil _))))))
 intro k s24v y25v
 refine sim_eq (by rw [synodlaw4_DiskTwo.l0]) ?_
 refine sim_seq (sr ?_)
 refine vm rfl rfl ?_
 refine vm rfl rfl ?_
 refine vq (q_len rfl rfl rfl Try.underlying42) rfl ?_
 refine vq (q_lss rfl rfl rfl) rfl ?_
 refine vm rfl rfl ?_
 refine simL_valc (b := decide (s24v.1 < (x0.length : Int))) (fun hb78v => RQ.sub (E' := [(9, .int .i64 s24v.1)]) ⟨rfl, trivial⟩ (q_move rfl rfl)) rfl rfl rfl rfl rfl ?_
 refine simL_valc (b := decide (s24v.1 < (x0.length : Int))) (fun hb77v => RQ.sub (E' := [(1, .slice a1 x1.length c1)]) ⟨rfl, trivial⟩ (q_move rfl rfl)) rfl rfl rfl rfl rfl ?_
 refine simL_valc (b := decide (s24v.1 < (x0.length : Int))) (fun hb76v => RQ.sub (E' := [(36, .slice a1 x1.length c1)]) ⟨lk_cv rfl hb76v, trivial⟩ (q_len rfl rfl rfl Try.underlying42)) rfl rfl rfl rfl rfl ?_
 refine simL_valc (b := decide (s24v.1 < (x0.length : Int))) (fun hb75v => RQ.sub (E' := [(35, .int .i64 s24v.1), (37, .int .i64 (x1.length : Int))]) ⟨lk_cv rfl hb75v, lk_cv rfl hb75v, trivial⟩ (q_lss rfl rfl rfl)) rfl rfl rfl rfl rfl ?_
 refine vq (q_or rfl rfl rfl) rfl (simL_nil (nrm_then ?_))
 refine sim_condb rfl (fun h35v => ?_) (fun h36v => ?_)
 refine sim_skip ?_
 refine nrm_then (sim_seq ?_)
 refine sim_block ?_
 refine sim_cut (S := (List ((List UInt8) × (List UInt8 × Int))) × List UInt8 × Int × Bool) (Nat × Kps) (fun s y => [(0, .slice a0 x0.length c0), (1, .slice a1 x1.length c1), (7, .pointer (some ⟨y18v.1, 0, none⟩)), (8, .pointer (some ⟨y21v.1, 0, none⟩)), (9, .int .i64 s24v.1)]) (fun s y => [obj y18v.1 64 [.map (some y.1), str s.2.1, .int .i64 s.2.2.1, .bool s.2.2.2], obj y21v.1 64 [.map (some y25v.1), str s24v.2.2.1, .int .i64 s24v.2.2.2.1, .bool s24v.2.2.2.2.1], mapF (mapO y.1 enc9 encP y.2) FA68 y.2 s.1, mapF (mapO y25v.1 enc9 encP y25v.2.1) FA68 y25v.2.1 s24v.2.1, F]) ?_ ?_
 refine sr ?_
 refine vm rfl rfl ?_
 refine vm rfl rfl ?_
 refine vq (q_len rfl rfl rfl Try.underlying42) rfl ?_
 refine vq (q_lss rfl rfl rfl) rfl (simL_nil (nrm_then ?_))
 refine sim_cond rfl (fun h39v => ?_) (fun h40v => ?_)
 refine sim_region ?_
 refine vm rfl rfl ?_
 refine vm rfl rfl ?_
 refine vm rfl rfl ?_
 refine simL_ask (fun hi41v => ?_)
 obtain ⟨b42v, b42vo, r45v, ha43v, hV46v, hlr47v, hcell48v⟩ := RdV.pos h0 (Up.refl _) rfl (i := s24v.1.toNat) (by omega) dz52
 obtain ⟨a49v, c50v, rfl, ⟨he51v, hc52v, hm53v⟩⟩ := hV46v
 refine vq (q_idx rfl rfl rfl ha43v Try.underlying42 Try.sizeOf52 hi41v.1 hi41v.2) rfl ?_
 refine vq (q_loads rfl rfl Try.isAgg52 Try.sizeOf52 rfl (fun j v hj => hcell48v 4 rfl j v hj)) rfl ?_
 refine simL_bind (fun s54v hs55v => ?_)
 refine simL_eff (re_call (vs := [.pointer (some ⟨y18v.1, 0, none⟩), .agg #[.int .i64 ((x0.getD s24v.1.toNat dz52).1), .int .i64 ((x0.getD s24v.1.toNat dz52).2.1), str ((x0.getD s24v.1.toNat dz52).2.2.1), str ((x0.getD s24v.1.toNat dz52).2.2.2.1), .slice a49v (((x0.getD s24v.1.toNat dz52).2.2.2.2).length) c50v]]) (cap := []) (A := [obj y18v.1 64 [.map (some y25v.2.2.1), str s24v.2.2.2.2.2.2.1, .int .i64 s24v.2.2.2.2.2.2.2.1, .bool s24v.2.2.2.2.2.2.2.2], mapF (mapO y25v.2.2.1 enc9 encP y25v.2.2.2) FA68 y25v.2.2.2 s24v.2.2.2.2.2.1]) (rst := [obj y21v.1 64 [.map (some y25v.1), str s24v.2.2.1, .int .i64 s24v.2.2.2.1, .bool s24v.2.2.2.2.1], mapF (mapO y25v.1 enc9 encP y25v.2.1) FA68 y25v.2.1 s24v.2.1, F]) rfl rfl rfl rfl rfl rfl Try.call26 (.sel 1 rfl (.sel 2 rfl (.sel 0 rfl (.sel 0 rfl (.sel 0 rfl (.nil _)))))) (synodlaw4_told.calls _ _ k y18v.1 y25v.2.2.1 y25v.2.2.2 s24v.2.2.2.2.2.1 s24v.2.2.2.2.2.2.1 s24v.2.2.2.2.2.2.2.1 s24v.2.2.2.2.2.2.2.2 ((x0.getD s24v.1.toNat dz52).1) ((x0.getD s24v.1.toNat dz52).2.1) ((x0.getD s24v.1.toNat dz52).2.2.1) ((x0.getD s24v.1.toNat dz52).2.2.2.1) a49v c50v ((x0.getD s24v.1.toNat dz52).2.2.2.2) (he51v.lend 2 rfl) hc52v hm53v) hs55v) rfl rfl rfl ?_
 intro y56v
 refine simL_nil ?_
 exact nrm_cut (s := (s54v.2.1, s54v.2.2.1, s54v.2.2.2.1, s54v.2.2.2.2)) (y56v.1, y56v.2) ⟨rfl, rfl, rfl, rfl, rfl, trivial⟩ (.sel 0 rfl (.sel 1 rfl (.sel 0 rfl (.sel 0 rfl (.sel 0 rfl (.nil _))))))
 refine sim_skip ?_
 exact nrm_cut (s := (s24v.2.2.2.2.2.1, s24v.2.2.2.2.2.2.1, s24v.2.2.2.2.2.2.2.1, s24v.2.2.2.2.2.2.2.2)) (y25v.2.2.1, y25v.2.2.2) ⟨rfl, rfl, rfl, rfl, rfl, trivial⟩ (.sel 1 rfl (.sel 0 rfl (.sel 1 rfl (.sel 0 rfl (.sel 0 rfl (.nil _))))))
 intro s37v y38v
 refine sr ?_
 refine vm rfl rfl ?_
 refine vm rfl rfl ?_
 refine vq (q_len rfl rfl rfl Try.underlying42) rfl ?_
 refine vq (q_lss rfl rfl rfl) rfl (simL_nil (nrm_then ?_))
 refine sim_cond rfl (fun h57v => ?_) (fun h58v => ?_)
 refine sim_region ?_
 refine vm rfl rfl ?_
 refine vm rfl rfl ?_
 refine vm rfl rfl ?_
 refine simL_ask (fun hi59v => ?_)
 obtain ⟨b60v, b60vo, r63v, ha61v, hV64v, hlr65v, hcell66v⟩ := RdV.pos h1 (Up.refl _) rfl (i := s24v.1.toNat) (by omega) dz52
 obtain ⟨a67v, c68v, rfl, ⟨he69v, hc70v, hm71v⟩⟩ := hV64v
 refine vq (q_idx rfl rfl rfl ha61v Try.underlying42 Try.sizeOf52 hi59v.1 hi59v.2) rfl ?_
 refine vq (q_loads rfl rfl Try.isAgg52 Try.sizeOf52 rfl (fun j v hj => hcell66v 4 rfl j v hj)) rfl ?_
 refine simL_bind (fun s72v hs73v => ?_)
 refine simL_eff (re_call (vs := [.pointer (some ⟨y21v.1, 0, none⟩), .agg #[.int .i64 ((x1.getD s24v.1.toNat dz52).1), .int .i64 ((x1.getD s24v.1.toNat dz52).2.1), str ((x1.getD s24v.1.toNat dz52).2.2.1), str ((x1.getD s24v.1.toNat dz52).2.2.2.1), .slice a67v (((x1.getD s24v.1.toNat dz52).2.2.2.2).length) c68v]]) (cap := []) (A := [obj y21v.1 64 [.map (some y25v.1), str s24v.2.2.1, .int .i64 s24v.2.2.2.1, .bool s24v.2.2.2.2.1], mapF (mapO y25v.1 enc9 encP y25v.2.1) FA68 y25v.2.1 s24v.2.1]) (rst := [obj y18v.1 64 [.map (some y38v.1), str s37v.2.1, .int .i64 s37v.2.2.1, .bool s37v.2.2.2], mapF (mapO y38v.1 enc9 encP y38v.2) FA68 y38v.2 s37v.1, F]) rfl rfl rfl rfl rfl rfl Try.call26 (.sel 1 rfl (.sel 2 rfl (.sel 0 rfl (.sel 0 rfl (.sel 0 rfl (.nil _)))))) (synodlaw4_told.calls _ _ k y21v.1 y25v.1 y25v.2.1 s24v.2.1 s24v.2.2.1 s24v.2.2.2.1 s24v.2.2.2.2.1 ((x1.getD s24v.1.toNat dz52).1) ((x1.getD s24v.1.toNat dz52).2.1) ((x1.getD s24v.1.toNat dz52).2.2.1) ((x1.getD s24v.1.toNat dz52).2.2.2.1) a67v c68v ((x1.getD s24v.1.toNat dz52).2.2.2.2) (he69v.lend 2 rfl) hc70v hm71v) hs73v) rfl rfl rfl ?_
 intro y74v
 refine simL_nil (nrm_block (nrm_then (sim_region ?_)))
 refine vm rfl rfl ?_
 refine vq (q_add rfl rfl rfl) rfl ?_
 refine va rfl rfl (simL_nil ?_)
 exact nrm_again (s := (IntKind.i64.wrap (s24v.1 + 1), s72v.2.1, s72v.2.2.1, s72v.2.2.2.1, s72v.2.2.2.2, s37v.1, s37v.2.1, s37v.2.2.1, s37v.2.2.2)) (y74v.1, y74v.2, y38v.1, y38v.2) ⟨rfl, rfl, rfl, rfl, rfl, trivial⟩ (.sel 0 rfl (.sel 1 rfl (.sel 0 rfl (.sel 0 rfl (.sel 0 rfl (.nil _))))))
 refine sim_skip ?_
 refine nrm_block (nrm_then (sim_region ?_))
 refine vm rfl rfl ?_
 refine vq (q_add rfl rfl rfl) rfl ?_
 refine va rfl rfl (simL_nil ?_)
 exact nrm_again (s := (IntKind.i64.wrap (s24v.1 + 1), s24v.2.1, s24v.2.2.1, s24v.2.2.2.1, s24v.2.2.2.2.1, s37v.1, s37v.2.1, s37v.2.2.1, s37v.2.2.2)) (y25v.1, y25v.2.1, y38v.1, y38v.2) ⟨rfl, rfl, rfl, rfl, rfl, trivial⟩ (.sel 1 rfl (.sel 0 rfl (.sel 1 rfl (.sel 0 rfl (.sel 0 rfl (.nil _))))))
 refine sim_exi ?_
 refine exi_then ?_
 refine exi_loop ?_
 refine exi_here ?_
 exact nrm_cut (s := (s24v.2.1, s24v.2.2.1, s24v.2.2.2.1, s24v.2.2.2.2.1, s24v.2.2.2.2.2.1, s24v.2.2.2.2.2.2.1, s24v.2.2.2.2.2.2.2.1, s24v.2.2.2.2.2.2.2.2)) (y25v.1, y25v.2.1, y25v.2.2.1, y25v.2.2.2) ⟨rfl, rfl, rfl, rfl, trivial⟩ (.sel 0 rfl (.sel 0 rfl (.sel 0 rfl (.sel 0 rfl (.sel 0 rfl (.nil _))))))
 intro s22v y23v
 refine sr ?_
 refine vm rfl rfl ?_
 refine simL_bind (fun s79v hs80v => ?_)
 refine simL_eff (re_call (vs := [.slice a0 x0.length c0]) (cap := []) (A := []) (rst := [obj y21v.1 64 [.map (some y23v.1), str s22v.2.1, .int .i64 s22v.2.2.1, .bool s22v.2.2.2.1], obj y18v.1 64 [.map (some y23v.2.2.1), str s22v.2.2.2.2.2.1, .int .i64 s22v.2.2.2.2.2.2.1, .bool s22v.2.2.2.2.2.2.2], mapF (mapO y23v.1 enc9 encP y23v.2.1) FA68 y23v.2.1 s22v.1, mapF (mapO y23v.2.2.1 enc9 encP y23v.2.2.2) FA68 y23v.2.2.2 s22v.2.2.2.2.1, F]) rfl rfl rfl rfl rfl rfl Try.call20 (.sel 0 rfl (.sel 0 rfl (.sel 0 rfl (.sel 0 rfl (.sel 0 rfl (.nil _)))))) (synodlaw4_made.calls _ _ k a0 c0 x0 (h0.up (Up.lend 4 rfl) (V52.up (Up.lend 4 rfl))) hc0 hm0) hs80v) rfl rfl rfl ?_
 intro y81v
 refine va rfl rfl (nx ?_)
 refine vm rfl rfl ?_
 refine simL_bind (fun s82v hs83v => ?_)
 refine simL_eff (re_call (vs := [.slice a1 x1.length c1]) (cap := []) (A := []) (rst := [obj y81v.1 64 [.map (some y81v.2.1), str s79v.2.1, .int .i64 s79v.2.2.1, .bool s79v.2.2.2], mapF (mapO y81v.2.1 enc9 encP y81v.2.2) FA68 y81v.2.2 s79v.1, obj y21v.1 64 [.map (some y23v.1), str s22v.2.1, .int .i64 s22v.2.2.1, .bool s22v.2.2.2.1], obj y18v.1 64 [.map (some y23v.2.2.1), str s22v.2.2.2.2.2.1, .int .i64 s22v.2.2.2.2.2.2.1, .bool s22v.2.2.2.2.2.2.2], mapF (mapO y23v.1 enc9 encP y23v.2.1) FA68 y23v.2.1 s22v.1, mapF (mapO y23v.2.2.1 enc9 encP y23v.2.2.2) FA68 y23v.2.2.2 s22v.2.2.2.2.1, F]) rfl rfl rfl rfl rfl rfl Try.call20 (.sel 0 rfl (.sel 0 rfl (.sel 0 rfl (.sel 0 rfl (.sel 0 rfl (.sel 0 rfl (.sel 0 rfl (.nil _)))))))) (synodlaw4_made.calls _ _ k a1 c1 x1 (h1.up (Up.lend 6 rfl) (V52.up (Up.lend 6 rfl))) hc1 hm1) hs83v) rfl rfl rfl ?_
 intro y84v
 refine va rfl rfl (nx ?_)
 refine vm rfl rfl ?_
 refine simL_bind (fun s85v hs86v => ?_)
 refine simL_eff (re_call (vs := [.pointer (some ⟨y18v.1, 0, none⟩)]) (cap := []) (A := [obj y18v.1 64 [.map (some y23v.2.2.1), str s22v.2.2.2.2.2.1, .int .i64 s22v.2.2.2.2.2.2.1, .bool s22v.2.2.2.2.2.2.2], mapF (mapO y23v.2.2.1 enc9 encP y23v.2.2.2) FA68 y23v.2.2.2 s22v.2.2.2.2.1]) (rst := [obj y84v.1 64 [.map (some y84v.2.1), str s82v.2.1, .int .i64 s82v.2.2.1, .bool s82v.2.2.2], mapF (mapO y84v.2.1 enc9 encP y84v.2.2) FA68 y84v.2.2 s82v.1, obj y81v.1 64 [.map (some y81v.2.1), str s79v.2.1, .int .i64 s79v.2.2.1, .bool s79v.2.2.2], mapF (mapO y81v.2.1 enc9 encP y81v.2.2) FA68 y81v.2.2 s79v.1, obj y21v.1 64 [.map (some y23v.1), str s22v.2.1, .int .i64 s22v.2.2.1, .bool s22v.2.2.2.1], mapF (mapO y23v.1 enc9 encP y23v.2.1) FA68 y23v.2.1 s22v.1, F]) rfl rfl rfl rfl rfl rfl Try.call21 (.sel 5 rfl (.sel 6 rfl (.sel 0 rfl (.sel 0 rfl (.sel 0 rfl (.sel 0 rfl (.sel 0 rfl (.sel 0 rfl (.sel 0 rfl (.nil _)))))))))) (disk_Disk_Files.calls _ _ k y18v.1 y23v.2.2.1 y23v.2.2.2 s22v.2.2.2.2.1 s22v.2.2.2.2.2.1 s22v.2.2.2.2.2.2.1 s22v.2.2.2.2.2.2.2 ) hs86v) rfl rfl rfl ?_
 intro y87v
 refine vm rfl rfl ?_
 refine simL_bind (fun s88v hs89v => ?_)
 refine simL_eff (re_call (vs := [.pointer (some ⟨y81v.1, 0, none⟩)]) (cap := []) (A := [obj y81v.1 64 [.map (some y81v.2.1), str s79v.2.1, .int .i64 s79v.2.2.1, .bool s79v.2.2.2], mapF (mapO y81v.2.1 enc9 encP y81v.2.2) FA68 y81v.2.2 s79v.1]) (rst := [RowV 36 3 (V36 (y87v.2.2)) y87v.1 s85v y87v.2.1, y87v.2.2, obj y18v.1 64 [.map (some y23v.2.2.1), str s22v.2.2.2.2.2.1, .int .i64 s22v.2.2.2.2.2.2.1, .bool s22v.2.2.2.2.2.2.2], mapF (mapO y23v.2.2.1 enc9 encP y23v.2.2.2) FA68 y23v.2.2.2 s22v.2.2.2.2.1, obj y84v.1 64 [.map (some y84v.2.1), str s82v.2.1, .int .i64 s82v.2.2.1, .bool s82v.2.2.2], mapF (mapO y84v.2.1 enc9 encP y84v.2.2) FA68 y84v.2.2 s82v.1, obj y21v.1 64 [.map (some y23v.1), str s22v.2.1, .int .i64 s22v.2.2.1, .bool s22v.2.2.2.1], mapF (mapO y23v.1 enc9 encP y23v.2.1) FA68 y23v.2.1 s22v.1, F]) rfl rfl rfl rfl rfl rfl Try.call21 (.sel 6 rfl (.sel 6 rfl (.sel 0 rfl (.sel 0 rfl (.sel 0 rfl (.sel 0 rfl (.sel 0 rfl (.sel 0 rfl (.sel 0 rfl (.sel 0 rfl (.sel 0 rfl (.nil _)))))))))))) (disk_Disk_Files.calls _ _ k y81v.1 y81v.2.1 y81v.2.2 s79v.1 s79v.2.1 s79v.2.2.1 s79v.2.2.2 ) hs89v) rfl rfl rfl ?_
 intro y90v
 refine simL_openV 0 rfl (fun rs91v hl92v => ?_)
 refine simL_openV 4 rfl (fun rs93v hl94v => ?_)
 refine simL_bind (fun s103v hs104v => ?_)
 refine simL_lend 4 rfl (fun hq95v hq96v hq97v hq98v => ?_)
 refine simL_lend 0 rfl (fun hq99v hq100v hq101v hq102v => ?_)
 refine simL_eff (re_call (vs := [.slice y87v.1 s85v.length y87v.2.1, .slice y90v.1 s88v.length y90v.2.1]) (cap := []) (A := []) (rst := [Row 36 3 y90v.1 s88v.length y90v.2.1 rs91v.flatten, y90v.2.2, obj y81v.1 64 [.map (some y81v.2.1), str s79v.2.1, .int .i64 s79v.2.2.1, .bool s79v.2.2.2], mapF (mapO y81v.2.1 enc9 encP y81v.2.2) FA68 y81v.2.2 s79v.1, Row 36 3 y87v.1 s85v.length y87v.2.1 rs93v.flatten, y87v.2.2, obj y18v.1 64 [.map (some y23v.2.2.1), str s22v.2.2.2.2.2.1, .int .i64 s22v.2.2.2.2.2.2.1, .bool s22v.2.2.2.2.2.2.2], mapF (mapO y23v.2.2.1 enc9 encP y23v.2.2.2) FA68 y23v.2.2.2 s22v.2.2.2.2.1, obj y84v.1 64 [.map (some y84v.2.1), str s82v.2.1, .int .i64 s82v.2.2.1, .bool s82v.2.2.2], mapF (mapO y84v.2.1 enc9 encP y84v.2.2) FA68 y84v.2.2 s82v.1, obj y21v.1 64 [.map (some y23v.1), str s22v.2.1, .int .i64 s22v.2.2.1, .bool s22v.2.2.2.1], mapF (mapO y23v.1 enc9 encP y23v.2.1) FA68 y23v.2.1 s22v.1, F]) rfl rfl rfl rfl rfl rfl Try.call25 (.sel 0 rfl (.sel 0 rfl (.sel 0 rfl (.sel 0 rfl (.sel 0 rfl (.sel 0 rfl (.sel 0 rfl (.sel 0 rfl (.sel 0 rfl (.sel 0 rfl (.sel 0 rfl (.sel 0 rfl (.sel 0 rfl (.nil _)))))))))))))) (synodref_SameFiles.calls _ _ k y87v.1 y87v.2.1 s85v y90v.1 y90v.2.1 s88v ((Rd.asV hl94v hq95v).up (Up.lend 4 rfl) (V36.up (Up.lend 5 rfl))) hq96v hq97v ((Rd.asV hl92v hq99v).up (Up.lend 0 rfl) (V36.up (Up.lend 1 rfl))) hq100v hq101v) hs104v) rfl rfl rfl ?_
 intro y105v
 refine vm rfl rfl ?_
 refine simL_cut' 6 (S := Bool) (Unit) (fun s y => [(7, .pointer (some ⟨y18v.1, 0, none⟩)), (8, .pointer (some ⟨y21v.1, 0, none⟩)), (10, .pointer (some ⟨y81v.1, 0, none⟩)), (11, .pointer (some ⟨y84v.1, 0, none⟩)), (77, .bool s)]) (fun s y => [obj y81v.1 64 [.map (some y81v.2.1), str s79v.2.1, .int .i64 s79v.2.2.1, .bool s79v.2.2.2], obj y18v.1 64 [.map (some y23v.2.2.1), str s22v.2.2.2.2.2.1, .int .i64 s22v.2.2.2.2.2.2.1, .bool s22v.2.2.2.2.2.2.2], obj y84v.1 64 [.map (some y84v.2.1), str s82v.2.1, .int .i64 s82v.2.2.1, .bool s82v.2.2.2], obj y21v.1 64 [.map (some y23v.1), str s22v.2.1, .int .i64 s22v.2.2.1, .bool s22v.2.2.2.1], mapF (mapO y81v.2.1 enc9 encP y81v.2.2) FA68 y81v.2.2 s79v.1, mapF (mapO y23v.2.2.1 enc9 encP y23v.2.2.2) FA68 y23v.2.2.2 s22v.2.2.2.2.1, mapF (mapO y84v.2.1 enc9 encP y84v.2.2) FA68 y84v.2.2 s82v.1, mapF (mapO y23v.1 enc9 encP y23v.2.1) FA68 y23v.2.1 s22v.1, F]) ?_ ?_
 refine simL_caseb (fun hb114v => ?_) (fun hb115v => ?_)
 rw [hb114v]
 refine simL_valg (q_move rfl rfl) rfl rfl rfl rfl rfl rfl ?_
 refine simL_bind (fun s108v hs109v => ?_)
 refine simL_effg (re_call (vs := [.pointer (some ⟨y18v.1, 0, none⟩)]) (cap := []) (A := [obj y18v.1 64 [.map (some y23v.2.2.1), str s22v.2.2.2.2.2.1, .int .i64 s22v.2.2.2.2.2.2.1, .bool s22v.2.2.2.2.2.2.2], mapF (mapO y23v.2.2.1 enc9 encP y23v.2.2.2) FA68 y23v.2.2.2 s22v.2.2.2.2.1]) (rst := [Row 36 3 y90v.1 s88v.length y90v.2.1 rs91v.flatten, y90v.2.2, obj y81v.1 64 [.map (some y81v.2.1), str s79v.2.1, .int .i64 s79v.2.2.1, .bool s79v.2.2.2], mapF (mapO y81v.2.1 enc9 encP y81v.2.2) FA68 y81v.2.2 s79v.1, Row 36 3 y87v.1 s85v.length y87v.2.1 rs93v.flatten, y87v.2.2, obj y84v.1 64 [.map (some y84v.2.1), str s82v.2.1, .int .i64 s82v.2.2.1, .bool s82v.2.2.2], mapF (mapO y84v.2.1 enc9 encP y84v.2.2) FA68 y84v.2.2 s82v.1, obj y21v.1 64 [.map (some y23v.1), str s22v.2.1, .int .i64 s22v.2.2.1, .bool s22v.2.2.2.1], mapF (mapO y23v.1 enc9 encP y23v.2.1) FA68 y23v.2.1 s22v.1, F]) rfl rfl rfl rfl rfl rfl Try.call23 (.sel 6 rfl (.sel 6 rfl (.sel 0 rfl (.sel 0 rfl (.sel 0 rfl (.sel 0 rfl (.sel 0 rfl (.sel 0 rfl (.sel 0 rfl (.sel 0 rfl (.sel 0 rfl (.sel 0 rfl (.sel 0 rfl (.nil _)))))))))))))) (disk_Disk_Down.calls _ _ y18v.1 y23v.2.2.1 y23v.2.2.2 s22v.2.2.2.2.1 s22v.2.2.2.2.2.1 s22v.2.2.2.2.2.2.1 s22v.2.2.2.2.2.2.2 ) hs109v) rfl rfl rfl rfl rfl rfl ?_
 intro y110v
 refine simL_valg (q_move rfl rfl) rfl rfl rfl rfl rfl rfl ?_
 refine simL_bind (fun s111v hs112v => ?_)
 refine simL_effg (re_call (vs := [.pointer (some ⟨y81v.1, 0, none⟩)]) (cap := []) (A := [obj y81v.1 64 [.map (some y81v.2.1), str s79v.2.1, .int .i64 s79v.2.2.1, .bool s79v.2.2.2], mapF (mapO y81v.2.1 enc9 encP y81v.2.2) FA68 y81v.2.2 s79v.1]) (rst := [obj y18v.1 64 [.map (some y23v.2.2.1), str s22v.2.2.2.2.2.1, .int .i64 s22v.2.2.2.2.2.2.1, .bool s22v.2.2.2.2.2.2.2], mapF (mapO y23v.2.2.1 enc9 encP y23v.2.2.2) FA68 y23v.2.2.2 s22v.2.2.2.2.1, Row 36 3 y90v.1 s88v.length y90v.2.1 rs91v.flatten, y90v.2.2, Row 36 3 y87v.1 s85v.length y87v.2.1 rs93v.flatten, y87v.2.2, obj y84v.1 64 [.map (some y84v.2.1), str s82v.2.1, .int .i64 s82v.2.2.1, .bool s82v.2.2.2], mapF (mapO y84v.2.1 enc9 encP y84v.2.2) FA68 y84v.2.2 s82v.1, obj y21v.1 64 [.map (some y23v.1), str s22v.2.1, .int .i64 s22v.2.2.1, .bool s22v.2.2.2.1], mapF (mapO y23v.1 enc9 encP y23v.2.1) FA68 y23v.2.1 s22v.1, F]) rfl rfl rfl rfl rfl rfl Try.call23 (.sel 4 rfl (.sel 4 rfl (.sel 0 rfl (.sel 0 rfl (.sel 0 rfl (.sel 0 rfl (.sel 0 rfl (.sel 0 rfl (.sel 0 rfl (.sel 0 rfl (.sel 0 rfl (.sel 0 rfl (.sel 0 rfl (.nil _)))))))))))))) (disk_Disk_Down.calls _ _ y81v.1 y81v.2.1 y81v.2.2 s79v.1 s79v.2.1 s79v.2.2.1 s79v.2.2.2 ) hs112v) rfl rfl rfl rfl rfl rfl ?_
 intro y113v
 refine simL_valg (q_eqb rfl rfl rfl Try.underlying4) rfl rfl rfl rfl rfl rfl ?_
 refine vq (q_pick rfl rfl rfl rfl rfl) rfl (simL_nil ?_)
 exact nrm_cut (s := s108v == s111v) () ⟨rfl, rfl, rfl, rfl, rfl, trivial⟩ (.sel 0 rfl (.sel 1 rfl (.sel 6 rfl (.sel 7 rfl (.sel 0 rfl (.sel 0 rfl (.sel 4 rfl (.sel 4 rfl (.sel 4 rfl (.nil _))))))))))
 rw [hb115v]
 refine simL_skipd rfl rfl rfl rfl rfl rfl ?_
 refine simL_skipd rfl rfl rfl rfl rfl rfl ?_
 refine simL_skipd rfl rfl rfl rfl rfl rfl ?_
 refine simL_skipd rfl rfl rfl rfl rfl rfl ?_
 refine simL_skipd rfl rfl rfl rfl rfl rfl ?_
 refine vq (q_pick rfl rfl rfl rfl rfl) rfl (simL_nil ?_)
 exact nrm_cut (s := false) () ⟨rfl, rfl, rfl, rfl, rfl, trivial⟩ (.sel 2 rfl (.sel 5 rfl (.sel 6 rfl (.sel 7 rfl (.sel 2 rfl (.sel 4 rfl (.sel 4 rfl (.sel 4 rfl (.sel 4 rfl (.nil _))))))))))
 intro s106v y107v
 refine va rfl rfl (nx ?_)
 refine vm rfl rfl ?_
 refine simL_bind (fun s116v hs117v => ?_)
 refine simL_eff (re_call (vs := [.pointer (some ⟨y21v.1, 0, none⟩)]) (cap := []) (A := [obj y21v.1 64 [.map (some y23v.1), str s22v.2.1, .int .i64 s22v.2.2.1, .bool s22v.2.2.2.1], mapF (mapO y23v.1 enc9 encP y23v.2.1) FA68 y23v.2.1 s22v.1]) (rst := [obj y81v.1 64 [.map (some y81v.2.1), str s79v.2.1, .int .i64 s79v.2.2.1, .bool s79v.2.2.2], obj y18v.1 64 [.map (some y23v.2.2.1), str s22v.2.2.2.2.2.1, .int .i64 s22v.2.2.2.2.2.2.1, .bool s22v.2.2.2.2.2.2.2], obj y84v.1 64 [.map (some y84v.2.1), str s82v.2.1, .int .i64 s82v.2.2.1, .bool s82v.2.2.2], mapF (mapO y81v.2.1 enc9 encP y81v.2.2) FA68 y81v.2.2 s79v.1, mapF (mapO y23v.2.2.1 enc9 encP y23v.2.2.2) FA68 y23v.2.2.2 s22v.2.2.2.2.1, mapF (mapO y84v.2.1 enc9 encP y84v.2.2) FA68 y84v.2.2 s82v.1, F]) rfl rfl rfl rfl rfl rfl Try.call21 (.sel 3 rfl (.sel 6 rfl (.sel 0 rfl (.sel 0 rfl (.sel 0 rfl (.sel 0 rfl (.sel 0 rfl (.sel 0 rfl (.sel 0 rfl (.nil _)))))))))) (disk_Disk_Files.calls _ _ k y21v.1 y23v.1 y23v.2.1 s22v.1 s22v.2.1 s22v.2.2.1 s22v.2.2.2.1 ) hs117v) rfl rfl rfl ?_
 intro y118v
 refine vm rfl rfl ?_
 refine simL_bind (fun s119v hs120v => ?_)
 refine simL_eff (re_call (vs := [.pointer (some ⟨y84v.1, 0, none⟩)]) (cap := []) (A := [obj y84v.1 64 [.map (some y84v.2.1), str s82v.2.1, .int .i64 s82v.2.2.1, .bool s82v.2.2.2], mapF (mapO y84v.2.1 enc9 encP y84v.2.2) FA68 y84v.2.2 s82v.1]) (rst := [RowV 36 3 (V36 (y118v.2.2)) y118v.1 s116v y118v.2.1, y118v.2.2, obj y21v.1 64 [.map (some y23v.1), str s22v.2.1, .int .i64 s22v.2.2.1, .bool s22v.2.2.2.1], mapF (mapO y23v.1 enc9 encP y23v.2.1) FA68 y23v.2.1 s22v.1, obj y81v.1 64 [.map (some y81v.2.1), str s79v.2.1, .int .i64 s79v.2.2.1, .bool s79v.2.2.2], obj y18v.1 64 [.map (some y23v.2.2.1), str s22v.2.2.2.2.2.1, .int .i64 s22v.2.2.2.2.2.2.1, .bool s22v.2.2.2.2.2.2.2], mapF (mapO y81v.2.1 enc9 encP y81v.2.2) FA68 y81v.2.2 s79v.1, mapF (mapO y23v.2.2.1 enc9 encP y23v.2.2.2) FA68 y23v.2.2.2 s22v.2.2.2.2.1, F]) rfl rfl rfl rfl rfl rfl Try.call21 (.sel 6 rfl (.sel 8 rfl (.sel 0 rfl (.sel 0 rfl (.sel 0 rfl (.sel 0 rfl (.sel 0 rfl (.sel 0 rfl (.sel 0 rfl (.sel 0 rfl (.sel 0 rfl (.nil _)))))))))))) (disk_Disk_Files.calls _ _ k y84v.1 y84v.2.1 y84v.2.2 s82v.1 s82v.2.1 s82v.2.2.1 s82v.2.2.2 ) hs120v) rfl rfl rfl ?_
 intro y121v
 refine simL_openV 0 rfl (fun rs122v hl123v => ?_)
 refine simL_openV 4 rfl (fun rs124v hl125v => ?_)
 refine simL_bind (fun s134v hs135v => ?_)
 refine simL_lend 4 rfl (fun hq126v hq127v hq128v hq129v => ?_)
 refine simL_lend 0 rfl (fun hq130v hq131v hq132v hq133v => ?_)
 refine simL_eff (re_call (vs := [.slice y118v.1 s116v.length y118v.2.1, .slice y121v.1 s119v.length y121v.2.1]) (cap := []) (A := []) (rst := [Row 36 3 y121v.1 s119v.length y121v.2.1 rs122v.flatten, y121v.2.2, obj y84v.1 64 [.map (some y84v.2.1), str s82v.2.1, .int .i64 s82v.2.2.1, .bool s82v.2.2.2], mapF (mapO y84v.2.1 enc9 encP y84v.2.2) FA68 y84v.2.2 s82v.1, Row 36 3 y118v.1 s116v.length y118v.2.1 rs124v.flatten, y118v.2.2, obj y21v.1 64 [.map (some y23v.1), str s22v.2.1, .int .i64 s22v.2.2.1, .bool s22v.2.2.2.1], mapF (mapO y23v.1 enc9 encP y23v.2.1) FA68 y23v.2.1 s22v.1, obj y81v.1 64 [.map (some y81v.2.1), str s79v.2.1, .int .i64 s79v.2.2.1, .bool s79v.2.2.2], obj y18v.1 64 [.map (some y23v.2.2.1), str s22v.2.2.2.2.2.1, .int .i64 s22v.2.2.2.2.2.2.1, .bool s22v.2.2.2.2.2.2.2], mapF (mapO y81v.2.1 enc9 encP y81v.2.2) FA68 y81v.2.2 s79v.1, mapF (mapO y23v.2.2.1 enc9 encP y23v.2.2.2) FA68 y23v.2.2.2 s22v.2.2.2.2.1, F]) rfl rfl rfl rfl rfl rfl Try.call25 (.sel 0 rfl (.sel 0 rfl (.sel 0 rfl (.sel 0 rfl (.sel 0 rfl (.sel 0 rfl (.sel 0 rfl (.sel 0 rfl (.sel 0 rfl (.sel 0 rfl (.sel 0 rfl (.sel 0 rfl (.sel 0 rfl (.nil _)))))))))))))) (synodref_SameFiles.calls _ _ k y118v.1 y118v.2.1 s116v y121v.1 y121v.2.1 s119v ((Rd.asV hl125v hq126v).up (Up.lend 4 rfl) (V36.up (Up.lend 5 rfl))) hq127v hq128v ((Rd.asV hl123v hq130v).up (Up.lend 0 rfl) (V36.up (Up.lend 1 rfl))) hq131v hq132v) hs135v) rfl rfl rfl ?_
 intro y136v
 refine vm rfl rfl ?_
 refine simL_cut' 6 (S := Bool) (Unit) (fun s y => [(7, .pointer (some ⟨y18v.1, 0, none⟩)), (10, .pointer (some ⟨y81v.1, 0, none⟩)), (12, .bool s106v), (89, .bool s)]) (fun s y => [obj y81v.1 64 [.map (some y81v.2.1), str s79v.2.1, .int .i64 s79v.2.2.1, .bool s79v.2.2.2], obj y18v.1 64 [.map (some y23v.2.2.1), str s22v.2.2.2.2.2.1, .int .i64 s22v.2.2.2.2.2.2.1, .bool s22v.2.2.2.2.2.2.2], mapF (mapO y81v.2.1 enc9 encP y81v.2.2) FA68 y81v.2.2 s79v.1, mapF (mapO y23v.2.2.1 enc9 encP y23v.2.2.2) FA68 y23v.2.2.2 s22v.2.2.2.2.1, F]) ?_ ?_
 refine simL_caseb (fun hb145v => ?_) (fun hb146v => ?_)
 rw [hb145v]
 refine simL_valg (q_move rfl rfl) rfl rfl rfl rfl rfl rfl ?_
 refine simL_bind (fun s139v hs140v => ?_)
 refine simL_effg (re_call (vs := [.pointer (some ⟨y21v.1, 0, none⟩)]) (cap := []) (A := [obj y21v.1 64 [.map (some y23v.1), str s22v.2.1, .int .i64 s22v.2.2.1, .bool s22v.2.2.2.1], mapF (mapO y23v.1 enc9 encP y23v.2.1) FA68 y23v.2.1 s22v.1]) (rst := [Row 36 3 y121v.1 s119v.length y121v.2.1 rs122v.flatten, y121v.2.2, obj y84v.1 64 [.map (some y84v.2.1), str s82v.2.1, .int .i64 s82v.2.2.1, .bool s82v.2.2.2], mapF (mapO y84v.2.1 enc9 encP y84v.2.2) FA68 y84v.2.2 s82v.1, Row 36 3 y118v.1 s116v.length y118v.2.1 rs124v.flatten, y118v.2.2, obj y81v.1 64 [.map (some y81v.2.1), str s79v.2.1, .int .i64 s79v.2.2.1, .bool s79v.2.2.2], obj y18v.1 64 [.map (some y23v.2.2.1), str s22v.2.2.2.2.2.1, .int .i64 s22v.2.2.2.2.2.2.1, .bool s22v.2.2.2.2.2.2.2], mapF (mapO y81v.2.1 enc9 encP y81v.2.2) FA68 y81v.2.2 s79v.1, mapF (mapO y23v.2.2.1 enc9 encP y23v.2.2.2) FA68 y23v.2.2.2 s22v.2.2.2.2.1, F]) rfl rfl rfl rfl rfl rfl Try.call23 (.sel 6 rfl (.sel 6 rfl (.sel 0 rfl (.sel 0 rfl (.sel 0 rfl (.sel 0 rfl (.sel 0 rfl (.sel 0 rfl (.sel 0 rfl (.sel 0 rfl (.sel 0 rfl (.sel 0 rfl (.sel 0 rfl (.nil _)))))))))))))) (disk_Disk_Down.calls _ _ y21v.1 y23v.1 y23v.2.1 s22v.1 s22v.2.1 s22v.2.2.1 s22v.2.2.2.1 ) hs140v) rfl rfl rfl rfl rfl rfl ?_
 intro y141v
 refine simL_valg (q_move rfl rfl) rfl rfl rfl rfl rfl rfl ?_
 refine simL_bind (fun s142v hs143v => ?_)
 refine simL_effg (re_call (vs := [.pointer (some ⟨y84v.1, 0, none⟩)]) (cap := []) (A := [obj y84v.1 64 [.map (some y84v.2.1), str s82v.2.1, .int .i64 s82v.2.2.1, .bool s82v.2.2.2], mapF (mapO y84v.2.1 enc9 encP y84v.2.2) FA68 y84v.2.2 s82v.1]) (rst := [obj y21v.1 64 [.map (some y23v.1), str s22v.2.1, .int .i64 s22v.2.2.1, .bool s22v.2.2.2.1], mapF (mapO y23v.1 enc9 encP y23v.2.1) FA68 y23v.2.1 s22v.1, Row 36 3 y121v.1 s119v.length y121v.2.1 rs122v.flatten, y121v.2.2, Row 36 3 y118v.1 s116v.length y118v.2.1 rs124v.flatten, y118v.2.2, obj y81v.1 64 [.map (some y81v.2.1), str s79v.2.1, .int .i64 s79v.2.2.1, .bool s79v.2.2.2], obj y18v.1 64 [.map (some y23v.2.2.1), str s22v.2.2.2.2.2.1, .int .i64 s22v.2.2.2.2.2.2.1, .bool s22v.2.2.2.2.2.2.2], mapF (mapO y81v.2.1 enc9 encP y81v.2.2) FA68 y81v.2.2 s79v.1, mapF (mapO y23v.2.2.1 enc9 encP y23v.2.2.2) FA68 y23v.2.2.2 s22v.2.2.2.2.1, F]) rfl rfl rfl rfl rfl rfl Try.call23 (.sel 4 rfl (.sel 4 rfl (.sel 0 rfl (.sel 0 rfl (.sel 0 rfl (.sel 0 rfl (.sel 0 rfl (.sel 0 rfl (.sel 0 rfl (.sel 0 rfl (.sel 0 rfl (.sel 0 rfl (.sel 0 rfl (.nil _)))))))))))))) (disk_Disk_Down.calls _ _ y84v.1 y84v.2.1 y84v.2.2 s82v.1 s82v.2.1 s82v.2.2.1 s82v.2.2.2 ) hs143v) rfl rfl rfl rfl rfl rfl ?_
 intro y144v
 refine simL_valg (q_eqb rfl rfl rfl Try.underlying4) rfl rfl rfl rfl rfl rfl ?_
 refine vq (q_pick rfl rfl rfl rfl rfl) rfl (simL_nil ?_)
 exact nrm_cut (s := s139v == s142v) () ⟨rfl, rfl, rfl, rfl, trivial⟩ (.sel 8 rfl (.sel 8 rfl (.sel 8 rfl (.sel 8 rfl (.sel 8 rfl (.nil _))))))
 rw [hb146v]
 refine simL_skipd rfl rfl rfl rfl rfl rfl ?_
 refine simL_skipd rfl rfl rfl rfl rfl rfl ?_
 refine simL_skipd rfl rfl rfl rfl rfl rfl ?_
 refine simL_skipd rfl rfl rfl rfl rfl rfl ?_
 refine simL_skipd rfl rfl rfl rfl rfl rfl ?_
 refine vq (q_pick rfl rfl rfl rfl rfl) rfl (simL_nil ?_)
 exact nrm_cut (s := false) () ⟨rfl, rfl, rfl, rfl, trivial⟩ (.sel 8 rfl (.sel 8 rfl (.sel 8 rfl (.sel 8 rfl (.sel 8 rfl (.nil _))))))
 intro s137v y138v
 refine va rfl rfl (nx ?_)
 refine vm rfl rfl ?_
 refine simL_bind (fun s147v hs148v => ?_)
 refine simL_eff (re_call (vs := [.pointer (some ⟨y18v.1, 0, none⟩), .int .i64 3]) (cap := []) (A := [obj y18v.1 64 [.map (some y23v.2.2.1), str s22v.2.2.2.2.2.1, .int .i64 s22v.2.2.2.2.2.2.1, .bool s22v.2.2.2.2.2.2.2], mapF (mapO y23v.2.2.1 enc9 encP y23v.2.2.2) FA68 y23v.2.2.2 s22v.2.2.2.2.1]) (rst := [obj y81v.1 64 [.map (some y81v.2.1), str s79v.2.1, .int .i64 s79v.2.2.1, .bool s79v.2.2.2], mapF (mapO y81v.2.1 enc9 encP y81v.2.2) FA68 y81v.2.2 s79v.1, F]) rfl rfl rfl rfl rfl rfl Try.call22 (.sel 1 rfl (.sel 2 rfl (.sel 0 rfl (.sel 0 rfl (.sel 0 rfl (.nil _)))))) (disk_Disk_Crash.calls _ _ y18v.1 y23v.2.2.1 y23v.2.2.2 s22v.2.2.2.2.1 s22v.2.2.2.2.2.1 s22v.2.2.2.2.2.2.1 s22v.2.2.2.2.2.2.2 (3 : Int) ) hs148v) rfl rfl rfl ?_
 intro y149v
 refine nx ?_
 refine vm rfl rfl ?_
 refine simL_bind (fun s150v hs151v => ?_)
 refine simL_eff (re_call (vs := [.pointer (some ⟨y81v.1, 0, none⟩), .int .i64 3]) (cap := []) (A := [obj y81v.1 64 [.map (some y81v.2.1), str s79v.2.1, .int .i64 s79v.2.2.1, .bool s79v.2.2.2], mapF (mapO y81v.2.1 enc9 encP y81v.2.2) FA68 y81v.2.2 s79v.1]) (rst := [obj y18v.1 64 [.map (some y149v.1), str s147v.2.1, .int .i64 s147v.2.2.1, .bool s147v.2.2.2], mapF (mapO y149v.1 enc9 encP y149v.2) FA68 y149v.2 s147v.1, F]) rfl rfl rfl rfl rfl rfl Try.call22 (.sel 2 rfl (.sel 2 rfl (.sel 0 rfl (.sel 0 rfl (.sel 0 rfl (.nil _)))))) (disk_Disk_Crash.calls _ _ y81v.1 y81v.2.1 y81v.2.2 s79v.1 s79v.2.1 s79v.2.2.1 s79v.2.2.2 (3 : Int) ) hs151v) rfl rfl rfl ?_
 intro y152v
 refine nx ?_
 refine vm rfl rfl ?_
 refine vm rfl rfl ?_
 refine simL_valc (b := s106v) (fun hb178v => RQ.sub (E' := [(13, .bool s137v)]) ⟨rfl, trivial⟩ (q_move rfl rfl)) rfl rfl rfl rfl rfl ?_
 refine vq (q_and rfl rfl rfl) rfl ?_
 refine vm rfl rfl ?_
 refine simL_cut' 6 (S := Bool) (Unit) (fun s y => [(104, .bool s)]) (fun s y => [F]) ?_ ?_
 refine simL_caseb (fun hb176v => ?_) (fun hb177v => ?_)
 rw [hb176v]
 refine simL_valg (q_move rfl rfl) rfl rfl rfl rfl rfl rfl ?_
 refine simL_bind (fun s155v hs156v => ?_)
 refine simL_effg (re_call (vs := [.pointer (some ⟨y18v.1, 0, none⟩)]) (cap := []) (A := [obj y18v.1 64 [.map (some y149v.1), str s147v.2.1, .int .i64 s147v.2.2.1, .bool s147v.2.2.2], mapF (mapO y149v.1 enc9 encP y149v.2) FA68 y149v.2 s147v.1]) (rst := [obj y81v.1 64 [.map (some y152v.1), str s150v.2.1, .int .i64 s150v.2.2.1, .bool s150v.2.2.2], mapF (mapO y152v.1 enc9 encP y152v.2) FA68 y152v.2 s150v.1, F]) rfl rfl rfl rfl rfl rfl Try.call21 (.sel 2 rfl (.sel 2 rfl (.sel 0 rfl (.sel 0 rfl (.sel 0 rfl (.nil _)))))) (disk_Disk_Files.calls _ _ k y18v.1 y149v.1 y149v.2 s147v.1 s147v.2.1 s147v.2.2.1 s147v.2.2.2 ) hs156v) rfl rfl rfl rfl rfl rfl ?_
 intro y157v
 refine simL_valg (q_move rfl rfl) rfl rfl rfl rfl rfl rfl ?_
 refine simL_bind (fun s158v hs159v => ?_)
 refine simL_effg (re_call (vs := [.pointer (some ⟨y81v.1, 0, none⟩)]) (cap := []) (A := [obj y81v.1 64 [.map (some y152v.1), str s150v.2.1, .int .i64 s150v.2.2.1, .bool s150v.2.2.2], mapF (mapO y152v.1 enc9 encP y152v.2) FA68 y152v.2 s150v.1]) (rst := [RowV 36 3 (V36 (y157v.2.2)) y157v.1 s155v y157v.2.1, y157v.2.2, obj y18v.1 64 [.map (some y149v.1), str s147v.2.1, .int .i64 s147v.2.2.1, .bool s147v.2.2.2], mapF (mapO y149v.1 enc9 encP y149v.2) FA68 y149v.2 s147v.1, F]) rfl rfl rfl rfl rfl rfl Try.call21 (.sel 4 rfl (.sel 4 rfl (.sel 0 rfl (.sel 0 rfl (.sel 0 rfl (.sel 0 rfl (.sel 0 rfl (.nil _)))))))) (disk_Disk_Files.calls _ _ k y81v.1 y152v.1 y152v.2 s150v.1 s150v.2.1 s150v.2.2.1 s150v.2.2.2 ) hs159v) rfl rfl rfl rfl rfl rfl ?_
 intro y160v
 refine simL_openV 0 rfl (fun rs161v hl162v => ?_)
 refine simL_openV 4 rfl (fun rs163v hl164v => ?_)
 refine simL_bind (fun s173v hs174v => ?_)
 refine simL_lend 4 rfl (fun hq165v hq166v hq167v hq168v => ?_)
 refine simL_lend 0 rfl (fun hq169v hq170v hq171v hq172v => ?_)
 refine simL_effg (re_call (vs := [.slice y157v.1 s155v.length y157v.2.1, .slice y160v.1 s158v.length y160v.2.1]) (cap := []) (A := []) (rst := [Row 36 3 y160v.1 s158v.length y160v.2.1 rs161v.flatten, y160v.2.2, obj y81v.1 64 [.map (some y152v.1), str s150v.2.1, .int .i64 s150v.2.2.1, .bool s150v.2.2.2], mapF (mapO y152v.1 enc9 encP y152v.2) FA68 y152v.2 s150v.1, Row 36 3 y157v.1 s155v.length y157v.2.1 rs163v.flatten, y157v.2.2, obj y18v.1 64 [.map (some y149v.1), str s147v.2.1, .int .i64 s147v.2.2.1, .bool s147v.2.2.2], mapF (mapO y149v.1 enc9 encP y149v.2) FA68 y149v.2 s147v.1, F]) rfl rfl rfl rfl rfl rfl Try.call25 (.sel 0 rfl (.sel 0 rfl (.sel 0 rfl (.sel 0 rfl (.sel 0 rfl (.sel 0 rfl (.sel 0 rfl (.sel 0 rfl (.sel 0 rfl (.nil _)))))))))) (synodref_SameFiles.calls _ _ k y157v.1 y157v.2.1 s155v y160v.1 y160v.2.1 s158v ((Rd.asV hl164v hq165v).up (Up.lend 4 rfl) (V36.up (Up.lend 5 rfl))) hq166v hq167v ((Rd.asV hl162v hq169v).up (Up.lend 0 rfl) (V36.up (Up.lend 1 rfl))) hq170v hq171v) hs174v) rfl rfl rfl rfl rfl rfl ?_
 intro y175v
 refine vq (q_pick rfl rfl rfl rfl rfl) rfl (simL_nil ?_)
 exact nrm_cut (s := s173v) () ⟨rfl, trivial⟩ (.sel 8 rfl (.nil _))
 rw [hb177v]
 refine simL_skipd rfl rfl rfl rfl rfl rfl ?_
 refine simL_skipd rfl rfl rfl rfl rfl rfl ?_
 refine simL_skipd rfl rfl rfl rfl rfl rfl ?_
 refine simL_skipd rfl rfl rfl rfl rfl rfl ?_
 refine simL_skipd rfl rfl rfl rfl rfl rfl ?_
 refine vq (q_pick rfl rfl rfl rfl rfl) rfl (simL_nil ?_)
 exact nrm_cut (s := false) () ⟨rfl, trivial⟩ (.sel 4 rfl (.nil _))
 intro s153v y154v
 refine va rfl rfl (simL_nil (nrm_then (sim_rtn ?_)))
 exact rtn_fn () rfl rfl rfl (.sel 0 rfl (.nil _))
end Go.Proofs.Ytkkbgcocpkipjaa

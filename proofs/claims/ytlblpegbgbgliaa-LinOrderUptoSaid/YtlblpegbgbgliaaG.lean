/- Printed by gen.py: pure functions and the proofs that the Go functions simulate them. Conditions: as each theorem says. -/
import Derived.Test.YtlblpegbgbgliaaG2
namespace Go.Proofs.Ytlblpegbgbgliaa
open Go.RowKit
set_option linter.unusedVariables false
set_option maxRecDepth 20000
set_option maxHeartbeats 2000000
def synodlaw16_keeps.l2 (x0 : List (Ty35)) (x1 : List UInt8) (s3v : List Int) : Nat → Int → Option ((Unit) ⊕ (Bool))
  | 0, _ => none
  | k + 1, z183v => if z183v < (x0.length : Int) then (if 0 ≤ z183v ∧ z183v < (x0.length : Int) then ((if ((x0.getD z183v.toNat dz35).2.2.2.1) = x1 then (if 0 ≤ z183v ∧ z183v < (x0.length : Int) then ((lin_Counts.f ((x0.getD z183v.toNat dz35).1) ((x0.getD z183v.toNat dz35).2.1) ((x0.getD z183v.toNat dz35).2.2.1) ((x0.getD z183v.toNat dz35).2.2.2.1) ((x0.getD z183v.toNat dz35).2.2.2.2.1) ((x0.getD z183v.toNat dz35).2.2.2.2.2.1) ((x0.getD z183v.toNat dz35).2.2.2.2.2.2.1) ((x0.getD z183v.toNat dz35).2.2.2.2.2.2.2.1) ((x0.getD z183v.toNat dz35).2.2.2.2.2.2.2.2.1) ((x0.getD z183v.toNat dz35).2.2.2.2.2.2.2.2.2)).bind fun s204v => (some s204v)) else none) else (some false)).bind fun s194v => ((if s194v = true then (if 0 ≤ z183v ∧ z183v < (x0.length : Int) then (some (!decide ((x0.getD z183v.toNat dz35).2.2.2.2.2.2.2.1 = (0 : Int)))) else none) else (some false)).bind fun s209v => ((if s209v = true then (if 0 ≤ z183v ∧ z183v < (s3v.length : Int) then (some (decide ((s3v.getD z183v.toNat (0 : Int)) = (0 : Int)))) else none) else (some false)).bind fun s221v => (if s221v = true then (some (.inr false)) else (synodlaw16_keeps.l2 x0 x1 s3v k (IntKind.i64.wrap (z183v + 1))))))) else none) else (some (.inl ()))
def synodlaw16_keeps.l1 (x0 : List (Ty35)) (x2 : List Int) (s5v : List Int × Bool × List UInt8 × Int) : Nat → Int → Option ((Unit) ⊕ ((Bool × List UInt8) ⊕ ((List Int) ⊕ (Bool))))
  | 0, _ => none
  | k + 1, z80v => if z80v < (x2.length : Int) then (if 0 ≤ z80v ∧ z80v < (x2.length : Int) then ((if ((decide ((0 : Int) ≤ (x2.getD z80v.toNat (0 : Int)))) && (decide ((x2.getD z80v.toNat (0 : Int)) < (x0.length : Int)))) = true then (if 0 ≤ (x2.getD z80v.toNat (0 : Int)) ∧ (x2.getD z80v.toNat (0 : Int)) < (x0.length : Int) then (if (x0.getD (x2.getD z80v.toNat (0 : Int)).toNat dz35).2.2.2.2.2.2.2.1 = (0 : Int) then (some false) else (if 0 ≤ (x2.getD z80v.toNat (0 : Int)) ∧ (x2.getD z80v.toNat (0 : Int)) < (x0.length : Int) then (if 0 ≤ (x2.getD s5v.2.2.2.toNat (0 : Int)) ∧ (x2.getD s5v.2.2.2.toNat (0 : Int)) < (x0.length : Int) then (some (decide ((x0.getD (x2.getD z80v.toNat (0 : Int)).toNat dz35).2.2.2.2.2.2.2.1 < (x0.getD (x2.getD s5v.2.2.2.toNat (0 : Int)).toNat dz35).2.2.2.2.2.2.1))) else none) else none)) else none) else (some false)).bind fun s91v => (if s91v = true then (some (.inr (.inr (.inr false)))) else (synodlaw16_keeps.l1 x0 x2 s5v k (IntKind.i64.wrap (z80v + 1))))) else none) else (some (.inl ()))
def synodlaw16_keeps.l0 (x0 : List (Ty35)) (x1 : List UInt8) (x2 : List Int) : Nat → List Int → Bool → List UInt8 → Int → Option ((List Int) ⊕ (Bool))
  | 0, _, _, _, _ => none
  | k + 1, z7v, z8v, z9v, z10v => if z10v < (x2.length : Int) then (orR (if 0 ≤ z10v ∧ z10v < (x2.length : Int) then ((if ((decide ((x2.getD z10v.toNat (0 : Int)) < (0 : Int))) || (decide ((x0.length : Int) ≤ (x2.getD z10v.toNat (0 : Int))))) = true then (some true) else (if 0 ≤ (x2.getD z10v.toNat (0 : Int)) ∧ (x2.getD z10v.toNat (0 : Int)) < (z7v.length : Int) then (some (decide ((0 : Int) < (z7v.getD (x2.getD z10v.toNat (0 : Int)).toNat (0 : Int))))) else none)).bind fun s23v => ((if s23v = true then (some true) else (if 0 ≤ (x2.getD z10v.toNat (0 : Int)) ∧ (x2.getD z10v.toNat (0 : Int)) < (x0.length : Int) then (some (!decide (((x0.getD (x2.getD z10v.toNat (0 : Int)).toNat dz35).2.2.2.1) = x1))) else none)).bind fun s37v => ((if s37v = true then (some true) else (if 0 ≤ (x2.getD z10v.toNat (0 : Int)) ∧ (x2.getD z10v.toNat (0 : Int)) < (x0.length : Int) then ((lin_Counts.f ((x0.getD (x2.getD z10v.toNat (0 : Int)).toNat dz35).1) ((x0.getD (x2.getD z10v.toNat (0 : Int)).toNat dz35).2.1) ((x0.getD (x2.getD z10v.toNat (0 : Int)).toNat dz35).2.2.1) ((x0.getD (x2.getD z10v.toNat (0 : Int)).toNat dz35).2.2.2.1) ((x0.getD (x2.getD z10v.toNat (0 : Int)).toNat dz35).2.2.2.2.1) ((x0.getD (x2.getD z10v.toNat (0 : Int)).toNat dz35).2.2.2.2.2.1) ((x0.getD (x2.getD z10v.toNat (0 : Int)).toNat dz35).2.2.2.2.2.2.1) ((x0.getD (x2.getD z10v.toNat (0 : Int)).toNat dz35).2.2.2.2.2.2.2.1) ((x0.getD (x2.getD z10v.toNat (0 : Int)).toNat dz35).2.2.2.2.2.2.2.2.1) ((x0.getD (x2.getD z10v.toNat (0 : Int)).toNat dz35).2.2.2.2.2.2.2.2.2)).bind fun s59v => (some (!s59v))) else none)).bind fun s49v => (if s49v = true then (some (.inr (.inr false))) else (if 0 ≤ (x2.getD z10v.toNat (0 : Int)) ∧ (x2.getD z10v.toNat (0 : Int)) < (z7v.length : Int) then (orR (synodlaw16_keeps.l1 x0 x2 (z7v, z8v, z9v, z10v) k (IntKind.i64.wrap (z10v + 1))) fun s76v => (if 0 ≤ (x2.getD z10v.toNat (0 : Int)) ∧ (x2.getD z10v.toNat (0 : Int)) < (x0.length : Int) then ((lin_Step.f z8v z9v ((x0.getD (x2.getD z10v.toNat (0 : Int)).toNat dz35).1) ((x0.getD (x2.getD z10v.toNat (0 : Int)).toNat dz35).2.1) ((x0.getD (x2.getD z10v.toNat (0 : Int)).toNat dz35).2.2.1) ((x0.getD (x2.getD z10v.toNat (0 : Int)).toNat dz35).2.2.2.1) ((x0.getD (x2.getD z10v.toNat (0 : Int)).toNat dz35).2.2.2.2.1) ((x0.getD (x2.getD z10v.toNat (0 : Int)).toNat dz35).2.2.2.2.2.1) ((x0.getD (x2.getD z10v.toNat (0 : Int)).toNat dz35).2.2.2.2.2.2.1) ((x0.getD (x2.getD z10v.toNat (0 : Int)).toNat dz35).2.2.2.2.2.2.2.1) ((x0.getD (x2.getD z10v.toNat (0 : Int)).toNat dz35).2.2.2.2.2.2.2.2.1) ((x0.getD (x2.getD z10v.toNat (0 : Int)).toNat dz35).2.2.2.2.2.2.2.2.2)).bind fun s146v => ((if 0 ≤ (x2.getD z10v.toNat (0 : Int)) ∧ (x2.getD z10v.toNat (0 : Int)) < (x0.length : Int) then (if (x0.getD (x2.getD z10v.toNat (0 : Int)).toNat dz35).2.2.2.2.2.2.2.1 = (0 : Int) then (some false) else (if 0 ≤ (x2.getD z10v.toNat (0 : Int)) ∧ (x2.getD z10v.toNat (0 : Int)) < (x0.length : Int) then (some (!(decide (s146v.2.2.1 = (x0.getD (x2.getD z10v.toNat (0 : Int)).toNat dz35).2.2.2.2.2.2.2.2.1) && (decide (s146v.2.2.2 = ((x0.getD (x2.getD z10v.toNat (0 : Int)).toNat dz35).2.2.2.2.2.2.2.2.2)))))) else none)) else none).bind fun s150v => (if s150v = true then (some (.inr (.inr false))) else (some (.inl (s146v.1, s146v.2.1)))))) else none)) else none))))) else none) fun s13v => (synodlaw16_keeps.l0 x0 x1 x2 k (z7v.set (x2.getD z10v.toNat (0 : Int)).toNat (1 : Int)) s13v.1 s13v.2 (IntKind.i64.wrap (z10v + 1)))) else (some (.inl z7v))
def synodlaw16_keeps.f (k : Nat) (x0 : List (Ty35)) (x1 : List UInt8) (x2 : List Int) : Option (Bool) := if 0 ≤ (x0.length : Int) ∧ (x0.length : Int) ≤ (x0.length : Int) ∧ (x0.length : Int) * 8 ≤ 140737488355328 then (orR (synodlaw16_keeps.l0 x0 x1 x2 k (List.replicate (x0.length : Int).toNat (0 : Int)) false ([] : List UInt8) 0) fun s3v => (orR (synodlaw16_keeps.l2 x0 x1 s3v k 0) fun s179v => (some true))) else none
theorem synodlaw16_keeps.calls (W : World) (F : HA) (k : Nat) (a0 : Option Addr) (c0 : Nat) (x0 : List (Ty35)) (x1 : List UInt8) (a2 : Option Addr) (c2 : Nat) (x2 : List Int) (h0 : RdV F 10 (V35 tt) a0 x0) (hc0 : x0.length ≤ c0) (hm0 : c0 ≤ maxLen) (h2 : RdV F 1 (V3 tt) a2 x2) (hc2 : x2.length ≤ c2) (hm2 : c2 ≤ maxLen) :
    Fn Try.prog W 28 [.slice a0 x0.length c0, str x1, .slice a2 x2.length c2] [] F (synodlaw16_keeps.f k x0 x1 x2) (fun (r : Bool) (y : Unit) => .bool r) (fun r y => []) := by
 unfold synodlaw16_keeps.f
 refine fn_intro 170 Try.func28 rfl Try.ntmps28 rfl ?_
 refine sim_seq (sim_region ?_)
 refine simL_val (q_asg rfl rfl) rfl rfl rfl (simL_nil (nrm_then (sim_seq (sim_region ?_))))
 refine simL_val (q_move rfl rfl) rfl rfl rfl ?_
 refine simL_val (q_len rfl rfl rfl Try.underlying22) rfl rfl rfl ?_
 refine simL_ask (fun hb2v => ?_)
 refine simL_eff (re_makeV (V := (V3 tt)) (z := .int .i64 0) (0 : Int) rfl rfl rfl Try.underlying39 elt3 rfl (one_of (by rfl)) hb2v.1 hb2v.2.1 hb2v.2.2) rfl rfl rfl ?_
 intro b1v
 refine simL_val (q_asg rfl rfl) rfl rfl rfl (simL_nil (nrm_then (sim_seq (sim_region ?_))))
 refine simL_val (q_asg rfl rfl) rfl rfl rfl (simL_nil (nrm_then (sim_seq (sim_region ?_))))
 refine simL_val (q_asg rfl rfl) rfl rfl rfl (simL_nil (nrm_then ?_))
 refine sim_cutR (S := List Int) (Unit) (fun s y => [(0, .slice a0 x0.length c0), (1, str x1), (7, .slice (some ⟨b1v, 0, none⟩) s.length ((x0.length : Int).toNat))]) (fun s y => [RowV 3 1 (V3 tt) (some ⟨b1v, 0, none⟩) s ((x0.length : Int).toNat), F]) ?_ ?_
 refine sim_seq (sim_region ?_)
 refine simL_val (q_asg rfl rfl) rfl rfl rfl (simL_nil (nrm_then ?_))
 refine sim_block ?_
 refine sim_loop (S := List Int × Bool × List UInt8 × Int) (Unit) (fun k s => synodlaw16_keeps.l0 x0 x1 x2 k s.1 s.2.1 s.2.2.1 s.2.2.2) (fun s y => [(0, .slice a0 x0.length c0), (1, str x1), (2, .slice a2 x2.length c2), (7, .slice (some ⟨b1v, 0, none⟩) s.1.length ((x0.length : Int).toNat)), (8, .bool s.2.1), (9, str s.2.2.1), (10, .int .i64 s.2.2.2)]) (fun s y => [RowV 3 1 (V3 tt) (some ⟨b1v, 0, none⟩) s.1 ((x0.length : Int).toNat), F]) (fun _ => by rw [synodlaw16_keeps.l0]) ?_ k (List.replicate (x0.length : Int).toNat (0 : Int), false, ([] : List UInt8), 0) () ⟨rfl, rfl, rfl, rfl, rfl, rfl, rfl, trivial⟩ (.sel 0 rfl (.sel 0 rfl (.nil _)))
 intro k s5v y6v
 refine sim_eq (by rw [synodlaw16_keeps.l0]) ?_
 refine sim_seq (sim_seq (sim_region ?_))
 refine simL_val (q_move rfl rfl) rfl rfl rfl ?_
 refine simL_val (q_move rfl rfl) rfl rfl rfl ?_
 refine simL_val (q_len rfl rfl rfl Try.underlying39) rfl rfl rfl ?_
 refine simL_val (q_lss rfl rfl rfl) rfl rfl rfl (simL_nil (nrm_then ?_))
 refine sim_cond rfl (fun h11v => ?_) (fun h12v => ?_)
 refine sim_skip ?_
 refine nrm_then ?_
 refine sim_cutR (S := Bool × List UInt8) (Unit) (fun s y => [(0, .slice a0 x0.length c0), (1, str x1), (2, .slice a2 x2.length c2), (7, .slice (some ⟨b1v, 0, none⟩) ((s5v.1.set (x2.getD s5v.2.2.2.toNat (0 : Int)).toNat (1 : Int)).length) ((x0.length : Int).toNat)), (8, .bool s.1), (9, str s.2), (10, .int .i64 s5v.2.2.2)]) (fun s y => [RowV 3 1 (V3 tt) (some ⟨b1v, 0, none⟩) (s5v.1.set (x2.getD s5v.2.2.2.toNat (0 : Int)).toNat (1 : Int)) ((x0.length : Int).toNat), F]) ?_ ?_
 refine sim_block ?_
 refine sim_seq (sim_region ?_)
 refine simL_val (q_move rfl rfl) rfl rfl rfl ?_
 refine simL_val (q_move rfl rfl) rfl rfl rfl ?_
 refine simL_ask (fun hi15v => ?_)
 obtain ⟨b16v, b16vo, r19v, ha17v, hV20v, hlr21v, hcell22v⟩ := RdV.pos h2 (Up.refl _) rfl (i := s5v.2.2.2.toNat) (by omega) (0 : Int)
 obtain rfl := hV20v
 refine simL_val (q_idx rfl rfl rfl ha17v Try.underlying39 Try.sizeOf3 hi15v.1 hi15v.2) rfl rfl rfl ?_
 refine simL_val (q_load rfl rfl Try.isAgg3 (hcell22v 1 rfl 0 _ rfl)) rfl rfl rfl ?_
 refine simL_val (q_asg rfl rfl) rfl rfl rfl (simL_nil (nrm_then (sim_seq (sim_seq (sim_region ?_)))))
 refine simL_val (q_move rfl rfl) rfl rfl rfl ?_
 refine simL_val (q_lss rfl rfl rfl) rfl rfl rfl ?_
 refine simL_val (q_move rfl rfl) rfl rfl rfl ?_
 refine simL_valc (b := decide ((x2.getD s5v.2.2.2.toNat (0 : Int)) < (0 : Int))) (fun hb178v => RQ.sub (E' := [(11, .int .i64 (x2.getD s5v.2.2.2.toNat (0 : Int)))]) ⟨rfl, trivial⟩ (q_move rfl rfl)) rfl rfl rfl rfl rfl ?_
 refine simL_valc (b := decide ((x2.getD s5v.2.2.2.toNat (0 : Int)) < (0 : Int))) (fun hb177v => RQ.sub (E' := [(0, .slice a0 x0.length c0)]) ⟨rfl, trivial⟩ (q_move rfl rfl)) rfl rfl rfl rfl rfl ?_
 refine simL_valc (b := decide ((x2.getD s5v.2.2.2.toNat (0 : Int)) < (0 : Int))) (fun hb176v => RQ.sub (E' := [(35, .slice a0 x0.length c0)]) ⟨lk_cv rfl hb176v, trivial⟩ (q_len rfl rfl rfl Try.underlying22)) rfl rfl rfl rfl rfl ?_
 refine simL_valc (b := decide ((x2.getD s5v.2.2.2.toNat (0 : Int)) < (0 : Int))) (fun hb175v => RQ.sub (E' := [(34, .int .i64 (x2.getD s5v.2.2.2.toNat (0 : Int))), (36, .int .i64 (x0.length : Int))]) ⟨lk_cv rfl hb175v, lk_cv rfl hb175v, trivial⟩ (q_geq rfl rfl rfl)) rfl rfl rfl rfl rfl ?_
 refine simL_val (q_or rfl rfl rfl) rfl rfl rfl ?_
 refine simL_val (q_move rfl rfl) rfl rfl rfl ?_
 refine simL_cut' 6 (S := Bool) (Unit) (fun s y => [(0, .slice a0 x0.length c0), (1, str x1), (2, .slice a2 x2.length c2), (7, .slice (some ⟨b1v, 0, none⟩) s5v.1.length ((x0.length : Int).toNat)), (8, .bool s5v.2.1), (9, str s5v.2.2.1), (10, .int .i64 s5v.2.2.2), (11, .int .i64 (x2.getD s5v.2.2.2.toNat (0 : Int))), (45, .bool s)]) (fun s y => [RowV 3 1 (V3 tt) (some ⟨b1v, 0, none⟩) s5v.1 ((x0.length : Int).toNat), F]) ?_ ?_
 refine simL_caseb (fun hb35v => ?_) (fun hb36v => ?_)
 rw [hb35v]
 refine simL_skipd rfl rfl rfl rfl rfl rfl ?_
 refine simL_skipd rfl rfl rfl rfl rfl rfl ?_
 refine simL_skipd rfl rfl rfl rfl rfl rfl ?_
 refine simL_skipd rfl rfl rfl rfl rfl rfl ?_
 refine simL_skipd rfl rfl rfl rfl rfl rfl ?_
 refine simL_val (q_pick rfl rfl rfl rfl rfl) rfl rfl rfl (simL_nil ?_)
 exact nrm_cut (s := true) () ⟨rfl, rfl, rfl, rfl, rfl, rfl, rfl, rfl, rfl, trivial⟩ (.sel 0 rfl (.sel 0 rfl (.nil _)))
 rw [hb36v]
 refine simL_valg (q_move rfl rfl) rfl rfl rfl rfl rfl rfl ?_
 refine simL_valg (q_move rfl rfl) rfl rfl rfl rfl rfl rfl ?_
 refine simL_openV 0 rfl (fun rs33v hl34v => ?_)
 refine simL_ask (fun hi25v => ?_)
 refine simL_posV 0 rfl hl34v rfl (i := (x2.getD s5v.2.2.2.toNat (0 : Int)).toNat) (by omega) (0 : Int) (fun b26v b26vo r29v ha27v hV30v hlr31v hcell32v => ?_)
 obtain rfl := hV30v
 refine simL_valg (q_idx rfl rfl rfl ha27v Try.underlying39 Try.sizeOf3 hi25v.1 hi25v.2) rfl rfl rfl rfl rfl rfl ?_
 refine simL_valg (q_load rfl rfl Try.isAgg3 (hcell32v 0 rfl 0 _ rfl)) rfl rfl rfl rfl rfl rfl ?_
 refine simL_valg (q_gtr rfl rfl rfl) rfl rfl rfl rfl rfl rfl ?_
 refine simL_val (q_pick rfl rfl rfl rfl rfl) rfl rfl rfl (simL_nil ?_)
 exact nrm_cut (s := decide ((0 : Int) < (s5v.1.getD (x2.getD s5v.2.2.2.toNat (0 : Int)).toNat (0 : Int)))) () ⟨rfl, rfl, rfl, rfl, rfl, rfl, rfl, rfl, rfl, trivial⟩ (.sel' 0 rfl (RowV.mk hl34v) (.sel 0 rfl (.nil _)))
 intro s23v y24v
 refine simL_val (q_move rfl rfl) rfl rfl rfl ?_
 refine simL_cut' 8 (S := Bool) (Unit) (fun s y => [(0, .slice a0 x0.length c0), (1, str x1), (2, .slice a2 x2.length c2), (7, .slice (some ⟨b1v, 0, none⟩) s5v.1.length ((x0.length : Int).toNat)), (8, .bool s5v.2.1), (9, str s5v.2.2.1), (10, .int .i64 s5v.2.2.2), (11, .int .i64 (x2.getD s5v.2.2.2.toNat (0 : Int))), (54, .bool s)]) (fun s y => [RowV 3 1 (V3 tt) (some ⟨b1v, 0, none⟩) s5v.1 ((x0.length : Int).toNat), F]) ?_ ?_
 refine simL_caseb (fun hb47v => ?_) (fun hb48v => ?_)
 rw [hb47v]
 refine simL_skipd rfl rfl rfl rfl rfl rfl ?_
 refine simL_skipd rfl rfl rfl rfl rfl rfl ?_
 refine simL_skipd rfl rfl rfl rfl rfl rfl ?_
 refine simL_skipd rfl rfl rfl rfl rfl rfl ?_
 refine simL_skipd rfl rfl rfl rfl rfl rfl ?_
 refine simL_skipd rfl rfl rfl rfl rfl rfl ?_
 refine simL_skipd rfl rfl rfl rfl rfl rfl ?_
 refine simL_val (q_pick rfl rfl rfl rfl rfl) rfl rfl rfl (simL_nil ?_)
 exact nrm_cut (s := true) () ⟨rfl, rfl, rfl, rfl, rfl, rfl, rfl, rfl, rfl, trivial⟩ (.sel 0 rfl (.sel 0 rfl (.nil _)))
 rw [hb48v]
 refine simL_valg (q_move rfl rfl) rfl rfl rfl rfl rfl rfl ?_
 refine simL_valg (q_move rfl rfl) rfl rfl rfl rfl rfl rfl ?_
 refine simL_ask (fun hi39v => ?_)
 obtain ⟨b40v, b40vo, r43v, ha41v, hV44v, hlr45v, hcell46v⟩ := RdV.pos h0 (Up.refl _) rfl (i := (x2.getD s5v.2.2.2.toNat (0 : Int)).toNat) (by omega) dz35
 obtain rfl := hV44v
 refine simL_valg (q_idx rfl rfl rfl ha41v Try.underlying22 Try.sizeOf35 hi39v.1 hi39v.2) rfl rfl rfl rfl rfl rfl ?_
 refine simL_valg (q_fa rfl rfl Try.underlying35 rfl rfl Try.sizeOf9 rfl) rfl rfl rfl rfl rfl rfl ?_
 refine simL_valg (q_load rfl rfl Try.isAgg9 (hcell46v 1 rfl 3 _ rfl)) rfl rfl rfl rfl rfl rfl ?_
 refine simL_valg (q_move rfl rfl) rfl rfl rfl rfl rfl rfl ?_
 refine simL_valg (q_nes rfl rfl rfl) rfl rfl rfl rfl rfl rfl ?_
 refine simL_val (q_pick rfl rfl rfl rfl rfl) rfl rfl rfl (simL_nil ?_)
 exact nrm_cut (s := !decide (((x0.getD (x2.getD s5v.2.2.2.toNat (0 : Int)).toNat dz35).2.2.2.1) = x1)) () ⟨rfl, rfl, rfl, rfl, rfl, rfl, rfl, rfl, rfl, trivial⟩ (.sel 0 rfl (.sel 0 rfl (.nil _)))
 intro s37v y38v
 refine simL_val (q_move rfl rfl) rfl rfl rfl ?_
 refine simL_cut' 7 (S := Bool) (Unit) (fun s y => [(0, .slice a0 x0.length c0), (1, str x1), (2, .slice a2 x2.length c2), (7, .slice (some ⟨b1v, 0, none⟩) s5v.1.length ((x0.length : Int).toNat)), (8, .bool s5v.2.1), (9, str s5v.2.2.1), (10, .int .i64 s5v.2.2.2), (11, .int .i64 (x2.getD s5v.2.2.2.toNat (0 : Int))), (62, .bool s)]) (fun s y => [RowV 3 1 (V3 tt) (some ⟨b1v, 0, none⟩) s5v.1 ((x0.length : Int).toNat), F]) ?_ ?_
 refine simL_caseb (fun hb62v => ?_) (fun hb63v => ?_)
 rw [hb62v]
 refine simL_skipd rfl rfl rfl rfl rfl rfl ?_
 refine simL_skipd rfl rfl rfl rfl rfl rfl ?_
 refine simL_skipd rfl rfl rfl rfl rfl rfl ?_
 refine simL_skipd rfl rfl rfl rfl rfl rfl ?_
 refine simL_skipd rfl rfl rfl rfl rfl rfl ?_
 refine simL_skipd rfl rfl rfl rfl rfl rfl ?_
 refine simL_val (q_pick rfl rfl rfl rfl rfl) rfl rfl rfl (simL_nil ?_)
 exact nrm_cut (s := true) () ⟨rfl, rfl, rfl, rfl, rfl, rfl, rfl, rfl, rfl, trivial⟩ (.sel 0 rfl (.sel 0 rfl (.nil _)))
 rw [hb63v]
 refine simL_valg (q_move rfl rfl) rfl rfl rfl rfl rfl rfl ?_
 refine simL_valg (q_move rfl rfl) rfl rfl rfl rfl rfl rfl ?_
 refine simL_ask (fun hi51v => ?_)
 obtain ⟨b52v, b52vo, r55v, ha53v, hV56v, hlr57v, hcell58v⟩ := RdV.pos h0 (Up.refl _) rfl (i := (x2.getD s5v.2.2.2.toNat (0 : Int)).toNat) (by omega) dz35
 obtain rfl := hV56v
 refine simL_valg (q_idx rfl rfl rfl ha53v Try.underlying22 Try.sizeOf35 hi51v.1 hi51v.2) rfl rfl rfl rfl rfl rfl ?_
 refine simL_valg (q_loads rfl rfl Try.isAgg35 Try.sizeOf35 rfl (fun j v hj => hcell58v 1 rfl j v hj)) rfl rfl rfl rfl rfl rfl ?_
 refine simL_bind (fun s59v hs61v => ?_)
 refine simL_effg (re_call (vs := [.agg #[.int .i64 ((x0.getD (x2.getD s5v.2.2.2.toNat (0 : Int)).toNat dz35).1), .int .i64 ((x0.getD (x2.getD s5v.2.2.2.toNat (0 : Int)).toNat dz35).2.1), .int .i64 ((x0.getD (x2.getD s5v.2.2.2.toNat (0 : Int)).toNat dz35).2.2.1), str ((x0.getD (x2.getD s5v.2.2.2.toNat (0 : Int)).toNat dz35).2.2.2.1), str ((x0.getD (x2.getD s5v.2.2.2.toNat (0 : Int)).toNat dz35).2.2.2.2.1), str ((x0.getD (x2.getD s5v.2.2.2.toNat (0 : Int)).toNat dz35).2.2.2.2.2.1), .int .i64 ((x0.getD (x2.getD s5v.2.2.2.toNat (0 : Int)).toNat dz35).2.2.2.2.2.2.1), .int .i64 ((x0.getD (x2.getD s5v.2.2.2.toNat (0 : Int)).toNat dz35).2.2.2.2.2.2.2.1), .int .i64 ((x0.getD (x2.getD s5v.2.2.2.toNat (0 : Int)).toNat dz35).2.2.2.2.2.2.2.2.1), str ((x0.getD (x2.getD s5v.2.2.2.toNat (0 : Int)).toNat dz35).2.2.2.2.2.2.2.2.2)]]) (cap := []) (A := []) (rst := [RowV 3 1 (V3 tt) (some ⟨b1v, 0, none⟩) s5v.1 ((x0.length : Int).toNat), F]) rfl rfl rfl rfl rfl rfl Try.call18 (.sel 0 rfl (.sel 0 rfl (.nil _))) (lin_Counts.calls _ _ ((x0.getD (x2.getD s5v.2.2.2.toNat (0 : Int)).toNat dz35).1) ((x0.getD (x2.getD s5v.2.2.2.toNat (0 : Int)).toNat dz35).2.1) ((x0.getD (x2.getD s5v.2.2.2.toNat (0 : Int)).toNat dz35).2.2.1) ((x0.getD (x2.getD s5v.2.2.2.toNat (0 : Int)).toNat dz35).2.2.2.1) ((x0.getD (x2.getD s5v.2.2.2.toNat (0 : Int)).toNat dz35).2.2.2.2.1) ((x0.getD (x2.getD s5v.2.2.2.toNat (0 : Int)).toNat dz35).2.2.2.2.2.1) ((x0.getD (x2.getD s5v.2.2.2.toNat (0 : Int)).toNat dz35).2.2.2.2.2.2.1) ((x0.getD (x2.getD s5v.2.2.2.toNat (0 : Int)).toNat dz35).2.2.2.2.2.2.2.1) ((x0.getD (x2.getD s5v.2.2.2.toNat (0 : Int)).toNat dz35).2.2.2.2.2.2.2.2.1) ((x0.getD (x2.getD s5v.2.2.2.toNat (0 : Int)).toNat dz35).2.2.2.2.2.2.2.2.2) ) hs61v) rfl rfl rfl rfl rfl rfl ?_
 intro y60v
 refine simL_valg (q_not rfl rfl) rfl rfl rfl rfl rfl rfl ?_
 refine simL_val (q_pick rfl rfl rfl rfl rfl) rfl rfl rfl (simL_nil ?_)
 exact nrm_cut (s := !s59v) () ⟨rfl, rfl, rfl, rfl, rfl, rfl, rfl, rfl, rfl, trivial⟩ (.sel 0 rfl (.sel 0 rfl (.nil _)))
 intro s49v y50v
 refine simL_nil (nrm_then ?_)
 refine sim_condb rfl (fun h64v => ?_) (fun h65v => ?_)
 refine sim_seq (sim_region ?_)
 refine simL_val (q_asg rfl rfl) rfl rfl rfl (simL_nil (nrm_then (sim_rtn ?_)))
 refine rtn_then ?_
 refine rtn_block ?_
 refine rtn_cutR ?_
 refine rtn_loop ?_
 refine rtn_block ?_
 refine rtn_cutR ?_
 exact rtn_fn () rfl rfl rfl (.sel 1 rfl (.nil _))
 refine sim_skip ?_
 refine nrm_then (sim_seq (sim_region ?_))
 refine simL_val (q_move rfl rfl) rfl rfl rfl ?_
 refine simL_val (q_move rfl rfl) rfl rfl rfl ?_
 refine simL_openV 0 rfl (fun rs74v hl75v => ?_)
 refine simL_ask (fun hi66v => ?_)
 refine simL_posV 0 rfl hl75v rfl (i := (x2.getD s5v.2.2.2.toNat (0 : Int)).toNat) (by omega) (0 : Int) (fun b67v b67vo r70v ha68v hV71v hlr72v hcell73v => ?_)
 obtain rfl := hV71v
 refine simL_val (q_idx rfl rfl rfl ha68v Try.underlying39 Try.sizeOf3 hi66v.1 hi66v.2) rfl rfl rfl ?_
 refine simL_do (re_storeV (V := (V3 tt)) (1 : Int) 0 (0 : Int) 0 rfl rfl rfl Try.sizeOf3 rfl rfl (one_of (by rfl)) rfl hl75v ha68v (by omega) rfl (fun r hr _ _ => by cases (show r = _ from hr); exact rfl)) rfl rfl ?_
 intro _
 refine simL_ren (.slice (some ⟨b1v, 0, none⟩) ((s5v.1.set (x2.getD s5v.2.2.2.toNat (0 : Int)).toNat (1 : Int)).length) ((x0.length : Int).toNat)) (d := 7) rfl (slc_len (by simp)) ?_
 refine simL_ren (.slice (some ⟨b1v, 0, none⟩) ((s5v.1.set (x2.getD s5v.2.2.2.toNat (0 : Int)).toNat (1 : Int)).length) ((x0.length : Int).toNat)) (d := 63) rfl (slc_len (by simp)) ?_
 refine simL_nil (nrm_then ?_)
 refine sim_cutR (S := Unit) (Unit) (fun s y => [(0, .slice a0 x0.length c0), (1, str x1), (2, .slice a2 x2.length c2), (7, .slice (some ⟨b1v, 0, none⟩) ((s5v.1.set (x2.getD s5v.2.2.2.toNat (0 : Int)).toNat (1 : Int)).length) ((x0.length : Int).toNat)), (8, .bool s5v.2.1), (9, str s5v.2.2.1), (10, .int .i64 s5v.2.2.2), (11, .int .i64 (x2.getD s5v.2.2.2.toNat (0 : Int)))]) (fun s y => [RowV 3 1 (V3 tt) (some ⟨b1v, 0, none⟩) (s5v.1.set (x2.getD s5v.2.2.2.toNat (0 : Int)).toNat (1 : Int)) ((x0.length : Int).toNat), F]) ?_ ?_
 refine sim_seq (sim_region ?_)
 refine simL_val (q_move rfl rfl) rfl rfl rfl ?_
 refine simL_val (q_add rfl rfl rfl) rfl rfl rfl ?_
 refine simL_val (q_asg rfl rfl) rfl rfl rfl (simL_nil (nrm_then ?_))
 refine sim_block ?_
 refine sim_loop (S := Int) (Unit) (fun k s => synodlaw16_keeps.l1 x0 x2 s5v k s) (fun s y => [(0, .slice a0 x0.length c0), (1, str x1), (2, .slice a2 x2.length c2), (7, .slice (some ⟨b1v, 0, none⟩) ((s5v.1.set (x2.getD s5v.2.2.2.toNat (0 : Int)).toNat (1 : Int)).length) ((x0.length : Int).toNat)), (8, .bool s5v.2.1), (9, str s5v.2.2.1), (10, .int .i64 s5v.2.2.2), (11, .int .i64 (x2.getD s5v.2.2.2.toNat (0 : Int))), (12, .int .i64 s)]) (fun s y => [RowV 3 1 (V3 tt) (some ⟨b1v, 0, none⟩) (s5v.1.set (x2.getD s5v.2.2.2.toNat (0 : Int)).toNat (1 : Int)) ((x0.length : Int).toNat), F]) (fun _ => by rw [synodlaw16_keeps.l1]) ?_ k (IntKind.i64.wrap (s5v.2.2.2 + 1)) () ⟨rfl, rfl, rfl, rfl, rfl, rfl, rfl, rfl, rfl, trivial⟩ (.sel 0 rfl (.sel 0 rfl (.nil _)))
 intro k s78v y79v
 refine sim_eq (by rw [synodlaw16_keeps.l1]) ?_
 refine sim_seq (sim_seq (sim_region ?_))
 refine simL_val (q_move rfl rfl) rfl rfl rfl ?_
 refine simL_val (q_move rfl rfl) rfl rfl rfl ?_
 refine simL_val (q_len rfl rfl rfl Try.underlying39) rfl rfl rfl ?_
 refine simL_val (q_lss rfl rfl rfl) rfl rfl rfl (simL_nil (nrm_then ?_))
 refine sim_cond rfl (fun h81v => ?_) (fun h82v => ?_)
 refine sim_skip ?_
 refine nrm_then (sim_seq ?_)
 refine sim_block ?_
 refine sim_seq (sim_region ?_)
 refine simL_val (q_move rfl rfl) rfl rfl rfl ?_
 refine simL_val (q_move rfl rfl) rfl rfl rfl ?_
 refine simL_ask (fun hi83v => ?_)
 obtain ⟨b84v, b84vo, r87v, ha85v, hV88v, hlr89v, hcell90v⟩ := RdV.pos h2 (Up.refl _) rfl (i := s78v.toNat) (by omega) (0 : Int)
 obtain rfl := hV88v
 refine simL_val (q_idx rfl rfl rfl ha85v Try.underlying39 Try.sizeOf3 hi83v.1 hi83v.2) rfl rfl rfl ?_
 refine simL_val (q_load rfl rfl Try.isAgg3 (hcell90v 1 rfl 0 _ rfl)) rfl rfl rfl ?_
 refine simL_val (q_asg rfl rfl) rfl rfl rfl (simL_nil (nrm_then ?_))
 refine sim_cut (S := Bool) (Unit) (fun s y => [(0, .slice a0 x0.length c0), (1, str x1), (2, .slice a2 x2.length c2), (7, .slice (some ⟨b1v, 0, none⟩) ((s5v.1.set (x2.getD s5v.2.2.2.toNat (0 : Int)).toNat (1 : Int)).length) ((x0.length : Int).toNat)), (8, .bool s5v.2.1), (9, str s5v.2.2.1), (10, .int .i64 s5v.2.2.2), (11, .int .i64 (x2.getD s5v.2.2.2.toNat (0 : Int))), (12, .int .i64 s78v), (106, .bool s)]) (fun s y => [RowV 3 1 (V3 tt) (some ⟨b1v, 0, none⟩) (s5v.1.set (x2.getD s5v.2.2.2.toNat (0 : Int)).toNat (1 : Int)) ((x0.length : Int).toNat), F]) ?_ ?_
 refine sim_openV 0 rfl (fun rs93v hl94v => ?_)
 refine sim_if (fun hk95v => ?_) (fun hk95v => ?_)
 refine sim_ask (fun hi96v => ?_)
 obtain ⟨b97v, b97vo, r100v, ha98v, hV101v, hlr102v, hcell103v⟩ := RdV.pos h0 (Up.refl _) rfl (i := (x2.getD s78v.toNat (0 : Int)).toNat) (by omega) dz35
 obtain rfl := hV101v
 refine sim_if (fun hk104v => ?_) (fun hk104v => ?_)
 refine sim_draw (Γ := Unit) () [[], [0], [0, 1], [0, 1, 2], [0, 1, 2], [0, 1, 2, 4], [0, 1, 2, 3, 4, 5], [0, 1, 2, 3, 4, 5, 6], [0, 1, 2, 3, 4, 5, 6, 7], [0, 1, 2, 3, 4, 5, 6, 7, 8], [0, 1, 2, 3, 4, 5, 6, 7, 8], [0, 1, 2, 3, 4, 5, 6, 7, 8, 9, 10], [0, 1, 2, 3, 4, 5, 6, 7, 8, 9, 10, 11], [0, 1, 2, 3, 4, 5, 6, 7, 8, 9, 10, 11, 12], [0, 1, 2, 3, 4, 5, 6, 7, 8, 9, 10, 11, 12, 13], [0, 1, 2, 3, 4, 5, 6, 7, 8, 9, 10, 11, 12, 13, 14], [0, 1, 2, 3, 4, 5, 6, 7, 8, 9, 10, 11, 12, 13, 14, 15], [0, 1, 2, 3, 4, 5, 6, 7, 8, 9, 10, 11, 12, 13, 14, 15, 16], [0, 1, 2, 3, 4, 5, 6, 7, 8, 9, 10, 11, 12, 13, 14, 15, 16], [0, 1, 2, 3, 4, 5, 6, 7, 8, 9, 10, 11, 12, 13, 14, 15, 16, 17, 18], [0, 1, 2, 3, 4, 5, 6, 7, 8, 9, 10, 11, 12, 13, 14, 15, 16, 17, 18, 19], [0, 1, 2, 3, 4, 5, 6, 7, 8, 9, 10, 11, 12, 13, 14, 15, 16, 17, 18, 19, 20], [0, 1, 2, 3, 4, 5, 6, 7, 8, 9, 10, 11, 12, 13, 14, 15, 16], [0, 1, 2, 3, 4, 5, 6, 7, 8, 9, 10, 11, 12, 13, 14, 15, 16], [0, 1, 2, 3, 4, 5, 6, 7, 8, 9, 10, 11, 12, 13, 14, 15, 16, 22, 23], [0, 1, 2, 3, 4, 5, 6, 7, 8, 9, 10, 11, 12, 13, 14, 15, 16, 22, 23, 24], [0, 1, 2, 3, 4, 5, 6, 7, 8, 9, 10, 11, 12, 13, 14, 15, 16, 22, 23, 24, 25], [0, 1, 2, 3, 4, 5, 6, 7, 8, 9, 10, 11, 12, 13, 14, 15, 16, 17, 18, 19, 20, 21, 22, 23, 24, 25, 26], [0, 1, 2, 3, 4, 5, 6, 7, 8, 9, 10, 11, 12, 13, 14, 15, 16, 17, 18, 19, 20, 21, 22, 23, 24, 25, 26, 27]] [] [0, 1, 2, 3, 4, 5, 6, 7, 8, 9, 10, 11, 12, 13, 14, 15, 16, 17, 18, 19, 20, 21, 22, 23, 24, 25, 26, 27, 28] (fun i => [[0], [0], [0], [0], [0], [0], [0], [0], [0], [0], [0], [0], [0], [0], [0], [0], [0], [0], [0], [0], [0], [0], [0], [0], [0], [0], [0], [0], [0]].getD i []) (fun i => [[], [], [], [], [], [], [], [], [], [], [], [], [], [], [], [], [], [], [], [], [], [], [], [], [], [], [], [], []].getD i []) (fun γ i => [.int .i64 (x2.getD s78v.toNat (0 : Int)), .bool (decide ((0 : Int) ≤ (x2.getD s78v.toNat (0 : Int)))), .bool (decide ((0 : Int) ≤ (x2.getD s78v.toNat (0 : Int)))), cv ((decide ((0 : Int) ≤ (x2.getD s78v.toNat (0 : Int)))) == true) (.int .i64 (x2.getD s78v.toNat (0 : Int))), cv ((decide ((0 : Int) ≤ (x2.getD s78v.toNat (0 : Int)))) == true) (.slice a0 x0.length c0), cv ((decide ((0 : Int) ≤ (x2.getD s78v.toNat (0 : Int)))) == true) (.int .i64 (x0.length : Int)), cv ((decide ((0 : Int) ≤ (x2.getD s78v.toNat (0 : Int)))) == true) (.bool (decide ((x2.getD s78v.toNat (0 : Int)) < (x0.length : Int)))), .bool ((decide ((0 : Int) ≤ (x2.getD s78v.toNat (0 : Int)))) && (decide ((x2.getD s78v.toNat (0 : Int)) < (x0.length : Int)))), .bool ((decide ((0 : Int) ≤ (x2.getD s78v.toNat (0 : Int)))) && (decide ((x2.getD s78v.toNat (0 : Int)) < (x0.length : Int)))), .slice a0 x0.length c0, .int .i64 (x2.getD s78v.toNat (0 : Int)), .pointer (some ⟨b97v, b97vo + (x2.getD s78v.toNat (0 : Int)).toNat * 10, none⟩), .pointer (some ⟨b97v, b97vo + (x2.getD s78v.toNat (0 : Int)).toNat * 10 + 7, none⟩), .int .i64 ((x0.getD (x2.getD s78v.toNat (0 : Int)).toNat dz35).2.2.2.2.2.2.2.1), .bool (!decide ((x0.getD (x2.getD s78v.toNat (0 : Int)).toNat dz35).2.2.2.2.2.2.2.1 = (0 : Int))), .bool (!decide ((x0.getD (x2.getD s78v.toNat (0 : Int)).toNat dz35).2.2.2.2.2.2.2.1 = (0 : Int))), .bool (!decide ((x0.getD (x2.getD s78v.toNat (0 : Int)).toNat dz35).2.2.2.2.2.2.2.1 = (0 : Int))), undef, undef, undef, undef, undef, undef, undef, undef, undef, undef, undef, .bool false].getD i undef) (fun j γ => [[Row 3 1 (some ⟨b1v, 0, none⟩) (s5v.1.set (x2.getD s5v.2.2.2.toNat (0 : Int)).toNat (1 : Int)).length ((x0.length : Int).toNat) rs93v.flatten, F]].getD j []) (fun γ => [(0, .slice a0 x0.length c0), (1, str x1), (2, .slice a2 x2.length c2), (7, .slice (some ⟨b1v, 0, none⟩) ((s5v.1.set (x2.getD s5v.2.2.2.toNat (0 : Int)).toNat (1 : Int)).length) ((x0.length : Int).toNat)), (8, .bool s5v.2.1), (9, str s5v.2.2.1), (10, .int .i64 s5v.2.2.2), (11, .int .i64 (x2.getD s5v.2.2.2.toNat (0 : Int))), (12, .int .i64 s78v), (81, cv ((decide ((0 : Int) ≤ (x2.getD s78v.toNat (0 : Int)))) == true) (.int .i64 (x2.getD s78v.toNat (0 : Int)))), (82, cv ((decide ((0 : Int) ≤ (x2.getD s78v.toNat (0 : Int)))) == true) (.slice a0 x0.length c0)), (83, cv ((decide ((0 : Int) ≤ (x2.getD s78v.toNat (0 : Int)))) == true) (.int .i64 (x0.length : Int))), (84, cv ((decide ((0 : Int) ≤ (x2.getD s78v.toNat (0 : Int)))) == true) (.bool (decide ((x2.getD s78v.toNat (0 : Int)) < (x0.length : Int))))), (87, .slice a0 x0.length c0), (88, .int .i64 (x2.getD s78v.toNat (0 : Int))), (89, .pointer (some ⟨b97v, b97vo + (x2.getD s78v.toNat (0 : Int)).toNat * 10, none⟩)), (90, .pointer (some ⟨b97v, b97vo + (x2.getD s78v.toNat (0 : Int)).toNat * 10 + 7, none⟩)), (91, .int .i64 ((x0.getD (x2.getD s78v.toNat (0 : Int)).toNat dz35).2.2.2.2.2.2.2.1)), (92, .bool (!decide ((x0.getD (x2.getD s78v.toNat (0 : Int)).toNat dz35).2.2.2.2.2.2.2.1 = (0 : Int)))), (95, undef), (96, undef), (97, undef), (98, undef), (99, undef), (100, undef), (101, undef), (102, undef), (103, undef), (104, undef), (105, undef), (106, .bool false)]) mixed (by decide) (by decide) (by decide) (by decide) (by decide) (by decide) (by decide) 170 rfl (by decide) (by decide) (by decide) (Ent.refl _) ?_ ?_ (fun _ => ⟨rfl, rfl, rfl, rfl, rfl, rfl, rfl, rfl, rfl, rfl, rfl, rfl, rfl, rfl, rfl, rfl, rfl, rfl, rfl, rfl, rfl, rfl, rfl, rfl, rfl, rfl, rfl, rfl, rfl, rfl, rfl, trivial⟩) ?_
 exact (All.cons (fun γ => (All.cons (QOb.plain [(13, .int .i64 (x2.getD s78v.toNat (0 : Int)))] rfl rfl (.o rfl (by decide) .nil) (q_move rfl rfl) rfl) All.nil)) (All.cons (fun γ => (All.cons (QOb.plain [(78, .int .i64 (x2.getD s78v.toNat (0 : Int)))] rfl rfl (.w 0 rfl rfl rfl .nil) (q_geq rfl rfl rfl) rfl) All.nil)) (All.cons (fun γ => (All.cons (QOb.plain [(79, .bool (decide ((0 : Int) ≤ (x2.getD s78v.toNat (0 : Int)))))] rfl rfl (.w 1 rfl rfl rfl .nil) (q_move rfl rfl) rfl) All.nil)) (All.cons (fun γ => (All.cons (QOb.grd (b := decide ((0 : Int) ≤ (x2.getD s78v.toNat (0 : Int)))) [(13, .int .i64 (x2.getD s78v.toNat (0 : Int))), (80, .bool (decide ((0 : Int) ≤ (x2.getD s78v.toNat (0 : Int)))))] rfl rfl rfl rfl (.o rfl (by decide) (.w 2 rfl rfl rfl .nil)) (fun hb126v => RQ.sub (E' := [(13, .int .i64 (x2.getD s78v.toNat (0 : Int)))]) ⟨rfl, trivial⟩ (q_move rfl rfl)) rfl) All.nil)) (All.cons (fun γ => (All.cons (QOb.grd (b := decide ((0 : Int) ≤ (x2.getD s78v.toNat (0 : Int)))) [(0, .slice a0 x0.length c0), (80, .bool (decide ((0 : Int) ≤ (x2.getD s78v.toNat (0 : Int)))))] rfl rfl rfl rfl (.o rfl (by decide) (.w 2 rfl rfl rfl .nil)) (fun hb127v => RQ.sub (E' := [(0, .slice a0 x0.length c0)]) ⟨rfl, trivial⟩ (q_move rfl rfl)) rfl) All.nil)) (All.cons (fun γ => (All.cons (QOb.grd (b := decide ((0 : Int) ≤ (x2.getD s78v.toNat (0 : Int)))) [(80, .bool (decide ((0 : Int) ≤ (x2.getD s78v.toNat (0 : Int))))), (82, cv ((decide ((0 : Int) ≤ (x2.getD s78v.toNat (0 : Int)))) == true) (.slice a0 x0.length c0))] rfl rfl rfl rfl (.w 2 rfl rfl rfl (.w 4 rfl rfl rfl .nil)) (fun hb128v => RQ.sub (E' := [(82, .slice a0 x0.length c0)]) ⟨lk_cv rfl hb128v, trivial⟩ (q_len rfl rfl rfl Try.underlying22)) rfl) All.nil)) (All.cons (fun γ => (All.cons (QOb.grd (b := decide ((0 : Int) ≤ (x2.getD s78v.toNat (0 : Int)))) [(80, .bool (decide ((0 : Int) ≤ (x2.getD s78v.toNat (0 : Int))))), (81, cv ((decide ((0 : Int) ≤ (x2.getD s78v.toNat (0 : Int)))) == true) (.int .i64 (x2.getD s78v.toNat (0 : Int)))), (83, cv ((decide ((0 : Int) ≤ (x2.getD s78v.toNat (0 : Int)))) == true) (.int .i64 (x0.length : Int)))] rfl rfl rfl rfl (.w 2 rfl rfl rfl (.w 3 rfl rfl rfl (.w 5 rfl rfl rfl .nil))) (fun hb129v => RQ.sub (E' := [(81, .int .i64 (x2.getD s78v.toNat (0 : Int))), (83, .int .i64 (x0.length : Int))]) ⟨lk_cv rfl hb129v, lk_cv rfl hb129v, trivial⟩ (q_lss rfl rfl rfl)) rfl) All.nil)) (All.cons (fun γ => (All.cons (QOb.plain [(80, .bool (decide ((0 : Int) ≤ (x2.getD s78v.toNat (0 : Int))))), (84, cv ((decide ((0 : Int) ≤ (x2.getD s78v.toNat (0 : Int)))) == true) (.bool (decide ((x2.getD s78v.toNat (0 : Int)) < (x0.length : Int)))))] rfl rfl (.w 2 rfl rfl rfl (.w 6 rfl rfl rfl .nil)) (q_and rfl rfl rfl) rfl) All.nil)) (All.cons (fun γ => (All.cons (QOb.plain [(85, .bool ((decide ((0 : Int) ≤ (x2.getD s78v.toNat (0 : Int)))) && (decide ((x2.getD s78v.toNat (0 : Int)) < (x0.length : Int)))))] rfl rfl (.w 7 rfl rfl rfl .nil) (q_move rfl rfl) rfl) All.nil)) (All.cons (fun γ => (All.cons (QOb.yes (b := (decide ((0 : Int) ≤ (x2.getD s78v.toNat (0 : Int)))) && (decide ((x2.getD s78v.toNat (0 : Int)) < (x0.length : Int)))) [(0, .slice a0 x0.length c0), (86, .bool ((decide ((0 : Int) ≤ (x2.getD s78v.toNat (0 : Int)))) && (decide ((x2.getD s78v.toNat (0 : Int)) < (x0.length : Int)))))] rfl rfl rfl rfl (beq_yes hk95v) (.o rfl (by decide) (.w 8 rfl rfl rfl .nil)) (q_move rfl rfl) rfl) All.nil)) (All.cons (fun γ => (All.cons (QOb.yes (b := (decide ((0 : Int) ≤ (x2.getD s78v.toNat (0 : Int)))) && (decide ((x2.getD s78v.toNat (0 : Int)) < (x0.length : Int)))) [(13, .int .i64 (x2.getD s78v.toNat (0 : Int))), (86, .bool ((decide ((0 : Int) ≤ (x2.getD s78v.toNat (0 : Int)))) && (decide ((x2.getD s78v.toNat (0 : Int)) < (x0.length : Int)))))] rfl rfl rfl rfl (beq_yes hk95v) (.o rfl (by decide) (.w 8 rfl rfl rfl .nil)) (q_move rfl rfl) rfl) All.nil)) (All.cons (fun γ => (All.cons (QOb.yes (b := (decide ((0 : Int) ≤ (x2.getD s78v.toNat (0 : Int)))) && (decide ((x2.getD s78v.toNat (0 : Int)) < (x0.length : Int)))) [(86, .bool ((decide ((0 : Int) ≤ (x2.getD s78v.toNat (0 : Int)))) && (decide ((x2.getD s78v.toNat (0 : Int)) < (x0.length : Int))))), (87, .slice a0 x0.length c0), (88, .int .i64 (x2.getD s78v.toNat (0 : Int)))] rfl rfl rfl rfl (beq_yes hk95v) (.w 8 rfl rfl rfl (.w 9 rfl rfl rfl (.w 10 rfl rfl rfl .nil))) (q_idx rfl rfl rfl ha98v Try.underlying22 Try.sizeOf35 hi96v.1 hi96v.2) rfl) All.nil)) (All.cons (fun γ => (All.cons (QOb.yes (b := (decide ((0 : Int) ≤ (x2.getD s78v.toNat (0 : Int)))) && (decide ((x2.getD s78v.toNat (0 : Int)) < (x0.length : Int)))) [(86, .bool ((decide ((0 : Int) ≤ (x2.getD s78v.toNat (0 : Int)))) && (decide ((x2.getD s78v.toNat (0 : Int)) < (x0.length : Int))))), (89, .pointer (some ⟨b97v, b97vo + (x2.getD s78v.toNat (0 : Int)).toNat * 10, none⟩))] rfl rfl rfl rfl (beq_yes hk95v) (.w 8 rfl rfl rfl (.w 11 rfl rfl rfl .nil)) (q_fa rfl rfl Try.underlying35 rfl rfl Try.sizeOf3 rfl) rfl) All.nil)) (All.cons (fun γ => (All.cons (QOb.yes (b := (decide ((0 : Int) ≤ (x2.getD s78v.toNat (0 : Int)))) && (decide ((x2.getD s78v.toNat (0 : Int)) < (x0.length : Int)))) [(86, .bool ((decide ((0 : Int) ≤ (x2.getD s78v.toNat (0 : Int)))) && (decide ((x2.getD s78v.toNat (0 : Int)) < (x0.length : Int))))), (90, .pointer (some ⟨b97v, b97vo + (x2.getD s78v.toNat (0 : Int)).toNat * 10 + 7, none⟩))] rfl rfl rfl rfl (beq_yes hk95v) (.w 8 rfl rfl rfl (.w 12 rfl rfl rfl .nil)) (q_load rfl rfl Try.isAgg3 (hcell103v 1 rfl 7 _ rfl)) rfl) All.nil)) (All.cons (fun γ => (All.cons (QOb.yes (b := (decide ((0 : Int) ≤ (x2.getD s78v.toNat (0 : Int)))) && (decide ((x2.getD s78v.toNat (0 : Int)) < (x0.length : Int)))) [(86, .bool ((decide ((0 : Int) ≤ (x2.getD s78v.toNat (0 : Int)))) && (decide ((x2.getD s78v.toNat (0 : Int)) < (x0.length : Int))))), (91, .int .i64 ((x0.getD (x2.getD s78v.toNat (0 : Int)).toNat dz35).2.2.2.2.2.2.2.1))] rfl rfl rfl rfl (beq_yes hk95v) (.w 8 rfl rfl rfl (.w 13 rfl rfl rfl .nil)) (q_neq rfl rfl rfl) rfl) All.nil)) (All.cons (fun γ => (All.cons (QOb.plain [(86, .bool ((decide ((0 : Int) ≤ (x2.getD s78v.toNat (0 : Int)))) && (decide ((x2.getD s78v.toNat (0 : Int)) < (x0.length : Int))))), (92, .bool (!decide ((x0.getD (x2.getD s78v.toNat (0 : Int)).toNat dz35).2.2.2.2.2.2.2.1 = (0 : Int))))] rfl rfl (.w 8 rfl rfl rfl (.w 14 rfl rfl rfl .nil)) (q_pick rfl rfl rfl rfl (bif_yes hk95v _ _)) rfl) All.nil)) (All.cons (fun γ => (All.cons (QOb.plain [(93, .bool (!decide ((x0.getD (x2.getD s78v.toNat (0 : Int)).toNat dz35).2.2.2.2.2.2.2.1 = (0 : Int))))] rfl rfl (.w 15 rfl rfl rfl .nil) (q_move rfl rfl) rfl) All.nil)) (All.cons (fun γ => (All.cons (QOb.no (b := !decide ((x0.getD (x2.getD s78v.toNat (0 : Int)).toNat dz35).2.2.2.2.2.2.2.1 = (0 : Int))) [(0, .slice a0 x0.length c0), (94, .bool (!decide ((x0.getD (x2.getD s78v.toNat (0 : Int)).toNat dz35).2.2.2.2.2.2.2.1 = (0 : Int))))] rfl rfl rfl rfl (beq_no' (ndec_no hk104v)) (.o rfl (by decide) (.w 16 rfl rfl rfl .nil)) rfl) All.nil)) (All.cons (fun γ => (All.cons (QOb.no (b := !decide ((x0.getD (x2.getD s78v.toNat (0 : Int)).toNat dz35).2.2.2.2.2.2.2.1 = (0 : Int))) [(13, .int .i64 (x2.getD s78v.toNat (0 : Int))), (94, .bool (!decide ((x0.getD (x2.getD s78v.toNat (0 : Int)).toNat dz35).2.2.2.2.2.2.2.1 = (0 : Int))))] rfl rfl rfl rfl (beq_no' (ndec_no hk104v)) (.o rfl (by decide) (.w 16 rfl rfl rfl .nil)) rfl) All.nil)) (All.cons (fun γ => (All.cons (QOb.no (b := !decide ((x0.getD (x2.getD s78v.toNat (0 : Int)).toNat dz35).2.2.2.2.2.2.2.1 = (0 : Int))) [(94, .bool (!decide ((x0.getD (x2.getD s78v.toNat (0 : Int)).toNat dz35).2.2.2.2.2.2.2.1 = (0 : Int)))), (95, undef), (96, undef)] rfl rfl rfl rfl (beq_no' (ndec_no hk104v)) (.w 16 rfl rfl rfl (.w 17 rfl rfl rfl (.w 18 rfl rfl rfl .nil))) rfl) All.nil)) (All.cons (fun γ => (All.cons (QOb.no (b := !decide ((x0.getD (x2.getD s78v.toNat (0 : Int)).toNat dz35).2.2.2.2.2.2.2.1 = (0 : Int))) [(94, .bool (!decide ((x0.getD (x2.getD s78v.toNat (0 : Int)).toNat dz35).2.2.2.2.2.2.2.1 = (0 : Int)))), (97, undef)] rfl rfl rfl rfl (beq_no' (ndec_no hk104v)) (.w 16 rfl rfl rfl (.w 19 rfl rfl rfl .nil)) rfl) All.nil)) (All.cons (fun γ => (All.cons (QOb.no (b := !decide ((x0.getD (x2.getD s78v.toNat (0 : Int)).toNat dz35).2.2.2.2.2.2.2.1 = (0 : Int))) [(94, .bool (!decide ((x0.getD (x2.getD s78v.toNat (0 : Int)).toNat dz35).2.2.2.2.2.2.2.1 = (0 : Int)))), (98, undef)] rfl rfl rfl rfl (beq_no' (ndec_no hk104v)) (.w 16 rfl rfl rfl (.w 20 rfl rfl rfl .nil)) rfl) All.nil)) (All.cons (fun γ => (All.cons (QOb.no (b := !decide ((x0.getD (x2.getD s78v.toNat (0 : Int)).toNat dz35).2.2.2.2.2.2.2.1 = (0 : Int))) [(0, .slice a0 x0.length c0), (94, .bool (!decide ((x0.getD (x2.getD s78v.toNat (0 : Int)).toNat dz35).2.2.2.2.2.2.2.1 = (0 : Int))))] rfl rfl rfl rfl (beq_no' (ndec_no hk104v)) (.o rfl (by decide) (.w 16 rfl rfl rfl .nil)) rfl) All.nil)) (All.cons (fun γ => (All.cons (QOb.no (b := !decide ((x0.getD (x2.getD s78v.toNat (0 : Int)).toNat dz35).2.2.2.2.2.2.2.1 = (0 : Int))) [(11, .int .i64 (x2.getD s5v.2.2.2.toNat (0 : Int))), (94, .bool (!decide ((x0.getD (x2.getD s78v.toNat (0 : Int)).toNat dz35).2.2.2.2.2.2.2.1 = (0 : Int))))] rfl rfl rfl rfl (beq_no' (ndec_no hk104v)) (.o rfl (by decide) (.w 16 rfl rfl rfl .nil)) rfl) All.nil)) (All.cons (fun γ => (All.cons (QOb.no (b := !decide ((x0.getD (x2.getD s78v.toNat (0 : Int)).toNat dz35).2.2.2.2.2.2.2.1 = (0 : Int))) [(94, .bool (!decide ((x0.getD (x2.getD s78v.toNat (0 : Int)).toNat dz35).2.2.2.2.2.2.2.1 = (0 : Int)))), (100, undef), (101, undef)] rfl rfl rfl rfl (beq_no' (ndec_no hk104v)) (.w 16 rfl rfl rfl (.w 22 rfl rfl rfl (.w 23 rfl rfl rfl .nil))) rfl) All.nil)) (All.cons (fun γ => (All.cons (QOb.no (b := !decide ((x0.getD (x2.getD s78v.toNat (0 : Int)).toNat dz35).2.2.2.2.2.2.2.1 = (0 : Int))) [(94, .bool (!decide ((x0.getD (x2.getD s78v.toNat (0 : Int)).toNat dz35).2.2.2.2.2.2.2.1 = (0 : Int)))), (102, undef)] rfl rfl rfl rfl (beq_no' (ndec_no hk104v)) (.w 16 rfl rfl rfl (.w 24 rfl rfl rfl .nil)) rfl) All.nil)) (All.cons (fun γ => (All.cons (QOb.no (b := !decide ((x0.getD (x2.getD s78v.toNat (0 : Int)).toNat dz35).2.2.2.2.2.2.2.1 = (0 : Int))) [(94, .bool (!decide ((x0.getD (x2.getD s78v.toNat (0 : Int)).toNat dz35).2.2.2.2.2.2.2.1 = (0 : Int)))), (103, undef)] rfl rfl rfl rfl (beq_no' (ndec_no hk104v)) (.w 16 rfl rfl rfl (.w 25 rfl rfl rfl .nil)) rfl) All.nil)) (All.cons (fun γ => (All.cons (QOb.no (b := !decide ((x0.getD (x2.getD s78v.toNat (0 : Int)).toNat dz35).2.2.2.2.2.2.2.1 = (0 : Int))) [(94, .bool (!decide ((x0.getD (x2.getD s78v.toNat (0 : Int)).toNat dz35).2.2.2.2.2.2.2.1 = (0 : Int)))), (99, undef), (104, undef)] rfl rfl rfl rfl (beq_no' (ndec_no hk104v)) (.w 16 rfl rfl rfl (.w 21 rfl rfl rfl (.w 26 rfl rfl rfl .nil))) rfl) All.nil)) (All.cons (fun γ => (All.cons (QOb.plain [(94, .bool (!decide ((x0.getD (x2.getD s78v.toNat (0 : Int)).toNat dz35).2.2.2.2.2.2.2.1 = (0 : Int)))), (105, undef)] rfl rfl (.w 16 rfl rfl rfl (.w 27 rfl rfl rfl .nil)) (q_pick rfl rfl rfl rfl (bif_no (ndec_no hk104v) _ _)) rfl) All.nil)) All.nil)))))))))))))))))))))))))))))
 exact All.nil
 intro g130v
 exact nrm_cut (s := false) () ⟨rfl, rfl, rfl, rfl, rfl, rfl, rfl, rfl, rfl, rfl, trivial⟩ (.sel' 0 rfl (RowV.mk hl94v) (.sel 0 rfl (.nil _)))
 refine sim_ask (fun hi105v => ?_)
 obtain ⟨b106v, b106vo, r109v, ha107v, hV110v, hlr111v, hcell112v⟩ := RdV.pos h0 (Up.refl _) rfl (i := (x2.getD s78v.toNat (0 : Int)).toNat) (by omega) dz35
 obtain rfl := hV110v
 refine sim_ask (fun hi113v => ?_)
 obtain ⟨b114v, b114vo, r117v, ha115v, hV118v, hlr119v, hcell120v⟩ := RdV.pos h0 (Up.refl _) rfl (i := (x2.getD s5v.2.2.2.toNat (0 : Int)).toNat) (by omega) dz35
 obtain rfl := hV118v
 refine sim_draw (Γ := Unit) () [[], [0], [0, 1], [0, 1, 2], [0, 1, 2], [0, 1, 2, 4], [0, 1, 2, 3, 4, 5], [0, 1, 2, 3, 4, 5, 6], [0, 1, 2, 3, 4, 5, 6, 7], [0, 1, 2, 3, 4, 5, 6, 7, 8], [0, 1, 2, 3, 4, 5, 6, 7, 8], [0, 1, 2, 3, 4, 5, 6, 7, 8, 9, 10], [0, 1, 2, 3, 4, 5, 6, 7, 8, 9, 10, 11], [0, 1, 2, 3, 4, 5, 6, 7, 8, 9, 10, 11, 12], [0, 1, 2, 3, 4, 5, 6, 7, 8, 9, 10, 11, 12, 13], [0, 1, 2, 3, 4, 5, 6, 7, 8, 9, 10, 11, 12, 13, 14], [0, 1, 2, 3, 4, 5, 6, 7, 8, 9, 10, 11, 12, 13, 14, 15], [0, 1, 2, 3, 4, 5, 6, 7, 8, 9, 10, 11, 12, 13, 14, 15, 16], [0, 1, 2, 3, 4, 5, 6, 7, 8, 9, 10, 11, 12, 13, 14, 15, 16], [0, 1, 2, 3, 4, 5, 6, 7, 8, 9, 10, 11, 12, 13, 14, 15, 16, 17, 18], [0, 1, 2, 3, 4, 5, 6, 7, 8, 9, 10, 11, 12, 13, 14, 15, 16, 17, 18, 19], [0, 1, 2, 3, 4, 5, 6, 7, 8, 9, 10, 11, 12, 13, 14, 15, 16, 17, 18, 19, 20], [0, 1, 2, 3, 4, 5, 6, 7, 8, 9, 10, 11, 12, 13, 14, 15, 16], [0, 1, 2, 3, 4, 5, 6, 7, 8, 9, 10, 11, 12, 13, 14, 15, 16], [0, 1, 2, 3, 4, 5, 6, 7, 8, 9, 10, 11, 12, 13, 14, 15, 16, 22, 23], [0, 1, 2, 3, 4, 5, 6, 7, 8, 9, 10, 11, 12, 13, 14, 15, 16, 22, 23, 24], [0, 1, 2, 3, 4, 5, 6, 7, 8, 9, 10, 11, 12, 13, 14, 15, 16, 22, 23, 24, 25], [0, 1, 2, 3, 4, 5, 6, 7, 8, 9, 10, 11, 12, 13, 14, 15, 16, 17, 18, 19, 20, 21, 22, 23, 24, 25, 26], [0, 1, 2, 3, 4, 5, 6, 7, 8, 9, 10, 11, 12, 13, 14, 15, 16, 17, 18, 19, 20, 21, 22, 23, 24, 25, 26, 27]] [] [0, 1, 2, 3, 4, 5, 6, 7, 8, 9, 10, 11, 12, 13, 14, 15, 16, 17, 18, 19, 20, 21, 22, 23, 24, 25, 26, 27, 28] (fun i => [[0], [0], [0], [0], [0], [0], [0], [0], [0], [0], [0], [0], [0], [0], [0], [0], [0], [0], [0], [0], [0], [0], [0], [0], [0], [0], [0], [0], [0]].getD i []) (fun i => [[], [], [], [], [], [], [], [], [], [], [], [], [], [], [], [], [], [], [], [], [], [], [], [], [], [], [], [], []].getD i []) (fun γ i => [.int .i64 (x2.getD s78v.toNat (0 : Int)), .bool (decide ((0 : Int) ≤ (x2.getD s78v.toNat (0 : Int)))), .bool (decide ((0 : Int) ≤ (x2.getD s78v.toNat (0 : Int)))), cv ((decide ((0 : Int) ≤ (x2.getD s78v.toNat (0 : Int)))) == true) (.int .i64 (x2.getD s78v.toNat (0 : Int))), cv ((decide ((0 : Int) ≤ (x2.getD s78v.toNat (0 : Int)))) == true) (.slice a0 x0.length c0), cv ((decide ((0 : Int) ≤ (x2.getD s78v.toNat (0 : Int)))) == true) (.int .i64 (x0.length : Int)), cv ((decide ((0 : Int) ≤ (x2.getD s78v.toNat (0 : Int)))) == true) (.bool (decide ((x2.getD s78v.toNat (0 : Int)) < (x0.length : Int)))), .bool ((decide ((0 : Int) ≤ (x2.getD s78v.toNat (0 : Int)))) && (decide ((x2.getD s78v.toNat (0 : Int)) < (x0.length : Int)))), .bool ((decide ((0 : Int) ≤ (x2.getD s78v.toNat (0 : Int)))) && (decide ((x2.getD s78v.toNat (0 : Int)) < (x0.length : Int)))), .slice a0 x0.length c0, .int .i64 (x2.getD s78v.toNat (0 : Int)), .pointer (some ⟨b97v, b97vo + (x2.getD s78v.toNat (0 : Int)).toNat * 10, none⟩), .pointer (some ⟨b97v, b97vo + (x2.getD s78v.toNat (0 : Int)).toNat * 10 + 7, none⟩), .int .i64 ((x0.getD (x2.getD s78v.toNat (0 : Int)).toNat dz35).2.2.2.2.2.2.2.1), .bool (!decide ((x0.getD (x2.getD s78v.toNat (0 : Int)).toNat dz35).2.2.2.2.2.2.2.1 = (0 : Int))), .bool (!decide ((x0.getD (x2.getD s78v.toNat (0 : Int)).toNat dz35).2.2.2.2.2.2.2.1 = (0 : Int))), .bool (!decide ((x0.getD (x2.getD s78v.toNat (0 : Int)).toNat dz35).2.2.2.2.2.2.2.1 = (0 : Int))), .slice a0 x0.length c0, .int .i64 (x2.getD s78v.toNat (0 : Int)), .pointer (some ⟨b106v, b106vo + (x2.getD s78v.toNat (0 : Int)).toNat * 10, none⟩), .pointer (some ⟨b106v, b106vo + (x2.getD s78v.toNat (0 : Int)).toNat * 10 + 7, none⟩), .int .i64 ((x0.getD (x2.getD s78v.toNat (0 : Int)).toNat dz35).2.2.2.2.2.2.2.1), .slice a0 x0.length c0, .int .i64 (x2.getD s5v.2.2.2.toNat (0 : Int)), .pointer (some ⟨b114v, b114vo + (x2.getD s5v.2.2.2.toNat (0 : Int)).toNat * 10, none⟩), .pointer (some ⟨b114v, b114vo + (x2.getD s5v.2.2.2.toNat (0 : Int)).toNat * 10 + 6, none⟩), .int .i64 ((x0.getD (x2.getD s5v.2.2.2.toNat (0 : Int)).toNat dz35).2.2.2.2.2.2.1), .bool (decide ((x0.getD (x2.getD s78v.toNat (0 : Int)).toNat dz35).2.2.2.2.2.2.2.1 < (x0.getD (x2.getD s5v.2.2.2.toNat (0 : Int)).toNat dz35).2.2.2.2.2.2.1)), .bool (decide ((x0.getD (x2.getD s78v.toNat (0 : Int)).toNat dz35).2.2.2.2.2.2.2.1 < (x0.getD (x2.getD s5v.2.2.2.toNat (0 : Int)).toNat dz35).2.2.2.2.2.2.1))].getD i undef) (fun j γ => [[Row 3 1 (some ⟨b1v, 0, none⟩) (s5v.1.set (x2.getD s5v.2.2.2.toNat (0 : Int)).toNat (1 : Int)).length ((x0.length : Int).toNat) rs93v.flatten, F]].getD j []) (fun γ => [(0, .slice a0 x0.length c0), (1, str x1), (2, .slice a2 x2.length c2), (7, .slice (some ⟨b1v, 0, none⟩) ((s5v.1.set (x2.getD s5v.2.2.2.toNat (0 : Int)).toNat (1 : Int)).length) ((x0.length : Int).toNat)), (8, .bool s5v.2.1), (9, str s5v.2.2.1), (10, .int .i64 s5v.2.2.2), (11, .int .i64 (x2.getD s5v.2.2.2.toNat (0 : Int))), (12, .int .i64 s78v), (81, cv ((decide ((0 : Int) ≤ (x2.getD s78v.toNat (0 : Int)))) == true) (.int .i64 (x2.getD s78v.toNat (0 : Int)))), (82, cv ((decide ((0 : Int) ≤ (x2.getD s78v.toNat (0 : Int)))) == true) (.slice a0 x0.length c0)), (83, cv ((decide ((0 : Int) ≤ (x2.getD s78v.toNat (0 : Int)))) == true) (.int .i64 (x0.length : Int))), (84, cv ((decide ((0 : Int) ≤ (x2.getD s78v.toNat (0 : Int)))) == true) (.bool (decide ((x2.getD s78v.toNat (0 : Int)) < (x0.length : Int))))), (87, .slice a0 x0.length c0), (88, .int .i64 (x2.getD s78v.toNat (0 : Int))), (89, .pointer (some ⟨b97v, b97vo + (x2.getD s78v.toNat (0 : Int)).toNat * 10, none⟩)), (90, .pointer (some ⟨b97v, b97vo + (x2.getD s78v.toNat (0 : Int)).toNat * 10 + 7, none⟩)), (91, .int .i64 ((x0.getD (x2.getD s78v.toNat (0 : Int)).toNat dz35).2.2.2.2.2.2.2.1)), (92, .bool (!decide ((x0.getD (x2.getD s78v.toNat (0 : Int)).toNat dz35).2.2.2.2.2.2.2.1 = (0 : Int)))), (95, .slice a0 x0.length c0), (96, .int .i64 (x2.getD s78v.toNat (0 : Int))), (97, .pointer (some ⟨b106v, b106vo + (x2.getD s78v.toNat (0 : Int)).toNat * 10, none⟩)), (98, .pointer (some ⟨b106v, b106vo + (x2.getD s78v.toNat (0 : Int)).toNat * 10 + 7, none⟩)), (99, .int .i64 ((x0.getD (x2.getD s78v.toNat (0 : Int)).toNat dz35).2.2.2.2.2.2.2.1)), (100, .slice a0 x0.length c0), (101, .int .i64 (x2.getD s5v.2.2.2.toNat (0 : Int))), (102, .pointer (some ⟨b114v, b114vo + (x2.getD s5v.2.2.2.toNat (0 : Int)).toNat * 10, none⟩)), (103, .pointer (some ⟨b114v, b114vo + (x2.getD s5v.2.2.2.toNat (0 : Int)).toNat * 10 + 6, none⟩)), (104, .int .i64 ((x0.getD (x2.getD s5v.2.2.2.toNat (0 : Int)).toNat dz35).2.2.2.2.2.2.1)), (105, .bool (decide ((x0.getD (x2.getD s78v.toNat (0 : Int)).toNat dz35).2.2.2.2.2.2.2.1 < (x0.getD (x2.getD s5v.2.2.2.toNat (0 : Int)).toNat dz35).2.2.2.2.2.2.1))), (106, .bool (decide ((x0.getD (x2.getD s78v.toNat (0 : Int)).toNat dz35).2.2.2.2.2.2.2.1 < (x0.getD (x2.getD s5v.2.2.2.toNat (0 : Int)).toNat dz35).2.2.2.2.2.2.1)))]) mixed (by decide) (by decide) (by decide) (by decide) (by decide) (by decide) (by decide) 170 rfl (by decide) (by decide) (by decide) (Ent.refl _) ?_ ?_ (fun _ => ⟨rfl, rfl, rfl, rfl, rfl, rfl, rfl, rfl, rfl, rfl, rfl, rfl, rfl, rfl, rfl, rfl, rfl, rfl, rfl, rfl, rfl, rfl, rfl, rfl, rfl, rfl, rfl, rfl, rfl, rfl, rfl, trivial⟩) ?_
 exact (All.cons (fun γ => (All.cons (QOb.plain [(13, .int .i64 (x2.getD s78v.toNat (0 : Int)))] rfl rfl (.o rfl (by decide) .nil) (q_move rfl rfl) rfl) All.nil)) (All.cons (fun γ => (All.cons (QOb.plain [(78, .int .i64 (x2.getD s78v.toNat (0 : Int)))] rfl rfl (.w 0 rfl rfl rfl .nil) (q_geq rfl rfl rfl) rfl) All.nil)) (All.cons (fun γ => (All.cons (QOb.plain [(79, .bool (decide ((0 : Int) ≤ (x2.getD s78v.toNat (0 : Int)))))] rfl rfl (.w 1 rfl rfl rfl .nil) (q_move rfl rfl) rfl) All.nil)) (All.cons (fun γ => (All.cons (QOb.grd (b := decide ((0 : Int) ≤ (x2.getD s78v.toNat (0 : Int)))) [(13, .int .i64 (x2.getD s78v.toNat (0 : Int))), (80, .bool (decide ((0 : Int) ≤ (x2.getD s78v.toNat (0 : Int)))))] rfl rfl rfl rfl (.o rfl (by decide) (.w 2 rfl rfl rfl .nil)) (fun hb121v => RQ.sub (E' := [(13, .int .i64 (x2.getD s78v.toNat (0 : Int)))]) ⟨rfl, trivial⟩ (q_move rfl rfl)) rfl) All.nil)) (All.cons (fun γ => (All.cons (QOb.grd (b := decide ((0 : Int) ≤ (x2.getD s78v.toNat (0 : Int)))) [(0, .slice a0 x0.length c0), (80, .bool (decide ((0 : Int) ≤ (x2.getD s78v.toNat (0 : Int)))))] rfl rfl rfl rfl (.o rfl (by decide) (.w 2 rfl rfl rfl .nil)) (fun hb122v => RQ.sub (E' := [(0, .slice a0 x0.length c0)]) ⟨rfl, trivial⟩ (q_move rfl rfl)) rfl) All.nil)) (All.cons (fun γ => (All.cons (QOb.grd (b := decide ((0 : Int) ≤ (x2.getD s78v.toNat (0 : Int)))) [(80, .bool (decide ((0 : Int) ≤ (x2.getD s78v.toNat (0 : Int))))), (82, cv ((decide ((0 : Int) ≤ (x2.getD s78v.toNat (0 : Int)))) == true) (.slice a0 x0.length c0))] rfl rfl rfl rfl (.w 2 rfl rfl rfl (.w 4 rfl rfl rfl .nil)) (fun hb123v => RQ.sub (E' := [(82, .slice a0 x0.length c0)]) ⟨lk_cv rfl hb123v, trivial⟩ (q_len rfl rfl rfl Try.underlying22)) rfl) All.nil)) (All.cons (fun γ => (All.cons (QOb.grd (b := decide ((0 : Int) ≤ (x2.getD s78v.toNat (0 : Int)))) [(80, .bool (decide ((0 : Int) ≤ (x2.getD s78v.toNat (0 : Int))))), (81, cv ((decide ((0 : Int) ≤ (x2.getD s78v.toNat (0 : Int)))) == true) (.int .i64 (x2.getD s78v.toNat (0 : Int)))), (83, cv ((decide ((0 : Int) ≤ (x2.getD s78v.toNat (0 : Int)))) == true) (.int .i64 (x0.length : Int)))] rfl rfl rfl rfl (.w 2 rfl rfl rfl (.w 3 rfl rfl rfl (.w 5 rfl rfl rfl .nil))) (fun hb124v => RQ.sub (E' := [(81, .int .i64 (x2.getD s78v.toNat (0 : Int))), (83, .int .i64 (x0.length : Int))]) ⟨lk_cv rfl hb124v, lk_cv rfl hb124v, trivial⟩ (q_lss rfl rfl rfl)) rfl) All.nil)) (All.cons (fun γ => (All.cons (QOb.plain [(80, .bool (decide ((0 : Int) ≤ (x2.getD s78v.toNat (0 : Int))))), (84, cv ((decide ((0 : Int) ≤ (x2.getD s78v.toNat (0 : Int)))) == true) (.bool (decide ((x2.getD s78v.toNat (0 : Int)) < (x0.length : Int)))))] rfl rfl (.w 2 rfl rfl rfl (.w 6 rfl rfl rfl .nil)) (q_and rfl rfl rfl) rfl) All.nil)) (All.cons (fun γ => (All.cons (QOb.plain [(85, .bool ((decide ((0 : Int) ≤ (x2.getD s78v.toNat (0 : Int)))) && (decide ((x2.getD s78v.toNat (0 : Int)) < (x0.length : Int)))))] rfl rfl (.w 7 rfl rfl rfl .nil) (q_move rfl rfl) rfl) All.nil)) (All.cons (fun γ => (All.cons (QOb.yes (b := (decide ((0 : Int) ≤ (x2.getD s78v.toNat (0 : Int)))) && (decide ((x2.getD s78v.toNat (0 : Int)) < (x0.length : Int)))) [(0, .slice a0 x0.length c0), (86, .bool ((decide ((0 : Int) ≤ (x2.getD s78v.toNat (0 : Int)))) && (decide ((x2.getD s78v.toNat (0 : Int)) < (x0.length : Int)))))] rfl rfl rfl rfl (beq_yes hk95v) (.o rfl (by decide) (.w 8 rfl rfl rfl .nil)) (q_move rfl rfl) rfl) All.nil)) (All.cons (fun γ => (All.cons (QOb.yes (b := (decide ((0 : Int) ≤ (x2.getD s78v.toNat (0 : Int)))) && (decide ((x2.getD s78v.toNat (0 : Int)) < (x0.length : Int)))) [(13, .int .i64 (x2.getD s78v.toNat (0 : Int))), (86, .bool ((decide ((0 : Int) ≤ (x2.getD s78v.toNat (0 : Int)))) && (decide ((x2.getD s78v.toNat (0 : Int)) < (x0.length : Int)))))] rfl rfl rfl rfl (beq_yes hk95v) (.o rfl (by decide) (.w 8 rfl rfl rfl .nil)) (q_move rfl rfl) rfl) All.nil)) (All.cons (fun γ => (All.cons (QOb.yes (b := (decide ((0 : Int) ≤ (x2.getD s78v.toNat (0 : Int)))) && (decide ((x2.getD s78v.toNat (0 : Int)) < (x0.length : Int)))) [(86, .bool ((decide ((0 : Int) ≤ (x2.getD s78v.toNat (0 : Int)))) && (decide ((x2.getD s78v.toNat (0 : Int)) < (x0.length : Int))))), (87, .slice a0 x0.length c0), (88, .int .i64 (x2.getD s78v.toNat (0 : Int)))] rfl rfl rfl rfl (beq_yes hk95v) (.w 8 rfl rfl rfl (.w 9 rfl rfl rfl (.w 10 rfl rfl rfl .nil))) (q_idx rfl rfl rfl ha98v Try.underlying22 Try.sizeOf35 hi96v.1 hi96v.2) rfl) All.nil)) (All.cons (fun γ => (All.cons (QOb.yes (b := (decide ((0 : Int) ≤ (x2.getD s78v.toNat (0 : Int)))) && (decide ((x2.getD s78v.toNat (0 : Int)) < (x0.length : Int)))) [(86, .bool ((decide ((0 : Int) ≤ (x2.getD s78v.toNat (0 : Int)))) && (decide ((x2.getD s78v.toNat (0 : Int)) < (x0.length : Int))))), (89, .pointer (some ⟨b97v, b97vo + (x2.getD s78v.toNat (0 : Int)).toNat * 10, none⟩))] rfl rfl rfl rfl (beq_yes hk95v) (.w 8 rfl rfl rfl (.w 11 rfl rfl rfl .nil)) (q_fa rfl rfl Try.underlying35 rfl rfl Try.sizeOf3 rfl) rfl) All.nil)) (All.cons (fun γ => (All.cons (QOb.yes (b := (decide ((0 : Int) ≤ (x2.getD s78v.toNat (0 : Int)))) && (decide ((x2.getD s78v.toNat (0 : Int)) < (x0.length : Int)))) [(86, .bool ((decide ((0 : Int) ≤ (x2.getD s78v.toNat (0 : Int)))) && (decide ((x2.getD s78v.toNat (0 : Int)) < (x0.length : Int))))), (90, .pointer (some ⟨b97v, b97vo + (x2.getD s78v.toNat (0 : Int)).toNat * 10 + 7, none⟩))] rfl rfl rfl rfl (beq_yes hk95v) (.w 8 rfl rfl rfl (.w 12 rfl rfl rfl .nil)) (q_load rfl rfl Try.isAgg3 (hcell103v 1 rfl 7 _ rfl)) rfl) All.nil)) (All.cons (fun γ => (All.cons (QOb.yes (b := (decide ((0 : Int) ≤ (x2.getD s78v.toNat (0 : Int)))) && (decide ((x2.getD s78v.toNat (0 : Int)) < (x0.length : Int)))) [(86, .bool ((decide ((0 : Int) ≤ (x2.getD s78v.toNat (0 : Int)))) && (decide ((x2.getD s78v.toNat (0 : Int)) < (x0.length : Int))))), (91, .int .i64 ((x0.getD (x2.getD s78v.toNat (0 : Int)).toNat dz35).2.2.2.2.2.2.2.1))] rfl rfl rfl rfl (beq_yes hk95v) (.w 8 rfl rfl rfl (.w 13 rfl rfl rfl .nil)) (q_neq rfl rfl rfl) rfl) All.nil)) (All.cons (fun γ => (All.cons (QOb.plain [(86, .bool ((decide ((0 : Int) ≤ (x2.getD s78v.toNat (0 : Int)))) && (decide ((x2.getD s78v.toNat (0 : Int)) < (x0.length : Int))))), (92, .bool (!decide ((x0.getD (x2.getD s78v.toNat (0 : Int)).toNat dz35).2.2.2.2.2.2.2.1 = (0 : Int))))] rfl rfl (.w 8 rfl rfl rfl (.w 14 rfl rfl rfl .nil)) (q_pick rfl rfl rfl rfl (bif_yes hk95v _ _)) rfl) All.nil)) (All.cons (fun γ => (All.cons (QOb.plain [(93, .bool (!decide ((x0.getD (x2.getD s78v.toNat (0 : Int)).toNat dz35).2.2.2.2.2.2.2.1 = (0 : Int))))] rfl rfl (.w 15 rfl rfl rfl .nil) (q_move rfl rfl) rfl) All.nil)) (All.cons (fun γ => (All.cons (QOb.yes (b := !decide ((x0.getD (x2.getD s78v.toNat (0 : Int)).toNat dz35).2.2.2.2.2.2.2.1 = (0 : Int))) [(0, .slice a0 x0.length c0), (94, .bool (!decide ((x0.getD (x2.getD s78v.toNat (0 : Int)).toNat dz35).2.2.2.2.2.2.2.1 = (0 : Int))))] rfl rfl rfl rfl (beq_yes (ndec_yes hk104v)) (.o rfl (by decide) (.w 16 rfl rfl rfl .nil)) (q_move rfl rfl) rfl) All.nil)) (All.cons (fun γ => (All.cons (QOb.yes (b := !decide ((x0.getD (x2.getD s78v.toNat (0 : Int)).toNat dz35).2.2.2.2.2.2.2.1 = (0 : Int))) [(13, .int .i64 (x2.getD s78v.toNat (0 : Int))), (94, .bool (!decide ((x0.getD (x2.getD s78v.toNat (0 : Int)).toNat dz35).2.2.2.2.2.2.2.1 = (0 : Int))))] rfl rfl rfl rfl (beq_yes (ndec_yes hk104v)) (.o rfl (by decide) (.w 16 rfl rfl rfl .nil)) (q_move rfl rfl) rfl) All.nil)) (All.cons (fun γ => (All.cons (QOb.yes (b := !decide ((x0.getD (x2.getD s78v.toNat (0 : Int)).toNat dz35).2.2.2.2.2.2.2.1 = (0 : Int))) [(94, .bool (!decide ((x0.getD (x2.getD s78v.toNat (0 : Int)).toNat dz35).2.2.2.2.2.2.2.1 = (0 : Int)))), (95, .slice a0 x0.length c0), (96, .int .i64 (x2.getD s78v.toNat (0 : Int)))] rfl rfl rfl rfl (beq_yes (ndec_yes hk104v)) (.w 16 rfl rfl rfl (.w 17 rfl rfl rfl (.w 18 rfl rfl rfl .nil))) (q_idx rfl rfl rfl ha107v Try.underlying22 Try.sizeOf35 hi105v.1 hi105v.2) rfl) All.nil)) (All.cons (fun γ => (All.cons (QOb.yes (b := !decide ((x0.getD (x2.getD s78v.toNat (0 : Int)).toNat dz35).2.2.2.2.2.2.2.1 = (0 : Int))) [(94, .bool (!decide ((x0.getD (x2.getD s78v.toNat (0 : Int)).toNat dz35).2.2.2.2.2.2.2.1 = (0 : Int)))), (97, .pointer (some ⟨b106v, b106vo + (x2.getD s78v.toNat (0 : Int)).toNat * 10, none⟩))] rfl rfl rfl rfl (beq_yes (ndec_yes hk104v)) (.w 16 rfl rfl rfl (.w 19 rfl rfl rfl .nil)) (q_fa rfl rfl Try.underlying35 rfl rfl Try.sizeOf3 rfl) rfl) All.nil)) (All.cons (fun γ => (All.cons (QOb.yes (b := !decide ((x0.getD (x2.getD s78v.toNat (0 : Int)).toNat dz35).2.2.2.2.2.2.2.1 = (0 : Int))) [(94, .bool (!decide ((x0.getD (x2.getD s78v.toNat (0 : Int)).toNat dz35).2.2.2.2.2.2.2.1 = (0 : Int)))), (98, .pointer (some ⟨b106v, b106vo + (x2.getD s78v.toNat (0 : Int)).toNat * 10 + 7, none⟩))] rfl rfl rfl rfl (beq_yes (ndec_yes hk104v)) (.w 16 rfl rfl rfl (.w 20 rfl rfl rfl .nil)) (q_load rfl rfl Try.isAgg3 (hcell112v 1 rfl 7 _ rfl)) rfl) All.nil)) (All.cons (fun γ => (All.cons (QOb.yes (b := !decide ((x0.getD (x2.getD s78v.toNat (0 : Int)).toNat dz35).2.2.2.2.2.2.2.1 = (0 : Int))) [(0, .slice a0 x0.length c0), (94, .bool (!decide ((x0.getD (x2.getD s78v.toNat (0 : Int)).toNat dz35).2.2.2.2.2.2.2.1 = (0 : Int))))] rfl rfl rfl rfl (beq_yes (ndec_yes hk104v)) (.o rfl (by decide) (.w 16 rfl rfl rfl .nil)) (q_move rfl rfl) rfl) All.nil)) (All.cons (fun γ => (All.cons (QOb.yes (b := !decide ((x0.getD (x2.getD s78v.toNat (0 : Int)).toNat dz35).2.2.2.2.2.2.2.1 = (0 : Int))) [(11, .int .i64 (x2.getD s5v.2.2.2.toNat (0 : Int))), (94, .bool (!decide ((x0.getD (x2.getD s78v.toNat (0 : Int)).toNat dz35).2.2.2.2.2.2.2.1 = (0 : Int))))] rfl rfl rfl rfl (beq_yes (ndec_yes hk104v)) (.o rfl (by decide) (.w 16 rfl rfl rfl .nil)) (q_move rfl rfl) rfl) All.nil)) (All.cons (fun γ => (All.cons (QOb.yes (b := !decide ((x0.getD (x2.getD s78v.toNat (0 : Int)).toNat dz35).2.2.2.2.2.2.2.1 = (0 : Int))) [(94, .bool (!decide ((x0.getD (x2.getD s78v.toNat (0 : Int)).toNat dz35).2.2.2.2.2.2.2.1 = (0 : Int)))), (100, .slice a0 x0.length c0), (101, .int .i64 (x2.getD s5v.2.2.2.toNat (0 : Int)))] rfl rfl rfl rfl (beq_yes (ndec_yes hk104v)) (.w 16 rfl rfl rfl (.w 22 rfl rfl rfl (.w 23 rfl rfl rfl .nil))) (q_idx rfl rfl rfl ha115v Try.underlying22 Try.sizeOf35 hi113v.1 hi113v.2) rfl) All.nil)) (All.cons (fun γ => (All.cons (QOb.yes (b := !decide ((x0.getD (x2.getD s78v.toNat (0 : Int)).toNat dz35).2.2.2.2.2.2.2.1 = (0 : Int))) [(94, .bool (!decide ((x0.getD (x2.getD s78v.toNat (0 : Int)).toNat dz35).2.2.2.2.2.2.2.1 = (0 : Int)))), (102, .pointer (some ⟨b114v, b114vo + (x2.getD s5v.2.2.2.toNat (0 : Int)).toNat * 10, none⟩))] rfl rfl rfl rfl (beq_yes (ndec_yes hk104v)) (.w 16 rfl rfl rfl (.w 24 rfl rfl rfl .nil)) (q_fa rfl rfl Try.underlying35 rfl rfl Try.sizeOf3 rfl) rfl) All.nil)) (All.cons (fun γ => (All.cons (QOb.yes (b := !decide ((x0.getD (x2.getD s78v.toNat (0 : Int)).toNat dz35).2.2.2.2.2.2.2.1 = (0 : Int))) [(94, .bool (!decide ((x0.getD (x2.getD s78v.toNat (0 : Int)).toNat dz35).2.2.2.2.2.2.2.1 = (0 : Int)))), (103, .pointer (some ⟨b114v, b114vo + (x2.getD s5v.2.2.2.toNat (0 : Int)).toNat * 10 + 6, none⟩))] rfl rfl rfl rfl (beq_yes (ndec_yes hk104v)) (.w 16 rfl rfl rfl (.w 25 rfl rfl rfl .nil)) (q_load rfl rfl Try.isAgg3 (hcell120v 1 rfl 6 _ rfl)) rfl) All.nil)) (All.cons (fun γ => (All.cons (QOb.yes (b := !decide ((x0.getD (x2.getD s78v.toNat (0 : Int)).toNat dz35).2.2.2.2.2.2.2.1 = (0 : Int))) [(94, .bool (!decide ((x0.getD (x2.getD s78v.toNat (0 : Int)).toNat dz35).2.2.2.2.2.2.2.1 = (0 : Int)))), (99, .int .i64 ((x0.getD (x2.getD s78v.toNat (0 : Int)).toNat dz35).2.2.2.2.2.2.2.1)), (104, .int .i64 ((x0.getD (x2.getD s5v.2.2.2.toNat (0 : Int)).toNat dz35).2.2.2.2.2.2.1))] rfl rfl rfl rfl (beq_yes (ndec_yes hk104v)) (.w 16 rfl rfl rfl (.w 21 rfl rfl rfl (.w 26 rfl rfl rfl .nil))) (q_lss rfl rfl rfl) rfl) All.nil)) (All.cons (fun γ => (All.cons (QOb.plain [(94, .bool (!decide ((x0.getD (x2.getD s78v.toNat (0 : Int)).toNat dz35).2.2.2.2.2.2.2.1 = (0 : Int)))), (105, .bool (decide ((x0.getD (x2.getD s78v.toNat (0 : Int)).toNat dz35).2.2.2.2.2.2.2.1 < (x0.getD (x2.getD s5v.2.2.2.toNat (0 : Int)).toNat dz35).2.2.2.2.2.2.1)))] rfl rfl (.w 16 rfl rfl rfl (.w 27 rfl rfl rfl .nil)) (q_pick rfl rfl rfl rfl (bif_yes (ndec_yes hk104v) _ _)) rfl) All.nil)) All.nil)))))))))))))))))))))))))))))
 exact All.nil
 intro g125v
 exact nrm_cut (s := decide ((x0.getD (x2.getD s78v.toNat (0 : Int)).toNat dz35).2.2.2.2.2.2.2.1 < (x0.getD (x2.getD s5v.2.2.2.toNat (0 : Int)).toNat dz35).2.2.2.2.2.2.1)) () ⟨rfl, rfl, rfl, rfl, rfl, rfl, rfl, rfl, rfl, rfl, trivial⟩ (.sel' 0 rfl (RowV.mk hl94v) (.sel 0 rfl (.nil _)))
 refine sim_draw (Γ := Unit) () [[], [0], [0, 1], [0, 1, 2], [0, 1, 2], [0, 1, 2, 4], [0, 1, 2, 3, 4, 5], [0, 1, 2, 3, 4, 5, 6], [0, 1, 2, 3, 4, 5, 6, 7], [0, 1, 2, 3, 4, 5, 6, 7, 8], [0, 1, 2, 3, 4, 5, 6, 7, 8], [0, 1, 2, 3, 4, 5, 6, 7, 8, 9, 10], [0, 1, 2, 3, 4, 5, 6, 7, 8, 9, 10, 11], [0, 1, 2, 3, 4, 5, 6, 7, 8, 9, 10, 11, 12], [0, 1, 2, 3, 4, 5, 6, 7, 8, 9, 10, 11, 12, 13], [0, 1, 2, 3, 4, 5, 6, 7, 8, 9, 10, 11, 12, 13, 14], [0, 1, 2, 3, 4, 5, 6, 7, 8, 9, 10, 11, 12, 13, 14, 15], [0, 1, 2, 3, 4, 5, 6, 7, 8, 9, 10, 11, 12, 13, 14, 15, 16], [0, 1, 2, 3, 4, 5, 6, 7, 8, 9, 10, 11, 12, 13, 14, 15, 16], [0, 1, 2, 3, 4, 5, 6, 7, 8, 9, 10, 11, 12, 13, 14, 15, 16, 17, 18], [0, 1, 2, 3, 4, 5, 6, 7, 8, 9, 10, 11, 12, 13, 14, 15, 16, 17, 18, 19], [0, 1, 2, 3, 4, 5, 6, 7, 8, 9, 10, 11, 12, 13, 14, 15, 16, 17, 18, 19, 20], [0, 1, 2, 3, 4, 5, 6, 7, 8, 9, 10, 11, 12, 13, 14, 15, 16], [0, 1, 2, 3, 4, 5, 6, 7, 8, 9, 10, 11, 12, 13, 14, 15, 16], [0, 1, 2, 3, 4, 5, 6, 7, 8, 9, 10, 11, 12, 13, 14, 15, 16, 22, 23], [0, 1, 2, 3, 4, 5, 6, 7, 8, 9, 10, 11, 12, 13, 14, 15, 16, 22, 23, 24], [0, 1, 2, 3, 4, 5, 6, 7, 8, 9, 10, 11, 12, 13, 14, 15, 16, 22, 23, 24, 25], [0, 1, 2, 3, 4, 5, 6, 7, 8, 9, 10, 11, 12, 13, 14, 15, 16, 17, 18, 19, 20, 21, 22, 23, 24, 25, 26], [0, 1, 2, 3, 4, 5, 6, 7, 8, 9, 10, 11, 12, 13, 14, 15, 16, 17, 18, 19, 20, 21, 22, 23, 24, 25, 26, 27]] [] [0, 1, 2, 3, 4, 5, 6, 7, 8, 9, 10, 11, 12, 13, 14, 15, 16, 17, 18, 19, 20, 21, 22, 23, 24, 25, 26, 27, 28] (fun i => [[0], [0], [0], [0], [0], [0], [0], [0], [0], [0], [0], [0], [0], [0], [0], [0], [0], [0], [0], [0], [0], [0], [0], [0], [0], [0], [0], [0], [0]].getD i []) (fun i => [[], [], [], [], [], [], [], [], [], [], [], [], [], [], [], [], [], [], [], [], [], [], [], [], [], [], [], [], []].getD i []) (fun γ i => [.int .i64 (x2.getD s78v.toNat (0 : Int)), .bool (decide ((0 : Int) ≤ (x2.getD s78v.toNat (0 : Int)))), .bool (decide ((0 : Int) ≤ (x2.getD s78v.toNat (0 : Int)))), cv ((decide ((0 : Int) ≤ (x2.getD s78v.toNat (0 : Int)))) == true) (.int .i64 (x2.getD s78v.toNat (0 : Int))), cv ((decide ((0 : Int) ≤ (x2.getD s78v.toNat (0 : Int)))) == true) (.slice a0 x0.length c0), cv ((decide ((0 : Int) ≤ (x2.getD s78v.toNat (0 : Int)))) == true) (.int .i64 (x0.length : Int)), cv ((decide ((0 : Int) ≤ (x2.getD s78v.toNat (0 : Int)))) == true) (.bool (decide ((x2.getD s78v.toNat (0 : Int)) < (x0.length : Int)))), .bool ((decide ((0 : Int) ≤ (x2.getD s78v.toNat (0 : Int)))) && (decide ((x2.getD s78v.toNat (0 : Int)) < (x0.length : Int)))), .bool ((decide ((0 : Int) ≤ (x2.getD s78v.toNat (0 : Int)))) && (decide ((x2.getD s78v.toNat (0 : Int)) < (x0.length : Int)))), undef, undef, undef, undef, undef, undef, .bool false, .bool false, undef, undef, undef, undef, undef, undef, undef, undef, undef, undef, undef, .bool false].getD i undef) (fun j γ => [[Row 3 1 (some ⟨b1v, 0, none⟩) (s5v.1.set (x2.getD s5v.2.2.2.toNat (0 : Int)).toNat (1 : Int)).length ((x0.length : Int).toNat) rs93v.flatten, F]].getD j []) (fun γ => [(0, .slice a0 x0.length c0), (1, str x1), (2, .slice a2 x2.length c2), (7, .slice (some ⟨b1v, 0, none⟩) ((s5v.1.set (x2.getD s5v.2.2.2.toNat (0 : Int)).toNat (1 : Int)).length) ((x0.length : Int).toNat)), (8, .bool s5v.2.1), (9, str s5v.2.2.1), (10, .int .i64 s5v.2.2.2), (11, .int .i64 (x2.getD s5v.2.2.2.toNat (0 : Int))), (12, .int .i64 s78v), (81, cv ((decide ((0 : Int) ≤ (x2.getD s78v.toNat (0 : Int)))) == true) (.int .i64 (x2.getD s78v.toNat (0 : Int)))), (82, cv ((decide ((0 : Int) ≤ (x2.getD s78v.toNat (0 : Int)))) == true) (.slice a0 x0.length c0)), (83, cv ((decide ((0 : Int) ≤ (x2.getD s78v.toNat (0 : Int)))) == true) (.int .i64 (x0.length : Int))), (84, cv ((decide ((0 : Int) ≤ (x2.getD s78v.toNat (0 : Int)))) == true) (.bool (decide ((x2.getD s78v.toNat (0 : Int)) < (x0.length : Int))))), (87, undef), (88, undef), (89, undef), (90, undef), (91, undef), (92, undef), (95, undef), (96, undef), (97, undef), (98, undef), (99, undef), (100, undef), (101, undef), (102, undef), (103, undef), (104, undef), (105, undef), (106, .bool false)]) mixed (by decide) (by decide) (by decide) (by decide) (by decide) (by decide) (by decide) 170 rfl (by decide) (by decide) (by decide) (Ent.refl _) ?_ ?_ (fun _ => ⟨rfl, rfl, rfl, rfl, rfl, rfl, rfl, rfl, rfl, rfl, rfl, rfl, rfl, rfl, rfl, rfl, rfl, rfl, rfl, rfl, rfl, rfl, rfl, rfl, rfl, rfl, rfl, rfl, rfl, rfl, rfl, trivial⟩) ?_
 exact (All.cons (fun γ => (All.cons (QOb.plain [(13, .int .i64 (x2.getD s78v.toNat (0 : Int)))] rfl rfl (.o rfl (by decide) .nil) (q_move rfl rfl) rfl) All.nil)) (All.cons (fun γ => (All.cons (QOb.plain [(78, .int .i64 (x2.getD s78v.toNat (0 : Int)))] rfl rfl (.w 0 rfl rfl rfl .nil) (q_geq rfl rfl rfl) rfl) All.nil)) (All.cons (fun γ => (All.cons (QOb.plain [(79, .bool (decide ((0 : Int) ≤ (x2.getD s78v.toNat (0 : Int)))))] rfl rfl (.w 1 rfl rfl rfl .nil) (q_move rfl rfl) rfl) All.nil)) (All.cons (fun γ => (All.cons (QOb.grd (b := decide ((0 : Int) ≤ (x2.getD s78v.toNat (0 : Int)))) [(13, .int .i64 (x2.getD s78v.toNat (0 : Int))), (80, .bool (decide ((0 : Int) ≤ (x2.getD s78v.toNat (0 : Int)))))] rfl rfl rfl rfl (.o rfl (by decide) (.w 2 rfl rfl rfl .nil)) (fun hb131v => RQ.sub (E' := [(13, .int .i64 (x2.getD s78v.toNat (0 : Int)))]) ⟨rfl, trivial⟩ (q_move rfl rfl)) rfl) All.nil)) (All.cons (fun γ => (All.cons (QOb.grd (b := decide ((0 : Int) ≤ (x2.getD s78v.toNat (0 : Int)))) [(0, .slice a0 x0.length c0), (80, .bool (decide ((0 : Int) ≤ (x2.getD s78v.toNat (0 : Int)))))] rfl rfl rfl rfl (.o rfl (by decide) (.w 2 rfl rfl rfl .nil)) (fun hb132v => RQ.sub (E' := [(0, .slice a0 x0.length c0)]) ⟨rfl, trivial⟩ (q_move rfl rfl)) rfl) All.nil)) (All.cons (fun γ => (All.cons (QOb.grd (b := decide ((0 : Int) ≤ (x2.getD s78v.toNat (0 : Int)))) [(80, .bool (decide ((0 : Int) ≤ (x2.getD s78v.toNat (0 : Int))))), (82, cv ((decide ((0 : Int) ≤ (x2.getD s78v.toNat (0 : Int)))) == true) (.slice a0 x0.length c0))] rfl rfl rfl rfl (.w 2 rfl rfl rfl (.w 4 rfl rfl rfl .nil)) (fun hb133v => RQ.sub (E' := [(82, .slice a0 x0.length c0)]) ⟨lk_cv rfl hb133v, trivial⟩ (q_len rfl rfl rfl Try.underlying22)) rfl) All.nil)) (All.cons (fun γ => (All.cons (QOb.grd (b := decide ((0 : Int) ≤ (x2.getD s78v.toNat (0 : Int)))) [(80, .bool (decide ((0 : Int) ≤ (x2.getD s78v.toNat (0 : Int))))), (81, cv ((decide ((0 : Int) ≤ (x2.getD s78v.toNat (0 : Int)))) == true) (.int .i64 (x2.getD s78v.toNat (0 : Int)))), (83, cv ((decide ((0 : Int) ≤ (x2.getD s78v.toNat (0 : Int)))) == true) (.int .i64 (x0.length : Int)))] rfl rfl rfl rfl (.w 2 rfl rfl rfl (.w 3 rfl rfl rfl (.w 5 rfl rfl rfl .nil))) (fun hb134v => RQ.sub (E' := [(81, .int .i64 (x2.getD s78v.toNat (0 : Int))), (83, .int .i64 (x0.length : Int))]) ⟨lk_cv rfl hb134v, lk_cv rfl hb134v, trivial⟩ (q_lss rfl rfl rfl)) rfl) All.nil)) (All.cons (fun γ => (All.cons (QOb.plain [(80, .bool (decide ((0 : Int) ≤ (x2.getD s78v.toNat (0 : Int))))), (84, cv ((decide ((0 : Int) ≤ (x2.getD s78v.toNat (0 : Int)))) == true) (.bool (decide ((x2.getD s78v.toNat (0 : Int)) < (x0.length : Int)))))] rfl rfl (.w 2 rfl rfl rfl (.w 6 rfl rfl rfl .nil)) (q_and rfl rfl rfl) rfl) All.nil)) (All.cons (fun γ => (All.cons (QOb.plain [(85, .bool ((decide ((0 : Int) ≤ (x2.getD s78v.toNat (0 : Int)))) && (decide ((x2.getD s78v.toNat (0 : Int)) < (x0.length : Int)))))] rfl rfl (.w 7 rfl rfl rfl .nil) (q_move rfl rfl) rfl) All.nil)) (All.cons (fun γ => (All.cons (QOb.no (b := (decide ((0 : Int) ≤ (x2.getD s78v.toNat (0 : Int)))) && (decide ((x2.getD s78v.toNat (0 : Int)) < (x0.length : Int)))) [(0, .slice a0 x0.length c0), (86, .bool ((decide ((0 : Int) ≤ (x2.getD s78v.toNat (0 : Int)))) && (decide ((x2.getD s78v.toNat (0 : Int)) < (x0.length : Int)))))] rfl rfl rfl rfl (beq_no' (eq_false_of_ne_true hk95v)) (.o rfl (by decide) (.w 8 rfl rfl rfl .nil)) rfl) All.nil)) (All.cons (fun γ => (All.cons (QOb.no (b := (decide ((0 : Int) ≤ (x2.getD s78v.toNat (0 : Int)))) && (decide ((x2.getD s78v.toNat (0 : Int)) < (x0.length : Int)))) [(13, .int .i64 (x2.getD s78v.toNat (0 : Int))), (86, .bool ((decide ((0 : Int) ≤ (x2.getD s78v.toNat (0 : Int)))) && (decide ((x2.getD s78v.toNat (0 : Int)) < (x0.length : Int)))))] rfl rfl rfl rfl (beq_no' (eq_false_of_ne_true hk95v)) (.o rfl (by decide) (.w 8 rfl rfl rfl .nil)) rfl) All.nil)) (All.cons (fun γ => (All.cons (QOb.no (b := (decide ((0 : Int) ≤ (x2.getD s78v.toNat (0 : Int)))) && (decide ((x2.getD s78v.toNat (0 : Int)) < (x0.length : Int)))) [(86, .bool ((decide ((0 : Int) ≤ (x2.getD s78v.toNat (0 : Int)))) && (decide ((x2.getD s78v.toNat (0 : Int)) < (x0.length : Int))))), (87, undef), (88, undef)] rfl rfl rfl rfl (beq_no' (eq_false_of_ne_true hk95v)) (.w 8 rfl rfl rfl (.w 9 rfl rfl rfl (.w 10 rfl rfl rfl .nil))) rfl) All.nil)) (All.cons (fun γ => (All.cons (QOb.no (b := (decide ((0 : Int) ≤ (x2.getD s78v.toNat (0 : Int)))) && (decide ((x2.getD s78v.toNat (0 : Int)) < (x0.length : Int)))) [(86, .bool ((decide ((0 : Int) ≤ (x2.getD s78v.toNat (0 : Int)))) && (decide ((x2.getD s78v.toNat (0 : Int)) < (x0.length : Int))))), (89, undef)] rfl rfl rfl rfl (beq_no' (eq_false_of_ne_true hk95v)) (.w 8 rfl rfl rfl (.w 11 rfl rfl rfl .nil)) rfl) All.nil)) (All.cons (fun γ => (All.cons (QOb.no (b := (decide ((0 : Int) ≤ (x2.getD s78v.toNat (0 : Int)))) && (decide ((x2.getD s78v.toNat (0 : Int)) < (x0.length : Int)))) [(86, .bool ((decide ((0 : Int) ≤ (x2.getD s78v.toNat (0 : Int)))) && (decide ((x2.getD s78v.toNat (0 : Int)) < (x0.length : Int))))), (90, undef)] rfl rfl rfl rfl (beq_no' (eq_false_of_ne_true hk95v)) (.w 8 rfl rfl rfl (.w 12 rfl rfl rfl .nil)) rfl) All.nil)) (All.cons (fun γ => (All.cons (QOb.no (b := (decide ((0 : Int) ≤ (x2.getD s78v.toNat (0 : Int)))) && (decide ((x2.getD s78v.toNat (0 : Int)) < (x0.length : Int)))) [(86, .bool ((decide ((0 : Int) ≤ (x2.getD s78v.toNat (0 : Int)))) && (decide ((x2.getD s78v.toNat (0 : Int)) < (x0.length : Int))))), (91, undef)] rfl rfl rfl rfl (beq_no' (eq_false_of_ne_true hk95v)) (.w 8 rfl rfl rfl (.w 13 rfl rfl rfl .nil)) rfl) All.nil)) (All.cons (fun γ => (All.cons (QOb.plain [(86, .bool ((decide ((0 : Int) ≤ (x2.getD s78v.toNat (0 : Int)))) && (decide ((x2.getD s78v.toNat (0 : Int)) < (x0.length : Int))))), (92, undef)] rfl rfl (.w 8 rfl rfl rfl (.w 14 rfl rfl rfl .nil)) (q_pick rfl rfl rfl rfl (bif_no (eq_false_of_ne_true hk95v) _ _)) rfl) All.nil)) (All.cons (fun γ => (All.cons (QOb.plain [(93, .bool false)] rfl rfl (.w 15 rfl rfl rfl .nil) (q_move rfl rfl) rfl) All.nil)) (All.cons (fun γ => (All.cons (QOb.no (b := false) [(0, .slice a0 x0.length c0), (94, .bool false)] rfl rfl rfl rfl rfl (.o rfl (by decide) (.w 16 rfl rfl rfl .nil)) rfl) All.nil)) (All.cons (fun γ => (All.cons (QOb.no (b := false) [(13, .int .i64 (x2.getD s78v.toNat (0 : Int))), (94, .bool false)] rfl rfl rfl rfl rfl (.o rfl (by decide) (.w 16 rfl rfl rfl .nil)) rfl) All.nil)) (All.cons (fun γ => (All.cons (QOb.no (b := false) [(94, .bool false), (95, undef), (96, undef)] rfl rfl rfl rfl rfl (.w 16 rfl rfl rfl (.w 17 rfl rfl rfl (.w 18 rfl rfl rfl .nil))) rfl) All.nil)) (All.cons (fun γ => (All.cons (QOb.no (b := false) [(94, .bool false), (97, undef)] rfl rfl rfl rfl rfl (.w 16 rfl rfl rfl (.w 19 rfl rfl rfl .nil)) rfl) All.nil)) (All.cons (fun γ => (All.cons (QOb.no (b := false) [(94, .bool false), (98, undef)] rfl rfl rfl rfl rfl (.w 16 rfl rfl rfl (.w 20 rfl rfl rfl .nil)) rfl) All.nil)) (All.cons (fun γ => (All.cons (QOb.no (b := false) [(0, .slice a0 x0.length c0), (94, .bool false)] rfl rfl rfl rfl rfl (.o rfl (by decide) (.w 16 rfl rfl rfl .nil)) rfl) All.nil)) (All.cons (fun γ => (All.cons (QOb.no (b := false) [(11, .int .i64 (x2.getD s5v.2.2.2.toNat (0 : Int))), (94, .bool false)] rfl rfl rfl rfl rfl (.o rfl (by decide) (.w 16 rfl rfl rfl .nil)) rfl) All.nil)) (All.cons (fun γ => (All.cons (QOb.no (b := false) [(94, .bool false), (100, undef), (101, undef)] rfl rfl rfl rfl rfl (.w 16 rfl rfl rfl (.w 22 rfl rfl rfl (.w 23 rfl rfl rfl .nil))) rfl) All.nil)) (All.cons (fun γ => (All.cons (QOb.no (b := false) [(94, .bool false), (102, undef)] rfl rfl rfl rfl rfl (.w 16 rfl rfl rfl (.w 24 rfl rfl rfl .nil)) rfl) All.nil)) (All.cons (fun γ => (All.cons (QOb.no (b := false) [(94, .bool false), (103, undef)] rfl rfl rfl rfl rfl (.w 16 rfl rfl rfl (.w 25 rfl rfl rfl .nil)) rfl) All.nil)) (All.cons (fun γ => (All.cons (QOb.no (b := false) [(94, .bool false), (99, undef), (104, undef)] rfl rfl rfl rfl rfl (.w 16 rfl rfl rfl (.w 21 rfl rfl rfl (.w 26 rfl rfl rfl .nil))) rfl) All.nil)) (All.cons (fun γ => (All.cons (QOb.plain [(94, .bool false), (105, undef)] rfl rfl (.w 16 rfl rfl rfl (.w 27 rfl rfl rfl .nil)) (q_pick rfl rfl rfl rfl rfl) rfl) All.nil)) All.nil)))))))))))))))))))))))))))))
 exact All.nil
 intro g135v
 exact nrm_cut (s := false) () ⟨rfl, rfl, rfl, rfl, rfl, rfl, rfl, rfl, rfl, rfl, trivial⟩ (.sel' 0 rfl (RowV.mk hl94v) (.sel 0 rfl (.nil _)))
 intro s91v y92v
 refine sim_condb rfl (fun h136v => ?_) (fun h137v => ?_)
 refine sim_seq (sim_region ?_)
 refine simL_val (q_asg rfl rfl) rfl rfl rfl (simL_nil (nrm_then (sim_rtn ?_)))
 refine rtn_block ?_
 refine rtn_then ?_
 refine rtn_loop ?_
 refine rtn_block ?_
 refine rtn_cutR ?_
 refine rtn_block ?_
 refine rtn_cutR ?_
 refine rtn_loop ?_
 refine rtn_block ?_
 refine rtn_cutR ?_
 exact rtn_fn () rfl rfl rfl (.sel 1 rfl (.nil _))
 refine sim_skip ?_
 refine nrm_block (nrm_then (sim_region ?_))
 refine simL_val (q_move rfl rfl) rfl rfl rfl ?_
 refine simL_val (q_add rfl rfl rfl) rfl rfl rfl ?_
 refine simL_val (q_asg rfl rfl) rfl rfl rfl (simL_nil ?_)
 exact nrm_again (s := IntKind.i64.wrap (s78v + 1)) () ⟨rfl, rfl, rfl, rfl, rfl, rfl, rfl, rfl, rfl, trivial⟩ (.sel 0 rfl (.sel 0 rfl (.nil _)))
 refine sim_exi ?_
 refine exi_then ?_
 refine exi_loop ?_
 refine exi_here ?_
 exact nrm_cutR (s := ()) () ⟨rfl, rfl, rfl, rfl, rfl, rfl, rfl, rfl, trivial⟩ (.sel 0 rfl (.sel 0 rfl (.nil _)))
 intro s76v y77v
 refine sim_seq (sim_region ?_)
 refine simL_val (q_move rfl rfl) rfl rfl rfl ?_
 refine simL_val (q_move rfl rfl) rfl rfl rfl ?_
 refine simL_val (q_move rfl rfl) rfl rfl rfl ?_
 refine simL_val (q_move rfl rfl) rfl rfl rfl ?_
 refine simL_ask (fun hi138v => ?_)
 obtain ⟨b139v, b139vo, r142v, ha140v, hV143v, hlr144v, hcell145v⟩ := RdV.pos h0 (Up.refl _) rfl (i := (x2.getD s5v.2.2.2.toNat (0 : Int)).toNat) (by omega) dz35
 obtain rfl := hV143v
 refine simL_val (q_idx rfl rfl rfl ha140v Try.underlying22 Try.sizeOf35 hi138v.1 hi138v.2) rfl rfl rfl ?_
 refine simL_val (q_loads rfl rfl Try.isAgg35 Try.sizeOf35 rfl (fun j v hj => hcell145v 1 rfl j v hj)) rfl rfl rfl ?_
 refine simL_bind (fun s146v hs148v => ?_)
 refine simL_eff (re_call (vs := [.bool s5v.2.1, str s5v.2.2.1, .agg #[.int .i64 ((x0.getD (x2.getD s5v.2.2.2.toNat (0 : Int)).toNat dz35).1), .int .i64 ((x0.getD (x2.getD s5v.2.2.2.toNat (0 : Int)).toNat dz35).2.1), .int .i64 ((x0.getD (x2.getD s5v.2.2.2.toNat (0 : Int)).toNat dz35).2.2.1), str ((x0.getD (x2.getD s5v.2.2.2.toNat (0 : Int)).toNat dz35).2.2.2.1), str ((x0.getD (x2.getD s5v.2.2.2.toNat (0 : Int)).toNat dz35).2.2.2.2.1), str ((x0.getD (x2.getD s5v.2.2.2.toNat (0 : Int)).toNat dz35).2.2.2.2.2.1), .int .i64 ((x0.getD (x2.getD s5v.2.2.2.toNat (0 : Int)).toNat dz35).2.2.2.2.2.2.1), .int .i64 ((x0.getD (x2.getD s5v.2.2.2.toNat (0 : Int)).toNat dz35).2.2.2.2.2.2.2.1), .int .i64 ((x0.getD (x2.getD s5v.2.2.2.toNat (0 : Int)).toNat dz35).2.2.2.2.2.2.2.2.1), str ((x0.getD (x2.getD s5v.2.2.2.toNat (0 : Int)).toNat dz35).2.2.2.2.2.2.2.2.2)]]) (cap := []) (A := []) (rst := [RowV 3 1 (V3 tt) (some ⟨b1v, 0, none⟩) (s5v.1.set (x2.getD s5v.2.2.2.toNat (0 : Int)).toNat (1 : Int)) ((x0.length : Int).toNat), F]) rfl rfl rfl rfl rfl rfl Try.call26 (.sel 0 rfl (.sel 0 rfl (.nil _))) (lin_Step.calls _ _ s5v.2.1 s5v.2.2.1 ((x0.getD (x2.getD s5v.2.2.2.toNat (0 : Int)).toNat dz35).1) ((x0.getD (x2.getD s5v.2.2.2.toNat (0 : Int)).toNat dz35).2.1) ((x0.getD (x2.getD s5v.2.2.2.toNat (0 : Int)).toNat dz35).2.2.1) ((x0.getD (x2.getD s5v.2.2.2.toNat (0 : Int)).toNat dz35).2.2.2.1) ((x0.getD (x2.getD s5v.2.2.2.toNat (0 : Int)).toNat dz35).2.2.2.2.1) ((x0.getD (x2.getD s5v.2.2.2.toNat (0 : Int)).toNat dz35).2.2.2.2.2.1) ((x0.getD (x2.getD s5v.2.2.2.toNat (0 : Int)).toNat dz35).2.2.2.2.2.2.1) ((x0.getD (x2.getD s5v.2.2.2.toNat (0 : Int)).toNat dz35).2.2.2.2.2.2.2.1) ((x0.getD (x2.getD s5v.2.2.2.toNat (0 : Int)).toNat dz35).2.2.2.2.2.2.2.2.1) ((x0.getD (x2.getD s5v.2.2.2.toNat (0 : Int)).toNat dz35).2.2.2.2.2.2.2.2.2) ) hs148v) rfl rfl rfl ?_
 intro y147v
 refine simL_val (q_move rfl rfl) rfl rfl rfl ?_
 refine simL_val (q_ext rfl rfl rfl) rfl rfl rfl ?_
 refine simL_val (q_ext rfl rfl rfl) rfl rfl rfl ?_
 refine simL_val (q_ext rfl rfl rfl) rfl rfl rfl ?_
 refine simL_eff (re_alloc rfl Try.zeroValue33 rfl) rfl rfl rfl ?_
 intro b149v
 refine simL_val (q_asg rfl rfl) rfl rfl rfl ?_
 refine simL_val (q_asg rfl rfl) rfl rfl rfl ?_
 refine simL_do (re_store 0 rfl rfl rfl Try.sizeOf33 rfl rfl (one_of (by rfl)) rfl rfl) rfl rfl ?_
 intro _
 refine simL_nil (nrm_then (sim_seq ?_))
 refine sim_cut (S := Bool) (Unit) (fun s y => [(0, .slice a0 x0.length c0), (1, str x1), (2, .slice a2 x2.length c2), (7, .slice (some ⟨b1v, 0, none⟩) ((s5v.1.set (x2.getD s5v.2.2.2.toNat (0 : Int)).toNat (1 : Int)).length) ((x0.length : Int).toNat)), (10, .int .i64 s5v.2.2.2), (14, .bool s146v.1), (15, str s146v.2.1), (132, .bool s)]) (fun s y => [RowV 3 1 (V3 tt) (some ⟨b1v, 0, none⟩) (s5v.1.set (x2.getD s5v.2.2.2.toNat (0 : Int)).toNat (1 : Int)) ((x0.length : Int).toNat), F]) ?_ ?_
 refine sim_openV 1 rfl (fun rs152v hl153v => ?_)
 refine sim_ask (fun hi154v => ?_)
 obtain ⟨b155v, b155vo, r158v, ha156v, hV159v, hlr160v, hcell161v⟩ := RdV.pos h0 (Up.refl _) rfl (i := (x2.getD s5v.2.2.2.toNat (0 : Int)).toNat) (by omega) dz35
 obtain rfl := hV159v
 refine sim_if (fun hk162v => ?_) (fun hk162v => ?_)
 refine sim_draw (Γ := Unit) () [[], [], [0, 1], [0, 1, 2], [0, 1, 2, 3], [0, 1, 2, 3, 4], [0, 1, 2, 3, 4, 5], [0, 1, 2, 3, 4, 5, 6], [0, 1, 2, 3, 4, 5, 6], [0, 1, 2, 3, 4, 5, 6], [0, 1, 2, 3, 4, 5, 6, 8, 9], [0, 1, 2, 3, 4, 5, 6, 8, 9, 10], [0, 1, 2, 3, 4, 5, 6, 8, 9, 10, 11], [0, 1, 2, 3, 4, 5, 6, 7, 8, 9, 10, 11, 12], [0, 1, 2, 3, 4, 5, 6, 7, 8, 9, 10, 11, 12, 13]] [] [0, 1, 2, 3, 4, 5, 6, 7, 8, 9, 10, 11, 12, 13, 14] (fun i => [[0], [0], [0], [0], [0], [0], [0], [0], [0], [0], [0], [0], [0], [0], [0]].getD i []) (fun i => [[], [], [], [], [], [], [], [], [], [], [], [], [], [], []].getD i []) (fun γ i => [.slice a0 x0.length c0, .int .i64 (x2.getD s5v.2.2.2.toNat (0 : Int)), .pointer (some ⟨b155v, b155vo + (x2.getD s5v.2.2.2.toNat (0 : Int)).toNat * 10, none⟩), .pointer (some ⟨b155v, b155vo + (x2.getD s5v.2.2.2.toNat (0 : Int)).toNat * 10 + 7, none⟩), .int .i64 ((x0.getD (x2.getD s5v.2.2.2.toNat (0 : Int)).toNat dz35).2.2.2.2.2.2.2.1), .bool (!decide ((x0.getD (x2.getD s5v.2.2.2.toNat (0 : Int)).toNat dz35).2.2.2.2.2.2.2.1 = (0 : Int))), .bool (!decide ((x0.getD (x2.getD s5v.2.2.2.toNat (0 : Int)).toNat dz35).2.2.2.2.2.2.2.1 = (0 : Int))), undef, undef, undef, undef, undef, undef, undef, .bool false].getD i undef) (fun j γ => [[obj b149v 33 [.int .i64 s146v.2.2.1, str s146v.2.2.2], Row 3 1 (some ⟨b1v, 0, none⟩) (s5v.1.set (x2.getD s5v.2.2.2.toNat (0 : Int)).toNat (1 : Int)).length ((x0.length : Int).toNat) rs152v.flatten, F]].getD j []) (fun γ => [(0, .slice a0 x0.length c0), (1, str x1), (2, .slice a2 x2.length c2), (7, .slice (some ⟨b1v, 0, none⟩) ((s5v.1.set (x2.getD s5v.2.2.2.toNat (0 : Int)).toNat (1 : Int)).length) ((x0.length : Int).toNat)), (10, .int .i64 s5v.2.2.2), (14, .bool s146v.1), (15, str s146v.2.1), (125, undef), (126, undef), (127, undef), (128, undef), (129, undef), (130, undef), (131, undef), (132, .bool false)]) mixed (by decide) (by decide) (by decide) (by decide) (by decide) (by decide) (by decide) 170 rfl (by decide) (by decide) (by decide) (Ent.refl _) ?_ ?_ (fun _ => ⟨rfl, rfl, rfl, rfl, rfl, rfl, rfl, rfl, rfl, rfl, rfl, rfl, rfl, rfl, rfl, trivial⟩) ?_
 exact (All.cons (fun γ => (All.cons (QOb.plain [(0, .slice a0 x0.length c0)] rfl rfl (.o rfl (by decide) .nil) (q_move rfl rfl) rfl) All.nil)) (All.cons (fun γ => (All.cons (QOb.plain [(11, .int .i64 (x2.getD s5v.2.2.2.toNat (0 : Int)))] rfl rfl (.o rfl (by decide) .nil) (q_move rfl rfl) rfl) All.nil)) (All.cons (fun γ => (All.cons (QOb.plain [(118, .slice a0 x0.length c0), (119, .int .i64 (x2.getD s5v.2.2.2.toNat (0 : Int)))] rfl rfl (.w 0 rfl rfl rfl (.w 1 rfl rfl rfl .nil)) (q_idx rfl rfl rfl ha156v Try.underlying22 Try.sizeOf35 hi154v.1 hi154v.2) rfl) All.nil)) (All.cons (fun γ => (All.cons (QOb.plain [(120, .pointer (some ⟨b155v, b155vo + (x2.getD s5v.2.2.2.toNat (0 : Int)).toNat * 10, none⟩))] rfl rfl (.w 2 rfl rfl rfl .nil) (q_fa rfl rfl Try.underlying35 rfl rfl Try.sizeOf3 rfl) rfl) All.nil)) (All.cons (fun γ => (All.cons (QOb.plain [(121, .pointer (some ⟨b155v, b155vo + (x2.getD s5v.2.2.2.toNat (0 : Int)).toNat * 10 + 7, none⟩))] rfl rfl (.w 3 rfl rfl rfl .nil) (q_load rfl rfl Try.isAgg3 (hcell161v 2 rfl 7 _ rfl)) rfl) All.nil)) (All.cons (fun γ => (All.cons (QOb.plain [(122, .int .i64 ((x0.getD (x2.getD s5v.2.2.2.toNat (0 : Int)).toNat dz35).2.2.2.2.2.2.2.1))] rfl rfl (.w 4 rfl rfl rfl .nil) (q_neq rfl rfl rfl) rfl) All.nil)) (All.cons (fun γ => (All.cons (QOb.plain [(123, .bool (!decide ((x0.getD (x2.getD s5v.2.2.2.toNat (0 : Int)).toNat dz35).2.2.2.2.2.2.2.1 = (0 : Int))))] rfl rfl (.w 5 rfl rfl rfl .nil) (q_move rfl rfl) rfl) All.nil)) (All.cons (fun γ => (All.cons (QOb.no (b := !decide ((x0.getD (x2.getD s5v.2.2.2.toNat (0 : Int)).toNat dz35).2.2.2.2.2.2.2.1 = (0 : Int))) [(16, .pointer (some ⟨b149v, 0, none⟩)), (124, .bool (!decide ((x0.getD (x2.getD s5v.2.2.2.toNat (0 : Int)).toNat dz35).2.2.2.2.2.2.2.1 = (0 : Int))))] rfl rfl rfl rfl (beq_no' (ndec_no hk162v)) (.o rfl (by decide) (.w 6 rfl rfl rfl .nil)) rfl) All.nil)) (All.cons (fun γ => (All.cons (QOb.no (b := !decide ((x0.getD (x2.getD s5v.2.2.2.toNat (0 : Int)).toNat dz35).2.2.2.2.2.2.2.1 = (0 : Int))) [(0, .slice a0 x0.length c0), (124, .bool (!decide ((x0.getD (x2.getD s5v.2.2.2.toNat (0 : Int)).toNat dz35).2.2.2.2.2.2.2.1 = (0 : Int))))] rfl rfl rfl rfl (beq_no' (ndec_no hk162v)) (.o rfl (by decide) (.w 6 rfl rfl rfl .nil)) rfl) All.nil)) (All.cons (fun γ => (All.cons (QOb.no (b := !decide ((x0.getD (x2.getD s5v.2.2.2.toNat (0 : Int)).toNat dz35).2.2.2.2.2.2.2.1 = (0 : Int))) [(11, .int .i64 (x2.getD s5v.2.2.2.toNat (0 : Int))), (124, .bool (!decide ((x0.getD (x2.getD s5v.2.2.2.toNat (0 : Int)).toNat dz35).2.2.2.2.2.2.2.1 = (0 : Int))))] rfl rfl rfl rfl (beq_no' (ndec_no hk162v)) (.o rfl (by decide) (.w 6 rfl rfl rfl .nil)) rfl) All.nil)) (All.cons (fun γ => (All.cons (QOb.no (b := !decide ((x0.getD (x2.getD s5v.2.2.2.toNat (0 : Int)).toNat dz35).2.2.2.2.2.2.2.1 = (0 : Int))) [(124, .bool (!decide ((x0.getD (x2.getD s5v.2.2.2.toNat (0 : Int)).toNat dz35).2.2.2.2.2.2.2.1 = (0 : Int)))), (126, undef), (127, undef)] rfl rfl rfl rfl (beq_no' (ndec_no hk162v)) (.w 6 rfl rfl rfl (.w 8 rfl rfl rfl (.w 9 rfl rfl rfl .nil))) rfl) All.nil)) (All.cons (fun γ => (All.cons (QOb.no (b := !decide ((x0.getD (x2.getD s5v.2.2.2.toNat (0 : Int)).toNat dz35).2.2.2.2.2.2.2.1 = (0 : Int))) [(124, .bool (!decide ((x0.getD (x2.getD s5v.2.2.2.toNat (0 : Int)).toNat dz35).2.2.2.2.2.2.2.1 = (0 : Int)))), (128, undef)] rfl rfl rfl rfl (beq_no' (ndec_no hk162v)) (.w 6 rfl rfl rfl (.w 10 rfl rfl rfl .nil)) rfl) All.nil)) (All.cons (fun γ => (All.cons (QOb.no (b := !decide ((x0.getD (x2.getD s5v.2.2.2.toNat (0 : Int)).toNat dz35).2.2.2.2.2.2.2.1 = (0 : Int))) [(124, .bool (!decide ((x0.getD (x2.getD s5v.2.2.2.toNat (0 : Int)).toNat dz35).2.2.2.2.2.2.2.1 = (0 : Int)))), (129, undef)] rfl rfl rfl rfl (beq_no' (ndec_no hk162v)) (.w 6 rfl rfl rfl (.w 11 rfl rfl rfl .nil)) rfl) All.nil)) (All.cons (fun γ => (All.cons (QOb.no (b := !decide ((x0.getD (x2.getD s5v.2.2.2.toNat (0 : Int)).toNat dz35).2.2.2.2.2.2.2.1 = (0 : Int))) [(124, .bool (!decide ((x0.getD (x2.getD s5v.2.2.2.toNat (0 : Int)).toNat dz35).2.2.2.2.2.2.2.1 = (0 : Int)))), (125, undef), (130, undef)] rfl rfl rfl rfl (beq_no' (ndec_no hk162v)) (.w 6 rfl rfl rfl (.w 7 rfl rfl rfl (.w 12 rfl rfl rfl .nil))) rfl) All.nil)) (All.cons (fun γ => (All.cons (QOb.plain [(124, .bool (!decide ((x0.getD (x2.getD s5v.2.2.2.toNat (0 : Int)).toNat dz35).2.2.2.2.2.2.2.1 = (0 : Int)))), (131, undef)] rfl rfl (.w 6 rfl rfl rfl (.w 13 rfl rfl rfl .nil)) (q_pick rfl rfl rfl rfl (bif_no (ndec_no hk162v) _ _)) rfl) All.nil)) All.nil)))))))))))))))
 exact All.nil
 intro g172v
 exact nrm_cut (s := false) () ⟨rfl, rfl, rfl, rfl, rfl, rfl, rfl, rfl, trivial⟩ (.sel' 1 rfl (RowV.mk hl153v) (.sel 1 rfl (.nil _)))
 refine sim_ask (fun hi163v => ?_)
 obtain ⟨b164v, b164vo, r167v, ha165v, hV168v, hlr169v, hcell170v⟩ := RdV.pos h0 (Up.refl _) rfl (i := (x2.getD s5v.2.2.2.toNat (0 : Int)).toNat) (by omega) dz35
 obtain rfl := hV168v
 refine sim_draw (Γ := Unit) () [[], [], [0, 1], [0, 1, 2], [0, 1, 2, 3], [0, 1, 2, 3, 4], [0, 1, 2, 3, 4, 5], [0, 1, 2, 3, 4, 5, 6], [0, 1, 2, 3, 4, 5, 6], [0, 1, 2, 3, 4, 5, 6], [0, 1, 2, 3, 4, 5, 6, 8, 9], [0, 1, 2, 3, 4, 5, 6, 8, 9, 10], [0, 1, 2, 3, 4, 5, 6, 8, 9, 10, 11], [0, 1, 2, 3, 4, 5, 6, 7, 8, 9, 10, 11, 12], [0, 1, 2, 3, 4, 5, 6, 7, 8, 9, 10, 11, 12, 13]] [] [0, 1, 2, 3, 4, 5, 6, 7, 8, 9, 10, 11, 12, 13, 14] (fun i => [[0], [0], [0], [0], [0], [0], [0], [0], [0], [0], [0], [0], [0], [0], [0]].getD i []) (fun i => [[], [], [], [], [], [], [], [], [], [], [], [], [], [], []].getD i []) (fun γ i => [.slice a0 x0.length c0, .int .i64 (x2.getD s5v.2.2.2.toNat (0 : Int)), .pointer (some ⟨b155v, b155vo + (x2.getD s5v.2.2.2.toNat (0 : Int)).toNat * 10, none⟩), .pointer (some ⟨b155v, b155vo + (x2.getD s5v.2.2.2.toNat (0 : Int)).toNat * 10 + 7, none⟩), .int .i64 ((x0.getD (x2.getD s5v.2.2.2.toNat (0 : Int)).toNat dz35).2.2.2.2.2.2.2.1), .bool (!decide ((x0.getD (x2.getD s5v.2.2.2.toNat (0 : Int)).toNat dz35).2.2.2.2.2.2.2.1 = (0 : Int))), .bool (!decide ((x0.getD (x2.getD s5v.2.2.2.toNat (0 : Int)).toNat dz35).2.2.2.2.2.2.2.1 = (0 : Int))), .agg #[.int .i64 s146v.2.2.1, str s146v.2.2.2], .slice a0 x0.length c0, .int .i64 (x2.getD s5v.2.2.2.toNat (0 : Int)), .pointer (some ⟨b164v, b164vo + (x2.getD s5v.2.2.2.toNat (0 : Int)).toNat * 10, none⟩), .pointer (some ⟨b164v, b164vo + (x2.getD s5v.2.2.2.toNat (0 : Int)).toNat * 10 + 8, none⟩), .agg #[.int .i64 ((x0.getD (x2.getD s5v.2.2.2.toNat (0 : Int)).toNat dz35).2.2.2.2.2.2.2.2.1), str ((x0.getD (x2.getD s5v.2.2.2.toNat (0 : Int)).toNat dz35).2.2.2.2.2.2.2.2.2)], .bool (!(decide (s146v.2.2.1 = (x0.getD (x2.getD s5v.2.2.2.toNat (0 : Int)).toNat dz35).2.2.2.2.2.2.2.2.1) && (decide (s146v.2.2.2 = ((x0.getD (x2.getD s5v.2.2.2.toNat (0 : Int)).toNat dz35).2.2.2.2.2.2.2.2.2))))), .bool (!(decide (s146v.2.2.1 = (x0.getD (x2.getD s5v.2.2.2.toNat (0 : Int)).toNat dz35).2.2.2.2.2.2.2.2.1) && (decide (s146v.2.2.2 = ((x0.getD (x2.getD s5v.2.2.2.toNat (0 : Int)).toNat dz35).2.2.2.2.2.2.2.2.2)))))].getD i undef) (fun j γ => [[obj b149v 33 [.int .i64 s146v.2.2.1, str s146v.2.2.2], Row 3 1 (some ⟨b1v, 0, none⟩) (s5v.1.set (x2.getD s5v.2.2.2.toNat (0 : Int)).toNat (1 : Int)).length ((x0.length : Int).toNat) rs152v.flatten, F]].getD j []) (fun γ => [(0, .slice a0 x0.length c0), (1, str x1), (2, .slice a2 x2.length c2), (7, .slice (some ⟨b1v, 0, none⟩) ((s5v.1.set (x2.getD s5v.2.2.2.toNat (0 : Int)).toNat (1 : Int)).length) ((x0.length : Int).toNat)), (10, .int .i64 s5v.2.2.2), (14, .bool s146v.1), (15, str s146v.2.1), (125, .agg #[.int .i64 s146v.2.2.1, str s146v.2.2.2]), (126, .slice a0 x0.length c0), (127, .int .i64 (x2.getD s5v.2.2.2.toNat (0 : Int))), (128, .pointer (some ⟨b164v, b164vo + (x2.getD s5v.2.2.2.toNat (0 : Int)).toNat * 10, none⟩)), (129, .pointer (some ⟨b164v, b164vo + (x2.getD s5v.2.2.2.toNat (0 : Int)).toNat * 10 + 8, none⟩)), (130, .agg #[.int .i64 ((x0.getD (x2.getD s5v.2.2.2.toNat (0 : Int)).toNat dz35).2.2.2.2.2.2.2.2.1), str ((x0.getD (x2.getD s5v.2.2.2.toNat (0 : Int)).toNat dz35).2.2.2.2.2.2.2.2.2)]), (131, .bool (!(decide (s146v.2.2.1 = (x0.getD (x2.getD s5v.2.2.2.toNat (0 : Int)).toNat dz35).2.2.2.2.2.2.2.2.1) && (decide (s146v.2.2.2 = ((x0.getD (x2.getD s5v.2.2.2.toNat (0 : Int)).toNat dz35).2.2.2.2.2.2.2.2.2)))))), (132, .bool (!(decide (s146v.2.2.1 = (x0.getD (x2.getD s5v.2.2.2.toNat (0 : Int)).toNat dz35).2.2.2.2.2.2.2.2.1) && (decide (s146v.2.2.2 = ((x0.getD (x2.getD s5v.2.2.2.toNat (0 : Int)).toNat dz35).2.2.2.2.2.2.2.2.2))))))]) mixed (by decide) (by decide) (by decide) (by decide) (by decide) (by decide) (by decide) 170 rfl (by decide) (by decide) (by decide) (Ent.refl _) ?_ ?_ (fun _ => ⟨rfl, rfl, rfl, rfl, rfl, rfl, rfl, rfl, rfl, rfl, rfl, rfl, rfl, rfl, rfl, trivial⟩) ?_
 exact (All.cons (fun γ => (All.cons (QOb.plain [(0, .slice a0 x0.length c0)] rfl rfl (.o rfl (by decide) .nil) (q_move rfl rfl) rfl) All.nil)) (All.cons (fun γ => (All.cons (QOb.plain [(11, .int .i64 (x2.getD s5v.2.2.2.toNat (0 : Int)))] rfl rfl (.o rfl (by decide) .nil) (q_move rfl rfl) rfl) All.nil)) (All.cons (fun γ => (All.cons (QOb.plain [(118, .slice a0 x0.length c0), (119, .int .i64 (x2.getD s5v.2.2.2.toNat (0 : Int)))] rfl rfl (.w 0 rfl rfl rfl (.w 1 rfl rfl rfl .nil)) (q_idx rfl rfl rfl ha156v Try.underlying22 Try.sizeOf35 hi154v.1 hi154v.2) rfl) All.nil)) (All.cons (fun γ => (All.cons (QOb.plain [(120, .pointer (some ⟨b155v, b155vo + (x2.getD s5v.2.2.2.toNat (0 : Int)).toNat * 10, none⟩))] rfl rfl (.w 2 rfl rfl rfl .nil) (q_fa rfl rfl Try.underlying35 rfl rfl Try.sizeOf3 rfl) rfl) All.nil)) (All.cons (fun γ => (All.cons (QOb.plain [(121, .pointer (some ⟨b155v, b155vo + (x2.getD s5v.2.2.2.toNat (0 : Int)).toNat * 10 + 7, none⟩))] rfl rfl (.w 3 rfl rfl rfl .nil) (q_load rfl rfl Try.isAgg3 (hcell161v 2 rfl 7 _ rfl)) rfl) All.nil)) (All.cons (fun γ => (All.cons (QOb.plain [(122, .int .i64 ((x0.getD (x2.getD s5v.2.2.2.toNat (0 : Int)).toNat dz35).2.2.2.2.2.2.2.1))] rfl rfl (.w 4 rfl rfl rfl .nil) (q_neq rfl rfl rfl) rfl) All.nil)) (All.cons (fun γ => (All.cons (QOb.plain [(123, .bool (!decide ((x0.getD (x2.getD s5v.2.2.2.toNat (0 : Int)).toNat dz35).2.2.2.2.2.2.2.1 = (0 : Int))))] rfl rfl (.w 5 rfl rfl rfl .nil) (q_move rfl rfl) rfl) All.nil)) (All.cons (fun γ => (All.cons (QOb.yes (b := !decide ((x0.getD (x2.getD s5v.2.2.2.toNat (0 : Int)).toNat dz35).2.2.2.2.2.2.2.1 = (0 : Int))) [(16, .pointer (some ⟨b149v, 0, none⟩)), (124, .bool (!decide ((x0.getD (x2.getD s5v.2.2.2.toNat (0 : Int)).toNat dz35).2.2.2.2.2.2.2.1 = (0 : Int))))] rfl rfl rfl rfl (beq_yes (ndec_yes hk162v)) (.o rfl (by decide) (.w 6 rfl rfl rfl .nil)) (q_loado 0 rfl rfl Try.isAgg33 Try.sizeOf33 rfl rfl) rfl) All.nil)) (All.cons (fun γ => (All.cons (QOb.yes (b := !decide ((x0.getD (x2.getD s5v.2.2.2.toNat (0 : Int)).toNat dz35).2.2.2.2.2.2.2.1 = (0 : Int))) [(0, .slice a0 x0.length c0), (124, .bool (!decide ((x0.getD (x2.getD s5v.2.2.2.toNat (0 : Int)).toNat dz35).2.2.2.2.2.2.2.1 = (0 : Int))))] rfl rfl rfl rfl (beq_yes (ndec_yes hk162v)) (.o rfl (by decide) (.w 6 rfl rfl rfl .nil)) (q_move rfl rfl) rfl) All.nil)) (All.cons (fun γ => (All.cons (QOb.yes (b := !decide ((x0.getD (x2.getD s5v.2.2.2.toNat (0 : Int)).toNat dz35).2.2.2.2.2.2.2.1 = (0 : Int))) [(11, .int .i64 (x2.getD s5v.2.2.2.toNat (0 : Int))), (124, .bool (!decide ((x0.getD (x2.getD s5v.2.2.2.toNat (0 : Int)).toNat dz35).2.2.2.2.2.2.2.1 = (0 : Int))))] rfl rfl rfl rfl (beq_yes (ndec_yes hk162v)) (.o rfl (by decide) (.w 6 rfl rfl rfl .nil)) (q_move rfl rfl) rfl) All.nil)) (All.cons (fun γ => (All.cons (QOb.yes (b := !decide ((x0.getD (x2.getD s5v.2.2.2.toNat (0 : Int)).toNat dz35).2.2.2.2.2.2.2.1 = (0 : Int))) [(124, .bool (!decide ((x0.getD (x2.getD s5v.2.2.2.toNat (0 : Int)).toNat dz35).2.2.2.2.2.2.2.1 = (0 : Int)))), (126, .slice a0 x0.length c0), (127, .int .i64 (x2.getD s5v.2.2.2.toNat (0 : Int)))] rfl rfl rfl rfl (beq_yes (ndec_yes hk162v)) (.w 6 rfl rfl rfl (.w 8 rfl rfl rfl (.w 9 rfl rfl rfl .nil))) (q_idx rfl rfl rfl ha165v Try.underlying22 Try.sizeOf35 hi163v.1 hi163v.2) rfl) All.nil)) (All.cons (fun γ => (All.cons (QOb.yes (b := !decide ((x0.getD (x2.getD s5v.2.2.2.toNat (0 : Int)).toNat dz35).2.2.2.2.2.2.2.1 = (0 : Int))) [(124, .bool (!decide ((x0.getD (x2.getD s5v.2.2.2.toNat (0 : Int)).toNat dz35).2.2.2.2.2.2.2.1 = (0 : Int)))), (128, .pointer (some ⟨b164v, b164vo + (x2.getD s5v.2.2.2.toNat (0 : Int)).toNat * 10, none⟩))] rfl rfl rfl rfl (beq_yes (ndec_yes hk162v)) (.w 6 rfl rfl rfl (.w 10 rfl rfl rfl .nil)) (q_fa rfl rfl Try.underlying35 rfl rfl Try.sizeOf33 rfl) rfl) All.nil)) (All.cons (fun γ => (All.cons (QOb.yes (b := !decide ((x0.getD (x2.getD s5v.2.2.2.toNat (0 : Int)).toNat dz35).2.2.2.2.2.2.2.1 = (0 : Int))) [(124, .bool (!decide ((x0.getD (x2.getD s5v.2.2.2.toNat (0 : Int)).toNat dz35).2.2.2.2.2.2.2.1 = (0 : Int)))), (129, .pointer (some ⟨b164v, b164vo + (x2.getD s5v.2.2.2.toNat (0 : Int)).toNat * 10 + 8, none⟩))] rfl rfl rfl rfl (beq_yes (ndec_yes hk162v)) (.w 6 rfl rfl rfl (.w 11 rfl rfl rfl .nil)) (q_loads (vs := [.int .i64 ((x0.getD (x2.getD s5v.2.2.2.toNat (0 : Int)).toNat dz35).2.2.2.2.2.2.2.2.1), str ((x0.getD (x2.getD s5v.2.2.2.toNat (0 : Int)).toNat dz35).2.2.2.2.2.2.2.2.2)]) rfl rfl Try.isAgg33 Try.sizeOf33 rfl (fun j v hj => cellAt_off (hcell170v 2 rfl (8 + j) v (get_drop 8 hj)))) rfl) All.nil)) (All.cons (fun γ => (All.cons (QOb.yes (b := !decide ((x0.getD (x2.getD s5v.2.2.2.toNat (0 : Int)).toNat dz35).2.2.2.2.2.2.2.1 = (0 : Int))) [(124, .bool (!decide ((x0.getD (x2.getD s5v.2.2.2.toNat (0 : Int)).toNat dz35).2.2.2.2.2.2.2.1 = (0 : Int)))), (125, .agg #[.int .i64 s146v.2.2.1, str s146v.2.2.2]), (130, .agg #[.int .i64 ((x0.getD (x2.getD s5v.2.2.2.toNat (0 : Int)).toNat dz35).2.2.2.2.2.2.2.2.1), str ((x0.getD (x2.getD s5v.2.2.2.toNat (0 : Int)).toNat dz35).2.2.2.2.2.2.2.2.2)])] rfl rfl rfl rfl (beq_yes (ndec_yes hk162v)) (.w 6 rfl rfl rfl (.w 7 rfl rfl rfl (.w 12 rfl rfl rfl .nil))) (q_neagg rfl rfl rfl (by kernel_rfl) (fun d w => eqi_struct Try.underlying33 (by kernel_rfl) (eqf_cons (by rfl) (part_of Try.isAgg3 rfl) (part_of Try.isAgg3 rfl) (eqi_int Try.underlying3) (eqf_last (by rfl) (part_of Try.isAgg9 rfl) (part_of Try.isAgg9 rfl) (eqi_str Try.underlying9))))) rfl) All.nil)) (All.cons (fun γ => (All.cons (QOb.plain [(124, .bool (!decide ((x0.getD (x2.getD s5v.2.2.2.toNat (0 : Int)).toNat dz35).2.2.2.2.2.2.2.1 = (0 : Int)))), (131, .bool (!(decide (s146v.2.2.1 = (x0.getD (x2.getD s5v.2.2.2.toNat (0 : Int)).toNat dz35).2.2.2.2.2.2.2.2.1) && (decide (s146v.2.2.2 = ((x0.getD (x2.getD s5v.2.2.2.toNat (0 : Int)).toNat dz35).2.2.2.2.2.2.2.2.2))))))] rfl rfl (.w 6 rfl rfl rfl (.w 13 rfl rfl rfl .nil)) (q_pick rfl rfl rfl rfl (bif_yes (ndec_yes hk162v) _ _)) rfl) All.nil)) All.nil)))))))))))))))
 exact All.nil
 intro g171v
 exact nrm_cut (s := !(decide (s146v.2.2.1 = (x0.getD (x2.getD s5v.2.2.2.toNat (0 : Int)).toNat dz35).2.2.2.2.2.2.2.2.1) && (decide (s146v.2.2.2 = ((x0.getD (x2.getD s5v.2.2.2.toNat (0 : Int)).toNat dz35).2.2.2.2.2.2.2.2.2))))) () ⟨rfl, rfl, rfl, rfl, rfl, rfl, rfl, rfl, trivial⟩ (.sel' 1 rfl (RowV.mk hl153v) (.sel 1 rfl (.nil _)))
 intro s150v y151v
 refine sim_condb rfl (fun h173v => ?_) (fun h174v => ?_)
 refine sim_seq (sim_region ?_)
 refine simL_val (q_asg rfl rfl) rfl rfl rfl (simL_nil (nrm_then (sim_rtn ?_)))
 refine rtn_then ?_
 refine rtn_block ?_
 refine rtn_cutR ?_
 refine rtn_loop ?_
 refine rtn_block ?_
 refine rtn_cutR ?_
 exact rtn_fn () rfl rfl rfl (.sel 1 rfl (.nil _))
 refine sim_skip ?_
 refine nrm_then (sim_seq (sim_region ?_))
 refine simL_val (q_move rfl rfl) rfl rfl rfl ?_
 refine simL_val (q_asg rfl rfl) rfl rfl rfl (simL_nil (nrm_then (sim_region ?_)))
 refine simL_val (q_move rfl rfl) rfl rfl rfl ?_
 refine simL_val (q_asg rfl rfl) rfl rfl rfl (simL_nil (nrm_block ?_))
 exact nrm_cutR (s := (s146v.1, s146v.2.1)) () ⟨rfl, rfl, rfl, rfl, rfl, rfl, rfl, trivial⟩ (.sel 0 rfl (.sel 0 rfl (.nil _)))
 intro s13v y14v
 refine sim_region ?_
 refine simL_val (q_move rfl rfl) rfl rfl rfl ?_
 refine simL_val (q_add rfl rfl rfl) rfl rfl rfl ?_
 refine simL_val (q_asg rfl rfl) rfl rfl rfl (simL_nil ?_)
 exact nrm_again (s := (s5v.1.set (x2.getD s5v.2.2.2.toNat (0 : Int)).toNat (1 : Int), s13v.1, s13v.2, IntKind.i64.wrap (s5v.2.2.2 + 1))) () ⟨rfl, rfl, rfl, rfl, rfl, rfl, rfl, trivial⟩ (.sel 0 rfl (.sel 0 rfl (.nil _)))
 refine sim_exi ?_
 refine exi_then ?_
 refine exi_loop ?_
 refine exi_here ?_
 exact nrm_cutR (s := s5v.1) () ⟨rfl, rfl, rfl, trivial⟩ (.sel 0 rfl (.sel 0 rfl (.nil _)))
 intro s3v y4v
 refine sim_cutR (S := Unit) (Unit) (fun s y => []) (fun s y => [F]) ?_ ?_
 refine sim_seq (sim_region ?_)
 refine simL_val (q_asg rfl rfl) rfl rfl rfl (simL_nil (nrm_then ?_))
 refine sim_block ?_
 refine sim_loop (S := Int) (Unit) (fun k s => synodlaw16_keeps.l2 x0 x1 s3v k s) (fun s y => [(0, .slice a0 x0.length c0), (1, str x1), (7, .slice (some ⟨b1v, 0, none⟩) s3v.length ((x0.length : Int).toNat)), (17, .int .i64 s)]) (fun s y => [RowV 3 1 (V3 tt) (some ⟨b1v, 0, none⟩) s3v ((x0.length : Int).toNat), F]) (fun _ => by rw [synodlaw16_keeps.l2]) ?_ k 0 () ⟨rfl, rfl, rfl, rfl, trivial⟩ (.sel 0 rfl (.sel 0 rfl (.nil _)))
 intro k s181v y182v
 refine sim_eq (by rw [synodlaw16_keeps.l2]) ?_
 refine sim_seq (sim_seq (sim_region ?_))
 refine simL_val (q_move rfl rfl) rfl rfl rfl ?_
 refine simL_val (q_move rfl rfl) rfl rfl rfl ?_
 refine simL_val (q_len rfl rfl rfl Try.underlying22) rfl rfl rfl ?_
 refine simL_val (q_lss rfl rfl rfl) rfl rfl rfl (simL_nil (nrm_then ?_))
 refine sim_cond rfl (fun h184v => ?_) (fun h185v => ?_)
 refine sim_skip ?_
 refine nrm_then (sim_seq ?_)
 refine sim_block ?_
 refine sim_seq (sim_region ?_)
 refine simL_val (q_move rfl rfl) rfl rfl rfl ?_
 refine simL_val (q_move rfl rfl) rfl rfl rfl ?_
 refine simL_ask (fun hi186v => ?_)
 obtain ⟨b187v, b187vo, r190v, ha188v, hV191v, hlr192v, hcell193v⟩ := RdV.pos h0 (Up.refl _) rfl (i := s181v.toNat) (by omega) dz35
 obtain rfl := hV191v
 refine simL_val (q_idx rfl rfl rfl ha188v Try.underlying22 Try.sizeOf35 hi186v.1 hi186v.2) rfl rfl rfl ?_
 refine simL_val (q_fa rfl rfl Try.underlying35 rfl rfl Try.sizeOf9 rfl) rfl rfl rfl ?_
 refine simL_val (q_load rfl rfl Try.isAgg9 (hcell193v 1 rfl 3 _ rfl)) rfl rfl rfl ?_
 refine simL_val (q_move rfl rfl) rfl rfl rfl ?_
 refine simL_val (q_eqs rfl rfl rfl) rfl rfl rfl ?_
 refine simL_val (q_move rfl rfl) rfl rfl rfl ?_
 refine simL_cut' 6 (S := Bool) (Unit) (fun s y => [(0, .slice a0 x0.length c0), (1, str x1), (7, .slice (some ⟨b1v, 0, none⟩) s3v.length ((x0.length : Int).toNat)), (17, .int .i64 s181v), (154, .bool s)]) (fun s y => [RowV 3 1 (V3 tt) (some ⟨b1v, 0, none⟩) s3v ((x0.length : Int).toNat), F]) ?_ ?_
 refine simL_casep (fun hb207v => ?_) (fun hb208v => ?_)
 rw [hb207v]
 refine simL_valg (q_move rfl rfl) rfl rfl rfl rfl rfl rfl ?_
 refine simL_valg (q_move rfl rfl) rfl rfl rfl rfl rfl rfl ?_
 refine simL_ask (fun hi196v => ?_)
 obtain ⟨b197v, b197vo, r200v, ha198v, hV201v, hlr202v, hcell203v⟩ := RdV.pos h0 (Up.refl _) rfl (i := s181v.toNat) (by omega) dz35
 obtain rfl := hV201v
 refine simL_valg (q_idx rfl rfl rfl ha198v Try.underlying22 Try.sizeOf35 hi196v.1 hi196v.2) rfl rfl rfl rfl rfl rfl ?_
 refine simL_valg (q_loads rfl rfl Try.isAgg35 Try.sizeOf35 rfl (fun j v hj => hcell203v 1 rfl j v hj)) rfl rfl rfl rfl rfl rfl ?_
 refine simL_bind (fun s204v hs206v => ?_)
 refine simL_effg (re_call (vs := [.agg #[.int .i64 ((x0.getD s181v.toNat dz35).1), .int .i64 ((x0.getD s181v.toNat dz35).2.1), .int .i64 ((x0.getD s181v.toNat dz35).2.2.1), str ((x0.getD s181v.toNat dz35).2.2.2.1), str ((x0.getD s181v.toNat dz35).2.2.2.2.1), str ((x0.getD s181v.toNat dz35).2.2.2.2.2.1), .int .i64 ((x0.getD s181v.toNat dz35).2.2.2.2.2.2.1), .int .i64 ((x0.getD s181v.toNat dz35).2.2.2.2.2.2.2.1), .int .i64 ((x0.getD s181v.toNat dz35).2.2.2.2.2.2.2.2.1), str ((x0.getD s181v.toNat dz35).2.2.2.2.2.2.2.2.2)]]) (cap := []) (A := []) (rst := [RowV 3 1 (V3 tt) (some ⟨b1v, 0, none⟩) s3v ((x0.length : Int).toNat), F]) rfl rfl rfl rfl rfl rfl Try.call18 (.sel 0 rfl (.sel 0 rfl (.nil _))) (lin_Counts.calls _ _ ((x0.getD s181v.toNat dz35).1) ((x0.getD s181v.toNat dz35).2.1) ((x0.getD s181v.toNat dz35).2.2.1) ((x0.getD s181v.toNat dz35).2.2.2.1) ((x0.getD s181v.toNat dz35).2.2.2.2.1) ((x0.getD s181v.toNat dz35).2.2.2.2.2.1) ((x0.getD s181v.toNat dz35).2.2.2.2.2.2.1) ((x0.getD s181v.toNat dz35).2.2.2.2.2.2.2.1) ((x0.getD s181v.toNat dz35).2.2.2.2.2.2.2.2.1) ((x0.getD s181v.toNat dz35).2.2.2.2.2.2.2.2.2) ) hs206v) rfl rfl rfl rfl rfl rfl ?_
 intro y205v
 refine simL_val (q_pick rfl rfl rfl rfl rfl) rfl rfl rfl (simL_nil ?_)
 exact nrm_cut (s := s204v) () ⟨rfl, rfl, rfl, rfl, rfl, trivial⟩ (.sel 0 rfl (.sel 0 rfl (.nil _)))
 rw [hb208v]
 refine simL_skipd rfl rfl rfl rfl rfl rfl ?_
 refine simL_skipd rfl rfl rfl rfl rfl rfl ?_
 refine simL_skipd rfl rfl rfl rfl rfl rfl ?_
 refine simL_skipd rfl rfl rfl rfl rfl rfl ?_
 refine simL_skipd rfl rfl rfl rfl rfl rfl ?_
 refine simL_val (q_pick rfl rfl rfl rfl rfl) rfl rfl rfl (simL_nil ?_)
 exact nrm_cut (s := false) () ⟨rfl, rfl, rfl, rfl, rfl, trivial⟩ (.sel 0 rfl (.sel 0 rfl (.nil _)))
 intro s194v y195v
 refine simL_val (q_move rfl rfl) rfl rfl rfl ?_
 refine simL_cut' 7 (S := Bool) (Unit) (fun s y => [(0, .slice a0 x0.length c0), (1, str x1), (7, .slice (some ⟨b1v, 0, none⟩) s3v.length ((x0.length : Int).toNat)), (17, .int .i64 s181v), (162, .bool s)]) (fun s y => [RowV 3 1 (V3 tt) (some ⟨b1v, 0, none⟩) s3v ((x0.length : Int).toNat), F]) ?_ ?_
 refine simL_caseb (fun hb219v => ?_) (fun hb220v => ?_)
 rw [hb219v]
 refine simL_valg (q_move rfl rfl) rfl rfl rfl rfl rfl rfl ?_
 refine simL_valg (q_move rfl rfl) rfl rfl rfl rfl rfl rfl ?_
 refine simL_ask (fun hi211v => ?_)
 obtain ⟨b212v, b212vo, r215v, ha213v, hV216v, hlr217v, hcell218v⟩ := RdV.pos h0 (Up.refl _) rfl (i := s181v.toNat) (by omega) dz35
 obtain rfl := hV216v
 refine simL_valg (q_idx rfl rfl rfl ha213v Try.underlying22 Try.sizeOf35 hi211v.1 hi211v.2) rfl rfl rfl rfl rfl rfl ?_
 refine simL_valg (q_fa rfl rfl Try.underlying35 rfl rfl Try.sizeOf3 rfl) rfl rfl rfl rfl rfl rfl ?_
 refine simL_valg (q_load rfl rfl Try.isAgg3 (hcell218v 1 rfl 7 _ rfl)) rfl rfl rfl rfl rfl rfl ?_
 refine simL_valg (q_neq rfl rfl rfl) rfl rfl rfl rfl rfl rfl ?_
 refine simL_val (q_pick rfl rfl rfl rfl rfl) rfl rfl rfl (simL_nil ?_)
 exact nrm_cut (s := !decide ((x0.getD s181v.toNat dz35).2.2.2.2.2.2.2.1 = (0 : Int))) () ⟨rfl, rfl, rfl, rfl, rfl, trivial⟩ (.sel 0 rfl (.sel 0 rfl (.nil _)))
 rw [hb220v]
 refine simL_skipd rfl rfl rfl rfl rfl rfl ?_
 refine simL_skipd rfl rfl rfl rfl rfl rfl ?_
 refine simL_skipd rfl rfl rfl rfl rfl rfl ?_
 refine simL_skipd rfl rfl rfl rfl rfl rfl ?_
 refine simL_skipd rfl rfl rfl rfl rfl rfl ?_
 refine simL_skipd rfl rfl rfl rfl rfl rfl ?_
 refine simL_val (q_pick rfl rfl rfl rfl rfl) rfl rfl rfl (simL_nil ?_)
 exact nrm_cut (s := false) () ⟨rfl, rfl, rfl, rfl, rfl, trivial⟩ (.sel 0 rfl (.sel 0 rfl (.nil _)))
 intro s209v y210v
 refine simL_val (q_move rfl rfl) rfl rfl rfl ?_
 refine simL_cut' 6 (S := Bool) (Unit) (fun s y => [(0, .slice a0 x0.length c0), (1, str x1), (7, .slice (some ⟨b1v, 0, none⟩) s3v.length ((x0.length : Int).toNat)), (17, .int .i64 s181v), (169, .bool s)]) (fun s y => [RowV 3 1 (V3 tt) (some ⟨b1v, 0, none⟩) s3v ((x0.length : Int).toNat), F]) ?_ ?_
 refine simL_caseb (fun hb233v => ?_) (fun hb234v => ?_)
 rw [hb233v]
 refine simL_valg (q_move rfl rfl) rfl rfl rfl rfl rfl rfl ?_
 refine simL_valg (q_move rfl rfl) rfl rfl rfl rfl rfl rfl ?_
 refine simL_openV 0 rfl (fun rs231v hl232v => ?_)
 refine simL_ask (fun hi223v => ?_)
 refine simL_posV 0 rfl hl232v rfl (i := s181v.toNat) (by omega) (0 : Int) (fun b224v b224vo r227v ha225v hV228v hlr229v hcell230v => ?_)
 obtain rfl := hV228v
 refine simL_valg (q_idx rfl rfl rfl ha225v Try.underlying39 Try.sizeOf3 hi223v.1 hi223v.2) rfl rfl rfl rfl rfl rfl ?_
 refine simL_valg (q_load rfl rfl Try.isAgg3 (hcell230v 0 rfl 0 _ rfl)) rfl rfl rfl rfl rfl rfl ?_
 refine simL_valg (q_eql rfl rfl rfl) rfl rfl rfl rfl rfl rfl ?_
 refine simL_val (q_pick rfl rfl rfl rfl rfl) rfl rfl rfl (simL_nil ?_)
 exact nrm_cut (s := decide ((s3v.getD s181v.toNat (0 : Int)) = (0 : Int))) () ⟨rfl, rfl, rfl, rfl, rfl, trivial⟩ (.sel' 0 rfl (RowV.mk hl232v) (.sel 0 rfl (.nil _)))
 rw [hb234v]
 refine simL_skipd rfl rfl rfl rfl rfl rfl ?_
 refine simL_skipd rfl rfl rfl rfl rfl rfl ?_
 refine simL_skipd rfl rfl rfl rfl rfl rfl ?_
 refine simL_skipd rfl rfl rfl rfl rfl rfl ?_
 refine simL_skipd rfl rfl rfl rfl rfl rfl ?_
 refine simL_val (q_pick rfl rfl rfl rfl rfl) rfl rfl rfl (simL_nil ?_)
 exact nrm_cut (s := false) () ⟨rfl, rfl, rfl, rfl, rfl, trivial⟩ (.sel 0 rfl (.sel 0 rfl (.nil _)))
 intro s221v y222v
 refine simL_nil (nrm_then ?_)
 refine sim_condb rfl (fun h235v => ?_) (fun h236v => ?_)
 refine sim_seq (sim_region ?_)
 refine simL_val (q_asg rfl rfl) rfl rfl rfl (simL_nil (nrm_then (sim_rtn ?_)))
 refine rtn_block ?_
 refine rtn_then ?_
 refine rtn_loop ?_
 refine rtn_block ?_
 refine rtn_cutR ?_
 exact rtn_fn () rfl rfl rfl (.sel 1 rfl (.nil _))
 refine sim_skip ?_
 refine nrm_block (nrm_then (sim_region ?_))
 refine simL_val (q_move rfl rfl) rfl rfl rfl ?_
 refine simL_val (q_add rfl rfl rfl) rfl rfl rfl ?_
 refine simL_val (q_asg rfl rfl) rfl rfl rfl (simL_nil ?_)
 exact nrm_again (s := IntKind.i64.wrap (s181v + 1)) () ⟨rfl, rfl, rfl, rfl, trivial⟩ (.sel 0 rfl (.sel 0 rfl (.nil _)))
 refine sim_exi ?_
 refine exi_then ?_
 refine exi_loop ?_
 refine exi_here ?_
 exact nrm_cutR (s := ()) () trivial (.sel 1 rfl (.nil _))
 intro s179v y180v
 refine sim_seq (sim_region ?_)
 refine simL_val (q_asg rfl rfl) rfl rfl rfl (simL_nil (nrm_then (sim_rtn ?_)))
 exact rtn_fn () rfl rfl rfl (.sel 0 rfl (.nil _))

def synodlaw16_ahead.l0 (x0 : List Int) (x1 : List Int) : Nat → Int → Option ((Unit) ⊕ (Bool))
  | 0, _ => none
  | k + 1, z5v => if ((decide (z5v < (x0.length : Int))) && (decide (z5v < (x1.length : Int)))) = true then (if 0 ≤ z5v ∧ z5v < (x0.length : Int) then (if 0 ≤ z5v ∧ z5v < (x1.length : Int) then (if (x0.getD z5v.toNat (0 : Int)) = (x1.getD z5v.toNat (0 : Int)) then (synodlaw16_ahead.l0 x0 x1 k (IntKind.i64.wrap (z5v + 1))) else (if 0 ≤ z5v ∧ z5v < (x0.length : Int) then (if 0 ≤ z5v ∧ z5v < (x1.length : Int) then (some (.inr (decide ((x0.getD z5v.toNat (0 : Int)) < (x1.getD z5v.toNat (0 : Int)))))) else none) else none)) else none) else none) else (some (.inl ()))
def synodlaw16_ahead.f (k : Nat) (x0 : List Int) (x1 : List Int) : Option (Bool) := orR (synodlaw16_ahead.l0 x0 x1 k 0) fun s1v => (some (decide ((x0.length : Int) < (x1.length : Int))))
theorem synodlaw16_ahead.calls (W : World) (F : HA) (k : Nat) (a0 : Option Addr) (c0 : Nat) (x0 : List Int) (a1 : Option Addr) (c1 : Nat) (x1 : List Int) (h0 : RdV F 1 (V3 tt) a0 x0) (hc0 : x0.length ≤ c0) (hm0 : c0 ≤ maxLen) (h1 : RdV F 1 (V3 tt) a1 x1) (hc1 : x1.length ≤ c1) (hm1 : c1 ≤ maxLen) :
    Fn Try.prog W 29 [.slice a0 x0.length c0, .slice a1 x1.length c1] [] F (synodlaw16_ahead.f k x0 x1) (fun (r : Bool) (y : Unit) => .bool r) (fun r y => []) := by
 unfold synodlaw16_ahead.f
 refine fn_intro 41 Try.func29 rfl Try.ntmps29 rfl ?_
 refine sim_seq (sim_region ?_)
 refine simL_val (q_asg rfl rfl) rfl rfl rfl (simL_nil (nrm_then ?_))
 refine sim_cutR (S := Unit) (Unit) (fun s y => [(0, .slice a0 x0.length c0), (1, .slice a1 x1.length c1)]) (fun s y => [F]) ?_ ?_
 refine sim_seq (sim_region ?_)
 refine simL_val (q_asg rfl rfl) rfl rfl rfl (simL_nil (nrm_then ?_))
 refine sim_block ?_
 refine sim_loop (S := Int) (Unit) (fun k s => synodlaw16_ahead.l0 x0 x1 k s) (fun s y => [(0, .slice a0 x0.length c0), (1, .slice a1 x1.length c1), (5, .int .i64 s)]) (fun s y => [F]) (fun _ => by rw [synodlaw16_ahead.l0]) ?_ k 0 () ⟨rfl, rfl, rfl, trivial⟩ (.sel 0 rfl (.nil _))
 intro k s3v y4v
 refine sim_eq (by rw [synodlaw16_ahead.l0]) ?_
 refine sim_seq (sim_seq (sim_region ?_))
 refine simL_val (q_move rfl rfl) rfl rfl rfl ?_
 refine simL_val (q_move rfl rfl) rfl rfl rfl ?_
 refine simL_val (q_len rfl rfl rfl Try.underlying39) rfl rfl rfl ?_
 refine simL_val (q_lss rfl rfl rfl) rfl rfl rfl ?_
 refine simL_val (q_move rfl rfl) rfl rfl rfl ?_
 refine simL_valc (b := decide (s3v < (x0.length : Int))) (fun hb47v => RQ.sub (E' := [(5, .int .i64 s3v)]) ⟨rfl, trivial⟩ (q_move rfl rfl)) rfl rfl rfl rfl rfl ?_
 refine simL_valc (b := decide (s3v < (x0.length : Int))) (fun hb46v => RQ.sub (E' := [(1, .slice a1 x1.length c1)]) ⟨rfl, trivial⟩ (q_move rfl rfl)) rfl rfl rfl rfl rfl ?_
 refine simL_valc (b := decide (s3v < (x0.length : Int))) (fun hb45v => RQ.sub (E' := [(12, .slice a1 x1.length c1)]) ⟨lk_cv rfl hb45v, trivial⟩ (q_len rfl rfl rfl Try.underlying39)) rfl rfl rfl rfl rfl ?_
 refine simL_valc (b := decide (s3v < (x0.length : Int))) (fun hb44v => RQ.sub (E' := [(11, .int .i64 s3v), (13, .int .i64 (x1.length : Int))]) ⟨lk_cv rfl hb44v, lk_cv rfl hb44v, trivial⟩ (q_lss rfl rfl rfl)) rfl rfl rfl rfl rfl ?_
 refine simL_val (q_and rfl rfl rfl) rfl rfl rfl (simL_nil (nrm_then ?_))
 refine sim_condb rfl (fun h6v => ?_) (fun h7v => ?_)
 refine sim_skip ?_
 refine nrm_then (sim_seq ?_)
 refine sim_block ?_
 refine sim_seq ?_
 refine sim_ask (fun hi8v => ?_)
 obtain ⟨b9v, b9vo, r12v, ha10v, hV13v, hlr14v, hcell15v⟩ := RdV.pos h0 (Up.refl _) rfl (i := s3v.toNat) (by omega) (0 : Int)
 obtain rfl := hV13v
 refine sim_ask (fun hi16v => ?_)
 obtain ⟨b17v, b17vo, r20v, ha18v, hV21v, hlr22v, hcell23v⟩ := RdV.pos h1 (Up.refl _) rfl (i := s3v.toNat) (by omega) (0 : Int)
 obtain rfl := hV21v
 refine sim_draw (Γ := Unit) () [[], [], [0, 1], [0, 1, 2], [], [], [4, 5], [4, 5, 6], [0, 1, 2, 3, 4, 5, 6, 7]] [] [0, 1, 2, 3, 4, 5, 6, 7, 8] (fun i => [[0], [0], [0], [0], [0], [0], [0], [0], [0]].getD i []) (fun i => [[], [], [], [], [], [], [], [], []].getD i []) (fun γ i => [.slice a0 x0.length c0, .int .i64 s3v, .pointer (some ⟨b9v, b9vo + s3v.toNat * 1, none⟩), .int .i64 (x0.getD s3v.toNat (0 : Int)), .slice a1 x1.length c1, .int .i64 s3v, .pointer (some ⟨b17v, b17vo + s3v.toNat * 1, none⟩), .int .i64 (x1.getD s3v.toNat (0 : Int)), .bool (!decide ((x0.getD s3v.toNat (0 : Int)) = (x1.getD s3v.toNat (0 : Int))))].getD i undef) (fun j γ => [[F]].getD j []) (fun γ => [(0, .slice a0 x0.length c0), (1, .slice a1 x1.length c1), (5, .int .i64 s3v), (11, cv ((decide (s3v < (x0.length : Int))) == true) (.int .i64 s3v)), (12, cv ((decide (s3v < (x0.length : Int))) == true) (.slice a1 x1.length c1)), (13, cv ((decide (s3v < (x0.length : Int))) == true) (.int .i64 (x1.length : Int))), (14, cv ((decide (s3v < (x0.length : Int))) == true) (.bool (decide (s3v < (x1.length : Int))))), (26, .bool (!decide ((x0.getD s3v.toNat (0 : Int)) = (x1.getD s3v.toNat (0 : Int)))))]) mixed (by decide) (by decide) (by decide) (by decide) (by decide) (by decide) (by decide) 41 rfl (by decide) (by decide) (by decide) (Ent.refl _) ?_ ?_ (fun _ => ⟨rfl, rfl, rfl, rfl, rfl, rfl, rfl, rfl, trivial⟩) ?_
 exact (All.cons (fun γ => (All.cons (QOb.plain [(0, .slice a0 x0.length c0)] rfl rfl (.o rfl (by decide) .nil) (q_move rfl rfl) rfl) All.nil)) (All.cons (fun γ => (All.cons (QOb.plain [(5, .int .i64 s3v)] rfl rfl (.o rfl (by decide) .nil) (q_move rfl rfl) rfl) All.nil)) (All.cons (fun γ => (All.cons (QOb.plain [(18, .slice a0 x0.length c0), (19, .int .i64 s3v)] rfl rfl (.w 0 rfl rfl rfl (.w 1 rfl rfl rfl .nil)) (q_idx rfl rfl rfl ha10v Try.underlying39 Try.sizeOf3 hi8v.1 hi8v.2) rfl) All.nil)) (All.cons (fun γ => (All.cons (QOb.plain [(20, .pointer (some ⟨b9v, b9vo + s3v.toNat * 1, none⟩))] rfl rfl (.w 2 rfl rfl rfl .nil) (q_load rfl rfl Try.isAgg3 (hcell15v 0 rfl 0 _ rfl)) rfl) All.nil)) (All.cons (fun γ => (All.cons (QOb.plain [(1, .slice a1 x1.length c1)] rfl rfl (.o rfl (by decide) .nil) (q_move rfl rfl) rfl) All.nil)) (All.cons (fun γ => (All.cons (QOb.plain [(5, .int .i64 s3v)] rfl rfl (.o rfl (by decide) .nil) (q_move rfl rfl) rfl) All.nil)) (All.cons (fun γ => (All.cons (QOb.plain [(22, .slice a1 x1.length c1), (23, .int .i64 s3v)] rfl rfl (.w 4 rfl rfl rfl (.w 5 rfl rfl rfl .nil)) (q_idx rfl rfl rfl ha18v Try.underlying39 Try.sizeOf3 hi16v.1 hi16v.2) rfl) All.nil)) (All.cons (fun γ => (All.cons (QOb.plain [(24, .pointer (some ⟨b17v, b17vo + s3v.toNat * 1, none⟩))] rfl rfl (.w 6 rfl rfl rfl .nil) (q_load rfl rfl Try.isAgg3 (hcell23v 0 rfl 0 _ rfl)) rfl) All.nil)) (All.cons (fun γ => (All.cons (QOb.plain [(21, .int .i64 (x0.getD s3v.toNat (0 : Int))), (25, .int .i64 (x1.getD s3v.toNat (0 : Int)))] rfl rfl (.w 3 rfl rfl rfl (.w 7 rfl rfl rfl .nil)) (q_neq rfl rfl rfl) rfl) All.nil)) All.nil)))))))))
 exact All.nil
 intro g24v
 refine nrm_then ?_
 refine sim_condn rfl (fun h25v => ?_) (fun h26v => ?_)
 refine sim_skip ?_
 refine nrm_block (nrm_then (sim_region ?_))
 refine simL_val (q_move rfl rfl) rfl rfl rfl ?_
 refine simL_val (q_add rfl rfl rfl) rfl rfl rfl ?_
 refine simL_val (q_asg rfl rfl) rfl rfl rfl (simL_nil ?_)
 exact nrm_again (s := IntKind.i64.wrap (s3v + 1)) () ⟨rfl, rfl, rfl, trivial⟩ (.sel 0 rfl (.nil _))
 refine sim_seq ?_
 refine sim_ask (fun hi27v => ?_)
 obtain ⟨b28v, b28vo, r31v, ha29v, hV32v, hlr33v, hcell34v⟩ := RdV.pos h0 (Up.refl _) rfl (i := s3v.toNat) (by omega) (0 : Int)
 obtain rfl := hV32v
 refine sim_ask (fun hi35v => ?_)
 obtain ⟨b36v, b36vo, r39v, ha37v, hV40v, hlr41v, hcell42v⟩ := RdV.pos h1 (Up.refl _) rfl (i := s3v.toNat) (by omega) (0 : Int)
 obtain rfl := hV40v
 refine sim_draw (Γ := Unit) () [[], [], [0, 1], [0, 1, 2], [], [], [4, 5], [4, 5, 6], [0, 1, 2, 3, 4, 5, 6, 7], [0, 1, 2, 3, 4, 5, 6, 7, 8]] [] [0, 1, 2, 3, 4, 5, 6, 7, 8, 9] (fun i => [[0], [0], [0], [0], [0], [0], [0], [0], [0], [0]].getD i []) (fun i => [[], [], [], [], [], [], [], [], [], []].getD i []) (fun γ i => [.slice a0 x0.length c0, .int .i64 s3v, .pointer (some ⟨b28v, b28vo + s3v.toNat * 1, none⟩), .int .i64 (x0.getD s3v.toNat (0 : Int)), .slice a1 x1.length c1, .int .i64 s3v, .pointer (some ⟨b36v, b36vo + s3v.toNat * 1, none⟩), .int .i64 (x1.getD s3v.toNat (0 : Int)), .bool (decide ((x0.getD s3v.toNat (0 : Int)) < (x1.getD s3v.toNat (0 : Int)))), .bool (decide ((x0.getD s3v.toNat (0 : Int)) < (x1.getD s3v.toNat (0 : Int))))].getD i undef) (fun j γ => [[F]].getD j []) (fun γ => [(4, .bool (decide ((x0.getD s3v.toNat (0 : Int)) < (x1.getD s3v.toNat (0 : Int)))))]) mixed (by decide) (by decide) (by decide) (by decide) (by decide) (by decide) (by decide) 41 rfl (by decide) (by decide) (by decide) (Ent.refl _) ?_ ?_ (fun _ => ⟨rfl, trivial⟩) ?_
 exact (All.cons (fun γ => (All.cons (QOb.plain [(0, .slice a0 x0.length c0)] rfl rfl (.o rfl (by decide) .nil) (q_move rfl rfl) rfl) All.nil)) (All.cons (fun γ => (All.cons (QOb.plain [(5, .int .i64 s3v)] rfl rfl (.o rfl (by decide) .nil) (q_move rfl rfl) rfl) All.nil)) (All.cons (fun γ => (All.cons (QOb.plain [(27, .slice a0 x0.length c0), (28, .int .i64 s3v)] rfl rfl (.w 0 rfl rfl rfl (.w 1 rfl rfl rfl .nil)) (q_idx rfl rfl rfl ha29v Try.underlying39 Try.sizeOf3 hi27v.1 hi27v.2) rfl) All.nil)) (All.cons (fun γ => (All.cons (QOb.plain [(29, .pointer (some ⟨b28v, b28vo + s3v.toNat * 1, none⟩))] rfl rfl (.w 2 rfl rfl rfl .nil) (q_load rfl rfl Try.isAgg3 (hcell34v 0 rfl 0 _ rfl)) rfl) All.nil)) (All.cons (fun γ => (All.cons (QOb.plain [(1, .slice a1 x1.length c1)] rfl rfl (.o rfl (by decide) .nil) (q_move rfl rfl) rfl) All.nil)) (All.cons (fun γ => (All.cons (QOb.plain [(5, .int .i64 s3v)] rfl rfl (.o rfl (by decide) .nil) (q_move rfl rfl) rfl) All.nil)) (All.cons (fun γ => (All.cons (QOb.plain [(31, .slice a1 x1.length c1), (32, .int .i64 s3v)] rfl rfl (.w 4 rfl rfl rfl (.w 5 rfl rfl rfl .nil)) (q_idx rfl rfl rfl ha37v Try.underlying39 Try.sizeOf3 hi35v.1 hi35v.2) rfl) All.nil)) (All.cons (fun γ => (All.cons (QOb.plain [(33, .pointer (some ⟨b36v, b36vo + s3v.toNat * 1, none⟩))] rfl rfl (.w 6 rfl rfl rfl .nil) (q_load rfl rfl Try.isAgg3 (hcell42v 0 rfl 0 _ rfl)) rfl) All.nil)) (All.cons (fun γ => (All.cons (QOb.plain [(30, .int .i64 (x0.getD s3v.toNat (0 : Int))), (34, .int .i64 (x1.getD s3v.toNat (0 : Int)))] rfl rfl (.w 3 rfl rfl rfl (.w 7 rfl rfl rfl .nil)) (q_lss rfl rfl rfl) rfl) All.nil)) (All.cons (fun γ => (All.cons (QOb.plain [(35, .bool (decide ((x0.getD s3v.toNat (0 : Int)) < (x1.getD s3v.toNat (0 : Int)))))] rfl rfl (.w 8 rfl rfl rfl .nil) (q_asg rfl rfl) rfl) All.nil)) All.nil))))))))))
 exact All.nil
 intro g43v
 refine nrm_then (sim_rtn ?_)
 refine rtn_block ?_
 refine rtn_then ?_
 refine rtn_loop ?_
 refine rtn_block ?_
 refine rtn_cutR ?_
 exact rtn_fn () rfl rfl rfl (.sel 0 rfl (.nil _))
 refine sim_exi ?_
 refine exi_then ?_
 refine exi_loop ?_
 refine exi_here ?_
 exact nrm_cutR (s := ()) () ⟨rfl, rfl, trivial⟩ (.sel 0 rfl (.nil _))
 intro s1v y2v
 refine sim_seq (sim_region ?_)
 refine simL_val (q_move rfl rfl) rfl rfl rfl ?_
 refine simL_val (q_len rfl rfl rfl Try.underlying39) rfl rfl rfl ?_
 refine simL_val (q_move rfl rfl) rfl rfl rfl ?_
 refine simL_val (q_len rfl rfl rfl Try.underlying39) rfl rfl rfl ?_
 refine simL_val (q_lss rfl rfl rfl) rfl rfl rfl ?_
 refine simL_val (q_asg rfl rfl) rfl rfl rfl (simL_nil (nrm_then (sim_rtn ?_)))
 exact rtn_fn () rfl rfl rfl (.sel 0 rfl (.nil _))

def synodlaw16_LinOrder.f (k : Nat) (x0 : List (Ty35)) (x1 : List UInt8) (x2 : List Int) : Option (Bool) := (synodlaw16_first.f k).bind fun s1v => ((synodlaw16_few.f k x0).bind fun s4v => (if ((((!s1v) || (!s4v)) || (decide ((9000 : Int) < (x1.length : Int)))) || (decide ((100 : Int) < (x2.length : Int)))) = true then (some s1v) else ((lin_Explain.f k x0 x1).bind fun s9v => ((synodref_Num.f s9v.2.2).bind fun s12v => (if s12v = (0 : Int) then ((if s9v.2.1 = true then ((synodlaw16_keeps.f k x0 x1 s9v.1).bind fun s25v => (some (true, !s25v))) else (some (false, false))).bind fun s17v => (if s17v.2 = true then (some false) else ((synodlaw16_keeps.f k x0 x1 x2).bind fun s32v => (if (!s32v) = true then (some true) else ((if s17v.1 = true then ((synodlaw16_ahead.f k x2 s9v.1).bind fun s45v => (some (!s45v))) else (some false)).bind fun s37v => (some s37v)))))) else (some ((!s9v.2.1) && (decide ((s9v.1.length : Int) = (0 : Int))))))))))
theorem synodlaw16_LinOrder.calls (W : World) (F : HA) (k : Nat) (a0 : Option Addr) (c0 : Nat) (x0 : List (Ty35)) (x1 : List UInt8) (a2 : Option Addr) (c2 : Nat) (x2 : List Int) (h0 : RdV F 10 (V35 tt) a0 x0) (hc0 : x0.length ≤ c0) (hm0 : c0 ≤ maxLen) (h2 : RdV F 1 (V3 tt) a2 x2) (hc2 : x2.length ≤ c2) (hm2 : c2 ≤ maxLen) :
    Fn Try.prog W 6 [.slice a0 x0.length c0, str x1, .slice a2 x2.length c2] [] F (synodlaw16_LinOrder.f k x0 x1 x2) (fun (r : Bool) (y : Unit) => .bool r) (fun r y => []) := by
 unfold synodlaw16_LinOrder.f
 refine fn_intro 69 Try.func6 rfl Try.ntmps6 rfl ?_
 refine sim_seq (sim_region ?_)
 refine simL_val (q_asg rfl rfl) rfl rfl rfl (simL_nil (nrm_then (sim_seq (sim_region ?_))))
 refine simL_bind (fun s1v hs3v => ?_)
 refine simL_eff (re_call (vs := []) (cap := []) (A := []) (rst := [F]) rfl rfl rfl rfl rfl rfl Try.call11 (.sel 0 rfl (.nil _)) (synodlaw16_first.calls _ _ k  ) hs3v) rfl rfl rfl ?_
 intro y2v
 refine simL_val (q_asg rfl rfl) rfl rfl rfl (simL_nil (nrm_then (sim_seq (sim_region ?_))))
 refine simL_val (q_move rfl rfl) rfl rfl rfl ?_
 refine simL_bind (fun s4v hs6v => ?_)
 refine simL_eff (re_call (vs := [.slice a0 x0.length c0]) (cap := []) (A := []) (rst := [F]) rfl rfl rfl rfl rfl rfl Try.call12 (.sel 0 rfl (.nil _)) (synodlaw16_few.calls _ _ k a0 c0 x0 (h0.up (Up.lend 0 rfl) (fun _ _ h => h)) hc0 hm0) hs6v) rfl rfl rfl ?_
 intro y5v
 refine simL_val (q_asg rfl rfl) rfl rfl rfl (simL_nil (nrm_then (sim_seq (sim_seq (sim_region ?_)))))
 refine simL_val (q_move rfl rfl) rfl rfl rfl ?_
 refine simL_val (q_not rfl rfl) rfl rfl rfl ?_
 refine simL_val (q_move rfl rfl) rfl rfl rfl ?_
 refine simL_valc (b := !s1v) (fun hb60v => RQ.sub (E' := [(8, .bool s4v)]) ⟨rfl, trivial⟩ (q_move rfl rfl)) rfl rfl rfl rfl rfl ?_
 refine simL_valc (b := !s1v) (fun hb59v => RQ.sub (E' := [(18, .bool s4v)]) ⟨lk_cv rfl hb59v, trivial⟩ (q_not rfl rfl)) rfl rfl rfl rfl rfl ?_
 refine simL_val (q_or rfl rfl rfl) rfl rfl rfl ?_
 refine simL_val (q_move rfl rfl) rfl rfl rfl ?_
 refine simL_valc (b := (!s1v) || (!s4v)) (fun hb58v => RQ.sub (E' := [(1, str x1)]) ⟨rfl, trivial⟩ (q_move rfl rfl)) rfl rfl rfl rfl rfl ?_
 refine simL_valc (b := (!s1v) || (!s4v)) (fun hb57v => RQ.sub (E' := [(22, str x1)]) ⟨lk_cv rfl hb57v, trivial⟩ (q_lens rfl rfl rfl Try.underlying9)) rfl rfl rfl rfl rfl ?_
 refine simL_valc (b := (!s1v) || (!s4v)) (fun hb56v => RQ.sub (E' := [(23, .int .i64 (x1.length : Int))]) ⟨lk_cv rfl hb56v, trivial⟩ (q_gtr rfl rfl rfl)) rfl rfl rfl rfl rfl ?_
 refine simL_val (q_or rfl rfl rfl) rfl rfl rfl ?_
 refine simL_val (q_move rfl rfl) rfl rfl rfl ?_
 refine simL_valc (b := ((!s1v) || (!s4v)) || (decide ((9000 : Int) < (x1.length : Int)))) (fun hb55v => RQ.sub (E' := [(2, .slice a2 x2.length c2)]) ⟨rfl, trivial⟩ (q_move rfl rfl)) rfl rfl rfl rfl rfl ?_
 refine simL_valc (b := ((!s1v) || (!s4v)) || (decide ((9000 : Int) < (x1.length : Int)))) (fun hb54v => RQ.sub (E' := [(27, .slice a2 x2.length c2)]) ⟨lk_cv rfl hb54v, trivial⟩ (q_len rfl rfl rfl Try.underlying39)) rfl rfl rfl rfl rfl ?_
 refine simL_valc (b := ((!s1v) || (!s4v)) || (decide ((9000 : Int) < (x1.length : Int)))) (fun hb53v => RQ.sub (E' := [(28, .int .i64 (x2.length : Int))]) ⟨lk_cv rfl hb53v, trivial⟩ (q_gtr rfl rfl rfl)) rfl rfl rfl rfl rfl ?_
 refine simL_val (q_or rfl rfl rfl) rfl rfl rfl (simL_nil (nrm_then ?_))
 refine sim_condb rfl (fun h7v => ?_) (fun h8v => ?_)
 refine sim_seq (sim_region ?_)
 refine simL_val (q_move rfl rfl) rfl rfl rfl ?_
 refine simL_val (q_asg rfl rfl) rfl rfl rfl (simL_nil (nrm_then (sim_rtn ?_)))
 refine rtn_then ?_
 exact rtn_fn () rfl rfl rfl (.sel 0 rfl (.nil _))
 refine sim_skip ?_
 refine nrm_then (sim_seq (sim_region ?_))
 refine simL_val (q_move rfl rfl) rfl rfl rfl ?_
 refine simL_val (q_move rfl rfl) rfl rfl rfl ?_
 refine simL_bind (fun s9v hs11v => ?_)
 refine simL_eff (re_call (vs := [.slice a0 x0.length c0, str x1]) (cap := []) (A := []) (rst := [F]) rfl rfl rfl rfl rfl rfl Try.call23 (.sel 0 rfl (.nil _)) (lin_Explain.calls _ _ k a0 c0 x0 x1 (h0.up (Up.lend 0 rfl) (fun _ _ h => h)) hc0 hm0) hs11v) rfl rfl rfl ?_
 intro y10v
 refine simL_val (q_move rfl rfl) rfl rfl rfl ?_
 refine simL_val (q_ext rfl rfl rfl) rfl rfl rfl ?_
 refine simL_val (q_ext rfl rfl rfl) rfl rfl rfl ?_
 refine simL_val (q_ext rfl rfl rfl) rfl rfl rfl ?_
 refine simL_val (q_asg rfl rfl) rfl rfl rfl ?_
 refine simL_val (q_asg rfl rfl) rfl rfl rfl ?_
 refine simL_val (q_asg rfl rfl) rfl rfl rfl (simL_nil (nrm_then (sim_seq (sim_seq (sim_region ?_)))))
 refine simL_val (q_move rfl rfl) rfl rfl rfl ?_
 refine simL_bind (fun s12v hs14v => ?_)
 refine simL_eff (re_call (vs := [.int .i64 s9v.2.2]) (cap := []) (A := []) (rst := [RowV 3 1 (V3 tt) y10v.1 s9v.1 y10v.2, F]) rfl rfl rfl rfl rfl rfl Try.call21 (.sel 0 rfl (.sel 0 rfl (.nil _))) (synodref_Num.calls _ _ s9v.2.2 ) hs14v) rfl rfl rfl ?_
 intro y13v
 refine simL_val (q_neq rfl rfl rfl) rfl rfl rfl (simL_nil (nrm_then ?_))
 refine sim_condn rfl (fun h15v => ?_) (fun h16v => ?_)
 refine sim_skip ?_
 refine nrm_then (sim_seq (sim_seq (sim_region ?_)))
 refine simL_val (q_move rfl rfl) rfl rfl rfl ?_
 refine simL_val (q_move rfl rfl) rfl rfl rfl ?_
 refine simL_cut' 6 (S := Bool × Bool) (Unit) (fun s y => [(0, .slice a0 x0.length c0), (1, str x1), (2, .slice a2 x2.length c2), (9, .slice y10v.1 s9v.1.length y10v.2), (10, .bool s.1), (56, .bool s.2)]) (fun s y => [RowV 3 1 (V3 tt) y10v.1 s9v.1 y10v.2, F]) ?_ ?_
 refine simL_caseb (fun hb28v => ?_) (fun hb29v => ?_)
 rw [hb28v]
 refine simL_valg (q_move rfl rfl) rfl rfl rfl rfl rfl rfl ?_
 refine simL_valg (q_move rfl rfl) rfl rfl rfl rfl rfl rfl ?_
 refine simL_valg (q_move rfl rfl) rfl rfl rfl rfl rfl rfl ?_
 refine simL_openV 0 rfl (fun rs19v hl20v => ?_)
 refine simL_bind (fun s25v hs27v => ?_)
 refine simL_lend 0 rfl (fun hq21v hq22v hq23v hq24v => ?_)
 refine simL_effg (re_call (vs := [.slice a0 x0.length c0, str x1, .slice y10v.1 s9v.1.length y10v.2]) (cap := []) (A := []) (rst := [Row 3 1 y10v.1 s9v.1.length y10v.2 rs19v.flatten, F]) rfl rfl rfl rfl rfl rfl Try.call28 (.sel 0 rfl (.sel 0 rfl (.nil _))) (synodlaw16_keeps.calls _ _ k a0 c0 x0 x1 y10v.1 y10v.2 s9v.1 (h0.up (Up.lend 1 rfl) (fun _ _ h => h)) hc0 hm0 ((Rd.asV hl20v hq21v).up (Up.lend 0 rfl) (fun _ _ h => h)) hq22v hq23v) hs27v) rfl rfl rfl rfl rfl rfl ?_
 intro y26v
 refine simL_valg (q_not rfl rfl) rfl rfl rfl rfl rfl rfl ?_
 refine simL_val (q_pick rfl rfl rfl rfl rfl) rfl rfl rfl (simL_nil ?_)
 exact nrm_cut (s := (true, !s25v)) () ⟨rfl, rfl, rfl, rfl, rfl, rfl, trivial⟩ (.sel' 0 rfl (RowV.mk hl20v) (.sel 0 rfl (.nil _)))
 rw [hb29v]
 refine simL_skipd rfl rfl rfl rfl rfl rfl ?_
 refine simL_skipd rfl rfl rfl rfl rfl rfl ?_
 refine simL_skipd rfl rfl rfl rfl rfl rfl ?_
 refine simL_skipd rfl rfl rfl rfl rfl rfl ?_
 refine simL_skipd rfl rfl rfl rfl rfl rfl ?_
 refine simL_val (q_pick rfl rfl rfl rfl rfl) rfl rfl rfl (simL_nil ?_)
 exact nrm_cut (s := (false, false)) () ⟨rfl, rfl, rfl, rfl, rfl, rfl, trivial⟩ (.sel 0 rfl (.sel 0 rfl (.nil _)))
 intro s17v y18v
 refine simL_nil (nrm_then ?_)
 refine sim_condb rfl (fun h30v => ?_) (fun h31v => ?_)
 refine sim_seq (sim_region ?_)
 refine simL_val (q_asg rfl rfl) rfl rfl rfl (simL_nil (nrm_then (sim_rtn ?_)))
 refine rtn_then ?_
 exact rtn_fn () rfl rfl rfl (.sel 1 rfl (.nil _))
 refine sim_skip ?_
 refine nrm_then (sim_seq (sim_seq (sim_region ?_)))
 refine simL_val (q_move rfl rfl) rfl rfl rfl ?_
 refine simL_val (q_move rfl rfl) rfl rfl rfl ?_
 refine simL_val (q_move rfl rfl) rfl rfl rfl ?_
 refine simL_bind (fun s32v hs34v => ?_)
 refine simL_eff (re_call (vs := [.slice a0 x0.length c0, str x1, .slice a2 x2.length c2]) (cap := []) (A := []) (rst := [RowV 3 1 (V3 tt) y10v.1 s9v.1 y10v.2, F]) rfl rfl rfl rfl rfl rfl Try.call28 (.sel 0 rfl (.sel 0 rfl (.nil _))) (synodlaw16_keeps.calls _ _ k a0 c0 x0 x1 a2 c2 x2 (h0.up (Up.lend 1 rfl) (fun _ _ h => h)) hc0 hm0 (h2.up (Up.lend 1 rfl) (fun _ _ h => h)) hc2 hm2) hs34v) rfl rfl rfl ?_
 intro y33v
 refine simL_val (q_not rfl rfl) rfl rfl rfl (simL_nil (nrm_then ?_))
 refine sim_condb rfl (fun h35v => ?_) (fun h36v => ?_)
 refine sim_seq (sim_region ?_)
 refine simL_val (q_asg rfl rfl) rfl rfl rfl (simL_nil (nrm_then (sim_rtn ?_)))
 refine rtn_then ?_
 exact rtn_fn () rfl rfl rfl (.sel 1 rfl (.nil _))
 refine sim_skip ?_
 refine nrm_then (sim_seq (sim_region ?_))
 refine simL_val (q_move rfl rfl) rfl rfl rfl ?_
 refine simL_val (q_move rfl rfl) rfl rfl rfl ?_
 refine simL_cut' 5 (S := Bool) (Unit) (fun s y => [(68, .bool s)]) (fun s y => [F]) ?_ ?_
 refine simL_caseb (fun hb48v => ?_) (fun hb49v => ?_)
 rw [hb48v]
 refine simL_valg (q_move rfl rfl) rfl rfl rfl rfl rfl rfl ?_
 refine simL_valg (q_move rfl rfl) rfl rfl rfl rfl rfl rfl ?_
 refine simL_openV 0 rfl (fun rs39v hl40v => ?_)
 refine simL_bind (fun s45v hs47v => ?_)
 refine simL_lend 0 rfl (fun hq41v hq42v hq43v hq44v => ?_)
 refine simL_effg (re_call (vs := [.slice a2 x2.length c2, .slice y10v.1 s9v.1.length y10v.2]) (cap := []) (A := []) (rst := [Row 3 1 y10v.1 s9v.1.length y10v.2 rs39v.flatten, F]) rfl rfl rfl rfl rfl rfl Try.call29 (.sel 0 rfl (.sel 0 rfl (.nil _))) (synodlaw16_ahead.calls _ _ k a2 c2 x2 y10v.1 y10v.2 s9v.1 (h2.up (Up.lend 1 rfl) (fun _ _ h => h)) hc2 hm2 ((Rd.asV hl40v hq41v).up (Up.lend 0 rfl) (fun _ _ h => h)) hq42v hq43v) hs47v) rfl rfl rfl rfl rfl rfl ?_
 intro y46v
 refine simL_valg (q_not rfl rfl) rfl rfl rfl rfl rfl rfl ?_
 refine simL_val (q_pick rfl rfl rfl rfl rfl) rfl rfl rfl (simL_nil ?_)
 exact nrm_cut (s := !s45v) () ⟨rfl, trivial⟩ (.sel 1 rfl (.nil _))
 rw [hb49v]
 refine simL_skipd rfl rfl rfl rfl rfl rfl ?_
 refine simL_skipd rfl rfl rfl rfl rfl rfl ?_
 refine simL_skipd rfl rfl rfl rfl rfl rfl ?_
 refine simL_skipd rfl rfl rfl rfl rfl rfl ?_
 refine simL_val (q_pick rfl rfl rfl rfl rfl) rfl rfl rfl (simL_nil ?_)
 exact nrm_cut (s := false) () ⟨rfl, trivial⟩ (.sel 1 rfl (.nil _))
 intro s37v y38v
 refine simL_val (q_asg rfl rfl) rfl rfl rfl (simL_nil (nrm_then (sim_rtn ?_)))
 exact rtn_fn () rfl rfl rfl (.sel 0 rfl (.nil _))
 refine sim_seq (sim_region ?_)
 refine simL_val (q_move rfl rfl) rfl rfl rfl ?_
 refine simL_val (q_not rfl rfl) rfl rfl rfl ?_
 refine simL_val (q_move rfl rfl) rfl rfl rfl ?_
 refine simL_valc (b := !s9v.2.1) (fun hb52v => RQ.sub (E' := [(9, .slice y10v.1 s9v.1.length y10v.2)]) ⟨rfl, trivial⟩ (q_move rfl rfl)) rfl rfl rfl rfl rfl ?_
 refine simL_valc (b := !s9v.2.1) (fun hb51v => RQ.sub (E' := [(45, .slice y10v.1 s9v.1.length y10v.2)]) ⟨lk_cv rfl hb51v, trivial⟩ (q_len rfl rfl rfl Try.underlying39)) rfl rfl rfl rfl rfl ?_
 refine simL_valc (b := !s9v.2.1) (fun hb50v => RQ.sub (E' := [(46, .int .i64 (s9v.1.length : Int))]) ⟨lk_cv rfl hb50v, trivial⟩ (q_eql rfl rfl rfl)) rfl rfl rfl rfl rfl ?_
 refine simL_val (q_and rfl rfl rfl) rfl rfl rfl ?_
 refine simL_val (q_asg rfl rfl) rfl rfl rfl (simL_nil (nrm_then (sim_rtn ?_)))
 refine rtn_then ?_
 exact rtn_fn () rfl rfl rfl (.sel 1 rfl (.nil _))
end Go.Proofs.Ytlblpegbgbgliaa

/- Texts that lead to the law TextOpts: G5. Conditions: as each says. -/
import Derived.Test.YtbcnegennmpliaaDoorM5
namespace Go.Proofs.YtbcnegennmpliaaDoor
open Go.RowKit
set_option linter.unusedVariables false
set_option linter.unusedSimpArgs false
set_option maxRecDepth 20000
set_option maxHeartbeats 20000000
def text_ParseOpts.f (k : Nat) (x0 : List UInt8) : Option (Int × Int × Int × Int × Int × Int × Int × Int × Int × Int × Int × Int × Int × Int × Int × Int × Int × Int × Int × Int) := (text_Words.f k x0).bind fun s2v => (if s2v.2 = (0 : Int) then ((if (s2v.1.length : Int) = (0 : Int) then (some true) else (if 0 ≤ (0 : Int) ∧ (0 : Int) < (s2v.1.length : Int) then (some (!decide ((s2v.1.getD (0 : Int).toNat ([] : List UInt8)) = ([119, 111, 114, 108, 100] : List UInt8)))) else none)).bind fun s7v => (if s7v = true then (some (0, 0, 0, 0, 0, 0, 0, 0, 0, 0, 0, 0, 0, 0, 0, 0, 0, 0, 0, 20)) else ((text_options.f (0 : Int) (0 : Int) (0 : Int) (0 : Int) (0 : Int) (0 : Int) (0 : Int) (0 : Int) (0 : Int) (0 : Int) (0 : Int) (0 : Int) (0 : Int) (0 : Int) (0 : Int) (0 : Int) (0 : Int) (0 : Int) (0 : Int)).bind fun s25v => (if (s2v.1.length : Int) = (19 : Int) then (if 0 ≤ (1 : Int) ∧ (1 : Int) < (s2v.1.length : Int) then ((text_number.f (s2v.1.getD (1 : Int).toNat ([] : List UInt8))).bind fun s58v => ((if (!s58v.2) = true then (some true) else (some false)).bind fun s61v => (if s61v = true then (some (0, 0, 0, 0, 0, 0, 0, 0, 0, 0, 0, 0, 0, 0, 0, 0, 0, 0, 0, 22)) else (if 0 ≤ (2 : Int) ∧ (2 : Int) < (s2v.1.length : Int) then ((text_number.f (s2v.1.getD (2 : Int).toNat ([] : List UInt8))).bind fun s87v => ((if (!s87v.2) = true then (some true) else (some false)).bind fun s90v => (if s90v = true then (some (0, 0, 0, 0, 0, 0, 0, 0, 0, 0, 0, 0, 0, 0, 0, 0, 0, 0, 0, 22)) else (if 0 ≤ (3 : Int) ∧ (3 : Int) < (s2v.1.length : Int) then ((text_number.f (s2v.1.getD (3 : Int).toNat ([] : List UInt8))).bind fun s116v => ((if (!s116v.2) = true then (some true) else (some false)).bind fun s119v => (if s119v = true then (some (0, 0, 0, 0, 0, 0, 0, 0, 0, 0, 0, 0, 0, 0, 0, 0, 0, 0, 0, 22)) else (if 0 ≤ (4 : Int) ∧ (4 : Int) < (s2v.1.length : Int) then ((text_number.f (s2v.1.getD (4 : Int).toNat ([] : List UInt8))).bind fun s145v => ((if (!s145v.2) = true then (some true) else (some false)).bind fun s148v => (if s148v = true then (some (0, 0, 0, 0, 0, 0, 0, 0, 0, 0, 0, 0, 0, 0, 0, 0, 0, 0, 0, 22)) else (if 0 ≤ (5 : Int) ∧ (5 : Int) < (s2v.1.length : Int) then ((text_number.f (s2v.1.getD (5 : Int).toNat ([] : List UInt8))).bind fun s174v => ((if (!s174v.2) = true then (some true) else (some false)).bind fun s177v => (if s177v = true then (some (0, 0, 0, 0, 0, 0, 0, 0, 0, 0, 0, 0, 0, 0, 0, 0, 0, 0, 0, 22)) else (if 0 ≤ (6 : Int) ∧ (6 : Int) < (s2v.1.length : Int) then ((text_number.f (s2v.1.getD (6 : Int).toNat ([] : List UInt8))).bind fun s203v => ((if (!s203v.2) = true then (some true) else (some false)).bind fun s206v => (if s206v = true then (some (0, 0, 0, 0, 0, 0, 0, 0, 0, 0, 0, 0, 0, 0, 0, 0, 0, 0, 0, 22)) else (if 0 ≤ (7 : Int) ∧ (7 : Int) < (s2v.1.length : Int) then ((text_number.f (s2v.1.getD (7 : Int).toNat ([] : List UInt8))).bind fun s232v => ((if (!s232v.2) = true then (some true) else (some false)).bind fun s235v => (if s235v = true then (some (0, 0, 0, 0, 0, 0, 0, 0, 0, 0, 0, 0, 0, 0, 0, 0, 0, 0, 0, 22)) else (if 0 ≤ (8 : Int) ∧ (8 : Int) < (s2v.1.length : Int) then ((text_number.f (s2v.1.getD (8 : Int).toNat ([] : List UInt8))).bind fun s261v => ((if (!s261v.2) = true then (some true) else (some false)).bind fun s264v => (if s264v = true then (some (0, 0, 0, 0, 0, 0, 0, 0, 0, 0, 0, 0, 0, 0, 0, 0, 0, 0, 0, 22)) else (if 0 ≤ (9 : Int) ∧ (9 : Int) < (s2v.1.length : Int) then ((text_number.f (s2v.1.getD (9 : Int).toNat ([] : List UInt8))).bind fun s290v => ((if (!s290v.2) = true then (some true) else (some false)).bind fun s293v => (if s293v = true then (some (0, 0, 0, 0, 0, 0, 0, 0, 0, 0, 0, 0, 0, 0, 0, 0, 0, 0, 0, 22)) else (if 0 ≤ (10 : Int) ∧ (10 : Int) < (s2v.1.length : Int) then ((text_number.f (s2v.1.getD (10 : Int).toNat ([] : List UInt8))).bind fun s319v => ((if (!s319v.2) = true then (some true) else (some false)).bind fun s322v => (if s322v = true then (some (0, 0, 0, 0, 0, 0, 0, 0, 0, 0, 0, 0, 0, 0, 0, 0, 0, 0, 0, 22)) else (if 0 ≤ (11 : Int) ∧ (11 : Int) < (s2v.1.length : Int) then ((text_number.f (s2v.1.getD (11 : Int).toNat ([] : List UInt8))).bind fun s348v => ((if (!s348v.2) = true then (some true) else (some false)).bind fun s351v => (if s351v = true then (some (0, 0, 0, 0, 0, 0, 0, 0, 0, 0, 0, 0, 0, 0, 0, 0, 0, 0, 0, 22)) else (if 0 ≤ (12 : Int) ∧ (12 : Int) < (s2v.1.length : Int) then ((text_number.f (s2v.1.getD (12 : Int).toNat ([] : List UInt8))).bind fun s377v => ((if (!s377v.2) = true then (some true) else (some false)).bind fun s380v => (if s380v = true then (some (0, 0, 0, 0, 0, 0, 0, 0, 0, 0, 0, 0, 0, 0, 0, 0, 0, 0, 0, 22)) else (if 0 ≤ (13 : Int) ∧ (13 : Int) < (s2v.1.length : Int) then ((text_number.f (s2v.1.getD (13 : Int).toNat ([] : List UInt8))).bind fun s406v => ((if (!s406v.2) = true then (some true) else (some false)).bind fun s409v => (if s409v = true then (some (0, 0, 0, 0, 0, 0, 0, 0, 0, 0, 0, 0, 0, 0, 0, 0, 0, 0, 0, 22)) else (if 0 ≤ (14 : Int) ∧ (14 : Int) < (s2v.1.length : Int) then ((text_number.f (s2v.1.getD (14 : Int).toNat ([] : List UInt8))).bind fun s435v => ((if (!s435v.2) = true then (some true) else (some false)).bind fun s438v => (if s438v = true then (some (0, 0, 0, 0, 0, 0, 0, 0, 0, 0, 0, 0, 0, 0, 0, 0, 0, 0, 0, 22)) else (if 0 ≤ (15 : Int) ∧ (15 : Int) < (s2v.1.length : Int) then ((text_number.f (s2v.1.getD (15 : Int).toNat ([] : List UInt8))).bind fun s464v => ((if (!s464v.2) = true then (some true) else (some false)).bind fun s467v => (if s467v = true then (some (0, 0, 0, 0, 0, 0, 0, 0, 0, 0, 0, 0, 0, 0, 0, 0, 0, 0, 0, 22)) else (if 0 ≤ (16 : Int) ∧ (16 : Int) < (s2v.1.length : Int) then ((text_number.f (s2v.1.getD (16 : Int).toNat ([] : List UInt8))).bind fun s493v => ((if (!s493v.2) = true then (some true) else (some false)).bind fun s496v => (if s496v = true then (some (0, 0, 0, 0, 0, 0, 0, 0, 0, 0, 0, 0, 0, 0, 0, 0, 0, 0, 0, 22)) else (if 0 ≤ (17 : Int) ∧ (17 : Int) < (s2v.1.length : Int) then ((text_number.f (s2v.1.getD (17 : Int).toNat ([] : List UInt8))).bind fun s522v => ((if (!s522v.2) = true then (some true) else (some false)).bind fun s525v => (if s525v = true then (some (0, 0, 0, 0, 0, 0, 0, 0, 0, 0, 0, 0, 0, 0, 0, 0, 0, 0, 0, 22)) else (if 0 ≤ (18 : Int) ∧ (18 : Int) < (s2v.1.length : Int) then ((text_number.f (s2v.1.getD (18 : Int).toNat ([] : List UInt8))).bind fun s551v => ((if (!s551v.2) = true then (some true) else (some (!decide (s551v.1 = (0 : Int))))).bind fun s554v => (if s554v = true then (some (0, 0, 0, 0, 0, 0, 0, 0, 0, 0, 0, 0, 0, 0, 0, 0, 0, 0, 0, 22)) else (some (s58v.1, s87v.1, 0, 0, s116v.1, s145v.1, s174v.1, s203v.1, s232v.1, s261v.1, s290v.1, s319v.1, s348v.1, s377v.1, s406v.1, s435v.1, s464v.1, s493v.1, s522v.1, 0))))) else none)))) else none)))) else none)))) else none)))) else none)))) else none)))) else none)))) else none)))) else none)))) else none)))) else none)))) else none)))) else none)))) else none)))) else none)))) else none)))) else none)))) else none) else (some (0, 0, 0, 0, 0, 0, 0, 0, 0, 0, 0, 0, 0, 0, 0, 0, 0, 0, 0, 21)))))) else (some (0, 0, 0, 0, 0, 0, 0, 0, 0, 0, 0, 0, 0, 0, 0, 0, 0, 0, 0, s2v.2)))
theorem text_ParseOpts.calls (W : World) (F : HA) (k : Nat) (x0 : List UInt8) (hgl : Glb Tryd.prog F) :
    Fn Tryd.prog W 24 [str x0] [] F (text_ParseOpts.f k x0) (fun (r : Int × Int × Int × Int × Int × Int × Int × Int × Int × Int × Int × Int × Int × Int × Int × Int × Int × Int × Int × Int) (y : Unit) => .tuple #[.agg #[.int .i64 r.1, .int .i64 r.2.1, .int .i64 r.2.2.1, .int .i64 r.2.2.2.1, .int .i64 r.2.2.2.2.1, .int .i64 r.2.2.2.2.2.1, .int .i64 r.2.2.2.2.2.2.1, .int .i64 r.2.2.2.2.2.2.2.1, .int .i64 r.2.2.2.2.2.2.2.2.1, .int .i64 r.2.2.2.2.2.2.2.2.2.1, .int .i64 r.2.2.2.2.2.2.2.2.2.2.1, .int .i64 r.2.2.2.2.2.2.2.2.2.2.2.1, .int .i64 r.2.2.2.2.2.2.2.2.2.2.2.2.1, .int .i64 r.2.2.2.2.2.2.2.2.2.2.2.2.2.1, .int .i64 r.2.2.2.2.2.2.2.2.2.2.2.2.2.2.1, .int .i64 r.2.2.2.2.2.2.2.2.2.2.2.2.2.2.2.1, .int .i64 r.2.2.2.2.2.2.2.2.2.2.2.2.2.2.2.2.1, .int .i64 r.2.2.2.2.2.2.2.2.2.2.2.2.2.2.2.2.2.1, .int .i64 r.2.2.2.2.2.2.2.2.2.2.2.2.2.2.2.2.2.2.1], .int .i64 r.2.2.2.2.2.2.2.2.2.2.2.2.2.2.2.2.2.2.2]) (fun r y => []) := by
 unfold text_ParseOpts.f
 refine fn_intro 75 Tryd.func24 rfl Tryd.ntmps24 rfl ?_
 refine sr ?_
 refine simL_eff (re_alloc rfl Tryd.zeroValue54 rfl) rfl rfl rfl ?_
 intro b1v
 refine va rfl rfl (nx ?_)
 refine vm rfl rfl ?_
 refine simL_bind (fun s2v hs3v => ?_)
 refine simL_eff (re_call (vs := [str x0]) (cap := []) (A := []) (rst := [obj b1v 54 [.int .i64 0, .int .i64 0, .int .i64 0, .int .i64 0, .int .i64 0, .int .i64 0, .int .i64 0, .int .i64 0, .int .i64 0, .int .i64 0, .int .i64 0, .int .i64 0, .int .i64 0, .int .i64 0, .int .i64 0, .int .i64 0, .int .i64 0, .int .i64 0, .int .i64 0], F]) rfl rfl rfl rfl rfl rfl Tryd.call12 (.sel 0 rfl (.sel 0 rfl (.nil _))) (text_Words.calls _ _ k x0 ) hs3v) rfl rfl rfl ?_
 intro y4v
 refine vm rfl rfl ?_
 refine vq (q_ext rfl rfl rfl) rfl ?_
 refine vq (q_ext rfl rfl rfl) rfl ?_
 refine va rfl rfl ?_
 refine va rfl rfl (simL_nil (nrm_then (sim_seq (sr ?_))))
 refine vm rfl rfl ?_
 refine vq (q_neq rfl rfl rfl) rfl (simL_nil (nrm_then ?_))
 refine sim_condn rfl (fun h5v => ?_) (fun h6v => ?_)
 refine sim_skip ?_
 refine nrm_then (sim_seq (sr ?_))
 refine vm rfl rfl ?_
 refine vq (q_len rfl rfl rfl Tryd.underlying23) rfl ?_
 refine vq (q_eql rfl rfl rfl) rfl ?_
 refine vm rfl rfl ?_
 refine simL_cut' 5 (S := Bool) (Unit) (fun s y => [(2, .pointer (some ⟨b1v, 0, none⟩)), (4, .slice y4v.1 s2v.1.length y4v.2), (30, .bool s)]) (fun s y => [obj b1v 54 [.int .i64 0, .int .i64 0, .int .i64 0, .int .i64 0, .int .i64 0, .int .i64 0, .int .i64 0, .int .i64 0, .int .i64 0, .int .i64 0, .int .i64 0, .int .i64 0, .int .i64 0, .int .i64 0, .int .i64 0, .int .i64 0, .int .i64 0, .int .i64 0, .int .i64 0], RowV 9 1 (V9 tt) y4v.1 s2v.1 y4v.2, F]) ?_ ?_
 refine simL_casep (fun hb19v => ?_) (fun hb20v => ?_)
 rw [hb19v]
 refine simL_skipd rfl rfl rfl rfl rfl rfl ?_
 refine simL_skipd rfl rfl rfl rfl rfl rfl ?_
 refine simL_skipd rfl rfl rfl rfl rfl rfl ?_
 refine simL_skipd rfl rfl rfl rfl rfl rfl ?_
 refine vq (q_pick rfl rfl rfl rfl rfl) rfl (simL_nil ?_)
 exact nrm_cut (s := true) () ⟨rfl, rfl, rfl, trivial⟩ (.sel 1 rfl (.sel 0 rfl (.sel 0 rfl (.nil _))))
 rw [hb20v]
 refine simL_valg (q_move rfl rfl) rfl rfl rfl rfl rfl rfl ?_
 refine simL_openV 0 rfl (fun rs17v hl18v => ?_)
 refine simL_ask (fun hi9v => ?_)
 refine simL_posV 0 rfl hl18v rfl (i := (0 : Int).toNat) (by omega) ([] : List UInt8) (fun b10v b10vo r13v ha11v hV14v hlr15v hcell16v => ?_)
 obtain rfl := hV14v
 refine simL_valg (q_idx rfl rfl rfl ha11v Tryd.underlying23 Tryd.sizeOf9 hi9v.1 hi9v.2) rfl rfl rfl rfl rfl rfl ?_
 refine simL_valg (q_load rfl rfl Tryd.isAgg9 (hcell16v 0 rfl 0 _ rfl)) rfl rfl rfl rfl rfl rfl ?_
 refine simL_valg (q_nes rfl rfl rfl) rfl rfl rfl rfl rfl rfl ?_
 refine vq (q_pick rfl rfl rfl rfl rfl) rfl (simL_nil ?_)
 exact nrm_cut (s := !decide ((s2v.1.getD (0 : Int).toNat ([] : List UInt8)) = ([119, 111, 114, 108, 100] : List UInt8))) () ⟨rfl, rfl, rfl, trivial⟩ (.sel 1 rfl (.sel' 0 rfl (RowV.mk hl18v) (.sel 0 rfl (.nil _))))
 intro s7v y8v
 refine simL_nil (nrm_then ?_)
 refine sim_condb rfl (fun h21v => ?_) (fun h22v => ?_)
 refine sr ?_
 refine vq (q_build (v := .agg #[.int .i64 0, .int .i64 0, .int .i64 0, .int .i64 0, .int .i64 0, .int .i64 0, .int .i64 0, .int .i64 0, .int .i64 0, .int .i64 0, .int .i64 0, .int .i64 0, .int .i64 0, .int .i64 0, .int .i64 0, .int .i64 0, .int .i64 0, .int .i64 0, .int .i64 0]) rfl rfl (fun _ => by kernel_rfl)) rfl ?_
 refine simL_do (re_store 0 rfl rfl rfl Tryd.sizeOf54 rfl rfl (one_of (by rfl)) rfl rfl) rfl rfl ?_
 intro _
 refine simL_ent (H' := [obj b1v 54 [.int .i64 0, .int .i64 0, .int .i64 0, .int .i64 0, .int .i64 0, .int .i64 0, .int .i64 0, .int .i64 0, .int .i64 0, .int .i64 0, .int .i64 0, .int .i64 0, .int .i64 0, .int .i64 0, .int .i64 0, .int .i64 0, .int .i64 0, .int .i64 0, .int .i64 0], RowV 9 1 (V9 tt) y4v.1 s2v.1 y4v.2, F]) (Ent.refl _) ?_
 refine va rfl rfl (simL_nil (nrm_then (sim_rtn ?_)))
 refine rtn_then ?_
 exact rtn_fnC (vs := [.agg #[.int .i64 0, .int .i64 0, .int .i64 0, .int .i64 0, .int .i64 0, .int .i64 0, .int .i64 0, .int .i64 0, .int .i64 0, .int .i64 0, .int .i64 0, .int .i64 0, .int .i64 0, .int .i64 0, .int .i64 0, .int .i64 0, .int .i64 0, .int .i64 0, .int .i64 0], .int .i64 20]) () rfl ⟨⟨b1v, rfl, load_agg 0 Tryd.isAgg54 Tryd.sizeOf54 rfl rfl⟩, rfl, trivial⟩ rfl (.sel 2 rfl (.nil _))
 refine sim_skip ?_
 refine nrm_then (sr ?_)
 refine vq (q_build (v := .agg #[.int .i64 0, .int .i64 0, .int .i64 0, .int .i64 0, .int .i64 0, .int .i64 0, .int .i64 0, .int .i64 0, .int .i64 0, .int .i64 0, .int .i64 0, .int .i64 0, .int .i64 0, .int .i64 0, .int .i64 0, .int .i64 0, .int .i64 0, .int .i64 0, .int .i64 0]) rfl rfl (fun _ => by kernel_rfl)) rfl ?_
 refine simL_eff (re_alloc rfl Tryd.zeroValue54 rfl) rfl rfl rfl ?_
 intro b23v
 refine simL_do (re_store 0 rfl rfl rfl Tryd.sizeOf54 rfl rfl (one_of (by rfl)) rfl rfl) rfl rfl ?_
 intro _
 refine simL_ent (H' := [obj b23v 54 [.int .i64 0, .int .i64 0, .int .i64 0, .int .i64 0, .int .i64 0, .int .i64 0, .int .i64 0, .int .i64 0, .int .i64 0, .int .i64 0, .int .i64 0, .int .i64 0, .int .i64 0, .int .i64 0, .int .i64 0, .int .i64 0, .int .i64 0, .int .i64 0, .int .i64 0], obj b1v 54 [.int .i64 0, .int .i64 0, .int .i64 0, .int .i64 0, .int .i64 0, .int .i64 0, .int .i64 0, .int .i64 0, .int .i64 0, .int .i64 0, .int .i64 0, .int .i64 0, .int .i64 0, .int .i64 0, .int .i64 0, .int .i64 0, .int .i64 0, .int .i64 0, .int .i64 0], RowV 9 1 (V9 tt) y4v.1 s2v.1 y4v.2, F]) (Ent.refl _) ?_
 refine nx ?_
 refine simL_eff (re_alloc rfl Tryd.zeroValue3 rfl) rfl rfl rfl ?_
 intro b24v
 refine simL_do (re_store 0 rfl rfl rfl Tryd.sizeOf3 rfl rfl (one_of (by rfl)) rfl rfl) rfl rfl ?_
 intro _
 refine nx ?_
 refine simL_bind (fun s25v hs26v => ?_)
 refine simL_eff (re_call (vs := [.pointer (some ⟨b23v, 0, none⟩)]) (cap := []) (A := [obj b23v 54 [.int .i64 0, .int .i64 0, .int .i64 0, .int .i64 0, .int .i64 0, .int .i64 0, .int .i64 0, .int .i64 0, .int .i64 0, .int .i64 0, .int .i64 0, .int .i64 0, .int .i64 0, .int .i64 0, .int .i64 0, .int .i64 0, .int .i64 0, .int .i64 0, .int .i64 0]]) (rst := [obj b24v 3 [.int .i64 0], obj b1v 54 [.int .i64 0, .int .i64 0, .int .i64 0, .int .i64 0, .int .i64 0, .int .i64 0, .int .i64 0, .int .i64 0, .int .i64 0, .int .i64 0, .int .i64 0, .int .i64 0, .int .i64 0, .int .i64 0, .int .i64 0, .int .i64 0, .int .i64 0, .int .i64 0, .int .i64 0], RowV 9 1 (V9 tt) y4v.1 s2v.1 y4v.2, F]) rfl rfl rfl rfl rfl rfl Tryd.call54 (.sel 1 rfl (.sel 0 rfl (.sel 0 rfl (.sel 0 rfl (.sel 0 rfl (.nil _)))))) (text_options.calls _ _ b23v (0 : Int) (0 : Int) (0 : Int) (0 : Int) (0 : Int) (0 : Int) (0 : Int) (0 : Int) (0 : Int) (0 : Int) (0 : Int) (0 : Int) (0 : Int) (0 : Int) (0 : Int) (0 : Int) (0 : Int) (0 : Int) (0 : Int) ) hs26v) rfl rfl rfl ?_
 intro y27v
 have hlb29v : ListV 1 (V115 tt) ([(b24v, 0)] : List ((Nat × Nat))) [[.pointer (some ⟨b24v, 0, none⟩)]] := ⟨⟨rfl, one_of (by rfl), rfl⟩, trivial⟩
 refine simL_eff (re_litV (V := (V115 tt)) (xs := ([(b24v, 0)] : List ((Nat × Nat)))) [[.pointer (some ⟨b24v, 0, none⟩)]] rfl rfl Tryd.underlying120 elt115 rfl (by kernel_rfl) rfl hlb29v rfl rfl) rfl rfl rfl ?_
 intro b29v
 refine simL_openV 1 rfl (fun rs34v hl35v => ?_)
 have hb33v : (([(b23v, 0), (b23v, 1), (b23v, 4), (b23v, 5), (b23v, 6), (b23v, 7), (b23v, 8), (b23v, 9), (b23v, 10), (b23v, 11), (b23v, 12), (b23v, 13), (b23v, 14), (b23v, 15), (b23v, 16), (b23v, 17), (b23v, 18)] : List ((Nat × Nat))).length + ([(b24v, 0)] : List ((Nat × Nat))).length) * 8 ≤ 140737488355328 := Nat.le_of_ble_eq_true rfl
 refine simL_eff (re_appendV 1 rfl rfl rfl Tryd.underlying120 elt115 rfl hl35v (RdsV.row hlb29v 0 rfl) hb33v) rfl rfl rfl ?_
 intro y32v
 refine va rfl rfl (simL_nil (nrm_then (sim_seq (sr ?_))))
 refine vm rfl rfl ?_
 refine vq (q_len rfl rfl rfl Tryd.underlying23) rfl ?_
 refine vm rfl rfl ?_
 refine vq (rq_cast (v' := .int .i64 18) rfl (q_len rfl rfl rfl Tryd.underlying120)) rfl ?_
 refine vq (q_add rfl rfl rfl) rfl ?_
 refine vq (q_neq rfl rfl rfl) rfl (simL_nil (nrm_then ?_))
 refine sim_condn rfl (fun h36v => ?_) (fun h37v => ?_)
 refine sim_skip ?_
 refine nrm_then (sim_seq (sr ?_))
 refine vm rfl rfl ?_
 refine vq (rq_cast (v' := .int .i64 18) rfl (q_len rfl rfl rfl Tryd.underlying120)) rfl ?_
 refine vm rfl rfl (simL_nil (nrm_then ?_))
 refine sim_block ?_
 refine sim_rounds 20 (rnd_succ ?_)
 refine sr ?_
 refine vq (q_lss rfl rfl rfl) rfl (simL_nil (nrm_then (sim_seq ?_)))
 refine sim_true rfl ?_
 refine sim_skip ?_
 refine nrm_then (sim_seq ?_)
 refine sim_block ?_
 refine sr ?_
 refine vm rfl rfl ?_
 refine simL_openV 1 rfl (fun rs46v hl47v => ?_)
 have hi38v : (0 : Int) ≤ (0 : Int) ∧ (0 : Int) < ((([(b23v, 0), (b23v, 1), (b23v, 4), (b23v, 5), (b23v, 6), (b23v, 7), (b23v, 8), (b23v, 9), (b23v, 10), (b23v, 11), (b23v, 12), (b23v, 13), (b23v, 14), (b23v, 15), (b23v, 16), (b23v, 17), (b23v, 18)] : List ((Nat × Nat))) ++ ([(b24v, 0)] : List ((Nat × Nat)))).length : Int) := ⟨by decide, (show (0 : Int) < ((18 : Nat) : Int) by decide)⟩
 refine simL_posV 1 rfl hl47v rfl (i := (0 : Int).toNat) (by omega) ((0, 0) : Nat × Nat) (fun b39v b39vo r42v ha40v hV43v hlr44v hcell45v => ?_)
 obtain rfl := hV43v
 refine vq (q_idx rfl rfl rfl ha40v Tryd.underlying120 Tryd.sizeOf115 hi38v.1 hi38v.2) rfl ?_
 refine vq (rq_cast (v' := .pointer (some ⟨b23v, 0, none⟩)) rfl (q_load rfl rfl Tryd.isAgg115 (hcell45v 1 rfl 0 _ rfl))) rfl ?_
 refine va rfl rfl ?_
 refine va rfl rfl (nx ?_)
 refine vm rfl rfl ?_
 refine vm rfl rfl ?_
 refine vq (q_add rfl rfl rfl) rfl ?_
 refine simL_openV 5 rfl (fun rs56v hl57v => ?_)
 refine simL_ask (fun hi48v => ?_)
 refine simL_posV 5 rfl hl57v rfl (i := (1 : Int).toNat) (by omega) ([] : List UInt8) (fun b49v b49vo r52v ha50v hV53v hlr54v hcell55v => ?_)
 obtain rfl := hV53v
 refine vq (q_idx rfl rfl rfl ha50v Tryd.underlying23 Tryd.sizeOf9 hi48v.1 hi48v.2) rfl ?_
 refine vq (q_load rfl rfl Tryd.isAgg9 (hcell55v 5 rfl 0 _ rfl)) rfl ?_
 refine simL_bind (fun s58v hs59v => ?_)
 refine simL_eff (re_call (vs := [str (s2v.1.getD (1 : Int).toNat ([] : List UInt8))]) (cap := []) (A := []) (rst := [Row 115 1 (some ⟨b29v, 0, none⟩) ([(b24v, 0)] : List ((Nat × Nat))).length 1 [[.pointer (some ⟨b24v, 0, none⟩)]].flatten, Row 115 1 y32v.1 (([(b23v, 0), (b23v, 1), (b23v, 4), (b23v, 5), (b23v, 6), (b23v, 7), (b23v, 8), (b23v, 9), (b23v, 10), (b23v, 11), (b23v, 12), (b23v, 13), (b23v, 14), (b23v, 15), (b23v, 16), (b23v, 17), (b23v, 18)] : List ((Nat × Nat))) ++ ([(b24v, 0)] : List ((Nat × Nat)))).length y32v.2 rs46v.flatten, obj b23v 54 [.int .i64 0, .int .i64 0, .int .i64 0, .int .i64 0, .int .i64 0, .int .i64 0, .int .i64 0, .int .i64 0, .int .i64 0, .int .i64 0, .int .i64 0, .int .i64 0, .int .i64 0, .int .i64 0, .int .i64 0, .int .i64 0, .int .i64 0, .int .i64 0, .int .i64 0], obj b24v 3 [.int .i64 0], obj b1v 54 [.int .i64 0, .int .i64 0, .int .i64 0, .int .i64 0, .int .i64 0, .int .i64 0, .int .i64 0, .int .i64 0, .int .i64 0, .int .i64 0, .int .i64 0, .int .i64 0, .int .i64 0, .int .i64 0, .int .i64 0, .int .i64 0, .int .i64 0, .int .i64 0, .int .i64 0], Row 9 1 y4v.1 s2v.1.length y4v.2 rs56v.flatten, F]) rfl rfl rfl rfl rfl rfl Tryd.call55 (.sel 0 rfl (.sel 0 rfl (.sel 0 rfl (.sel 0 rfl (.sel 0 rfl (.sel 0 rfl (.sel 0 rfl (.nil _)))))))) (text_number.calls _ _ (s2v.1.getD (1 : Int).toNat ([] : List UInt8)) (hgl.lend 6 rfl)) hs59v) rfl rfl rfl ?_
 intro y60v
 refine vm rfl rfl ?_
 refine vq (q_ext rfl rfl rfl) rfl ?_
 refine vq (q_ext rfl rfl rfl) rfl ?_
 refine va rfl rfl ?_
 refine va rfl rfl (simL_nil (nrm_then (sim_seq (sr ?_))))
 refine vm rfl rfl ?_
 refine vq (q_not rfl rfl) rfl ?_
 refine vm rfl rfl ?_
 refine simL_cut' 7 (S := Bool) (Unit) (fun s y => [(2, .pointer (some ⟨b1v, 0, none⟩)), (4, .slice y4v.1 s2v.1.length y4v.2), (6, .pointer (some ⟨b23v, 0, none⟩)), (7, .pointer (some ⟨b24v, 0, none⟩)), (10, .pointer (some ⟨b23v, 0, none⟩)), (11, .int .i64 s58v.1), (43, .slice y32v.1 ((([(b23v, 0), (b23v, 1), (b23v, 4), (b23v, 5), (b23v, 6), (b23v, 7), (b23v, 8), (b23v, 9), (b23v, 10), (b23v, 11), (b23v, 12), (b23v, 13), (b23v, 14), (b23v, 15), (b23v, 16), (b23v, 17), (b23v, 18)] : List ((Nat × Nat))) ++ ([(b24v, 0)] : List ((Nat × Nat)))).length) y32v.2), (44, .int .i64 18), (45, .int .i64 0), (65, undef), (66, undef), (68, .bool s)]) (fun s y => [obj b23v 54 [.int .i64 0, .int .i64 0, .int .i64 0, .int .i64 0, .int .i64 0, .int .i64 0, .int .i64 0, .int .i64 0, .int .i64 0, .int .i64 0, .int .i64 0, .int .i64 0, .int .i64 0, .int .i64 0, .int .i64 0, .int .i64 0, .int .i64 0, .int .i64 0, .int .i64 0], obj b24v 3 [.int .i64 0], obj b1v 54 [.int .i64 0, .int .i64 0, .int .i64 0, .int .i64 0, .int .i64 0, .int .i64 0, .int .i64 0, .int .i64 0, .int .i64 0, .int .i64 0, .int .i64 0, .int .i64 0, .int .i64 0, .int .i64 0, .int .i64 0, .int .i64 0, .int .i64 0, .int .i64 0, .int .i64 0], RowV 9 1 (V9 tt) y4v.1 s2v.1 y4v.2, RowV 115 1 (V115 tt) y32v.1 (([(b23v, 0), (b23v, 1), (b23v, 4), (b23v, 5), (b23v, 6), (b23v, 7), (b23v, 8), (b23v, 9), (b23v, 10), (b23v, 11), (b23v, 12), (b23v, 13), (b23v, 14), (b23v, 15), (b23v, 16), (b23v, 17), (b23v, 18)] : List ((Nat × Nat))) ++ ([(b24v, 0)] : List ((Nat × Nat)))) y32v.2, F]) ?_ ?_
 refine simL_caseb (fun hb63v => ?_) (fun hb64v => ?_)
 rw [hb63v]
 refine simL_skipd rfl rfl rfl rfl rfl rfl ?_
 refine simL_skipd rfl rfl rfl rfl rfl rfl ?_
 refine simL_skipd rfl rfl rfl rfl rfl rfl ?_
 refine simL_skipu rfl rfl rfl rfl rfl ?_
 refine simL_skipu rfl rfl rfl rfl rfl ?_
 refine simL_skipd rfl rfl rfl rfl rfl rfl ?_
 refine vq (q_pick rfl rfl rfl rfl rfl) rfl (simL_nil ?_)
 exact nrm_cut (s := true) () ⟨rfl, rfl, rfl, rfl, rfl, rfl, rfl, rfl, rfl, rfl, rfl, rfl, trivial⟩ (.sel 2 rfl (.sel 2 rfl (.sel 2 rfl (.sel' 2 rfl (RowV.mk hl57v) (.sel' 1 rfl (RowV.mk hl47v) (.sel 1 rfl (.nil _)))))))
 rw [hb64v]
 refine simL_valg (q_move rfl rfl) rfl rfl rfl rfl rfl rfl ?_
 refine simL_valg (q_eqpp 2 3 (.inl rfl) rfl rfl rfl rfl rfl Tryd.underlying115 Tryd.sizeOf3) rfl rfl rfl rfl rfl rfl ?_
 refine simL_valg (q_move rfl rfl) rfl rfl rfl rfl rfl rfl ?_
 refine simL_skipd rfl rfl rfl rfl rfl rfl ?_
 refine simL_skipd rfl rfl rfl rfl rfl rfl ?_
 refine simL_valg (q_pick rfl rfl rfl rfl rfl) rfl rfl rfl rfl rfl rfl ?_
 refine vq (q_pick rfl rfl rfl rfl rfl) rfl (simL_nil ?_)
 exact nrm_cut (s := false) () ⟨rfl, rfl, rfl, rfl, rfl, rfl, rfl, rfl, rfl, rfl, rfl, rfl, trivial⟩ (.sel 2 rfl (.sel 2 rfl (.sel 2 rfl (.sel' 2 rfl (RowV.mk hl57v) (.sel' 1 rfl (RowV.mk hl47v) (.sel 1 rfl (.nil _)))))))
 intro s61v y62v
 refine simL_nil (nrm_then ?_)
 refine sim_condb rfl (fun h65v => ?_) (fun h66v => ?_)
 refine sr ?_
 refine vq (q_build (v := .agg #[.int .i64 0, .int .i64 0, .int .i64 0, .int .i64 0, .int .i64 0, .int .i64 0, .int .i64 0, .int .i64 0, .int .i64 0, .int .i64 0, .int .i64 0, .int .i64 0, .int .i64 0, .int .i64 0, .int .i64 0, .int .i64 0, .int .i64 0, .int .i64 0, .int .i64 0]) rfl rfl (fun _ => by kernel_rfl)) rfl ?_
 refine simL_do (re_store 2 rfl rfl rfl Tryd.sizeOf54 rfl rfl (one_of (by rfl)) rfl rfl) rfl rfl ?_
 intro _
 refine simL_ent (H' := [obj b23v 54 [.int .i64 0, .int .i64 0, .int .i64 0, .int .i64 0, .int .i64 0, .int .i64 0, .int .i64 0, .int .i64 0, .int .i64 0, .int .i64 0, .int .i64 0, .int .i64 0, .int .i64 0, .int .i64 0, .int .i64 0, .int .i64 0, .int .i64 0, .int .i64 0, .int .i64 0], obj b24v 3 [.int .i64 0], obj b1v 54 [.int .i64 0, .int .i64 0, .int .i64 0, .int .i64 0, .int .i64 0, .int .i64 0, .int .i64 0, .int .i64 0, .int .i64 0, .int .i64 0, .int .i64 0, .int .i64 0, .int .i64 0, .int .i64 0, .int .i64 0, .int .i64 0, .int .i64 0, .int .i64 0, .int .i64 0], RowV 9 1 (V9 tt) y4v.1 s2v.1 y4v.2, RowV 115 1 (V115 tt) y32v.1 (([(b23v, 0), (b23v, 1), (b23v, 4), (b23v, 5), (b23v, 6), (b23v, 7), (b23v, 8), (b23v, 9), (b23v, 10), (b23v, 11), (b23v, 12), (b23v, 13), (b23v, 14), (b23v, 15), (b23v, 16), (b23v, 17), (b23v, 18)] : List ((Nat × Nat))) ++ ([(b24v, 0)] : List ((Nat × Nat)))) y32v.2, F]) (Ent.refl _) ?_
 refine va rfl rfl (simL_nil (nrm_then (sim_rtn ?_)))
 refine rtn_then ?_
 refine rtn_block ?_
 refine rtn_then ?_
 refine rtn_rnd ?_
 refine rtn_block ?_
 refine rtn_then ?_
 exact rtn_fnC (vs := [.agg #[.int .i64 0, .int .i64 0, .int .i64 0, .int .i64 0, .int .i64 0, .int .i64 0, .int .i64 0, .int .i64 0, .int .i64 0, .int .i64 0, .int .i64 0, .int .i64 0, .int .i64 0, .int .i64 0, .int .i64 0, .int .i64 0, .int .i64 0, .int .i64 0, .int .i64 0], .int .i64 22]) () rfl ⟨⟨b1v, rfl, load_agg 2 Tryd.isAgg54 Tryd.sizeOf54 rfl rfl⟩, rfl, trivial⟩ rfl (.sel 5 rfl (.nil _))
 refine sim_skip ?_
 refine nrm_then (sim_region ?_)
 refine vm rfl rfl ?_
 refine vm rfl rfl ?_
 refine vn rfl rfl ?_
 refine simL_do (re_store 0 rfl rfl rfl Tryd.sizeOf3 rfl rfl (one_of (by rfl)) rfl rfl) rfl rfl ?_
 intro _
 refine simL_ent (H' := [obj b23v 54 [.int .i64 s58v.1, .int .i64 0, .int .i64 0, .int .i64 0, .int .i64 0, .int .i64 0, .int .i64 0, .int .i64 0, .int .i64 0, .int .i64 0, .int .i64 0, .int .i64 0, .int .i64 0, .int .i64 0, .int .i64 0, .int .i64 0, .int .i64 0, .int .i64 0, .int .i64 0], obj b24v 3 [.int .i64 0], obj b1v 54 [.int .i64 0, .int .i64 0, .int .i64 0, .int .i64 0, .int .i64 0, .int .i64 0, .int .i64 0, .int .i64 0, .int .i64 0, .int .i64 0, .int .i64 0, .int .i64 0, .int .i64 0, .int .i64 0, .int .i64 0, .int .i64 0, .int .i64 0, .int .i64 0, .int .i64 0], RowV 9 1 (V9 tt) y4v.1 s2v.1 y4v.2, RowV 115 1 (V115 tt) y32v.1 (([(b23v, 0), (b23v, 1), (b23v, 4), (b23v, 5), (b23v, 6), (b23v, 7), (b23v, 8), (b23v, 9), (b23v, 10), (b23v, 11), (b23v, 12), (b23v, 13), (b23v, 14), (b23v, 15), (b23v, 16), (b23v, 17), (b23v, 18)] : List ((Nat × Nat))) ++ ([(b24v, 0)] : List ((Nat × Nat)))) y32v.2, F]) (Ent.refl _) ?_
 refine simL_nil (nrm_block (nrm_then (sim_region ?_)))
 refine vq (q_add rfl rfl rfl) rfl ?_
 refine vm rfl rfl (simL_nil ?_)
 refine nrm_rnd (rnd_succ ?_)
 refine sr ?_
 refine vq (q_lss rfl rfl rfl) rfl (simL_nil (nrm_then (sim_seq ?_)))
 refine sim_true rfl ?_
 refine sim_skip ?_
 refine nrm_then (sim_seq ?_)
 refine sim_block ?_
 refine sr ?_
 refine vm rfl rfl ?_
 refine simL_openV 4 rfl (fun rs75v hl76v => ?_)
 have hi67v : (0 : Int) ≤ (1 : Int) ∧ (1 : Int) < ((([(b23v, 0), (b23v, 1), (b23v, 4), (b23v, 5), (b23v, 6), (b23v, 7), (b23v, 8), (b23v, 9), (b23v, 10), (b23v, 11), (b23v, 12), (b23v, 13), (b23v, 14), (b23v, 15), (b23v, 16), (b23v, 17), (b23v, 18)] : List ((Nat × Nat))) ++ ([(b24v, 0)] : List ((Nat × Nat)))).length : Int) := ⟨by decide, (show (1 : Int) < ((18 : Nat) : Int) by decide)⟩
 refine simL_posV 4 rfl hl76v rfl (i := (1 : Int).toNat) (by omega) ((0, 0) : Nat × Nat) (fun b68v b68vo r71v ha69v hV72v hlr73v hcell74v => ?_)
 obtain rfl := hV72v
 refine vq (q_idx rfl rfl rfl ha69v Tryd.underlying120 Tryd.sizeOf115 hi67v.1 hi67v.2) rfl ?_
 refine vq (rq_cast (v' := .pointer (some ⟨b23v, 1, none⟩)) rfl (q_load rfl rfl Tryd.isAgg115 (hcell74v 4 rfl 0 _ rfl))) rfl ?_
 refine va rfl rfl ?_
 refine va rfl rfl (nx ?_)
 refine vm rfl rfl ?_
 refine vm rfl rfl ?_
 refine vq (q_add rfl rfl rfl) rfl ?_
 refine simL_openV 3 rfl (fun rs85v hl86v => ?_)
 refine simL_ask (fun hi77v => ?_)
 refine simL_posV 3 rfl hl86v rfl (i := (2 : Int).toNat) (by omega) ([] : List UInt8) (fun b78v b78vo r81v ha79v hV82v hlr83v hcell84v => ?_)
 obtain rfl := hV82v
 refine vq (q_idx rfl rfl rfl ha79v Tryd.underlying23 Tryd.sizeOf9 hi77v.1 hi77v.2) rfl ?_
 refine vq (q_load rfl rfl Tryd.isAgg9 (hcell84v 3 rfl 0 _ rfl)) rfl ?_
 refine simL_bind (fun s87v hs88v => ?_)
 refine simL_eff (re_call (vs := [str (s2v.1.getD (2 : Int).toNat ([] : List UInt8))]) (cap := []) (A := []) (rst := [obj b23v 54 [.int .i64 s58v.1, .int .i64 0, .int .i64 0, .int .i64 0, .int .i64 0, .int .i64 0, .int .i64 0, .int .i64 0, .int .i64 0, .int .i64 0, .int .i64 0, .int .i64 0, .int .i64 0, .int .i64 0, .int .i64 0, .int .i64 0, .int .i64 0, .int .i64 0, .int .i64 0], obj b24v 3 [.int .i64 0], obj b1v 54 [.int .i64 0, .int .i64 0, .int .i64 0, .int .i64 0, .int .i64 0, .int .i64 0, .int .i64 0, .int .i64 0, .int .i64 0, .int .i64 0, .int .i64 0, .int .i64 0, .int .i64 0, .int .i64 0, .int .i64 0, .int .i64 0, .int .i64 0, .int .i64 0, .int .i64 0], Row 9 1 y4v.1 s2v.1.length y4v.2 rs85v.flatten, Row 115 1 y32v.1 (([(b23v, 0), (b23v, 1), (b23v, 4), (b23v, 5), (b23v, 6), (b23v, 7), (b23v, 8), (b23v, 9), (b23v, 10), (b23v, 11), (b23v, 12), (b23v, 13), (b23v, 14), (b23v, 15), (b23v, 16), (b23v, 17), (b23v, 18)] : List ((Nat × Nat))) ++ ([(b24v, 0)] : List ((Nat × Nat)))).length y32v.2 rs75v.flatten, F]) rfl rfl rfl rfl rfl rfl Tryd.call55 (.sel 0 rfl (.sel 0 rfl (.sel 0 rfl (.sel 0 rfl (.sel 0 rfl (.sel 0 rfl (.nil _))))))) (text_number.calls _ _ (s2v.1.getD (2 : Int).toNat ([] : List UInt8)) (hgl.lend 5 rfl)) hs88v) rfl rfl rfl ?_
 intro y89v
 refine vm rfl rfl ?_
 refine vq (q_ext rfl rfl rfl) rfl ?_
 refine vq (q_ext rfl rfl rfl) rfl ?_
 refine va rfl rfl ?_
 refine va rfl rfl (simL_nil (nrm_then (sim_seq (sr ?_))))
 refine vm rfl rfl ?_
 refine vq (q_not rfl rfl) rfl ?_
 refine vm rfl rfl ?_
 refine simL_cut' 7 (S := Bool) (Unit) (fun s y => [(2, .pointer (some ⟨b1v, 0, none⟩)), (4, .slice y4v.1 s2v.1.length y4v.2), (6, .pointer (some ⟨b23v, 0, none⟩)), (7, .pointer (some ⟨b24v, 0, none⟩)), (10, .pointer (some ⟨b23v, 1, none⟩)), (11, .int .i64 s87v.1), (43, .slice y32v.1 ((([(b23v, 0), (b23v, 1), (b23v, 4), (b23v, 5), (b23v, 6), (b23v, 7), (b23v, 8), (b23v, 9), (b23v, 10), (b23v, 11), (b23v, 12), (b23v, 13), (b23v, 14), (b23v, 15), (b23v, 16), (b23v, 17), (b23v, 18)] : List ((Nat × Nat))) ++ ([(b24v, 0)] : List ((Nat × Nat)))).length) y32v.2), (44, .int .i64 18), (45, .int .i64 1), (65, undef), (66, undef), (68, .bool s)]) (fun s y => [obj b23v 54 [.int .i64 s58v.1, .int .i64 0, .int .i64 0, .int .i64 0, .int .i64 0, .int .i64 0, .int .i64 0, .int .i64 0, .int .i64 0, .int .i64 0, .int .i64 0, .int .i64 0, .int .i64 0, .int .i64 0, .int .i64 0, .int .i64 0, .int .i64 0, .int .i64 0, .int .i64 0], obj b24v 3 [.int .i64 0], obj b1v 54 [.int .i64 0, .int .i64 0, .int .i64 0, .int .i64 0, .int .i64 0, .int .i64 0, .int .i64 0, .int .i64 0, .int .i64 0, .int .i64 0, .int .i64 0, .int .i64 0, .int .i64 0, .int .i64 0, .int .i64 0, .int .i64 0, .int .i64 0, .int .i64 0, .int .i64 0], RowV 9 1 (V9 tt) y4v.1 s2v.1 y4v.2, RowV 115 1 (V115 tt) y32v.1 (([(b23v, 0), (b23v, 1), (b23v, 4), (b23v, 5), (b23v, 6), (b23v, 7), (b23v, 8), (b23v, 9), (b23v, 10), (b23v, 11), (b23v, 12), (b23v, 13), (b23v, 14), (b23v, 15), (b23v, 16), (b23v, 17), (b23v, 18)] : List ((Nat × Nat))) ++ ([(b24v, 0)] : List ((Nat × Nat)))) y32v.2, F]) ?_ ?_
 refine simL_caseb (fun hb92v => ?_) (fun hb93v => ?_)
 rw [hb92v]
 refine simL_skipd rfl rfl rfl rfl rfl rfl ?_
 refine simL_skipd rfl rfl rfl rfl rfl rfl ?_
 refine simL_skipd rfl rfl rfl rfl rfl rfl ?_
 refine simL_skipu rfl rfl rfl rfl rfl ?_
 refine simL_skipu rfl rfl rfl rfl rfl ?_
 refine simL_skipd rfl rfl rfl rfl rfl rfl ?_
 refine vq (q_pick rfl rfl rfl rfl rfl) rfl (simL_nil ?_)
 exact nrm_cut (s := true) () ⟨rfl, rfl, rfl, rfl, rfl, rfl, rfl, rfl, rfl, rfl, rfl, rfl, trivial⟩ (.sel 0 rfl (.sel 0 rfl (.sel 0 rfl (.sel' 0 rfl (RowV.mk hl86v) (.sel' 0 rfl (RowV.mk hl76v) (.sel 0 rfl (.nil _)))))))
 rw [hb93v]
 refine simL_valg (q_move rfl rfl) rfl rfl rfl rfl rfl rfl ?_
 refine simL_valg (q_eqpp 0 1 (.inl rfl) rfl rfl rfl rfl rfl Tryd.underlying115 Tryd.sizeOf3) rfl rfl rfl rfl rfl rfl ?_
 refine simL_valg (q_move rfl rfl) rfl rfl rfl rfl rfl rfl ?_
 refine simL_skipd rfl rfl rfl rfl rfl rfl ?_
 refine simL_skipd rfl rfl rfl rfl rfl rfl ?_
 refine simL_valg (q_pick rfl rfl rfl rfl rfl) rfl rfl rfl rfl rfl rfl ?_
 refine vq (q_pick rfl rfl rfl rfl rfl) rfl (simL_nil ?_)
 exact nrm_cut (s := false) () ⟨rfl, rfl, rfl, rfl, rfl, rfl, rfl, rfl, rfl, rfl, rfl, rfl, trivial⟩ (.sel 0 rfl (.sel 0 rfl (.sel 0 rfl (.sel' 0 rfl (RowV.mk hl86v) (.sel' 0 rfl (RowV.mk hl76v) (.sel 0 rfl (.nil _)))))))
 intro s90v y91v
 refine simL_nil (nrm_then ?_)
 refine sim_condb rfl (fun h94v => ?_) (fun h95v => ?_)
 refine sr ?_
 refine vq (q_build (v := .agg #[.int .i64 0, .int .i64 0, .int .i64 0, .int .i64 0, .int .i64 0, .int .i64 0, .int .i64 0, .int .i64 0, .int .i64 0, .int .i64 0, .int .i64 0, .int .i64 0, .int .i64 0, .int .i64 0, .int .i64 0, .int .i64 0, .int .i64 0, .int .i64 0, .int .i64 0]) rfl rfl (fun _ => by kernel_rfl)) rfl ?_
 refine simL_do (re_store 2 rfl rfl rfl Tryd.sizeOf54 rfl rfl (one_of (by rfl)) rfl rfl) rfl rfl ?_
 intro _
 refine simL_ent (H' := [obj b23v 54 [.int .i64 s58v.1, .int .i64 0, .int .i64 0, .int .i64 0, .int .i64 0, .int .i64 0, .int .i64 0, .int .i64 0, .int .i64 0, .int .i64 0, .int .i64 0, .int .i64 0, .int .i64 0, .int .i64 0, .int .i64 0, .int .i64 0, .int .i64 0, .int .i64 0, .int .i64 0], obj b24v 3 [.int .i64 0], obj b1v 54 [.int .i64 0, .int .i64 0, .int .i64 0, .int .i64 0, .int .i64 0, .int .i64 0, .int .i64 0, .int .i64 0, .int .i64 0, .int .i64 0, .int .i64 0, .int .i64 0, .int .i64 0, .int .i64 0, .int .i64 0, .int .i64 0, .int .i64 0, .int .i64 0, .int .i64 0], RowV 9 1 (V9 tt) y4v.1 s2v.1 y4v.2, RowV 115 1 (V115 tt) y32v.1 (([(b23v, 0), (b23v, 1), (b23v, 4), (b23v, 5), (b23v, 6), (b23v, 7), (b23v, 8), (b23v, 9), (b23v, 10), (b23v, 11), (b23v, 12), (b23v, 13), (b23v, 14), (b23v, 15), (b23v, 16), (b23v, 17), (b23v, 18)] : List ((Nat × Nat))) ++ ([(b24v, 0)] : List ((Nat × Nat)))) y32v.2, F]) (Ent.refl _) ?_
 refine va rfl rfl (simL_nil (nrm_then (sim_rtn ?_)))
 refine rtn_then ?_
 refine rtn_block ?_
 refine rtn_then ?_
 refine rtn_rnd ?_
 refine rtn_block ?_
 refine rtn_then ?_
 exact rtn_fnC (vs := [.agg #[.int .i64 0, .int .i64 0, .int .i64 0, .int .i64 0, .int .i64 0, .int .i64 0, .int .i64 0, .int .i64 0, .int .i64 0, .int .i64 0, .int .i64 0, .int .i64 0, .int .i64 0, .int .i64 0, .int .i64 0, .int .i64 0, .int .i64 0, .int .i64 0, .int .i64 0], .int .i64 22]) () rfl ⟨⟨b1v, rfl, load_agg 2 Tryd.isAgg54 Tryd.sizeOf54 rfl rfl⟩, rfl, trivial⟩ rfl (.sel 5 rfl (.nil _))
 refine sim_skip ?_
 refine nrm_then (sim_region ?_)
 refine vm rfl rfl ?_
 refine vm rfl rfl ?_
 refine vn rfl rfl ?_
 refine simL_do (re_store 0 rfl rfl rfl Tryd.sizeOf3 rfl rfl (one_of (by rfl)) rfl rfl) rfl rfl ?_
 intro _
 refine simL_ent (H' := [obj b23v 54 [.int .i64 s58v.1, .int .i64 s87v.1, .int .i64 0, .int .i64 0, .int .i64 0, .int .i64 0, .int .i64 0, .int .i64 0, .int .i64 0, .int .i64 0, .int .i64 0, .int .i64 0, .int .i64 0, .int .i64 0, .int .i64 0, .int .i64 0, .int .i64 0, .int .i64 0, .int .i64 0], obj b24v 3 [.int .i64 0], obj b1v 54 [.int .i64 0, .int .i64 0, .int .i64 0, .int .i64 0, .int .i64 0, .int .i64 0, .int .i64 0, .int .i64 0, .int .i64 0, .int .i64 0, .int .i64 0, .int .i64 0, .int .i64 0, .int .i64 0, .int .i64 0, .int .i64 0, .int .i64 0, .int .i64 0, .int .i64 0], RowV 9 1 (V9 tt) y4v.1 s2v.1 y4v.2, RowV 115 1 (V115 tt) y32v.1 (([(b23v, 0), (b23v, 1), (b23v, 4), (b23v, 5), (b23v, 6), (b23v, 7), (b23v, 8), (b23v, 9), (b23v, 10), (b23v, 11), (b23v, 12), (b23v, 13), (b23v, 14), (b23v, 15), (b23v, 16), (b23v, 17), (b23v, 18)] : List ((Nat × Nat))) ++ ([(b24v, 0)] : List ((Nat × Nat)))) y32v.2, F]) (Ent.refl _) ?_
 refine simL_nil (nrm_block (nrm_then (sim_region ?_)))
 refine vq (q_add rfl rfl rfl) rfl ?_
 refine vm rfl rfl (simL_nil ?_)
 refine nrm_rnd (rnd_succ ?_)
 refine sr ?_
 refine vq (q_lss rfl rfl rfl) rfl (simL_nil (nrm_then (sim_seq ?_)))
 refine sim_true rfl ?_
 refine sim_skip ?_
 refine nrm_then (sim_seq ?_)
 refine sim_block ?_
 refine sr ?_
 refine vm rfl rfl ?_
 refine simL_openV 4 rfl (fun rs104v hl105v => ?_)
 have hi96v : (0 : Int) ≤ (2 : Int) ∧ (2 : Int) < ((([(b23v, 0), (b23v, 1), (b23v, 4), (b23v, 5), (b23v, 6), (b23v, 7), (b23v, 8), (b23v, 9), (b23v, 10), (b23v, 11), (b23v, 12), (b23v, 13), (b23v, 14), (b23v, 15), (b23v, 16), (b23v, 17), (b23v, 18)] : List ((Nat × Nat))) ++ ([(b24v, 0)] : List ((Nat × Nat)))).length : Int) := ⟨by decide, (show (2 : Int) < ((18 : Nat) : Int) by decide)⟩
 refine simL_posV 4 rfl hl105v rfl (i := (2 : Int).toNat) (by omega) ((0, 0) : Nat × Nat) (fun b97v b97vo r100v ha98v hV101v hlr102v hcell103v => ?_)
 obtain rfl := hV101v
 refine vq (q_idx rfl rfl rfl ha98v Tryd.underlying120 Tryd.sizeOf115 hi96v.1 hi96v.2) rfl ?_
 refine vq (rq_cast (v' := .pointer (some ⟨b23v, 4, none⟩)) rfl (q_load rfl rfl Tryd.isAgg115 (hcell103v 4 rfl 0 _ rfl))) rfl ?_
 refine va rfl rfl ?_
 refine va rfl rfl (nx ?_)
 refine vm rfl rfl ?_
 refine vm rfl rfl ?_
 refine vq (q_add rfl rfl rfl) rfl ?_
 refine simL_openV 3 rfl (fun rs114v hl115v => ?_)
 refine simL_ask (fun hi106v => ?_)
 refine simL_posV 3 rfl hl115v rfl (i := (3 : Int).toNat) (by omega) ([] : List UInt8) (fun b107v b107vo r110v ha108v hV111v hlr112v hcell113v => ?_)
 obtain rfl := hV111v
 refine vq (q_idx rfl rfl rfl ha108v Tryd.underlying23 Tryd.sizeOf9 hi106v.1 hi106v.2) rfl ?_
 refine vq (q_load rfl rfl Tryd.isAgg9 (hcell113v 3 rfl 0 _ rfl)) rfl ?_
 refine simL_bind (fun s116v hs117v => ?_)
 refine simL_eff (re_call (vs := [str (s2v.1.getD (3 : Int).toNat ([] : List UInt8))]) (cap := []) (A := []) (rst := [obj b23v 54 [.int .i64 s58v.1, .int .i64 s87v.1, .int .i64 0, .int .i64 0, .int .i64 0, .int .i64 0, .int .i64 0, .int .i64 0, .int .i64 0, .int .i64 0, .int .i64 0, .int .i64 0, .int .i64 0, .int .i64 0, .int .i64 0, .int .i64 0, .int .i64 0, .int .i64 0, .int .i64 0], obj b24v 3 [.int .i64 0], obj b1v 54 [.int .i64 0, .int .i64 0, .int .i64 0, .int .i64 0, .int .i64 0, .int .i64 0, .int .i64 0, .int .i64 0, .int .i64 0, .int .i64 0, .int .i64 0, .int .i64 0, .int .i64 0, .int .i64 0, .int .i64 0, .int .i64 0, .int .i64 0, .int .i64 0, .int .i64 0], Row 9 1 y4v.1 s2v.1.length y4v.2 rs114v.flatten, Row 115 1 y32v.1 (([(b23v, 0), (b23v, 1), (b23v, 4), (b23v, 5), (b23v, 6), (b23v, 7), (b23v, 8), (b23v, 9), (b23v, 10), (b23v, 11), (b23v, 12), (b23v, 13), (b23v, 14), (b23v, 15), (b23v, 16), (b23v, 17), (b23v, 18)] : List ((Nat × Nat))) ++ ([(b24v, 0)] : List ((Nat × Nat)))).length y32v.2 rs104v.flatten, F]) rfl rfl rfl rfl rfl rfl Tryd.call55 (.sel 0 rfl (.sel 0 rfl (.sel 0 rfl (.sel 0 rfl (.sel 0 rfl (.sel 0 rfl (.nil _))))))) (text_number.calls _ _ (s2v.1.getD (3 : Int).toNat ([] : List UInt8)) (hgl.lend 5 rfl)) hs117v) rfl rfl rfl ?_
 intro y118v
 refine vm rfl rfl ?_
 refine vq (q_ext rfl rfl rfl) rfl ?_
 refine vq (q_ext rfl rfl rfl) rfl ?_
 refine va rfl rfl ?_
 refine va rfl rfl (simL_nil (nrm_then (sim_seq (sr ?_))))
 refine vm rfl rfl ?_
 refine vq (q_not rfl rfl) rfl ?_
 refine vm rfl rfl ?_
 refine simL_cut' 7 (S := Bool) (Unit) (fun s y => [(2, .pointer (some ⟨b1v, 0, none⟩)), (4, .slice y4v.1 s2v.1.length y4v.2), (6, .pointer (some ⟨b23v, 0, none⟩)), (7, .pointer (some ⟨b24v, 0, none⟩)), (10, .pointer (some ⟨b23v, 4, none⟩)), (11, .int .i64 s116v.1), (43, .slice y32v.1 ((([(b23v, 0), (b23v, 1), (b23v, 4), (b23v, 5), (b23v, 6), (b23v, 7), (b23v, 8), (b23v, 9), (b23v, 10), (b23v, 11), (b23v, 12), (b23v, 13), (b23v, 14), (b23v, 15), (b23v, 16), (b23v, 17), (b23v, 18)] : List ((Nat × Nat))) ++ ([(b24v, 0)] : List ((Nat × Nat)))).length) y32v.2), (44, .int .i64 18), (45, .int .i64 2), (65, undef), (66, undef), (68, .bool s)]) (fun s y => [obj b23v 54 [.int .i64 s58v.1, .int .i64 s87v.1, .int .i64 0, .int .i64 0, .int .i64 0, .int .i64 0, .int .i64 0, .int .i64 0, .int .i64 0, .int .i64 0, .int .i64 0, .int .i64 0, .int .i64 0, .int .i64 0, .int .i64 0, .int .i64 0, .int .i64 0, .int .i64 0, .int .i64 0], obj b24v 3 [.int .i64 0], obj b1v 54 [.int .i64 0, .int .i64 0, .int .i64 0, .int .i64 0, .int .i64 0, .int .i64 0, .int .i64 0, .int .i64 0, .int .i64 0, .int .i64 0, .int .i64 0, .int .i64 0, .int .i64 0, .int .i64 0, .int .i64 0, .int .i64 0, .int .i64 0, .int .i64 0, .int .i64 0], RowV 9 1 (V9 tt) y4v.1 s2v.1 y4v.2, RowV 115 1 (V115 tt) y32v.1 (([(b23v, 0), (b23v, 1), (b23v, 4), (b23v, 5), (b23v, 6), (b23v, 7), (b23v, 8), (b23v, 9), (b23v, 10), (b23v, 11), (b23v, 12), (b23v, 13), (b23v, 14), (b23v, 15), (b23v, 16), (b23v, 17), (b23v, 18)] : List ((Nat × Nat))) ++ ([(b24v, 0)] : List ((Nat × Nat)))) y32v.2, F]) ?_ ?_
 refine simL_caseb (fun hb121v => ?_) (fun hb122v => ?_)
 rw [hb121v]
 refine simL_skipd rfl rfl rfl rfl rfl rfl ?_
 refine simL_skipd rfl rfl rfl rfl rfl rfl ?_
 refine simL_skipd rfl rfl rfl rfl rfl rfl ?_
 refine simL_skipu rfl rfl rfl rfl rfl ?_
 refine simL_skipu rfl rfl rfl rfl rfl ?_
 refine simL_skipd rfl rfl rfl rfl rfl rfl ?_
 refine vq (q_pick rfl rfl rfl rfl rfl) rfl (simL_nil ?_)
 exact nrm_cut (s := true) () ⟨rfl, rfl, rfl, rfl, rfl, rfl, rfl, rfl, rfl, rfl, rfl, rfl, trivial⟩ (.sel 0 rfl (.sel 0 rfl (.sel 0 rfl (.sel' 0 rfl (RowV.mk hl115v) (.sel' 0 rfl (RowV.mk hl105v) (.sel 0 rfl (.nil _)))))))
 rw [hb122v]
 refine simL_valg (q_move rfl rfl) rfl rfl rfl rfl rfl rfl ?_
 refine simL_valg (q_eqpp 0 1 (.inl rfl) rfl rfl rfl rfl rfl Tryd.underlying115 Tryd.sizeOf3) rfl rfl rfl rfl rfl rfl ?_
 refine simL_valg (q_move rfl rfl) rfl rfl rfl rfl rfl rfl ?_
 refine simL_skipd rfl rfl rfl rfl rfl rfl ?_
 refine simL_skipd rfl rfl rfl rfl rfl rfl ?_
 refine simL_valg (q_pick rfl rfl rfl rfl rfl) rfl rfl rfl rfl rfl rfl ?_
 refine vq (q_pick rfl rfl rfl rfl rfl) rfl (simL_nil ?_)
 exact nrm_cut (s := false) () ⟨rfl, rfl, rfl, rfl, rfl, rfl, rfl, rfl, rfl, rfl, rfl, rfl, trivial⟩ (.sel 0 rfl (.sel 0 rfl (.sel 0 rfl (.sel' 0 rfl (RowV.mk hl115v) (.sel' 0 rfl (RowV.mk hl105v) (.sel 0 rfl (.nil _)))))))
 intro s119v y120v
 refine simL_nil (nrm_then ?_)
 refine sim_condb rfl (fun h123v => ?_) (fun h124v => ?_)
 refine sr ?_
 refine vq (q_build (v := .agg #[.int .i64 0, .int .i64 0, .int .i64 0, .int .i64 0, .int .i64 0, .int .i64 0, .int .i64 0, .int .i64 0, .int .i64 0, .int .i64 0, .int .i64 0, .int .i64 0, .int .i64 0, .int .i64 0, .int .i64 0, .int .i64 0, .int .i64 0, .int .i64 0, .int .i64 0]) rfl rfl (fun _ => by kernel_rfl)) rfl ?_
 refine simL_do (re_store 2 rfl rfl rfl Tryd.sizeOf54 rfl rfl (one_of (by rfl)) rfl rfl) rfl rfl ?_
 intro _
 refine simL_ent (H' := [obj b23v 54 [.int .i64 s58v.1, .int .i64 s87v.1, .int .i64 0, .int .i64 0, .int .i64 0, .int .i64 0, .int .i64 0, .int .i64 0, .int .i64 0, .int .i64 0, .int .i64 0, .int .i64 0, .int .i64 0, .int .i64 0, .int .i64 0, .int .i64 0, .int .i64 0, .int .i64 0, .int .i64 0], obj b24v 3 [.int .i64 0], obj b1v 54 [.int .i64 0, .int .i64 0, .int .i64 0, .int .i64 0, .int .i64 0, .int .i64 0, .int .i64 0, .int .i64 0, .int .i64 0, .int .i64 0, .int .i64 0, .int .i64 0, .int .i64 0, .int .i64 0, .int .i64 0, .int .i64 0, .int .i64 0, .int .i64 0, .int .i64 0], RowV 9 1 (V9 tt) y4v.1 s2v.1 y4v.2, RowV 115 1 (V115 tt) y32v.1 (([(b23v, 0), (b23v, 1), (b23v, 4), (b23v, 5), (b23v, 6), (b23v, 7), (b23v, 8), (b23v, 9), (b23v, 10), (b23v, 11), (b23v, 12), (b23v, 13), (b23v, 14), (b23v, 15), (b23v, 16), (b23v, 17), (b23v, 18)] : List ((Nat × Nat))) ++ ([(b24v, 0)] : List ((Nat × Nat)))) y32v.2, F]) (Ent.refl _) ?_
 refine va rfl rfl (simL_nil (nrm_then (sim_rtn ?_)))
 refine rtn_then ?_
 refine rtn_block ?_
 refine rtn_then ?_
 refine rtn_rnd ?_
 refine rtn_block ?_
 refine rtn_then ?_
 exact rtn_fnC (vs := [.agg #[.int .i64 0, .int .i64 0, .int .i64 0, .int .i64 0, .int .i64 0, .int .i64 0, .int .i64 0, .int .i64 0, .int .i64 0, .int .i64 0, .int .i64 0, .int .i64 0, .int .i64 0, .int .i64 0, .int .i64 0, .int .i64 0, .int .i64 0, .int .i64 0, .int .i64 0], .int .i64 22]) () rfl ⟨⟨b1v, rfl, load_agg 2 Tryd.isAgg54 Tryd.sizeOf54 rfl rfl⟩, rfl, trivial⟩ rfl (.sel 5 rfl (.nil _))
 refine sim_skip ?_
 refine nrm_then (sim_region ?_)
 refine vm rfl rfl ?_
 refine vm rfl rfl ?_
 refine vn rfl rfl ?_
 refine simL_do (re_store 0 rfl rfl rfl Tryd.sizeOf3 rfl rfl (one_of (by rfl)) rfl rfl) rfl rfl ?_
 intro _
 refine simL_ent (H' := [obj b23v 54 [.int .i64 s58v.1, .int .i64 s87v.1, .int .i64 0, .int .i64 0, .int .i64 s116v.1, .int .i64 0, .int .i64 0, .int .i64 0, .int .i64 0, .int .i64 0, .int .i64 0, .int .i64 0, .int .i64 0, .int .i64 0, .int .i64 0, .int .i64 0, .int .i64 0, .int .i64 0, .int .i64 0], obj b24v 3 [.int .i64 0], obj b1v 54 [.int .i64 0, .int .i64 0, .int .i64 0, .int .i64 0, .int .i64 0, .int .i64 0, .int .i64 0, .int .i64 0, .int .i64 0, .int .i64 0, .int .i64 0, .int .i64 0, .int .i64 0, .int .i64 0, .int .i64 0, .int .i64 0, .int .i64 0, .int .i64 0, .int .i64 0], RowV 9 1 (V9 tt) y4v.1 s2v.1 y4v.2, RowV 115 1 (V115 tt) y32v.1 (([(b23v, 0), (b23v, 1), (b23v, 4), (b23v, 5), (b23v, 6), (b23v, 7), (b23v, 8), (b23v, 9), (b23v, 10), (b23v, 11), (b23v, 12), (b23v, 13), (b23v, 14), (b23v, 15), (b23v, 16), (b23v, 17), (b23v, 18)] : List ((Nat × Nat))) ++ ([(b24v, 0)] : List ((Nat × Nat)))) y32v.2, F]) (Ent.refl _) ?_
 refine simL_nil (nrm_block (nrm_then (sim_region ?_)))
 refine vq (q_add rfl rfl rfl) rfl ?_
 refine vm rfl rfl (simL_nil ?_)
 refine nrm_rnd (rnd_succ ?_)
 refine sr ?_
 refine vq (q_lss rfl rfl rfl) rfl (simL_nil (nrm_then (sim_seq ?_)))
 refine sim_true rfl ?_
 refine sim_skip ?_
 refine nrm_then (sim_seq ?_)
 refine sim_block ?_
 refine sr ?_
 refine vm rfl rfl ?_
 refine simL_openV 4 rfl (fun rs133v hl134v => ?_)
 have hi125v : (0 : Int) ≤ (3 : Int) ∧ (3 : Int) < ((([(b23v, 0), (b23v, 1), (b23v, 4), (b23v, 5), (b23v, 6), (b23v, 7), (b23v, 8), (b23v, 9), (b23v, 10), (b23v, 11), (b23v, 12), (b23v, 13), (b23v, 14), (b23v, 15), (b23v, 16), (b23v, 17), (b23v, 18)] : List ((Nat × Nat))) ++ ([(b24v, 0)] : List ((Nat × Nat)))).length : Int) := ⟨by decide, (show (3 : Int) < ((18 : Nat) : Int) by decide)⟩
 refine simL_posV 4 rfl hl134v rfl (i := (3 : Int).toNat) (by omega) ((0, 0) : Nat × Nat) (fun b126v b126vo r129v ha127v hV130v hlr131v hcell132v => ?_)
 obtain rfl := hV130v
 refine vq (q_idx rfl rfl rfl ha127v Tryd.underlying120 Tryd.sizeOf115 hi125v.1 hi125v.2) rfl ?_
 refine vq (rq_cast (v' := .pointer (some ⟨b23v, 5, none⟩)) rfl (q_load rfl rfl Tryd.isAgg115 (hcell132v 4 rfl 0 _ rfl))) rfl ?_
 refine va rfl rfl ?_
 refine va rfl rfl (nx ?_)
 refine vm rfl rfl ?_
 refine vm rfl rfl ?_
 refine vq (q_add rfl rfl rfl) rfl ?_
 refine simL_openV 3 rfl (fun rs143v hl144v => ?_)
 refine simL_ask (fun hi135v => ?_)
 refine simL_posV 3 rfl hl144v rfl (i := (4 : Int).toNat) (by omega) ([] : List UInt8) (fun b136v b136vo r139v ha137v hV140v hlr141v hcell142v => ?_)
 obtain rfl := hV140v
 refine vq (q_idx rfl rfl rfl ha137v Tryd.underlying23 Tryd.sizeOf9 hi135v.1 hi135v.2) rfl ?_
 refine vq (q_load rfl rfl Tryd.isAgg9 (hcell142v 3 rfl 0 _ rfl)) rfl ?_
 refine simL_bind (fun s145v hs146v => ?_)
 refine simL_eff (re_call (vs := [str (s2v.1.getD (4 : Int).toNat ([] : List UInt8))]) (cap := []) (A := []) (rst := [obj b23v 54 [.int .i64 s58v.1, .int .i64 s87v.1, .int .i64 0, .int .i64 0, .int .i64 s116v.1, .int .i64 0, .int .i64 0, .int .i64 0, .int .i64 0, .int .i64 0, .int .i64 0, .int .i64 0, .int .i64 0, .int .i64 0, .int .i64 0, .int .i64 0, .int .i64 0, .int .i64 0, .int .i64 0], obj b24v 3 [.int .i64 0], obj b1v 54 [.int .i64 0, .int .i64 0, .int .i64 0, .int .i64 0, .int .i64 0, .int .i64 0, .int .i64 0, .int .i64 0, .int .i64 0, .int .i64 0, .int .i64 0, .int .i64 0, .int .i64 0, .int .i64 0, .int .i64 0, .int .i64 0, .int .i64 0, .int .i64 0, .int .i64 0], Row 9 1 y4v.1 s2v.1.length y4v.2 rs143v.flatten, Row 115 1 y32v.1 (([(b23v, 0), (b23v, 1), (b23v, 4), (b23v, 5), (b23v, 6), (b23v, 7), (b23v, 8), (b23v, 9), (b23v, 10), (b23v, 11), (b23v, 12), (b23v, 13), (b23v, 14), (b23v, 15), (b23v, 16), (b23v, 17), (b23v, 18)] : List ((Nat × Nat))) ++ ([(b24v, 0)] : List ((Nat × Nat)))).length y32v.2 rs133v.flatten, F]) rfl rfl rfl rfl rfl rfl Tryd.call55 (.sel 0 rfl (.sel 0 rfl (.sel 0 rfl (.sel 0 rfl (.sel 0 rfl (.sel 0 rfl (.nil _))))))) (text_number.calls _ _ (s2v.1.getD (4 : Int).toNat ([] : List UInt8)) (hgl.lend 5 rfl)) hs146v) rfl rfl rfl ?_
 intro y147v
 refine vm rfl rfl ?_
 refine vq (q_ext rfl rfl rfl) rfl ?_
 refine vq (q_ext rfl rfl rfl) rfl ?_
 refine va rfl rfl ?_
 refine va rfl rfl (simL_nil (nrm_then (sim_seq (sr ?_))))
 refine vm rfl rfl ?_
 refine vq (q_not rfl rfl) rfl ?_
 refine vm rfl rfl ?_
 refine simL_cut' 7 (S := Bool) (Unit) (fun s y => [(2, .pointer (some ⟨b1v, 0, none⟩)), (4, .slice y4v.1 s2v.1.length y4v.2), (6, .pointer (some ⟨b23v, 0, none⟩)), (7, .pointer (some ⟨b24v, 0, none⟩)), (10, .pointer (some ⟨b23v, 5, none⟩)), (11, .int .i64 s145v.1), (43, .slice y32v.1 ((([(b23v, 0), (b23v, 1), (b23v, 4), (b23v, 5), (b23v, 6), (b23v, 7), (b23v, 8), (b23v, 9), (b23v, 10), (b23v, 11), (b23v, 12), (b23v, 13), (b23v, 14), (b23v, 15), (b23v, 16), (b23v, 17), (b23v, 18)] : List ((Nat × Nat))) ++ ([(b24v, 0)] : List ((Nat × Nat)))).length) y32v.2), (44, .int .i64 18), (45, .int .i64 3), (65, undef), (66, undef), (68, .bool s)]) (fun s y => [obj b23v 54 [.int .i64 s58v.1, .int .i64 s87v.1, .int .i64 0, .int .i64 0, .int .i64 s116v.1, .int .i64 0, .int .i64 0, .int .i64 0, .int .i64 0, .int .i64 0, .int .i64 0, .int .i64 0, .int .i64 0, .int .i64 0, .int .i64 0, .int .i64 0, .int .i64 0, .int .i64 0, .int .i64 0], obj b24v 3 [.int .i64 0], obj b1v 54 [.int .i64 0, .int .i64 0, .int .i64 0, .int .i64 0, .int .i64 0, .int .i64 0, .int .i64 0, .int .i64 0, .int .i64 0, .int .i64 0, .int .i64 0, .int .i64 0, .int .i64 0, .int .i64 0, .int .i64 0, .int .i64 0, .int .i64 0, .int .i64 0, .int .i64 0], RowV 9 1 (V9 tt) y4v.1 s2v.1 y4v.2, RowV 115 1 (V115 tt) y32v.1 (([(b23v, 0), (b23v, 1), (b23v, 4), (b23v, 5), (b23v, 6), (b23v, 7), (b23v, 8), (b23v, 9), (b23v, 10), (b23v, 11), (b23v, 12), (b23v, 13), (b23v, 14), (b23v, 15), (b23v, 16), (b23v, 17), (b23v, 18)] : List ((Nat × Nat))) ++ ([(b24v, 0)] : List ((Nat × Nat)))) y32v.2, F]) ?_ ?_
 refine simL_caseb (fun hb150v => ?_) (fun hb151v => ?_)
 rw [hb150v]
 refine simL_skipd rfl rfl rfl rfl rfl rfl ?_
 refine simL_skipd rfl rfl rfl rfl rfl rfl ?_
 refine simL_skipd rfl rfl rfl rfl rfl rfl ?_
 refine simL_skipu rfl rfl rfl rfl rfl ?_
 refine simL_skipu rfl rfl rfl rfl rfl ?_
 refine simL_skipd rfl rfl rfl rfl rfl rfl ?_
 refine vq (q_pick rfl rfl rfl rfl rfl) rfl (simL_nil ?_)
 exact nrm_cut (s := true) () ⟨rfl, rfl, rfl, rfl, rfl, rfl, rfl, rfl, rfl, rfl, rfl, rfl, trivial⟩ (.sel 0 rfl (.sel 0 rfl (.sel 0 rfl (.sel' 0 rfl (RowV.mk hl144v) (.sel' 0 rfl (RowV.mk hl134v) (.sel 0 rfl (.nil _)))))))
 rw [hb151v]
 refine simL_valg (q_move rfl rfl) rfl rfl rfl rfl rfl rfl ?_
 refine simL_valg (q_eqpp 0 1 (.inl rfl) rfl rfl rfl rfl rfl Tryd.underlying115 Tryd.sizeOf3) rfl rfl rfl rfl rfl rfl ?_
 refine simL_valg (q_move rfl rfl) rfl rfl rfl rfl rfl rfl ?_
 refine simL_skipd rfl rfl rfl rfl rfl rfl ?_
 refine simL_skipd rfl rfl rfl rfl rfl rfl ?_
 refine simL_valg (q_pick rfl rfl rfl rfl rfl) rfl rfl rfl rfl rfl rfl ?_
 refine vq (q_pick rfl rfl rfl rfl rfl) rfl (simL_nil ?_)
 exact nrm_cut (s := false) () ⟨rfl, rfl, rfl, rfl, rfl, rfl, rfl, rfl, rfl, rfl, rfl, rfl, trivial⟩ (.sel 0 rfl (.sel 0 rfl (.sel 0 rfl (.sel' 0 rfl (RowV.mk hl144v) (.sel' 0 rfl (RowV.mk hl134v) (.sel 0 rfl (.nil _)))))))
 intro s148v y149v
 refine simL_nil (nrm_then ?_)
 refine sim_condb rfl (fun h152v => ?_) (fun h153v => ?_)
 refine sr ?_
 refine vq (q_build (v := .agg #[.int .i64 0, .int .i64 0, .int .i64 0, .int .i64 0, .int .i64 0, .int .i64 0, .int .i64 0, .int .i64 0, .int .i64 0, .int .i64 0, .int .i64 0, .int .i64 0, .int .i64 0, .int .i64 0, .int .i64 0, .int .i64 0, .int .i64 0, .int .i64 0, .int .i64 0]) rfl rfl (fun _ => by kernel_rfl)) rfl ?_
 refine simL_do (re_store 2 rfl rfl rfl Tryd.sizeOf54 rfl rfl (one_of (by rfl)) rfl rfl) rfl rfl ?_
 intro _
 refine simL_ent (H' := [obj b23v 54 [.int .i64 s58v.1, .int .i64 s87v.1, .int .i64 0, .int .i64 0, .int .i64 s116v.1, .int .i64 0, .int .i64 0, .int .i64 0, .int .i64 0, .int .i64 0, .int .i64 0, .int .i64 0, .int .i64 0, .int .i64 0, .int .i64 0, .int .i64 0, .int .i64 0, .int .i64 0, .int .i64 0], obj b24v 3 [.int .i64 0], obj b1v 54 [.int .i64 0, .int .i64 0, .int .i64 0, .int .i64 0, .int .i64 0, .int .i64 0, .int .i64 0, .int .i64 0, .int .i64 0, .int .i64 0, .int .i64 0, .int .i64 0, .int .i64 0, .int .i64 0, .int .i64 0, .int .i64 0, .int .i64 0, .int .i64 0, .int .i64 0], RowV 9 1 (V9 tt) y4v.1 s2v.1 y4v.2, RowV 115 1 (V115 tt) y32v.1 (([(b23v, 0), (b23v, 1), (b23v, 4), (b23v, 5), (b23v, 6), (b23v, 7), (b23v, 8), (b23v, 9), (b23v, 10), (b23v, 11), (b23v, 12), (b23v, 13), (b23v, 14), (b23v, 15), (b23v, 16), (b23v, 17), (b23v, 18)] : List ((Nat × Nat))) ++ ([(b24v, 0)] : List ((Nat × Nat)))) y32v.2, F]) (Ent.refl _) ?_
 refine va rfl rfl (simL_nil (nrm_then (sim_rtn ?_)))
 refine rtn_then ?_
 refine rtn_block ?_
 refine rtn_then ?_
 refine rtn_rnd ?_
 refine rtn_block ?_
 refine rtn_then ?_
 exact rtn_fnC (vs := [.agg #[.int .i64 0, .int .i64 0, .int .i64 0, .int .i64 0, .int .i64 0, .int .i64 0, .int .i64 0, .int .i64 0, .int .i64 0, .int .i64 0, .int .i64 0, .int .i64 0, .int .i64 0, .int .i64 0, .int .i64 0, .int .i64 0, .int .i64 0, .int .i64 0, .int .i64 0], .int .i64 22]) () rfl ⟨⟨b1v, rfl, load_agg 2 Tryd.isAgg54 Tryd.sizeOf54 rfl rfl⟩, rfl, trivial⟩ rfl (.sel 5 rfl (.nil _))
 refine sim_skip ?_
 refine nrm_then (sim_region ?_)
 refine vm rfl rfl ?_
 refine vm rfl rfl ?_
 refine vn rfl rfl ?_
 refine simL_do (re_store 0 rfl rfl rfl Tryd.sizeOf3 rfl rfl (one_of (by rfl)) rfl rfl) rfl rfl ?_
 intro _
 refine simL_ent (H' := [obj b23v 54 [.int .i64 s58v.1, .int .i64 s87v.1, .int .i64 0, .int .i64 0, .int .i64 s116v.1, .int .i64 s145v.1, .int .i64 0, .int .i64 0, .int .i64 0, .int .i64 0, .int .i64 0, .int .i64 0, .int .i64 0, .int .i64 0, .int .i64 0, .int .i64 0, .int .i64 0, .int .i64 0, .int .i64 0], obj b24v 3 [.int .i64 0], obj b1v 54 [.int .i64 0, .int .i64 0, .int .i64 0, .int .i64 0, .int .i64 0, .int .i64 0, .int .i64 0, .int .i64 0, .int .i64 0, .int .i64 0, .int .i64 0, .int .i64 0, .int .i64 0, .int .i64 0, .int .i64 0, .int .i64 0, .int .i64 0, .int .i64 0, .int .i64 0], RowV 9 1 (V9 tt) y4v.1 s2v.1 y4v.2, RowV 115 1 (V115 tt) y32v.1 (([(b23v, 0), (b23v, 1), (b23v, 4), (b23v, 5), (b23v, 6), (b23v, 7), (b23v, 8), (b23v, 9), (b23v, 10), (b23v, 11), (b23v, 12), (b23v, 13), (b23v, 14), (b23v, 15), (b23v, 16), (b23v, 17), (b23v, 18)] : List ((Nat × Nat))) ++ ([(b24v, 0)] : List ((Nat × Nat)))) y32v.2, F]) (Ent.refl _) ?_
 refine simL_nil (nrm_block (nrm_then (sim_region ?_)))
 refine vq (q_add rfl rfl rfl) rfl ?_
 refine vm rfl rfl (simL_nil ?_)
 refine nrm_rnd (rnd_succ ?_)
 refine sr ?_
 refine vq (q_lss rfl rfl rfl) rfl (simL_nil (nrm_then (sim_seq ?_)))
 refine sim_true rfl ?_
 refine sim_skip ?_
 refine nrm_then (sim_seq ?_)
 refine sim_block ?_
 refine sr ?_
 refine vm rfl rfl ?_
 refine simL_openV 4 rfl (fun rs162v hl163v => ?_)
 have hi154v : (0 : Int) ≤ (4 : Int) ∧ (4 : Int) < ((([(b23v, 0), (b23v, 1), (b23v, 4), (b23v, 5), (b23v, 6), (b23v, 7), (b23v, 8), (b23v, 9), (b23v, 10), (b23v, 11), (b23v, 12), (b23v, 13), (b23v, 14), (b23v, 15), (b23v, 16), (b23v, 17), (b23v, 18)] : List ((Nat × Nat))) ++ ([(b24v, 0)] : List ((Nat × Nat)))).length : Int) := ⟨by decide, (show (4 : Int) < ((18 : Nat) : Int) by decide)⟩
 refine simL_posV 4 rfl hl163v rfl (i := (4 : Int).toNat) (by omega) ((0, 0) : Nat × Nat) (fun b155v b155vo r158v ha156v hV159v hlr160v hcell161v => ?_)
 obtain rfl := hV159v
 refine vq (q_idx rfl rfl rfl ha156v Tryd.underlying120 Tryd.sizeOf115 hi154v.1 hi154v.2) rfl ?_
 refine vq (rq_cast (v' := .pointer (some ⟨b23v, 6, none⟩)) rfl (q_load rfl rfl Tryd.isAgg115 (hcell161v 4 rfl 0 _ rfl))) rfl ?_
 refine va rfl rfl ?_
 refine va rfl rfl (nx ?_)
 refine vm rfl rfl ?_
 refine vm rfl rfl ?_
 refine vq (q_add rfl rfl rfl) rfl ?_
 refine simL_openV 3 rfl (fun rs172v hl173v => ?_)
 refine simL_ask (fun hi164v => ?_)
 refine simL_posV 3 rfl hl173v rfl (i := (5 : Int).toNat) (by omega) ([] : List UInt8) (fun b165v b165vo r168v ha166v hV169v hlr170v hcell171v => ?_)
 obtain rfl := hV169v
 refine vq (q_idx rfl rfl rfl ha166v Tryd.underlying23 Tryd.sizeOf9 hi164v.1 hi164v.2) rfl ?_
 refine vq (q_load rfl rfl Tryd.isAgg9 (hcell171v 3 rfl 0 _ rfl)) rfl ?_
 refine simL_bind (fun s174v hs175v => ?_)
 refine simL_eff (re_call (vs := [str (s2v.1.getD (5 : Int).toNat ([] : List UInt8))]) (cap := []) (A := []) (rst := [obj b23v 54 [.int .i64 s58v.1, .int .i64 s87v.1, .int .i64 0, .int .i64 0, .int .i64 s116v.1, .int .i64 s145v.1, .int .i64 0, .int .i64 0, .int .i64 0, .int .i64 0, .int .i64 0, .int .i64 0, .int .i64 0, .int .i64 0, .int .i64 0, .int .i64 0, .int .i64 0, .int .i64 0, .int .i64 0], obj b24v 3 [.int .i64 0], obj b1v 54 [.int .i64 0, .int .i64 0, .int .i64 0, .int .i64 0, .int .i64 0, .int .i64 0, .int .i64 0, .int .i64 0, .int .i64 0, .int .i64 0, .int .i64 0, .int .i64 0, .int .i64 0, .int .i64 0, .int .i64 0, .int .i64 0, .int .i64 0, .int .i64 0, .int .i64 0], Row 9 1 y4v.1 s2v.1.length y4v.2 rs172v.flatten, Row 115 1 y32v.1 (([(b23v, 0), (b23v, 1), (b23v, 4), (b23v, 5), (b23v, 6), (b23v, 7), (b23v, 8), (b23v, 9), (b23v, 10), (b23v, 11), (b23v, 12), (b23v, 13), (b23v, 14), (b23v, 15), (b23v, 16), (b23v, 17), (b23v, 18)] : List ((Nat × Nat))) ++ ([(b24v, 0)] : List ((Nat × Nat)))).length y32v.2 rs162v.flatten, F]) rfl rfl rfl rfl rfl rfl Tryd.call55 (.sel 0 rfl (.sel 0 rfl (.sel 0 rfl (.sel 0 rfl (.sel 0 rfl (.sel 0 rfl (.nil _))))))) (text_number.calls _ _ (s2v.1.getD (5 : Int).toNat ([] : List UInt8)) (hgl.lend 5 rfl)) hs175v) rfl rfl rfl ?_
 intro y176v
 refine vm rfl rfl ?_
 refine vq (q_ext rfl rfl rfl) rfl ?_
 refine vq (q_ext rfl rfl rfl) rfl ?_
 refine va rfl rfl ?_
 refine va rfl rfl (simL_nil (nrm_then (sim_seq (sr ?_))))
 refine vm rfl rfl ?_
 refine vq (q_not rfl rfl) rfl ?_
 refine vm rfl rfl ?_
 refine simL_cut' 7 (S := Bool) (Unit) (fun s y => [(2, .pointer (some ⟨b1v, 0, none⟩)), (4, .slice y4v.1 s2v.1.length y4v.2), (6, .pointer (some ⟨b23v, 0, none⟩)), (7, .pointer (some ⟨b24v, 0, none⟩)), (10, .pointer (some ⟨b23v, 6, none⟩)), (11, .int .i64 s174v.1), (43, .slice y32v.1 ((([(b23v, 0), (b23v, 1), (b23v, 4), (b23v, 5), (b23v, 6), (b23v, 7), (b23v, 8), (b23v, 9), (b23v, 10), (b23v, 11), (b23v, 12), (b23v, 13), (b23v, 14), (b23v, 15), (b23v, 16), (b23v, 17), (b23v, 18)] : List ((Nat × Nat))) ++ ([(b24v, 0)] : List ((Nat × Nat)))).length) y32v.2), (44, .int .i64 18), (45, .int .i64 4), (65, undef), (66, undef), (68, .bool s)]) (fun s y => [obj b23v 54 [.int .i64 s58v.1, .int .i64 s87v.1, .int .i64 0, .int .i64 0, .int .i64 s116v.1, .int .i64 s145v.1, .int .i64 0, .int .i64 0, .int .i64 0, .int .i64 0, .int .i64 0, .int .i64 0, .int .i64 0, .int .i64 0, .int .i64 0, .int .i64 0, .int .i64 0, .int .i64 0, .int .i64 0], obj b24v 3 [.int .i64 0], obj b1v 54 [.int .i64 0, .int .i64 0, .int .i64 0, .int .i64 0, .int .i64 0, .int .i64 0, .int .i64 0, .int .i64 0, .int .i64 0, .int .i64 0, .int .i64 0, .int .i64 0, .int .i64 0, .int .i64 0, .int .i64 0, .int .i64 0, .int .i64 0, .int .i64 0, .int .i64 0], RowV 9 1 (V9 tt) y4v.1 s2v.1 y4v.2, RowV 115 1 (V115 tt) y32v.1 (([(b23v, 0), (b23v, 1), (b23v, 4), (b23v, 5), (b23v, 6), (b23v, 7), (b23v, 8), (b23v, 9), (b23v, 10), (b23v, 11), (b23v, 12), (b23v, 13), (b23v, 14), (b23v, 15), (b23v, 16), (b23v, 17), (b23v, 18)] : List ((Nat × Nat))) ++ ([(b24v, 0)] : List ((Nat × Nat)))) y32v.2, F]) ?_ ?_
 refine simL_caseb (fun hb179v => ?_) (fun hb180v => ?_)
 rw [hb179v]
 refine simL_skipd rfl rfl rfl rfl rfl rfl ?_
 refine simL_skipd rfl rfl rfl rfl rfl rfl ?_
 refine simL_skipd rfl rfl rfl rfl rfl rfl ?_
 refine simL_skipu rfl rfl rfl rfl rfl ?_
 refine simL_skipu rfl rfl rfl rfl rfl ?_
 refine simL_skipd rfl rfl rfl rfl rfl rfl ?_
 refine vq (q_pick rfl rfl rfl rfl rfl) rfl (simL_nil ?_)
 exact nrm_cut (s := true) () ⟨rfl, rfl, rfl, rfl, rfl, rfl, rfl, rfl, rfl, rfl, rfl, rfl, trivial⟩ (.sel 0 rfl (.sel 0 rfl (.sel 0 rfl (.sel' 0 rfl (RowV.mk hl173v) (.sel' 0 rfl (RowV.mk hl163v) (.sel 0 rfl (.nil _)))))))
 rw [hb180v]
 refine simL_valg (q_move rfl rfl) rfl rfl rfl rfl rfl rfl ?_
 refine simL_valg (q_eqpp 0 1 (.inl rfl) rfl rfl rfl rfl rfl Tryd.underlying115 Tryd.sizeOf3) rfl rfl rfl rfl rfl rfl ?_
 refine simL_valg (q_move rfl rfl) rfl rfl rfl rfl rfl rfl ?_
 refine simL_skipd rfl rfl rfl rfl rfl rfl ?_
 refine simL_skipd rfl rfl rfl rfl rfl rfl ?_
 refine simL_valg (q_pick rfl rfl rfl rfl rfl) rfl rfl rfl rfl rfl rfl ?_
 refine vq (q_pick rfl rfl rfl rfl rfl) rfl (simL_nil ?_)
 exact nrm_cut (s := false) () ⟨rfl, rfl, rfl, rfl, rfl, rfl, rfl, rfl, rfl, rfl, rfl, rfl, trivial⟩ (.sel 0 rfl (.sel 0 rfl (.sel 0 rfl (.sel' 0 rfl (RowV.mk hl173v) (.sel' 0 rfl (RowV.mk hl163v) (.sel 0 rfl (.nil _)))))))
 intro s177v y178v
 refine simL_nil (nrm_then ?_)
 refine sim_condb rfl (fun h181v => ?_) (fun h182v => ?_)
 refine sr ?_
 refine vq (q_build (v := .agg #[.int .i64 0, .int .i64 0, .int .i64 0, .int .i64 0, .int .i64 0, .int .i64 0, .int .i64 0, .int .i64 0, .int .i64 0, .int .i64 0, .int .i64 0, .int .i64 0, .int .i64 0, .int .i64 0, .int .i64 0, .int .i64 0, .int .i64 0, .int .i64 0, .int .i64 0]) rfl rfl (fun _ => by kernel_rfl)) rfl ?_
 refine simL_do (re_store 2 rfl rfl rfl Tryd.sizeOf54 rfl rfl (one_of (by rfl)) rfl rfl) rfl rfl ?_
 intro _
 refine simL_ent (H' := [obj b23v 54 [.int .i64 s58v.1, .int .i64 s87v.1, .int .i64 0, .int .i64 0, .int .i64 s116v.1, .int .i64 s145v.1, .int .i64 0, .int .i64 0, .int .i64 0, .int .i64 0, .int .i64 0, .int .i64 0, .int .i64 0, .int .i64 0, .int .i64 0, .int .i64 0, .int .i64 0, .int .i64 0, .int .i64 0], obj b24v 3 [.int .i64 0], obj b1v 54 [.int .i64 0, .int .i64 0, .int .i64 0, .int .i64 0, .int .i64 0, .int .i64 0, .int .i64 0, .int .i64 0, .int .i64 0, .int .i64 0, .int .i64 0, .int .i64 0, .int .i64 0, .int .i64 0, .int .i64 0, .int .i64 0, .int .i64 0, .int .i64 0, .int .i64 0], RowV 9 1 (V9 tt) y4v.1 s2v.1 y4v.2, RowV 115 1 (V115 tt) y32v.1 (([(b23v, 0), (b23v, 1), (b23v, 4), (b23v, 5), (b23v, 6), (b23v, 7), (b23v, 8), (b23v, 9), (b23v, 10), (b23v, 11), (b23v, 12), (b23v, 13), (b23v, 14), (b23v, 15), (b23v, 16), (b23v, 17), (b23v, 18)] : List ((Nat × Nat))) ++ ([(b24v, 0)] : List ((Nat × Nat)))) y32v.2, F]) (Ent.refl _) ?_
 refine va rfl rfl (simL_nil (nrm_then (sim_rtn ?_)))
 refine rtn_then ?_
 refine rtn_block ?_
 refine rtn_then ?_
 refine rtn_rnd ?_
 refine rtn_block ?_
 refine rtn_then ?_
 exact rtn_fnC (vs := [.agg #[.int .i64 0, .int .i64 0, .int .i64 0, .int .i64 0, .int .i64 0, .int .i64 0, .int .i64 0, .int .i64 0, .int .i64 0, .int .i64 0, .int .i64 0, .int .i64 0, .int .i64 0, .int .i64 0, .int .i64 0, .int .i64 0, .int .i64 0, .int .i64 0, .int .i64 0], .int .i64 22]) () rfl ⟨⟨b1v, rfl, load_agg 2 Tryd.isAgg54 Tryd.sizeOf54 rfl rfl⟩, rfl, trivial⟩ rfl (.sel 5 rfl (.nil _))
 refine sim_skip ?_
 refine nrm_then (sim_region ?_)
 refine vm rfl rfl ?_
 refine vm rfl rfl ?_
 refine vn rfl rfl ?_
 refine simL_do (re_store 0 rfl rfl rfl Tryd.sizeOf3 rfl rfl (one_of (by rfl)) rfl rfl) rfl rfl ?_
 intro _
 refine simL_ent (H' := [obj b23v 54 [.int .i64 s58v.1, .int .i64 s87v.1, .int .i64 0, .int .i64 0, .int .i64 s116v.1, .int .i64 s145v.1, .int .i64 s174v.1, .int .i64 0, .int .i64 0, .int .i64 0, .int .i64 0, .int .i64 0, .int .i64 0, .int .i64 0, .int .i64 0, .int .i64 0, .int .i64 0, .int .i64 0, .int .i64 0], obj b24v 3 [.int .i64 0], obj b1v 54 [.int .i64 0, .int .i64 0, .int .i64 0, .int .i64 0, .int .i64 0, .int .i64 0, .int .i64 0, .int .i64 0, .int .i64 0, .int .i64 0, .int .i64 0, .int .i64 0, .int .i64 0, .int .i64 0, .int .i64 0, .int .i64 0, .int .i64 0, .int .i64 0, .int .i64 0], RowV 9 1 (V9 tt) y4v.1 s2v.1 y4v.2, RowV 115 1 (V115 tt) y32v.1 (([(b23v, 0), (b23v, 1), (b23v, 4), (b23v, 5), (b23v, 6), (b23v, 7), (b23v, 8), (b23v, 9), (b23v, 10), (b23v, 11), (b23v, 12), (b23v, 13), (b23v, 14), (b23v, 15), (b23v, 16), (b23v, 17), (b23v, 18)] : List ((Nat × Nat))) ++ ([(b24v, 0)] : List ((Nat × Nat)))) y32v.2, F]) (Ent.refl _) ?_
 refine simL_nil (nrm_block (nrm_then (sim_region ?_)))
 refine vq (q_add rfl rfl rfl) rfl ?_
 refine vm rfl rfl (simL_nil ?_)
 refine nrm_rnd (rnd_succ ?_)
 refine sr ?_
 refine vq (q_lss rfl rfl rfl) rfl (simL_nil (nrm_then (sim_seq ?_)))
 refine sim_true rfl ?_
 refine sim_skip ?_
 refine nrm_then (sim_seq ?_)
 refine sim_block ?_
 refine sr ?_
 refine vm rfl rfl ?_
 refine simL_openV 4 rfl (fun rs191v hl192v => ?_)
 have hi183v : (0 : Int) ≤ (5 : Int) ∧ (5 : Int) < ((([(b23v, 0), (b23v, 1), (b23v, 4), (b23v, 5), (b23v, 6), (b23v, 7), (b23v, 8), (b23v, 9), (b23v, 10), (b23v, 11), (b23v, 12), (b23v, 13), (b23v, 14), (b23v, 15), (b23v, 16), (b23v, 17), (b23v, 18)] : List ((Nat × Nat))) ++ ([(b24v, 0)] : List ((Nat × Nat)))).length : Int) := ⟨by decide, (show (5 : Int) < ((18 : Nat) : Int) by decide)⟩
 refine simL_posV 4 rfl hl192v rfl (i := (5 : Int).toNat) (by omega) ((0, 0) : Nat × Nat) (fun b184v b184vo r187v ha185v hV188v hlr189v hcell190v => ?_)
 obtain rfl := hV188v
 refine vq (q_idx rfl rfl rfl ha185v Tryd.underlying120 Tryd.sizeOf115 hi183v.1 hi183v.2) rfl ?_
 refine vq (rq_cast (v' := .pointer (some ⟨b23v, 7, none⟩)) rfl (q_load rfl rfl Tryd.isAgg115 (hcell190v 4 rfl 0 _ rfl))) rfl ?_
 refine va rfl rfl ?_
 refine va rfl rfl (nx ?_)
 refine vm rfl rfl ?_
 refine vm rfl rfl ?_
 refine vq (q_add rfl rfl rfl) rfl ?_
 refine simL_openV 3 rfl (fun rs201v hl202v => ?_)
 refine simL_ask (fun hi193v => ?_)
 refine simL_posV 3 rfl hl202v rfl (i := (6 : Int).toNat) (by omega) ([] : List UInt8) (fun b194v b194vo r197v ha195v hV198v hlr199v hcell200v => ?_)
 obtain rfl := hV198v
 refine vq (q_idx rfl rfl rfl ha195v Tryd.underlying23 Tryd.sizeOf9 hi193v.1 hi193v.2) rfl ?_
 refine vq (q_load rfl rfl Tryd.isAgg9 (hcell200v 3 rfl 0 _ rfl)) rfl ?_
 refine simL_bind (fun s203v hs204v => ?_)
 refine simL_eff (re_call (vs := [str (s2v.1.getD (6 : Int).toNat ([] : List UInt8))]) (cap := []) (A := []) (rst := [obj b23v 54 [.int .i64 s58v.1, .int .i64 s87v.1, .int .i64 0, .int .i64 0, .int .i64 s116v.1, .int .i64 s145v.1, .int .i64 s174v.1, .int .i64 0, .int .i64 0, .int .i64 0, .int .i64 0, .int .i64 0, .int .i64 0, .int .i64 0, .int .i64 0, .int .i64 0, .int .i64 0, .int .i64 0, .int .i64 0], obj b24v 3 [.int .i64 0], obj b1v 54 [.int .i64 0, .int .i64 0, .int .i64 0, .int .i64 0, .int .i64 0, .int .i64 0, .int .i64 0, .int .i64 0, .int .i64 0, .int .i64 0, .int .i64 0, .int .i64 0, .int .i64 0, .int .i64 0, .int .i64 0, .int .i64 0, .int .i64 0, .int .i64 0, .int .i64 0], Row 9 1 y4v.1 s2v.1.length y4v.2 rs201v.flatten, Row 115 1 y32v.1 (([(b23v, 0), (b23v, 1), (b23v, 4), (b23v, 5), (b23v, 6), (b23v, 7), (b23v, 8), (b23v, 9), (b23v, 10), (b23v, 11), (b23v, 12), (b23v, 13), (b23v, 14), (b23v, 15), (b23v, 16), (b23v, 17), (b23v, 18)] : List ((Nat × Nat))) ++ ([(b24v, 0)] : List ((Nat × Nat)))).length y32v.2 rs191v.flatten, F]) rfl rfl rfl rfl rfl rfl Tryd.call55 (.sel 0 rfl (.sel 0 rfl (.sel 0 rfl (.sel 0 rfl (.sel 0 rfl (.sel 0 rfl (.nil _))))))) (text_number.calls _ _ (s2v.1.getD (6 : Int).toNat ([] : List UInt8)) (hgl.lend 5 rfl)) hs204v) rfl rfl rfl ?_
 intro y205v
 refine vm rfl rfl ?_
 refine vq (q_ext rfl rfl rfl) rfl ?_
 refine vq (q_ext rfl rfl rfl) rfl ?_
 refine va rfl rfl ?_
 refine va rfl rfl (simL_nil (nrm_then (sim_seq (sr ?_))))
 refine vm rfl rfl ?_
 refine vq (q_not rfl rfl) rfl ?_
 refine vm rfl rfl ?_
 refine simL_cut' 7 (S := Bool) (Unit) (fun s y => [(2, .pointer (some ⟨b1v, 0, none⟩)), (4, .slice y4v.1 s2v.1.length y4v.2), (6, .pointer (some ⟨b23v, 0, none⟩)), (7, .pointer (some ⟨b24v, 0, none⟩)), (10, .pointer (some ⟨b23v, 7, none⟩)), (11, .int .i64 s203v.1), (43, .slice y32v.1 ((([(b23v, 0), (b23v, 1), (b23v, 4), (b23v, 5), (b23v, 6), (b23v, 7), (b23v, 8), (b23v, 9), (b23v, 10), (b23v, 11), (b23v, 12), (b23v, 13), (b23v, 14), (b23v, 15), (b23v, 16), (b23v, 17), (b23v, 18)] : List ((Nat × Nat))) ++ ([(b24v, 0)] : List ((Nat × Nat)))).length) y32v.2), (44, .int .i64 18), (45, .int .i64 5), (65, undef), (66, undef), (68, .bool s)]) (fun s y => [obj b23v 54 [.int .i64 s58v.1, .int .i64 s87v.1, .int .i64 0, .int .i64 0, .int .i64 s116v.1, .int .i64 s145v.1, .int .i64 s174v.1, .int .i64 0, .int .i64 0, .int .i64 0, .int .i64 0, .int .i64 0, .int .i64 0, .int .i64 0, .int .i64 0, .int .i64 0, .int .i64 0, .int .i64 0, .int .i64 0], obj b24v 3 [.int .i64 0], obj b1v 54 [.int .i64 0, .int .i64 0, .int .i64 0, .int .i64 0, .int .i64 0, .int .i64 0, .int .i64 0, .int .i64 0, .int .i64 0, .int .i64 0, .int .i64 0, .int .i64 0, .int .i64 0, .int .i64 0, .int .i64 0, .int .i64 0, .int .i64 0, .int .i64 0, .int .i64 0], RowV 9 1 (V9 tt) y4v.1 s2v.1 y4v.2, RowV 115 1 (V115 tt) y32v.1 (([(b23v, 0), (b23v, 1), (b23v, 4), (b23v, 5), (b23v, 6), (b23v, 7), (b23v, 8), (b23v, 9), (b23v, 10), (b23v, 11), (b23v, 12), (b23v, 13), (b23v, 14), (b23v, 15), (b23v, 16), (b23v, 17), (b23v, 18)] : List ((Nat × Nat))) ++ ([(b24v, 0)] : List ((Nat × Nat)))) y32v.2, F]) ?_ ?_
 refine simL_caseb (fun hb208v => ?_) (fun hb209v => ?_)
 rw [hb208v]
 refine simL_skipd rfl rfl rfl rfl rfl rfl ?_
 refine simL_skipd rfl rfl rfl rfl rfl rfl ?_
 refine simL_skipd rfl rfl rfl rfl rfl rfl ?_
 refine simL_skipu rfl rfl rfl rfl rfl ?_
 refine simL_skipu rfl rfl rfl rfl rfl ?_
 refine simL_skipd rfl rfl rfl rfl rfl rfl ?_
 refine vq (q_pick rfl rfl rfl rfl rfl) rfl (simL_nil ?_)
 exact nrm_cut (s := true) () ⟨rfl, rfl, rfl, rfl, rfl, rfl, rfl, rfl, rfl, rfl, rfl, rfl, trivial⟩ (.sel 0 rfl (.sel 0 rfl (.sel 0 rfl (.sel' 0 rfl (RowV.mk hl202v) (.sel' 0 rfl (RowV.mk hl192v) (.sel 0 rfl (.nil _)))))))
 rw [hb209v]
 refine simL_valg (q_move rfl rfl) rfl rfl rfl rfl rfl rfl ?_
 refine simL_valg (q_eqpp 0 1 (.inl rfl) rfl rfl rfl rfl rfl Tryd.underlying115 Tryd.sizeOf3) rfl rfl rfl rfl rfl rfl ?_
 refine simL_valg (q_move rfl rfl) rfl rfl rfl rfl rfl rfl ?_
 refine simL_skipd rfl rfl rfl rfl rfl rfl ?_
 refine simL_skipd rfl rfl rfl rfl rfl rfl ?_
 refine simL_valg (q_pick rfl rfl rfl rfl rfl) rfl rfl rfl rfl rfl rfl ?_
 refine vq (q_pick rfl rfl rfl rfl rfl) rfl (simL_nil ?_)
 exact nrm_cut (s := false) () ⟨rfl, rfl, rfl, rfl, rfl, rfl, rfl, rfl, rfl, rfl, rfl, rfl, trivial⟩ (.sel 0 rfl (.sel 0 rfl (.sel 0 rfl (.sel' 0 rfl (RowV.mk hl202v) (.sel' 0 rfl (RowV.mk hl192v) (.sel 0 rfl (.nil _)))))))
 intro s206v y207v
 refine simL_nil (nrm_then ?_)
 refine sim_condb rfl (fun h210v => ?_) (fun h211v => ?_)
 refine sr ?_
 refine vq (q_build (v := .agg #[.int .i64 0, .int .i64 0, .int .i64 0, .int .i64 0, .int .i64 0, .int .i64 0, .int .i64 0, .int .i64 0, .int .i64 0, .int .i64 0, .int .i64 0, .int .i64 0, .int .i64 0, .int .i64 0, .int .i64 0, .int .i64 0, .int .i64 0, .int .i64 0, .int .i64 0]) rfl rfl (fun _ => by kernel_rfl)) rfl ?_
 refine simL_do (re_store 2 rfl rfl rfl Tryd.sizeOf54 rfl rfl (one_of (by rfl)) rfl rfl) rfl rfl ?_
 intro _
 refine simL_ent (H' := [obj b23v 54 [.int .i64 s58v.1, .int .i64 s87v.1, .int .i64 0, .int .i64 0, .int .i64 s116v.1, .int .i64 s145v.1, .int .i64 s174v.1, .int .i64 0, .int .i64 0, .int .i64 0, .int .i64 0, .int .i64 0, .int .i64 0, .int .i64 0, .int .i64 0, .int .i64 0, .int .i64 0, .int .i64 0, .int .i64 0], obj b24v 3 [.int .i64 0], obj b1v 54 [.int .i64 0, .int .i64 0, .int .i64 0, .int .i64 0, .int .i64 0, .int .i64 0, .int .i64 0, .int .i64 0, .int .i64 0, .int .i64 0, .int .i64 0, .int .i64 0, .int .i64 0, .int .i64 0, .int .i64 0, .int .i64 0, .int .i64 0, .int .i64 0, .int .i64 0], RowV 9 1 (V9 tt) y4v.1 s2v.1 y4v.2, RowV 115 1 (V115 tt) y32v.1 (([(b23v, 0), (b23v, 1), (b23v, 4), (b23v, 5), (b23v, 6), (b23v, 7), (b23v, 8), (b23v, 9), (b23v, 10), (b23v, 11), (b23v, 12), (b23v, 13), (b23v, 14), (b23v, 15), (b23v, 16), (b23v, 17), (b23v, 18)] : List ((Nat × Nat))) ++ ([(b24v, 0)] : List ((Nat × Nat)))) y32v.2, F]) (Ent.refl _) ?_
 refine va rfl rfl (simL_nil (nrm_then (sim_rtn ?_)))
 refine rtn_then ?_
 refine rtn_block ?_
 refine rtn_then ?_
 refine rtn_rnd ?_
 refine rtn_block ?_
 refine rtn_then ?_
 exact rtn_fnC (vs := [.agg #[.int .i64 0, .int .i64 0, .int .i64 0, .int .i64 0, .int .i64 0, .int .i64 0, .int .i64 0, .int .i64 0, .int .i64 0, .int .i64 0, .int .i64 0, .int .i64 0, .int .i64 0, .int .i64 0, .int .i64 0, .int .i64 0, .int .i64 0, .int .i64 0, .int .i64 0], .int .i64 22]) () rfl ⟨⟨b1v, rfl, load_agg 2 Tryd.isAgg54 Tryd.sizeOf54 rfl rfl⟩, rfl, trivial⟩ rfl (.sel 5 rfl (.nil _))
 refine sim_skip ?_
 refine nrm_then (sim_region ?_)
 refine vm rfl rfl ?_
 refine vm rfl rfl ?_
 refine vn rfl rfl ?_
 refine simL_do (re_store 0 rfl rfl rfl Tryd.sizeOf3 rfl rfl (one_of (by rfl)) rfl rfl) rfl rfl ?_
 intro _
 refine simL_ent (H' := [obj b23v 54 [.int .i64 s58v.1, .int .i64 s87v.1, .int .i64 0, .int .i64 0, .int .i64 s116v.1, .int .i64 s145v.1, .int .i64 s174v.1, .int .i64 s203v.1, .int .i64 0, .int .i64 0, .int .i64 0, .int .i64 0, .int .i64 0, .int .i64 0, .int .i64 0, .int .i64 0, .int .i64 0, .int .i64 0, .int .i64 0], obj b24v 3 [.int .i64 0], obj b1v 54 [.int .i64 0, .int .i64 0, .int .i64 0, .int .i64 0, .int .i64 0, .int .i64 0, .int .i64 0, .int .i64 0, .int .i64 0, .int .i64 0, .int .i64 0, .int .i64 0, .int .i64 0, .int .i64 0, .int .i64 0, .int .i64 0, .int .i64 0, .int .i64 0, .int .i64 0], RowV 9 1 (V9 tt) y4v.1 s2v.1 y4v.2, RowV 115 1 (V115 tt) y32v.1 (([(b23v, 0), (b23v, 1), (b23v, 4), (b23v, 5), (b23v, 6), (b23v, 7), (b23v, 8), (b23v, 9), (b23v, 10), (b23v, 11), (b23v, 12), (b23v, 13), (b23v, 14), (b23v, 15), (b23v, 16), (b23v, 17), (b23v, 18)] : List ((Nat × Nat))) ++ ([(b24v, 0)] : List ((Nat × Nat)))) y32v.2, F]) (Ent.refl _) ?_
 refine simL_nil (nrm_block (nrm_then (sim_region ?_)))
 refine vq (q_add rfl rfl rfl) rfl ?_
 refine vm rfl rfl (simL_nil ?_)
 refine nrm_rnd (rnd_succ ?_)
 refine sr ?_
 refine vq (q_lss rfl rfl rfl) rfl (simL_nil (nrm_then (sim_seq ?_)))
 refine sim_true rfl ?_
 refine sim_skip ?_
 refine nrm_then (sim_seq ?_)
 refine sim_block ?_
 refine sr ?_
 refine vm rfl rfl ?_
 refine simL_openV 4 rfl (fun rs220v hl221v => ?_)
 have hi212v : (0 : Int) ≤ (6 : Int) ∧ (6 : Int) < ((([(b23v, 0), (b23v, 1), (b23v, 4), (b23v, 5), (b23v, 6), (b23v, 7), (b23v, 8), (b23v, 9), (b23v, 10), (b23v, 11), (b23v, 12), (b23v, 13), (b23v, 14), (b23v, 15), (b23v, 16), (b23v, 17), (b23v, 18)] : List ((Nat × Nat))) ++ ([(b24v, 0)] : List ((Nat × Nat)))).length : Int) := ⟨by decide, (show (6 : Int) < ((18 : Nat) : Int) by decide)⟩
 refine simL_posV 4 rfl hl221v rfl (i := (6 : Int).toNat) (by omega) ((0, 0) : Nat × Nat) (fun b213v b213vo r216v ha214v hV217v hlr218v hcell219v => ?_)
 obtain rfl := hV217v
 refine vq (q_idx rfl rfl rfl ha214v Tryd.underlying120 Tryd.sizeOf115 hi212v.1 hi212v.2) rfl ?_
 refine vq (rq_cast (v' := .pointer (some ⟨b23v, 8, none⟩)) rfl (q_load rfl rfl Tryd.isAgg115 (hcell219v 4 rfl 0 _ rfl))) rfl ?_
 refine va rfl rfl ?_
 refine va rfl rfl (nx ?_)
 refine vm rfl rfl ?_
 refine vm rfl rfl ?_
 refine vq (q_add rfl rfl rfl) rfl ?_
 refine simL_openV 3 rfl (fun rs230v hl231v => ?_)
 refine simL_ask (fun hi222v => ?_)
 refine simL_posV 3 rfl hl231v rfl (i := (7 : Int).toNat) (by omega) ([] : List UInt8) (fun b223v b223vo r226v ha224v hV227v hlr228v hcell229v => ?_)
 obtain rfl := hV227v
 refine vq (q_idx rfl rfl rfl ha224v Tryd.underlying23 Tryd.sizeOf9 hi222v.1 hi222v.2) rfl ?_
 refine vq (q_load rfl rfl Tryd.isAgg9 (hcell229v 3 rfl 0 _ rfl)) rfl ?_
 refine simL_bind (fun s232v hs233v => ?_)
 refine simL_eff (re_call (vs := [str (s2v.1.getD (7 : Int).toNat ([] : List UInt8))]) (cap := []) (A := []) (rst := [obj b23v 54 [.int .i64 s58v.1, .int .i64 s87v.1, .int .i64 0, .int .i64 0, .int .i64 s116v.1, .int .i64 s145v.1, .int .i64 s174v.1, .int .i64 s203v.1, .int .i64 0, .int .i64 0, .int .i64 0, .int .i64 0, .int .i64 0, .int .i64 0, .int .i64 0, .int .i64 0, .int .i64 0, .int .i64 0, .int .i64 0], obj b24v 3 [.int .i64 0], obj b1v 54 [.int .i64 0, .int .i64 0, .int .i64 0, .int .i64 0, .int .i64 0, .int .i64 0, .int .i64 0, .int .i64 0, .int .i64 0, .int .i64 0, .int .i64 0, .int .i64 0, .int .i64 0, .int .i64 0, .int .i64 0, .int .i64 0, .int .i64 0, .int .i64 0, .int .i64 0], Row 9 1 y4v.1 s2v.1.length y4v.2 rs230v.flatten, Row 115 1 y32v.1 (([(b23v, 0), (b23v, 1), (b23v, 4), (b23v, 5), (b23v, 6), (b23v, 7), (b23v, 8), (b23v, 9), (b23v, 10), (b23v, 11), (b23v, 12), (b23v, 13), (b23v, 14), (b23v, 15), (b23v, 16), (b23v, 17), (b23v, 18)] : List ((Nat × Nat))) ++ ([(b24v, 0)] : List ((Nat × Nat)))).length y32v.2 rs220v.flatten, F]) rfl rfl rfl rfl rfl rfl Tryd.call55 (.sel 0 rfl (.sel 0 rfl (.sel 0 rfl (.sel 0 rfl (.sel 0 rfl (.sel 0 rfl (.nil _))))))) (text_number.calls _ _ (s2v.1.getD (7 : Int).toNat ([] : List UInt8)) (hgl.lend 5 rfl)) hs233v) rfl rfl rfl ?_
 intro y234v
 refine vm rfl rfl ?_
 refine vq (q_ext rfl rfl rfl) rfl ?_
 refine vq (q_ext rfl rfl rfl) rfl ?_
 refine va rfl rfl ?_
 refine va rfl rfl (simL_nil (nrm_then (sim_seq (sr ?_))))
 refine vm rfl rfl ?_
 refine vq (q_not rfl rfl) rfl ?_
 refine vm rfl rfl ?_
 refine simL_cut' 7 (S := Bool) (Unit) (fun s y => [(2, .pointer (some ⟨b1v, 0, none⟩)), (4, .slice y4v.1 s2v.1.length y4v.2), (6, .pointer (some ⟨b23v, 0, none⟩)), (7, .pointer (some ⟨b24v, 0, none⟩)), (10, .pointer (some ⟨b23v, 8, none⟩)), (11, .int .i64 s232v.1), (43, .slice y32v.1 ((([(b23v, 0), (b23v, 1), (b23v, 4), (b23v, 5), (b23v, 6), (b23v, 7), (b23v, 8), (b23v, 9), (b23v, 10), (b23v, 11), (b23v, 12), (b23v, 13), (b23v, 14), (b23v, 15), (b23v, 16), (b23v, 17), (b23v, 18)] : List ((Nat × Nat))) ++ ([(b24v, 0)] : List ((Nat × Nat)))).length) y32v.2), (44, .int .i64 18), (45, .int .i64 6), (65, undef), (66, undef), (68, .bool s)]) (fun s y => [obj b23v 54 [.int .i64 s58v.1, .int .i64 s87v.1, .int .i64 0, .int .i64 0, .int .i64 s116v.1, .int .i64 s145v.1, .int .i64 s174v.1, .int .i64 s203v.1, .int .i64 0, .int .i64 0, .int .i64 0, .int .i64 0, .int .i64 0, .int .i64 0, .int .i64 0, .int .i64 0, .int .i64 0, .int .i64 0, .int .i64 0], obj b24v 3 [.int .i64 0], obj b1v 54 [.int .i64 0, .int .i64 0, .int .i64 0, .int .i64 0, .int .i64 0, .int .i64 0, .int .i64 0, .int .i64 0, .int .i64 0, .int .i64 0, .int .i64 0, .int .i64 0, .int .i64 0, .int .i64 0, .int .i64 0, .int .i64 0, .int .i64 0, .int .i64 0, .int .i64 0], RowV 9 1 (V9 tt) y4v.1 s2v.1 y4v.2, RowV 115 1 (V115 tt) y32v.1 (([(b23v, 0), (b23v, 1), (b23v, 4), (b23v, 5), (b23v, 6), (b23v, 7), (b23v, 8), (b23v, 9), (b23v, 10), (b23v, 11), (b23v, 12), (b23v, 13), (b23v, 14), (b23v, 15), (b23v, 16), (b23v, 17), (b23v, 18)] : List ((Nat × Nat))) ++ ([(b24v, 0)] : List ((Nat × Nat)))) y32v.2, F]) ?_ ?_
 refine simL_caseb (fun hb237v => ?_) (fun hb238v => ?_)
 rw [hb237v]
 refine simL_skipd rfl rfl rfl rfl rfl rfl ?_
 refine simL_skipd rfl rfl rfl rfl rfl rfl ?_
 refine simL_skipd rfl rfl rfl rfl rfl rfl ?_
 refine simL_skipu rfl rfl rfl rfl rfl ?_
 refine simL_skipu rfl rfl rfl rfl rfl ?_
 refine simL_skipd rfl rfl rfl rfl rfl rfl ?_
 refine vq (q_pick rfl rfl rfl rfl rfl) rfl (simL_nil ?_)
 exact nrm_cut (s := true) () ⟨rfl, rfl, rfl, rfl, rfl, rfl, rfl, rfl, rfl, rfl, rfl, rfl, trivial⟩ (.sel 0 rfl (.sel 0 rfl (.sel 0 rfl (.sel' 0 rfl (RowV.mk hl231v) (.sel' 0 rfl (RowV.mk hl221v) (.sel 0 rfl (.nil _)))))))
 rw [hb238v]
 refine simL_valg (q_move rfl rfl) rfl rfl rfl rfl rfl rfl ?_
 refine simL_valg (q_eqpp 0 1 (.inl rfl) rfl rfl rfl rfl rfl Tryd.underlying115 Tryd.sizeOf3) rfl rfl rfl rfl rfl rfl ?_
 refine simL_valg (q_move rfl rfl) rfl rfl rfl rfl rfl rfl ?_
 refine simL_skipd rfl rfl rfl rfl rfl rfl ?_
 refine simL_skipd rfl rfl rfl rfl rfl rfl ?_
 refine simL_valg (q_pick rfl rfl rfl rfl rfl) rfl rfl rfl rfl rfl rfl ?_
 refine vq (q_pick rfl rfl rfl rfl rfl) rfl (simL_nil ?_)
 exact nrm_cut (s := false) () ⟨rfl, rfl, rfl, rfl, rfl, rfl, rfl, rfl, rfl, rfl, rfl, rfl, trivial⟩ (.sel 0 rfl (.sel 0 rfl (.sel 0 rfl (.sel' 0 rfl (RowV.mk hl231v) (.sel' 0 rfl (RowV.mk hl221v) (.sel 0 rfl (.nil _)))))))
 intro s235v y236v
 refine simL_nil (nrm_then ?_)
 refine sim_condb rfl (fun h239v => ?_) (fun h240v => ?_)
 refine sr ?_
 refine vq (q_build (v := .agg #[.int .i64 0, .int .i64 0, .int .i64 0, .int .i64 0, .int .i64 0, .int .i64 0, .int .i64 0, .int .i64 0, .int .i64 0, .int .i64 0, .int .i64 0, .int .i64 0, .int .i64 0, .int .i64 0, .int .i64 0, .int .i64 0, .int .i64 0, .int .i64 0, .int .i64 0]) rfl rfl (fun _ => by kernel_rfl)) rfl ?_
 refine simL_do (re_store 2 rfl rfl rfl Tryd.sizeOf54 rfl rfl (one_of (by rfl)) rfl rfl) rfl rfl ?_
 intro _
 refine simL_ent (H' := [obj b23v 54 [.int .i64 s58v.1, .int .i64 s87v.1, .int .i64 0, .int .i64 0, .int .i64 s116v.1, .int .i64 s145v.1, .int .i64 s174v.1, .int .i64 s203v.1, .int .i64 0, .int .i64 0, .int .i64 0, .int .i64 0, .int .i64 0, .int .i64 0, .int .i64 0, .int .i64 0, .int .i64 0, .int .i64 0, .int .i64 0], obj b24v 3 [.int .i64 0], obj b1v 54 [.int .i64 0, .int .i64 0, .int .i64 0, .int .i64 0, .int .i64 0, .int .i64 0, .int .i64 0, .int .i64 0, .int .i64 0, .int .i64 0, .int .i64 0, .int .i64 0, .int .i64 0, .int .i64 0, .int .i64 0, .int .i64 0, .int .i64 0, .int .i64 0, .int .i64 0], RowV 9 1 (V9 tt) y4v.1 s2v.1 y4v.2, RowV 115 1 (V115 tt) y32v.1 (([(b23v, 0), (b23v, 1), (b23v, 4), (b23v, 5), (b23v, 6), (b23v, 7), (b23v, 8), (b23v, 9), (b23v, 10), (b23v, 11), (b23v, 12), (b23v, 13), (b23v, 14), (b23v, 15), (b23v, 16), (b23v, 17), (b23v, 18)] : List ((Nat × Nat))) ++ ([(b24v, 0)] : List ((Nat × Nat)))) y32v.2, F]) (Ent.refl _) ?_
 refine va rfl rfl (simL_nil (nrm_then (sim_rtn ?_)))
 refine rtn_then ?_
 refine rtn_block ?_
 refine rtn_then ?_
 refine rtn_rnd ?_
 refine rtn_block ?_
 refine rtn_then ?_
 exact rtn_fnC (vs := [.agg #[.int .i64 0, .int .i64 0, .int .i64 0, .int .i64 0, .int .i64 0, .int .i64 0, .int .i64 0, .int .i64 0, .int .i64 0, .int .i64 0, .int .i64 0, .int .i64 0, .int .i64 0, .int .i64 0, .int .i64 0, .int .i64 0, .int .i64 0, .int .i64 0, .int .i64 0], .int .i64 22]) () rfl ⟨⟨b1v, rfl, load_agg 2 Tryd.isAgg54 Tryd.sizeOf54 rfl rfl⟩, rfl, trivial⟩ rfl (.sel 5 rfl (.nil _))
 refine sim_skip ?_
 refine nrm_then (sim_region ?_)
 refine vm rfl rfl ?_
 refine vm rfl rfl ?_
 refine vn rfl rfl ?_
 refine simL_do (re_store 0 rfl rfl rfl Tryd.sizeOf3 rfl rfl (one_of (by rfl)) rfl rfl) rfl rfl ?_
 intro _
 refine simL_ent (H' := [obj b23v 54 [.int .i64 s58v.1, .int .i64 s87v.1, .int .i64 0, .int .i64 0, .int .i64 s116v.1, .int .i64 s145v.1, .int .i64 s174v.1, .int .i64 s203v.1, .int .i64 s232v.1, .int .i64 0, .int .i64 0, .int .i64 0, .int .i64 0, .int .i64 0, .int .i64 0, .int .i64 0, .int .i64 0, .int .i64 0, .int .i64 0], obj b24v 3 [.int .i64 0], obj b1v 54 [.int .i64 0, .int .i64 0, .int .i64 0, .int .i64 0, .int .i64 0, .int .i64 0, .int .i64 0, .int .i64 0, .int .i64 0, .int .i64 0, .int .i64 0, .int .i64 0, .int .i64 0, .int .i64 0, .int .i64 0, .int .i64 0, .int .i64 0, .int .i64 0, .int .i64 0], RowV 9 1 (V9 tt) y4v.1 s2v.1 y4v.2, RowV 115 1 (V115 tt) y32v.1 (([(b23v, 0), (b23v, 1), (b23v, 4), (b23v, 5), (b23v, 6), (b23v, 7), (b23v, 8), (b23v, 9), (b23v, 10), (b23v, 11), (b23v, 12), (b23v, 13), (b23v, 14), (b23v, 15), (b23v, 16), (b23v, 17), (b23v, 18)] : List ((Nat × Nat))) ++ ([(b24v, 0)] : List ((Nat × Nat)))) y32v.2, F]) (Ent.refl _) ?_
 refine simL_nil (nrm_block (nrm_then (sim_region ?_)))
 refine vq (q_add rfl rfl rfl) rfl ?_
 refine vm rfl rfl (simL_nil ?_)
 refine nrm_rnd (rnd_succ ?_)
 refine sr ?_
 refine vq (q_lss rfl rfl rfl) rfl (simL_nil (nrm_then (sim_seq ?_)))
 refine sim_true rfl ?_
 refine sim_skip ?_
 refine nrm_then (sim_seq ?_)
 refine sim_block ?_
 refine sr ?_
 refine vm rfl rfl ?_
 refine simL_openV 4 rfl (fun rs249v hl250v => ?_)
 have hi241v : (0 : Int) ≤ (7 : Int) ∧ (7 : Int) < ((([(b23v, 0), (b23v, 1), (b23v, 4), (b23v, 5), (b23v, 6), (b23v, 7), (b23v, 8), (b23v, 9), (b23v, 10), (b23v, 11), (b23v, 12), (b23v, 13), (b23v, 14), (b23v, 15), (b23v, 16), (b23v, 17), (b23v, 18)] : List ((Nat × Nat))) ++ ([(b24v, 0)] : List ((Nat × Nat)))).length : Int) := ⟨by decide, (show (7 : Int) < ((18 : Nat) : Int) by decide)⟩
 refine simL_posV 4 rfl hl250v rfl (i := (7 : Int).toNat) (by omega) ((0, 0) : Nat × Nat) (fun b242v b242vo r245v ha243v hV246v hlr247v hcell248v => ?_)
 obtain rfl := hV246v
 refine vq (q_idx rfl rfl rfl ha243v Tryd.underlying120 Tryd.sizeOf115 hi241v.1 hi241v.2) rfl ?_
 refine vq (rq_cast (v' := .pointer (some ⟨b23v, 9, none⟩)) rfl (q_load rfl rfl Tryd.isAgg115 (hcell248v 4 rfl 0 _ rfl))) rfl ?_
 refine va rfl rfl ?_
 refine va rfl rfl (nx ?_)
 refine vm rfl rfl ?_
 refine vm rfl rfl ?_
 refine vq (q_add rfl rfl rfl) rfl ?_
 refine simL_openV 3 rfl (fun rs259v hl260v => ?_)
 refine simL_ask (fun hi251v => ?_)
 refine simL_posV 3 rfl hl260v rfl (i := (8 : Int).toNat) (by omega) ([] : List UInt8) (fun b252v b252vo r255v ha253v hV256v hlr257v hcell258v => ?_)
 obtain rfl := hV256v
 refine vq (q_idx rfl rfl rfl ha253v Tryd.underlying23 Tryd.sizeOf9 hi251v.1 hi251v.2) rfl ?_
 refine vq (q_load rfl rfl Tryd.isAgg9 (hcell258v 3 rfl 0 _ rfl)) rfl ?_
 refine simL_bind (fun s261v hs262v => ?_)
 refine simL_eff (re_call (vs := [str (s2v.1.getD (8 : Int).toNat ([] : List UInt8))]) (cap := []) (A := []) (rst := [obj b23v 54 [.int .i64 s58v.1, .int .i64 s87v.1, .int .i64 0, .int .i64 0, .int .i64 s116v.1, .int .i64 s145v.1, .int .i64 s174v.1, .int .i64 s203v.1, .int .i64 s232v.1, .int .i64 0, .int .i64 0, .int .i64 0, .int .i64 0, .int .i64 0, .int .i64 0, .int .i64 0, .int .i64 0, .int .i64 0, .int .i64 0], obj b24v 3 [.int .i64 0], obj b1v 54 [.int .i64 0, .int .i64 0, .int .i64 0, .int .i64 0, .int .i64 0, .int .i64 0, .int .i64 0, .int .i64 0, .int .i64 0, .int .i64 0, .int .i64 0, .int .i64 0, .int .i64 0, .int .i64 0, .int .i64 0, .int .i64 0, .int .i64 0, .int .i64 0, .int .i64 0], Row 9 1 y4v.1 s2v.1.length y4v.2 rs259v.flatten, Row 115 1 y32v.1 (([(b23v, 0), (b23v, 1), (b23v, 4), (b23v, 5), (b23v, 6), (b23v, 7), (b23v, 8), (b23v, 9), (b23v, 10), (b23v, 11), (b23v, 12), (b23v, 13), (b23v, 14), (b23v, 15), (b23v, 16), (b23v, 17), (b23v, 18)] : List ((Nat × Nat))) ++ ([(b24v, 0)] : List ((Nat × Nat)))).length y32v.2 rs249v.flatten, F]) rfl rfl rfl rfl rfl rfl Tryd.call55 (.sel 0 rfl (.sel 0 rfl (.sel 0 rfl (.sel 0 rfl (.sel 0 rfl (.sel 0 rfl (.nil _))))))) (text_number.calls _ _ (s2v.1.getD (8 : Int).toNat ([] : List UInt8)) (hgl.lend 5 rfl)) hs262v) rfl rfl rfl ?_
 intro y263v
 refine vm rfl rfl ?_
 refine vq (q_ext rfl rfl rfl) rfl ?_
 refine vq (q_ext rfl rfl rfl) rfl ?_
 refine va rfl rfl ?_
 refine va rfl rfl (simL_nil (nrm_then (sim_seq (sr ?_))))
 refine vm rfl rfl ?_
 refine vq (q_not rfl rfl) rfl ?_
 refine vm rfl rfl ?_
 refine simL_cut' 7 (S := Bool) (Unit) (fun s y => [(2, .pointer (some ⟨b1v, 0, none⟩)), (4, .slice y4v.1 s2v.1.length y4v.2), (6, .pointer (some ⟨b23v, 0, none⟩)), (7, .pointer (some ⟨b24v, 0, none⟩)), (10, .pointer (some ⟨b23v, 9, none⟩)), (11, .int .i64 s261v.1), (43, .slice y32v.1 ((([(b23v, 0), (b23v, 1), (b23v, 4), (b23v, 5), (b23v, 6), (b23v, 7), (b23v, 8), (b23v, 9), (b23v, 10), (b23v, 11), (b23v, 12), (b23v, 13), (b23v, 14), (b23v, 15), (b23v, 16), (b23v, 17), (b23v, 18)] : List ((Nat × Nat))) ++ ([(b24v, 0)] : List ((Nat × Nat)))).length) y32v.2), (44, .int .i64 18), (45, .int .i64 7), (65, undef), (66, undef), (68, .bool s)]) (fun s y => [obj b23v 54 [.int .i64 s58v.1, .int .i64 s87v.1, .int .i64 0, .int .i64 0, .int .i64 s116v.1, .int .i64 s145v.1, .int .i64 s174v.1, .int .i64 s203v.1, .int .i64 s232v.1, .int .i64 0, .int .i64 0, .int .i64 0, .int .i64 0, .int .i64 0, .int .i64 0, .int .i64 0, .int .i64 0, .int .i64 0, .int .i64 0], obj b24v 3 [.int .i64 0], obj b1v 54 [.int .i64 0, .int .i64 0, .int .i64 0, .int .i64 0, .int .i64 0, .int .i64 0, .int .i64 0, .int .i64 0, .int .i64 0, .int .i64 0, .int .i64 0, .int .i64 0, .int .i64 0, .int .i64 0, .int .i64 0, .int .i64 0, .int .i64 0, .int .i64 0, .int .i64 0], RowV 9 1 (V9 tt) y4v.1 s2v.1 y4v.2, RowV 115 1 (V115 tt) y32v.1 (([(b23v, 0), (b23v, 1), (b23v, 4), (b23v, 5), (b23v, 6), (b23v, 7), (b23v, 8), (b23v, 9), (b23v, 10), (b23v, 11), (b23v, 12), (b23v, 13), (b23v, 14), (b23v, 15), (b23v, 16), (b23v, 17), (b23v, 18)] : List ((Nat × Nat))) ++ ([(b24v, 0)] : List ((Nat × Nat)))) y32v.2, F]) ?_ ?_
 refine simL_caseb (fun hb266v => ?_) (fun hb267v => ?_)
 rw [hb266v]
 refine simL_skipd rfl rfl rfl rfl rfl rfl ?_
 refine simL_skipd rfl rfl rfl rfl rfl rfl ?_
 refine simL_skipd rfl rfl rfl rfl rfl rfl ?_
 refine simL_skipu rfl rfl rfl rfl rfl ?_
 refine simL_skipu rfl rfl rfl rfl rfl ?_
 refine simL_skipd rfl rfl rfl rfl rfl rfl ?_
 refine vq (q_pick rfl rfl rfl rfl rfl) rfl (simL_nil ?_)
 exact nrm_cut (s := true) () ⟨rfl, rfl, rfl, rfl, rfl, rfl, rfl, rfl, rfl, rfl, rfl, rfl, trivial⟩ (.sel 0 rfl (.sel 0 rfl (.sel 0 rfl (.sel' 0 rfl (RowV.mk hl260v) (.sel' 0 rfl (RowV.mk hl250v) (.sel 0 rfl (.nil _)))))))
 rw [hb267v]
 refine simL_valg (q_move rfl rfl) rfl rfl rfl rfl rfl rfl ?_
 refine simL_valg (q_eqpp 0 1 (.inl rfl) rfl rfl rfl rfl rfl Tryd.underlying115 Tryd.sizeOf3) rfl rfl rfl rfl rfl rfl ?_
 refine simL_valg (q_move rfl rfl) rfl rfl rfl rfl rfl rfl ?_
 refine simL_skipd rfl rfl rfl rfl rfl rfl ?_
 refine simL_skipd rfl rfl rfl rfl rfl rfl ?_
 refine simL_valg (q_pick rfl rfl rfl rfl rfl) rfl rfl rfl rfl rfl rfl ?_
 refine vq (q_pick rfl rfl rfl rfl rfl) rfl (simL_nil ?_)
 exact nrm_cut (s := false) () ⟨rfl, rfl, rfl, rfl, rfl, rfl, rfl, rfl, rfl, rfl, rfl, rfl, trivial⟩ (.sel 0 rfl (.sel 0 rfl (.sel 0 rfl (.sel' 0 rfl (RowV.mk hl260v) (.sel' 0 rfl (RowV.mk hl250v) (.sel 0 rfl (.nil _)))))))
 intro s264v y265v
 refine simL_nil (nrm_then ?_)
 refine sim_condb rfl (fun h268v => ?_) (fun h269v => ?_)
 refine sr ?_
 refine vq (q_build (v := .agg #[.int .i64 0, .int .i64 0, .int .i64 0, .int .i64 0, .int .i64 0, .int .i64 0, .int .i64 0, .int .i64 0, .int .i64 0, .int .i64 0, .int .i64 0, .int .i64 0, .int .i64 0, .int .i64 0, .int .i64 0, .int .i64 0, .int .i64 0, .int .i64 0, .int .i64 0]) rfl rfl (fun _ => by kernel_rfl)) rfl ?_
 refine simL_do (re_store 2 rfl rfl rfl Tryd.sizeOf54 rfl rfl (one_of (by rfl)) rfl rfl) rfl rfl ?_
 intro _
 refine simL_ent (H' := [obj b23v 54 [.int .i64 s58v.1, .int .i64 s87v.1, .int .i64 0, .int .i64 0, .int .i64 s116v.1, .int .i64 s145v.1, .int .i64 s174v.1, .int .i64 s203v.1, .int .i64 s232v.1, .int .i64 0, .int .i64 0, .int .i64 0, .int .i64 0, .int .i64 0, .int .i64 0, .int .i64 0, .int .i64 0, .int .i64 0, .int .i64 0], obj b24v 3 [.int .i64 0], obj b1v 54 [.int .i64 0, .int .i64 0, .int .i64 0, .int .i64 0, .int .i64 0, .int .i64 0, .int .i64 0, .int .i64 0, .int .i64 0, .int .i64 0, .int .i64 0, .int .i64 0, .int .i64 0, .int .i64 0, .int .i64 0, .int .i64 0, .int .i64 0, .int .i64 0, .int .i64 0], RowV 9 1 (V9 tt) y4v.1 s2v.1 y4v.2, RowV 115 1 (V115 tt) y32v.1 (([(b23v, 0), (b23v, 1), (b23v, 4), (b23v, 5), (b23v, 6), (b23v, 7), (b23v, 8), (b23v, 9), (b23v, 10), (b23v, 11), (b23v, 12), (b23v, 13), (b23v, 14), (b23v, 15), (b23v, 16), (b23v, 17), (b23v, 18)] : List ((Nat × Nat))) ++ ([(b24v, 0)] : List ((Nat × Nat)))) y32v.2, F]) (Ent.refl _) ?_
 refine va rfl rfl (simL_nil (nrm_then (sim_rtn ?_)))
 refine rtn_then ?_
 refine rtn_block ?_
 refine rtn_then ?_
 refine rtn_rnd ?_
 refine rtn_block ?_
 refine rtn_then ?_
 exact rtn_fnC (vs := [.agg #[.int .i64 0, .int .i64 0, .int .i64 0, .int .i64 0, .int .i64 0, .int .i64 0, .int .i64 0, .int .i64 0, .int .i64 0, .int .i64 0, .int .i64 0, .int .i64 0, .int .i64 0, .int .i64 0, .int .i64 0, .int .i64 0, .int .i64 0, .int .i64 0, .int .i64 0], .int .i64 22]) () rfl ⟨⟨b1v, rfl, load_agg 2 Tryd.isAgg54 Tryd.sizeOf54 rfl rfl⟩, rfl, trivial⟩ rfl (.sel 5 rfl (.nil _))
 refine sim_skip ?_
 refine nrm_then (sim_region ?_)
 refine vm rfl rfl ?_
 refine vm rfl rfl ?_
 refine vn rfl rfl ?_
 refine simL_do (re_store 0 rfl rfl rfl Tryd.sizeOf3 rfl rfl (one_of (by rfl)) rfl rfl) rfl rfl ?_
 intro _
 refine simL_ent (H' := [obj b23v 54 [.int .i64 s58v.1, .int .i64 s87v.1, .int .i64 0, .int .i64 0, .int .i64 s116v.1, .int .i64 s145v.1, .int .i64 s174v.1, .int .i64 s203v.1, .int .i64 s232v.1, .int .i64 s261v.1, .int .i64 0, .int .i64 0, .int .i64 0, .int .i64 0, .int .i64 0, .int .i64 0, .int .i64 0, .int .i64 0, .int .i64 0], obj b24v 3 [.int .i64 0], obj b1v 54 [.int .i64 0, .int .i64 0, .int .i64 0, .int .i64 0, .int .i64 0, .int .i64 0, .int .i64 0, .int .i64 0, .int .i64 0, .int .i64 0, .int .i64 0, .int .i64 0, .int .i64 0, .int .i64 0, .int .i64 0, .int .i64 0, .int .i64 0, .int .i64 0, .int .i64 0], RowV 9 1 (V9 tt) y4v.1 s2v.1 y4v.2, RowV 115 1 (V115 tt) y32v.1 (([(b23v, 0), (b23v, 1), (b23v, 4), (b23v, 5), (b23v, 6), (b23v, 7), (b23v, 8), (b23v, 9), (b23v, 10), (b23v, 11), (b23v, 12), (b23v, 13), (b23v, 14), (b23v, 15), (b23v, 16), (b23v, 17), (b23v, 18)] : List ((Nat × Nat))) ++ ([(b24v, 0)] : List ((Nat × Nat)))) y32v.2, F]) (Ent.refl _) ?_
 refine simL_nil (nrm_block (nrm_then (sim_region ?_)))
 refine vq (q_add rfl rfl rfl) rfl ?_
 refine vm rfl rfl (simL_nil ?_)
 refine nrm_rnd (rnd_succ ?_)
 refine sr ?_
 refine vq (q_lss rfl rfl rfl) rfl (simL_nil (nrm_then (sim_seq ?_)))
 refine sim_true rfl ?_
 refine sim_skip ?_
 refine nrm_then (sim_seq ?_)
 refine sim_block ?_
 refine sr ?_
 refine vm rfl rfl ?_
 refine simL_openV 4 rfl (fun rs278v hl279v => ?_)
 have hi270v : (0 : Int) ≤ (8 : Int) ∧ (8 : Int) < ((([(b23v, 0), (b23v, 1), (b23v, 4), (b23v, 5), (b23v, 6), (b23v, 7), (b23v, 8), (b23v, 9), (b23v, 10), (b23v, 11), (b23v, 12), (b23v, 13), (b23v, 14), (b23v, 15), (b23v, 16), (b23v, 17), (b23v, 18)] : List ((Nat × Nat))) ++ ([(b24v, 0)] : List ((Nat × Nat)))).length : Int) := ⟨by decide, (show (8 : Int) < ((18 : Nat) : Int) by decide)⟩
 refine simL_posV 4 rfl hl279v rfl (i := (8 : Int).toNat) (by omega) ((0, 0) : Nat × Nat) (fun b271v b271vo r274v ha272v hV275v hlr276v hcell277v => ?_)
 obtain rfl := hV275v
 refine vq (q_idx rfl rfl rfl ha272v Tryd.underlying120 Tryd.sizeOf115 hi270v.1 hi270v.2) rfl ?_
 refine vq (rq_cast (v' := .pointer (some ⟨b23v, 10, none⟩)) rfl (q_load rfl rfl Tryd.isAgg115 (hcell277v 4 rfl 0 _ rfl))) rfl ?_
 refine va rfl rfl ?_
 refine va rfl rfl (nx ?_)
 refine vm rfl rfl ?_
 refine vm rfl rfl ?_
 refine vq (q_add rfl rfl rfl) rfl ?_
 refine simL_openV 3 rfl (fun rs288v hl289v => ?_)
 refine simL_ask (fun hi280v => ?_)
 refine simL_posV 3 rfl hl289v rfl (i := (9 : Int).toNat) (by omega) ([] : List UInt8) (fun b281v b281vo r284v ha282v hV285v hlr286v hcell287v => ?_)
 obtain rfl := hV285v
 refine vq (q_idx rfl rfl rfl ha282v Tryd.underlying23 Tryd.sizeOf9 hi280v.1 hi280v.2) rfl ?_
 refine vq (q_load rfl rfl Tryd.isAgg9 (hcell287v 3 rfl 0 _ rfl)) rfl ?_
 refine simL_bind (fun s290v hs291v => ?_)
 refine simL_eff (re_call (vs := [str (s2v.1.getD (9 : Int).toNat ([] : List UInt8))]) (cap := []) (A := []) (rst := [obj b23v 54 [.int .i64 s58v.1, .int .i64 s87v.1, .int .i64 0, .int .i64 0, .int .i64 s116v.1, .int .i64 s145v.1, .int .i64 s174v.1, .int .i64 s203v.1, .int .i64 s232v.1, .int .i64 s261v.1, .int .i64 0, .int .i64 0, .int .i64 0, .int .i64 0, .int .i64 0, .int .i64 0, .int .i64 0, .int .i64 0, .int .i64 0], obj b24v 3 [.int .i64 0], obj b1v 54 [.int .i64 0, .int .i64 0, .int .i64 0, .int .i64 0, .int .i64 0, .int .i64 0, .int .i64 0, .int .i64 0, .int .i64 0, .int .i64 0, .int .i64 0, .int .i64 0, .int .i64 0, .int .i64 0, .int .i64 0, .int .i64 0, .int .i64 0, .int .i64 0, .int .i64 0], Row 9 1 y4v.1 s2v.1.length y4v.2 rs288v.flatten, Row 115 1 y32v.1 (([(b23v, 0), (b23v, 1), (b23v, 4), (b23v, 5), (b23v, 6), (b23v, 7), (b23v, 8), (b23v, 9), (b23v, 10), (b23v, 11), (b23v, 12), (b23v, 13), (b23v, 14), (b23v, 15), (b23v, 16), (b23v, 17), (b23v, 18)] : List ((Nat × Nat))) ++ ([(b24v, 0)] : List ((Nat × Nat)))).length y32v.2 rs278v.flatten, F]) rfl rfl rfl rfl rfl rfl Tryd.call55 (.sel 0 rfl (.sel 0 rfl (.sel 0 rfl (.sel 0 rfl (.sel 0 rfl (.sel 0 rfl (.nil _))))))) (text_number.calls _ _ (s2v.1.getD (9 : Int).toNat ([] : List UInt8)) (hgl.lend 5 rfl)) hs291v) rfl rfl rfl ?_
 intro y292v
 refine vm rfl rfl ?_
 refine vq (q_ext rfl rfl rfl) rfl ?_
 refine vq (q_ext rfl rfl rfl) rfl ?_
 refine va rfl rfl ?_
 refine va rfl rfl (simL_nil (nrm_then (sim_seq (sr ?_))))
 refine vm rfl rfl ?_
 refine vq (q_not rfl rfl) rfl ?_
 refine vm rfl rfl ?_
 refine simL_cut' 7 (S := Bool) (Unit) (fun s y => [(2, .pointer (some ⟨b1v, 0, none⟩)), (4, .slice y4v.1 s2v.1.length y4v.2), (6, .pointer (some ⟨b23v, 0, none⟩)), (7, .pointer (some ⟨b24v, 0, none⟩)), (10, .pointer (some ⟨b23v, 10, none⟩)), (11, .int .i64 s290v.1), (43, .slice y32v.1 ((([(b23v, 0), (b23v, 1), (b23v, 4), (b23v, 5), (b23v, 6), (b23v, 7), (b23v, 8), (b23v, 9), (b23v, 10), (b23v, 11), (b23v, 12), (b23v, 13), (b23v, 14), (b23v, 15), (b23v, 16), (b23v, 17), (b23v, 18)] : List ((Nat × Nat))) ++ ([(b24v, 0)] : List ((Nat × Nat)))).length) y32v.2), (44, .int .i64 18), (45, .int .i64 8), (65, undef), (66, undef), (68, .bool s)]) (fun s y => [obj b23v 54 [.int .i64 s58v.1, .int .i64 s87v.1, .int .i64 0, .int .i64 0, .int .i64 s116v.1, .int .i64 s145v.1, .int .i64 s174v.1, .int .i64 s203v.1, .int .i64 s232v.1, .int .i64 s261v.1, .int .i64 0, .int .i64 0, .int .i64 0, .int .i64 0, .int .i64 0, .int .i64 0, .int .i64 0, .int .i64 0, .int .i64 0], obj b24v 3 [.int .i64 0], obj b1v 54 [.int .i64 0, .int .i64 0, .int .i64 0, .int .i64 0, .int .i64 0, .int .i64 0, .int .i64 0, .int .i64 0, .int .i64 0, .int .i64 0, .int .i64 0, .int .i64 0, .int .i64 0, .int .i64 0, .int .i64 0, .int .i64 0, .int .i64 0, .int .i64 0, .int .i64 0], RowV 9 1 (V9 tt) y4v.1 s2v.1 y4v.2, RowV 115 1 (V115 tt) y32v.1 (([(b23v, 0), (b23v, 1), (b23v, 4), (b23v, 5), (b23v, 6), (b23v, 7), (b23v, 8), (b23v, 9), (b23v, 10), (b23v, 11), (b23v, 12), (b23v, 13), (b23v, 14), (b23v, 15), (b23v, 16), (b23v, 17), (b23v, 18)] : List ((Nat × Nat))) ++ ([(b24v, 0)] : List ((Nat × Nat)))) y32v.2, F]) ?_ ?_
 refine simL_caseb (fun hb295v => ?_) (fun hb296v => ?_)
 rw [hb295v]
 refine simL_skipd rfl rfl rfl rfl rfl rfl ?_
 refine simL_skipd rfl rfl rfl rfl rfl rfl ?_
 refine simL_skipd rfl rfl rfl rfl rfl rfl ?_
 refine simL_skipu rfl rfl rfl rfl rfl ?_
 refine simL_skipu rfl rfl rfl rfl rfl ?_
 refine simL_skipd rfl rfl rfl rfl rfl rfl ?_
 refine vq (q_pick rfl rfl rfl rfl rfl) rfl (simL_nil ?_)
 exact nrm_cut (s := true) () ⟨rfl, rfl, rfl, rfl, rfl, rfl, rfl, rfl, rfl, rfl, rfl, rfl, trivial⟩ (.sel 0 rfl (.sel 0 rfl (.sel 0 rfl (.sel' 0 rfl (RowV.mk hl289v) (.sel' 0 rfl (RowV.mk hl279v) (.sel 0 rfl (.nil _)))))))
 rw [hb296v]
 refine simL_valg (q_move rfl rfl) rfl rfl rfl rfl rfl rfl ?_
 refine simL_valg (q_eqpp 0 1 (.inl rfl) rfl rfl rfl rfl rfl Tryd.underlying115 Tryd.sizeOf3) rfl rfl rfl rfl rfl rfl ?_
 refine simL_valg (q_move rfl rfl) rfl rfl rfl rfl rfl rfl ?_
 refine simL_skipd rfl rfl rfl rfl rfl rfl ?_
 refine simL_skipd rfl rfl rfl rfl rfl rfl ?_
 refine simL_valg (q_pick rfl rfl rfl rfl rfl) rfl rfl rfl rfl rfl rfl ?_
 refine vq (q_pick rfl rfl rfl rfl rfl) rfl (simL_nil ?_)
 exact nrm_cut (s := false) () ⟨rfl, rfl, rfl, rfl, rfl, rfl, rfl, rfl, rfl, rfl, rfl, rfl, trivial⟩ (.sel 0 rfl (.sel 0 rfl (.sel 0 rfl (.sel' 0 rfl (RowV.mk hl289v) (.sel' 0 rfl (RowV.mk hl279v) (.sel 0 rfl (.nil _)))))))
 intro s293v y294v
 refine simL_nil (nrm_then ?_)
 refine sim_condb rfl (fun h297v => ?_) (fun h298v => ?_)
 refine sr ?_
 refine vq (q_build (v := .agg #[.int .i64 0, .int .i64 0, .int .i64 0, .int .i64 0, .int .i64 0, .int .i64 0, .int .i64 0, .int .i64 0, .int .i64 0, .int .i64 0, .int .i64 0, .int .i64 0, .int .i64 0, .int .i64 0, .int .i64 0, .int .i64 0, .int .i64 0, .int .i64 0, .int .i64 0]) rfl rfl (fun _ => by kernel_rfl)) rfl ?_
 refine simL_do (re_store 2 rfl rfl rfl Tryd.sizeOf54 rfl rfl (one_of (by rfl)) rfl rfl) rfl rfl ?_
 intro _
 refine simL_ent (H' := [obj b23v 54 [.int .i64 s58v.1, .int .i64 s87v.1, .int .i64 0, .int .i64 0, .int .i64 s116v.1, .int .i64 s145v.1, .int .i64 s174v.1, .int .i64 s203v.1, .int .i64 s232v.1, .int .i64 s261v.1, .int .i64 0, .int .i64 0, .int .i64 0, .int .i64 0, .int .i64 0, .int .i64 0, .int .i64 0, .int .i64 0, .int .i64 0], obj b24v 3 [.int .i64 0], obj b1v 54 [.int .i64 0, .int .i64 0, .int .i64 0, .int .i64 0, .int .i64 0, .int .i64 0, .int .i64 0, .int .i64 0, .int .i64 0, .int .i64 0, .int .i64 0, .int .i64 0, .int .i64 0, .int .i64 0, .int .i64 0, .int .i64 0, .int .i64 0, .int .i64 0, .int .i64 0], RowV 9 1 (V9 tt) y4v.1 s2v.1 y4v.2, RowV 115 1 (V115 tt) y32v.1 (([(b23v, 0), (b23v, 1), (b23v, 4), (b23v, 5), (b23v, 6), (b23v, 7), (b23v, 8), (b23v, 9), (b23v, 10), (b23v, 11), (b23v, 12), (b23v, 13), (b23v, 14), (b23v, 15), (b23v, 16), (b23v, 17), (b23v, 18)] : List ((Nat × Nat))) ++ ([(b24v, 0)] : List ((Nat × Nat)))) y32v.2, F]) (Ent.refl _) ?_
 refine va rfl rfl (simL_nil (nrm_then (sim_rtn ?_)))
 refine rtn_then ?_
 refine rtn_block ?_
 refine rtn_then ?_
 refine rtn_rnd ?_
 refine rtn_block ?_
 refine rtn_then ?_
 exact rtn_fnC (vs := [.agg #[.int .i64 0, .int .i64 0, .int .i64 0, .int .i64 0, .int .i64 0, .int .i64 0, .int .i64 0, .int .i64 0, .int .i64 0, .int .i64 0, .int .i64 0, .int .i64 0, .int .i64 0, .int .i64 0, .int .i64 0, .int .i64 0, .int .i64 0, .int .i64 0, .int .i64 0], .int .i64 22]) () rfl ⟨⟨b1v, rfl, load_agg 2 Tryd.isAgg54 Tryd.sizeOf54 rfl rfl⟩, rfl, trivial⟩ rfl (.sel 5 rfl (.nil _))
 refine sim_skip ?_
 refine nrm_then (sim_region ?_)
 refine vm rfl rfl ?_
 refine vm rfl rfl ?_
 refine vn rfl rfl ?_
 refine simL_do (re_store 0 rfl rfl rfl Tryd.sizeOf3 rfl rfl (one_of (by rfl)) rfl rfl) rfl rfl ?_
 intro _
 refine simL_ent (H' := [obj b23v 54 [.int .i64 s58v.1, .int .i64 s87v.1, .int .i64 0, .int .i64 0, .int .i64 s116v.1, .int .i64 s145v.1, .int .i64 s174v.1, .int .i64 s203v.1, .int .i64 s232v.1, .int .i64 s261v.1, .int .i64 s290v.1, .int .i64 0, .int .i64 0, .int .i64 0, .int .i64 0, .int .i64 0, .int .i64 0, .int .i64 0, .int .i64 0], obj b24v 3 [.int .i64 0], obj b1v 54 [.int .i64 0, .int .i64 0, .int .i64 0, .int .i64 0, .int .i64 0, .int .i64 0, .int .i64 0, .int .i64 0, .int .i64 0, .int .i64 0, .int .i64 0, .int .i64 0, .int .i64 0, .int .i64 0, .int .i64 0, .int .i64 0, .int .i64 0, .int .i64 0, .int .i64 0], RowV 9 1 (V9 tt) y4v.1 s2v.1 y4v.2, RowV 115 1 (V115 tt) y32v.1 (([(b23v, 0), (b23v, 1), (b23v, 4), (b23v, 5), (b23v, 6), (b23v, 7), (b23v, 8), (b23v, 9), (b23v, 10), (b23v, 11), (b23v, 12), (b23v, 13), (b23v, 14), (b23v, 15), (b23v, 16), (b23v, 17), (b23v, 18)] : List ((Nat × Nat))) ++ ([(b24v, 0)] : List ((Nat × Nat)))) y32v.2, F]) (Ent.refl _) ?_
 refine simL_nil (nrm_block (nrm_then (sim_region ?_)))
 refine vq (q_add rfl rfl rfl) rfl ?_
 refine vm rfl rfl (simL_nil ?_)
 refine nrm_rnd (rnd_succ ?_)
 refine sr ?_
 refine vq (q_lss rfl rfl rfl) rfl (simL_nil (nrm_then (sim_seq ?_)))
 refine sim_true rfl ?_
 refine sim_skip ?_
 refine nrm_then (sim_seq ?_)
 refine sim_block ?_
 refine sr ?_
 refine vm rfl rfl ?_
 refine simL_openV 4 rfl (fun rs307v hl308v => ?_)
 have hi299v : (0 : Int) ≤ (9 : Int) ∧ (9 : Int) < ((([(b23v, 0), (b23v, 1), (b23v, 4), (b23v, 5), (b23v, 6), (b23v, 7), (b23v, 8), (b23v, 9), (b23v, 10), (b23v, 11), (b23v, 12), (b23v, 13), (b23v, 14), (b23v, 15), (b23v, 16), (b23v, 17), (b23v, 18)] : List ((Nat × Nat))) ++ ([(b24v, 0)] : List ((Nat × Nat)))).length : Int) := ⟨by decide, (show (9 : Int) < ((18 : Nat) : Int) by decide)⟩
 refine simL_posV 4 rfl hl308v rfl (i := (9 : Int).toNat) (by omega) ((0, 0) : Nat × Nat) (fun b300v b300vo r303v ha301v hV304v hlr305v hcell306v => ?_)
 obtain rfl := hV304v
 refine vq (q_idx rfl rfl rfl ha301v Tryd.underlying120 Tryd.sizeOf115 hi299v.1 hi299v.2) rfl ?_
 refine vq (rq_cast (v' := .pointer (some ⟨b23v, 11, none⟩)) rfl (q_load rfl rfl Tryd.isAgg115 (hcell306v 4 rfl 0 _ rfl))) rfl ?_
 refine va rfl rfl ?_
 refine va rfl rfl (nx ?_)
 refine vm rfl rfl ?_
 refine vm rfl rfl ?_
 refine vq (q_add rfl rfl rfl) rfl ?_
 refine simL_openV 3 rfl (fun rs317v hl318v => ?_)
 refine simL_ask (fun hi309v => ?_)
 refine simL_posV 3 rfl hl318v rfl (i := (10 : Int).toNat) (by omega) ([] : List UInt8) (fun b310v b310vo r313v ha311v hV314v hlr315v hcell316v => ?_)
 obtain rfl := hV314v
 refine vq (q_idx rfl rfl rfl ha311v Tryd.underlying23 Tryd.sizeOf9 hi309v.1 hi309v.2) rfl ?_
 refine vq (q_load rfl rfl Tryd.isAgg9 (hcell316v 3 rfl 0 _ rfl)) rfl ?_
 refine simL_bind (fun s319v hs320v => ?_)
 refine simL_eff (re_call (vs := [str (s2v.1.getD (10 : Int).toNat ([] : List UInt8))]) (cap := []) (A := []) (rst := [obj b23v 54 [.int .i64 s58v.1, .int .i64 s87v.1, .int .i64 0, .int .i64 0, .int .i64 s116v.1, .int .i64 s145v.1, .int .i64 s174v.1, .int .i64 s203v.1, .int .i64 s232v.1, .int .i64 s261v.1, .int .i64 s290v.1, .int .i64 0, .int .i64 0, .int .i64 0, .int .i64 0, .int .i64 0, .int .i64 0, .int .i64 0, .int .i64 0], obj b24v 3 [.int .i64 0], obj b1v 54 [.int .i64 0, .int .i64 0, .int .i64 0, .int .i64 0, .int .i64 0, .int .i64 0, .int .i64 0, .int .i64 0, .int .i64 0, .int .i64 0, .int .i64 0, .int .i64 0, .int .i64 0, .int .i64 0, .int .i64 0, .int .i64 0, .int .i64 0, .int .i64 0, .int .i64 0], Row 9 1 y4v.1 s2v.1.length y4v.2 rs317v.flatten, Row 115 1 y32v.1 (([(b23v, 0), (b23v, 1), (b23v, 4), (b23v, 5), (b23v, 6), (b23v, 7), (b23v, 8), (b23v, 9), (b23v, 10), (b23v, 11), (b23v, 12), (b23v, 13), (b23v, 14), (b23v, 15), (b23v, 16), (b23v, 17), (b23v, 18)] : List ((Nat × Nat))) ++ ([(b24v, 0)] : List ((Nat × Nat)))).length y32v.2 rs307v.flatten, F]) rfl rfl rfl rfl rfl rfl Tryd.call55 (.sel 0 rfl (.sel 0 rfl (.sel 0 rfl (.sel 0 rfl (.sel 0 rfl (.sel 0 rfl (.nil _))))))) (text_number.calls _ _ (s2v.1.getD (10 : Int).toNat ([] : List UInt8)) (hgl.lend 5 rfl)) hs320v) rfl rfl rfl ?_
 intro y321v
 refine vm rfl rfl ?_
 refine vq (q_ext rfl rfl rfl) rfl ?_
 refine vq (q_ext rfl rfl rfl) rfl ?_
 refine va rfl rfl ?_
 refine va rfl rfl (simL_nil (nrm_then (sim_seq (sr ?_))))
 refine vm rfl rfl ?_
 refine vq (q_not rfl rfl) rfl ?_
 refine vm rfl rfl ?_
 refine simL_cut' 7 (S := Bool) (Unit) (fun s y => [(2, .pointer (some ⟨b1v, 0, none⟩)), (4, .slice y4v.1 s2v.1.length y4v.2), (6, .pointer (some ⟨b23v, 0, none⟩)), (7, .pointer (some ⟨b24v, 0, none⟩)), (10, .pointer (some ⟨b23v, 11, none⟩)), (11, .int .i64 s319v.1), (43, .slice y32v.1 ((([(b23v, 0), (b23v, 1), (b23v, 4), (b23v, 5), (b23v, 6), (b23v, 7), (b23v, 8), (b23v, 9), (b23v, 10), (b23v, 11), (b23v, 12), (b23v, 13), (b23v, 14), (b23v, 15), (b23v, 16), (b23v, 17), (b23v, 18)] : List ((Nat × Nat))) ++ ([(b24v, 0)] : List ((Nat × Nat)))).length) y32v.2), (44, .int .i64 18), (45, .int .i64 9), (65, undef), (66, undef), (68, .bool s)]) (fun s y => [obj b23v 54 [.int .i64 s58v.1, .int .i64 s87v.1, .int .i64 0, .int .i64 0, .int .i64 s116v.1, .int .i64 s145v.1, .int .i64 s174v.1, .int .i64 s203v.1, .int .i64 s232v.1, .int .i64 s261v.1, .int .i64 s290v.1, .int .i64 0, .int .i64 0, .int .i64 0, .int .i64 0, .int .i64 0, .int .i64 0, .int .i64 0, .int .i64 0], obj b24v 3 [.int .i64 0], obj b1v 54 [.int .i64 0, .int .i64 0, .int .i64 0, .int .i64 0, .int .i64 0, .int .i64 0, .int .i64 0, .int .i64 0, .int .i64 0, .int .i64 0, .int .i64 0, .int .i64 0, .int .i64 0, .int .i64 0, .int .i64 0, .int .i64 0, .int .i64 0, .int .i64 0, .int .i64 0], RowV 9 1 (V9 tt) y4v.1 s2v.1 y4v.2, RowV 115 1 (V115 tt) y32v.1 (([(b23v, 0), (b23v, 1), (b23v, 4), (b23v, 5), (b23v, 6), (b23v, 7), (b23v, 8), (b23v, 9), (b23v, 10), (b23v, 11), (b23v, 12), (b23v, 13), (b23v, 14), (b23v, 15), (b23v, 16), (b23v, 17), (b23v, 18)] : List ((Nat × Nat))) ++ ([(b24v, 0)] : List ((Nat × Nat)))) y32v.2, F]) ?_ ?_
 refine simL_caseb (fun hb324v => ?_) (fun hb325v => ?_)
 rw [hb324v]
 refine simL_skipd rfl rfl rfl rfl rfl rfl ?_
 refine simL_skipd rfl rfl rfl rfl rfl rfl ?_
 refine simL_skipd rfl rfl rfl rfl rfl rfl ?_
 refine simL_skipu rfl rfl rfl rfl rfl ?_
 refine simL_skipu rfl rfl rfl rfl rfl ?_
 refine simL_skipd rfl rfl rfl rfl rfl rfl ?_
 refine vq (q_pick rfl rfl rfl rfl rfl) rfl (simL_nil ?_)
 exact nrm_cut (s := true) () ⟨rfl, rfl, rfl, rfl, rfl, rfl, rfl, rfl, rfl, rfl, rfl, rfl, trivial⟩ (.sel 0 rfl (.sel 0 rfl (.sel 0 rfl (.sel' 0 rfl (RowV.mk hl318v) (.sel' 0 rfl (RowV.mk hl308v) (.sel 0 rfl (.nil _)))))))
 rw [hb325v]
 refine simL_valg (q_move rfl rfl) rfl rfl rfl rfl rfl rfl ?_
 refine simL_valg (q_eqpp 0 1 (.inl rfl) rfl rfl rfl rfl rfl Tryd.underlying115 Tryd.sizeOf3) rfl rfl rfl rfl rfl rfl ?_
 refine simL_valg (q_move rfl rfl) rfl rfl rfl rfl rfl rfl ?_
 refine simL_skipd rfl rfl rfl rfl rfl rfl ?_
 refine simL_skipd rfl rfl rfl rfl rfl rfl ?_
 refine simL_valg (q_pick rfl rfl rfl rfl rfl) rfl rfl rfl rfl rfl rfl ?_
 refine vq (q_pick rfl rfl rfl rfl rfl) rfl (simL_nil ?_)
 exact nrm_cut (s := false) () ⟨rfl, rfl, rfl, rfl, rfl, rfl, rfl, rfl, rfl, rfl, rfl, rfl, trivial⟩ (.sel 0 rfl (.sel 0 rfl (.sel 0 rfl (.sel' 0 rfl (RowV.mk hl318v) (.sel' 0 rfl (RowV.mk hl308v) (.sel 0 rfl (.nil _)))))))
 intro s322v y323v
 refine simL_nil (nrm_then ?_)
 refine sim_condb rfl (fun h326v => ?_) (fun h327v => ?_)
 refine sr ?_
 refine vq (q_build (v := .agg #[.int .i64 0, .int .i64 0, .int .i64 0, .int .i64 0, .int .i64 0, .int .i64 0, .int .i64 0, .int .i64 0, .int .i64 0, .int .i64 0, .int .i64 0, .int .i64 0, .int .i64 0, .int .i64 0, .int .i64 0, .int .i64 0, .int .i64 0, .int .i64 0, .int .i64 0]) rfl rfl (fun _ => by kernel_rfl)) rfl ?_
 refine simL_do (re_store 2 rfl rfl rfl Tryd.sizeOf54 rfl rfl (one_of (by rfl)) rfl rfl) rfl rfl ?_
 intro _
 refine simL_ent (H' := [obj b23v 54 [.int .i64 s58v.1, .int .i64 s87v.1, .int .i64 0, .int .i64 0, .int .i64 s116v.1, .int .i64 s145v.1, .int .i64 s174v.1, .int .i64 s203v.1, .int .i64 s232v.1, .int .i64 s261v.1, .int .i64 s290v.1, .int .i64 0, .int .i64 0, .int .i64 0, .int .i64 0, .int .i64 0, .int .i64 0, .int .i64 0, .int .i64 0], obj b24v 3 [.int .i64 0], obj b1v 54 [.int .i64 0, .int .i64 0, .int .i64 0, .int .i64 0, .int .i64 0, .int .i64 0, .int .i64 0, .int .i64 0, .int .i64 0, .int .i64 0, .int .i64 0, .int .i64 0, .int .i64 0, .int .i64 0, .int .i64 0, .int .i64 0, .int .i64 0, .int .i64 0, .int .i64 0], RowV 9 1 (V9 tt) y4v.1 s2v.1 y4v.2, RowV 115 1 (V115 tt) y32v.1 (([(b23v, 0), (b23v, 1), (b23v, 4), (b23v, 5), (b23v, 6), (b23v, 7), (b23v, 8), (b23v, 9), (b23v, 10), (b23v, 11), (b23v, 12), (b23v, 13), (b23v, 14), (b23v, 15), (b23v, 16), (b23v, 17), (b23v, 18)] : List ((Nat × Nat))) ++ ([(b24v, 0)] : List ((Nat × Nat)))) y32v.2, F]) (Ent.refl _) ?_
 refine va rfl rfl (simL_nil (nrm_then (sim_rtn ?_)))
 refine rtn_then ?_
 refine rtn_block ?_
 refine rtn_then ?_
 refine rtn_rnd ?_
 refine rtn_block ?_
 refine rtn_then ?_
 exact rtn_fnC (vs := [.agg #[.int .i64 0, .int .i64 0, .int .i64 0, .int .i64 0, .int .i64 0, .int .i64 0, .int .i64 0, .int .i64 0, .int .i64 0, .int .i64 0, .int .i64 0, .int .i64 0, .int .i64 0, .int .i64 0, .int .i64 0, .int .i64 0, .int .i64 0, .int .i64 0, .int .i64 0], .int .i64 22]) () rfl ⟨⟨b1v, rfl, load_agg 2 Tryd.isAgg54 Tryd.sizeOf54 rfl rfl⟩, rfl, trivial⟩ rfl (.sel 5 rfl (.nil _))
 refine sim_skip ?_
 refine nrm_then (sim_region ?_)
 refine vm rfl rfl ?_
 refine vm rfl rfl ?_
 refine vn rfl rfl ?_
 refine simL_do (re_store 0 rfl rfl rfl Tryd.sizeOf3 rfl rfl (one_of (by rfl)) rfl rfl) rfl rfl ?_
 intro _
 refine simL_ent (H' := [obj b23v 54 [.int .i64 s58v.1, .int .i64 s87v.1, .int .i64 0, .int .i64 0, .int .i64 s116v.1, .int .i64 s145v.1, .int .i64 s174v.1, .int .i64 s203v.1, .int .i64 s232v.1, .int .i64 s261v.1, .int .i64 s290v.1, .int .i64 s319v.1, .int .i64 0, .int .i64 0, .int .i64 0, .int .i64 0, .int .i64 0, .int .i64 0, .int .i64 0], obj b24v 3 [.int .i64 0], obj b1v 54 [.int .i64 0, .int .i64 0, .int .i64 0, .int .i64 0, .int .i64 0, .int .i64 0, .int .i64 0, .int .i64 0, .int .i64 0, .int .i64 0, .int .i64 0, .int .i64 0, .int .i64 0, .int .i64 0, .int .i64 0, .int .i64 0, .int .i64 0, .int .i64 0, .int .i64 0], RowV 9 1 (V9 tt) y4v.1 s2v.1 y4v.2, RowV 115 1 (V115 tt) y32v.1 (([(b23v, 0), (b23v, 1), (b23v, 4), (b23v, 5), (b23v, 6), (b23v, 7), (b23v, 8), (b23v, 9), (b23v, 10), (b23v, 11), (b23v, 12), (b23v, 13), (b23v, 14), (b23v, 15), (b23v, 16), (b23v, 17), (b23v, 18)] : List ((Nat × Nat))) ++ ([(b24v, 0)] : List ((Nat × Nat)))) y32v.2, F]) (Ent.refl _) ?_
 refine simL_nil (nrm_block (nrm_then (sim_region ?_)))
 refine vq (q_add rfl rfl rfl) rfl ?_
 refine vm rfl rfl (simL_nil ?_)
 refine nrm_rnd (rnd_succ ?_)
 refine sr ?_
 refine vq (q_lss rfl rfl rfl) rfl (simL_nil (nrm_then (sim_seq ?_)))
 refine sim_true rfl ?_
 refine sim_skip ?_
 refine nrm_then (sim_seq ?_)
 refine sim_block ?_
 refine sr ?_
 refine vm rfl rfl ?_
 refine simL_openV 4 rfl (fun rs336v hl337v => ?_)
 have hi328v : (0 : Int) ≤ (10 : Int) ∧ (10 : Int) < ((([(b23v, 0), (b23v, 1), (b23v, 4), (b23v, 5), (b23v, 6), (b23v, 7), (b23v, 8), (b23v, 9), (b23v, 10), (b23v, 11), (b23v, 12), (b23v, 13), (b23v, 14), (b23v, 15), (b23v, 16), (b23v, 17), (b23v, 18)] : List ((Nat × Nat))) ++ ([(b24v, 0)] : List ((Nat × Nat)))).length : Int) := ⟨by decide, (show (10 : Int) < ((18 : Nat) : Int) by decide)⟩
 refine simL_posV 4 rfl hl337v rfl (i := (10 : Int).toNat) (by omega) ((0, 0) : Nat × Nat) (fun b329v b329vo r332v ha330v hV333v hlr334v hcell335v => ?_)
 obtain rfl := hV333v
 refine vq (q_idx rfl rfl rfl ha330v Tryd.underlying120 Tryd.sizeOf115 hi328v.1 hi328v.2) rfl ?_
 refine vq (rq_cast (v' := .pointer (some ⟨b23v, 12, none⟩)) rfl (q_load rfl rfl Tryd.isAgg115 (hcell335v 4 rfl 0 _ rfl))) rfl ?_
 refine va rfl rfl ?_
 refine va rfl rfl (nx ?_)
 refine vm rfl rfl ?_
 refine vm rfl rfl ?_
 refine vq (q_add rfl rfl rfl) rfl ?_
 refine simL_openV 3 rfl (fun rs346v hl347v => ?_)
 refine simL_ask (fun hi338v => ?_)
 refine simL_posV 3 rfl hl347v rfl (i := (11 : Int).toNat) (by omega) ([] : List UInt8) (fun b339v b339vo r342v ha340v hV343v hlr344v hcell345v => ?_)
 obtain rfl := hV343v
 refine vq (q_idx rfl rfl rfl ha340v Tryd.underlying23 Tryd.sizeOf9 hi338v.1 hi338v.2) rfl ?_
 refine vq (q_load rfl rfl Tryd.isAgg9 (hcell345v 3 rfl 0 _ rfl)) rfl ?_
 refine simL_bind (fun s348v hs349v => ?_)
 refine simL_eff (re_call (vs := [str (s2v.1.getD (11 : Int).toNat ([] : List UInt8))]) (cap := []) (A := []) (rst := [obj b23v 54 [.int .i64 s58v.1, .int .i64 s87v.1, .int .i64 0, .int .i64 0, .int .i64 s116v.1, .int .i64 s145v.1, .int .i64 s174v.1, .int .i64 s203v.1, .int .i64 s232v.1, .int .i64 s261v.1, .int .i64 s290v.1, .int .i64 s319v.1, .int .i64 0, .int .i64 0, .int .i64 0, .int .i64 0, .int .i64 0, .int .i64 0, .int .i64 0], obj b24v 3 [.int .i64 0], obj b1v 54 [.int .i64 0, .int .i64 0, .int .i64 0, .int .i64 0, .int .i64 0, .int .i64 0, .int .i64 0, .int .i64 0, .int .i64 0, .int .i64 0, .int .i64 0, .int .i64 0, .int .i64 0, .int .i64 0, .int .i64 0, .int .i64 0, .int .i64 0, .int .i64 0, .int .i64 0], Row 9 1 y4v.1 s2v.1.length y4v.2 rs346v.flatten, Row 115 1 y32v.1 (([(b23v, 0), (b23v, 1), (b23v, 4), (b23v, 5), (b23v, 6), (b23v, 7), (b23v, 8), (b23v, 9), (b23v, 10), (b23v, 11), (b23v, 12), (b23v, 13), (b23v, 14), (b23v, 15), (b23v, 16), (b23v, 17), (b23v, 18)] : List ((Nat × Nat))) ++ ([(b24v, 0)] : List ((Nat × Nat)))).length y32v.2 rs336v.flatten, F]) rfl rfl rfl rfl rfl rfl Tryd.call55 (.sel 0 rfl (.sel 0 rfl (.sel 0 rfl (.sel 0 rfl (.sel 0 rfl (.sel 0 rfl (.nil _))))))) (text_number.calls _ _ (s2v.1.getD (11 : Int).toNat ([] : List UInt8)) (hgl.lend 5 rfl)) hs349v) rfl rfl rfl ?_
 intro y350v
 refine vm rfl rfl ?_
 refine vq (q_ext rfl rfl rfl) rfl ?_
 refine vq (q_ext rfl rfl rfl) rfl ?_
 refine va rfl rfl ?_
 refine va rfl rfl (simL_nil (nrm_then (sim_seq (sr ?_))))
 refine vm rfl rfl ?_
 refine vq (q_not rfl rfl) rfl ?_
 refine vm rfl rfl ?_
 refine simL_cut' 7 (S := Bool) (Unit) (fun s y => [(2, .pointer (some ⟨b1v, 0, none⟩)), (4, .slice y4v.1 s2v.1.length y4v.2), (6, .pointer (some ⟨b23v, 0, none⟩)), (7, .pointer (some ⟨b24v, 0, none⟩)), (10, .pointer (some ⟨b23v, 12, none⟩)), (11, .int .i64 s348v.1), (43, .slice y32v.1 ((([(b23v, 0), (b23v, 1), (b23v, 4), (b23v, 5), (b23v, 6), (b23v, 7), (b23v, 8), (b23v, 9), (b23v, 10), (b23v, 11), (b23v, 12), (b23v, 13), (b23v, 14), (b23v, 15), (b23v, 16), (b23v, 17), (b23v, 18)] : List ((Nat × Nat))) ++ ([(b24v, 0)] : List ((Nat × Nat)))).length) y32v.2), (44, .int .i64 18), (45, .int .i64 10), (65, undef), (66, undef), (68, .bool s)]) (fun s y => [obj b23v 54 [.int .i64 s58v.1, .int .i64 s87v.1, .int .i64 0, .int .i64 0, .int .i64 s116v.1, .int .i64 s145v.1, .int .i64 s174v.1, .int .i64 s203v.1, .int .i64 s232v.1, .int .i64 s261v.1, .int .i64 s290v.1, .int .i64 s319v.1, .int .i64 0, .int .i64 0, .int .i64 0, .int .i64 0, .int .i64 0, .int .i64 0, .int .i64 0], obj b24v 3 [.int .i64 0], obj b1v 54 [.int .i64 0, .int .i64 0, .int .i64 0, .int .i64 0, .int .i64 0, .int .i64 0, .int .i64 0, .int .i64 0, .int .i64 0, .int .i64 0, .int .i64 0, .int .i64 0, .int .i64 0, .int .i64 0, .int .i64 0, .int .i64 0, .int .i64 0, .int .i64 0, .int .i64 0], RowV 9 1 (V9 tt) y4v.1 s2v.1 y4v.2, RowV 115 1 (V115 tt) y32v.1 (([(b23v, 0), (b23v, 1), (b23v, 4), (b23v, 5), (b23v, 6), (b23v, 7), (b23v, 8), (b23v, 9), (b23v, 10), (b23v, 11), (b23v, 12), (b23v, 13), (b23v, 14), (b23v, 15), (b23v, 16), (b23v, 17), (b23v, 18)] : List ((Nat × Nat))) ++ ([(b24v, 0)] : List ((Nat × Nat)))) y32v.2, F]) ?_ ?_
 refine simL_caseb (fun hb353v => ?_) (fun hb354v => ?_)
 rw [hb353v]
 refine simL_skipd rfl rfl rfl rfl rfl rfl ?_
 refine simL_skipd rfl rfl rfl rfl rfl rfl ?_
 refine simL_skipd rfl rfl rfl rfl rfl rfl ?_
 refine simL_skipu rfl rfl rfl rfl rfl ?_
 refine simL_skipu rfl rfl rfl rfl rfl ?_
 refine simL_skipd rfl rfl rfl rfl rfl rfl ?_
 refine vq (q_pick rfl rfl rfl rfl rfl) rfl (simL_nil ?_)
 exact nrm_cut (s := true) () ⟨rfl, rfl, rfl, rfl, rfl, rfl, rfl, rfl, rfl, rfl, rfl, rfl, trivial⟩ (.sel 0 rfl (.sel 0 rfl (.sel 0 rfl (.sel' 0 rfl (RowV.mk hl347v) (.sel' 0 rfl (RowV.mk hl337v) (.sel 0 rfl (.nil _)))))))
 rw [hb354v]
 refine simL_valg (q_move rfl rfl) rfl rfl rfl rfl rfl rfl ?_
 refine simL_valg (q_eqpp 0 1 (.inl rfl) rfl rfl rfl rfl rfl Tryd.underlying115 Tryd.sizeOf3) rfl rfl rfl rfl rfl rfl ?_
 refine simL_valg (q_move rfl rfl) rfl rfl rfl rfl rfl rfl ?_
 refine simL_skipd rfl rfl rfl rfl rfl rfl ?_
 refine simL_skipd rfl rfl rfl rfl rfl rfl ?_
 refine simL_valg (q_pick rfl rfl rfl rfl rfl) rfl rfl rfl rfl rfl rfl ?_
 refine vq (q_pick rfl rfl rfl rfl rfl) rfl (simL_nil ?_)
 exact nrm_cut (s := false) () ⟨rfl, rfl, rfl, rfl, rfl, rfl, rfl, rfl, rfl, rfl, rfl, rfl, trivial⟩ (.sel 0 rfl (.sel 0 rfl (.sel 0 rfl (.sel' 0 rfl (RowV.mk hl347v) (.sel' 0 rfl (RowV.mk hl337v) (.sel 0 rfl (.nil _)))))))
 intro s351v y352v
 refine simL_nil (nrm_then ?_)
 refine sim_condb rfl (fun h355v => ?_) (fun h356v => ?_)
 refine sr ?_
 refine vq (q_build (v := .agg #[.int .i64 0, .int .i64 0, .int .i64 0, .int .i64 0, .int .i64 0, .int .i64 0, .int .i64 0, .int .i64 0, .int .i64 0, .int .i64 0, .int .i64 0, .int .i64 0, .int .i64 0, .int .i64 0, .int .i64 0, .int .i64 0, .int .i64 0, .int .i64 0, .int .i64 0]) rfl rfl (fun _ => by kernel_rfl)) rfl ?_
 refine simL_do (re_store 2 rfl rfl rfl Tryd.sizeOf54 rfl rfl (one_of (by rfl)) rfl rfl) rfl rfl ?_
 intro _
 refine simL_ent (H' := [obj b23v 54 [.int .i64 s58v.1, .int .i64 s87v.1, .int .i64 0, .int .i64 0, .int .i64 s116v.1, .int .i64 s145v.1, .int .i64 s174v.1, .int .i64 s203v.1, .int .i64 s232v.1, .int .i64 s261v.1, .int .i64 s290v.1, .int .i64 s319v.1, .int .i64 0, .int .i64 0, .int .i64 0, .int .i64 0, .int .i64 0, .int .i64 0, .int .i64 0], obj b24v 3 [.int .i64 0], obj b1v 54 [.int .i64 0, .int .i64 0, .int .i64 0, .int .i64 0, .int .i64 0, .int .i64 0, .int .i64 0, .int .i64 0, .int .i64 0, .int .i64 0, .int .i64 0, .int .i64 0, .int .i64 0, .int .i64 0, .int .i64 0, .int .i64 0, .int .i64 0, .int .i64 0, .int .i64 0], RowV 9 1 (V9 tt) y4v.1 s2v.1 y4v.2, RowV 115 1 (V115 tt) y32v.1 (([(b23v, 0), (b23v, 1), (b23v, 4), (b23v, 5), (b23v, 6), (b23v, 7), (b23v, 8), (b23v, 9), (b23v, 10), (b23v, 11), (b23v, 12), (b23v, 13), (b23v, 14), (b23v, 15), (b23v, 16), (b23v, 17), (b23v, 18)] : List ((Nat × Nat))) ++ ([(b24v, 0)] : List ((Nat × Nat)))) y32v.2, F]) (Ent.refl _) ?_
 refine va rfl rfl (simL_nil (nrm_then (sim_rtn ?_)))
 refine rtn_then ?_
 refine rtn_block ?_
 refine rtn_then ?_
 refine rtn_rnd ?_
 refine rtn_block ?_
 refine rtn_then ?_
 exact rtn_fnC (vs := [.agg #[.int .i64 0, .int .i64 0, .int .i64 0, .int .i64 0, .int .i64 0, .int .i64 0, .int .i64 0, .int .i64 0, .int .i64 0, .int .i64 0, .int .i64 0, .int .i64 0, .int .i64 0, .int .i64 0, .int .i64 0, .int .i64 0, .int .i64 0, .int .i64 0, .int .i64 0], .int .i64 22]) () rfl ⟨⟨b1v, rfl, load_agg 2 Tryd.isAgg54 Tryd.sizeOf54 rfl rfl⟩, rfl, trivial⟩ rfl (.sel 5 rfl (.nil _))
 refine sim_skip ?_
 refine nrm_then (sim_region ?_)
 refine vm rfl rfl ?_
 refine vm rfl rfl ?_
 refine vn rfl rfl ?_
 refine simL_do (re_store 0 rfl rfl rfl Tryd.sizeOf3 rfl rfl (one_of (by rfl)) rfl rfl) rfl rfl ?_
 intro _
 refine simL_ent (H' := [obj b23v 54 [.int .i64 s58v.1, .int .i64 s87v.1, .int .i64 0, .int .i64 0, .int .i64 s116v.1, .int .i64 s145v.1, .int .i64 s174v.1, .int .i64 s203v.1, .int .i64 s232v.1, .int .i64 s261v.1, .int .i64 s290v.1, .int .i64 s319v.1, .int .i64 s348v.1, .int .i64 0, .int .i64 0, .int .i64 0, .int .i64 0, .int .i64 0, .int .i64 0], obj b24v 3 [.int .i64 0], obj b1v 54 [.int .i64 0, .int .i64 0, .int .i64 0, .int .i64 0, .int .i64 0, .int .i64 0, .int .i64 0, .int .i64 0, .int .i64 0, .int .i64 0, .int .i64 0, .int .i64 0, .int .i64 0, .int .i64 0, .int .i64 0, .int .i64 0, .int .i64 0, .int .i64 0, .int .i64 0], RowV 9 1 (V9 tt) y4v.1 s2v.1 y4v.2, RowV 115 1 (V115 tt) y32v.1 (([(b23v, 0), (b23v, 1), (b23v, 4), (b23v, 5), (b23v, 6), (b23v, 7), (b23v, 8), (b23v, 9), (b23v, 10), (b23v, 11), (b23v, 12), (b23v, 13), (b23v, 14), (b23v, 15), (b23v, 16), (b23v, 17), (b23v, 18)] : List ((Nat × Nat))) ++ ([(b24v, 0)] : List ((Nat × Nat)))) y32v.2, F]) (Ent.refl _) ?_
 refine simL_nil (nrm_block (nrm_then (sim_region ?_)))
 refine vq (q_add rfl rfl rfl) rfl ?_
 refine vm rfl rfl (simL_nil ?_)
 refine nrm_rnd (rnd_succ ?_)
 refine sr ?_
 refine vq (q_lss rfl rfl rfl) rfl (simL_nil (nrm_then (sim_seq ?_)))
 refine sim_true rfl ?_
 refine sim_skip ?_
 refine nrm_then (sim_seq ?_)
 refine sim_block ?_
 refine sr ?_
 refine vm rfl rfl ?_
 refine simL_openV 4 rfl (fun rs365v hl366v => ?_)
 have hi357v : (0 : Int) ≤ (11 : Int) ∧ (11 : Int) < ((([(b23v, 0), (b23v, 1), (b23v, 4), (b23v, 5), (b23v, 6), (b23v, 7), (b23v, 8), (b23v, 9), (b23v, 10), (b23v, 11), (b23v, 12), (b23v, 13), (b23v, 14), (b23v, 15), (b23v, 16), (b23v, 17), (b23v, 18)] : List ((Nat × Nat))) ++ ([(b24v, 0)] : List ((Nat × Nat)))).length : Int) := ⟨by decide, (show (11 : Int) < ((18 : Nat) : Int) by decide)⟩
 refine simL_posV 4 rfl hl366v rfl (i := (11 : Int).toNat) (by omega) ((0, 0) : Nat × Nat) (fun b358v b358vo r361v ha359v hV362v hlr363v hcell364v => ?_)
 obtain rfl := hV362v
 refine vq (q_idx rfl rfl rfl ha359v Tryd.underlying120 Tryd.sizeOf115 hi357v.1 hi357v.2) rfl ?_
 refine vq (rq_cast (v' := .pointer (some ⟨b23v, 13, none⟩)) rfl (q_load rfl rfl Tryd.isAgg115 (hcell364v 4 rfl 0 _ rfl))) rfl ?_
 refine va rfl rfl ?_
 refine va rfl rfl (nx ?_)
 refine vm rfl rfl ?_
 refine vm rfl rfl ?_
 refine vq (q_add rfl rfl rfl) rfl ?_
 refine simL_openV 3 rfl (fun rs375v hl376v => ?_)
 refine simL_ask (fun hi367v => ?_)
 refine simL_posV 3 rfl hl376v rfl (i := (12 : Int).toNat) (by omega) ([] : List UInt8) (fun b368v b368vo r371v ha369v hV372v hlr373v hcell374v => ?_)
 obtain rfl := hV372v
 refine vq (q_idx rfl rfl rfl ha369v Tryd.underlying23 Tryd.sizeOf9 hi367v.1 hi367v.2) rfl ?_
 refine vq (q_load rfl rfl Tryd.isAgg9 (hcell374v 3 rfl 0 _ rfl)) rfl ?_
 refine simL_bind (fun s377v hs378v => ?_)
 refine simL_eff (re_call (vs := [str (s2v.1.getD (12 : Int).toNat ([] : List UInt8))]) (cap := []) (A := []) (rst := [obj b23v 54 [.int .i64 s58v.1, .int .i64 s87v.1, .int .i64 0, .int .i64 0, .int .i64 s116v.1, .int .i64 s145v.1, .int .i64 s174v.1, .int .i64 s203v.1, .int .i64 s232v.1, .int .i64 s261v.1, .int .i64 s290v.1, .int .i64 s319v.1, .int .i64 s348v.1, .int .i64 0, .int .i64 0, .int .i64 0, .int .i64 0, .int .i64 0, .int .i64 0], obj b24v 3 [.int .i64 0], obj b1v 54 [.int .i64 0, .int .i64 0, .int .i64 0, .int .i64 0, .int .i64 0, .int .i64 0, .int .i64 0, .int .i64 0, .int .i64 0, .int .i64 0, .int .i64 0, .int .i64 0, .int .i64 0, .int .i64 0, .int .i64 0, .int .i64 0, .int .i64 0, .int .i64 0, .int .i64 0], Row 9 1 y4v.1 s2v.1.length y4v.2 rs375v.flatten, Row 115 1 y32v.1 (([(b23v, 0), (b23v, 1), (b23v, 4), (b23v, 5), (b23v, 6), (b23v, 7), (b23v, 8), (b23v, 9), (b23v, 10), (b23v, 11), (b23v, 12), (b23v, 13), (b23v, 14), (b23v, 15), (b23v, 16), (b23v, 17), (b23v, 18)] : List ((Nat × Nat))) ++ ([(b24v, 0)] : List ((Nat × Nat)))).length y32v.2 rs365v.flatten, F]) rfl rfl rfl rfl rfl rfl Tryd.call55 (.sel 0 rfl (.sel 0 rfl (.sel 0 rfl (.sel 0 rfl (.sel 0 rfl (.sel 0 rfl (.nil _))))))) (text_number.calls _ _ (s2v.1.getD (12 : Int).toNat ([] : List UInt8)) (hgl.lend 5 rfl)) hs378v) rfl rfl rfl ?_
 intro y379v
 refine vm rfl rfl ?_
 refine vq (q_ext rfl rfl rfl) rfl ?_
 refine vq (q_ext rfl rfl rfl) rfl ?_
 refine va rfl rfl ?_
 refine va rfl rfl (simL_nil (nrm_then (sim_seq (sr ?_))))
 refine vm rfl rfl ?_
 refine vq (q_not rfl rfl) rfl ?_
 refine vm rfl rfl ?_
 refine simL_cut' 7 (S := Bool) (Unit) (fun s y => [(2, .pointer (some ⟨b1v, 0, none⟩)), (4, .slice y4v.1 s2v.1.length y4v.2), (6, .pointer (some ⟨b23v, 0, none⟩)), (7, .pointer (some ⟨b24v, 0, none⟩)), (10, .pointer (some ⟨b23v, 13, none⟩)), (11, .int .i64 s377v.1), (43, .slice y32v.1 ((([(b23v, 0), (b23v, 1), (b23v, 4), (b23v, 5), (b23v, 6), (b23v, 7), (b23v, 8), (b23v, 9), (b23v, 10), (b23v, 11), (b23v, 12), (b23v, 13), (b23v, 14), (b23v, 15), (b23v, 16), (b23v, 17), (b23v, 18)] : List ((Nat × Nat))) ++ ([(b24v, 0)] : List ((Nat × Nat)))).length) y32v.2), (44, .int .i64 18), (45, .int .i64 11), (65, undef), (66, undef), (68, .bool s)]) (fun s y => [obj b23v 54 [.int .i64 s58v.1, .int .i64 s87v.1, .int .i64 0, .int .i64 0, .int .i64 s116v.1, .int .i64 s145v.1, .int .i64 s174v.1, .int .i64 s203v.1, .int .i64 s232v.1, .int .i64 s261v.1, .int .i64 s290v.1, .int .i64 s319v.1, .int .i64 s348v.1, .int .i64 0, .int .i64 0, .int .i64 0, .int .i64 0, .int .i64 0, .int .i64 0], obj b24v 3 [.int .i64 0], obj b1v 54 [.int .i64 0, .int .i64 0, .int .i64 0, .int .i64 0, .int .i64 0, .int .i64 0, .int .i64 0, .int .i64 0, .int .i64 0, .int .i64 0, .int .i64 0, .int .i64 0, .int .i64 0, .int .i64 0, .int .i64 0, .int .i64 0, .int .i64 0, .int .i64 0, .int .i64 0], RowV 9 1 (V9 tt) y4v.1 s2v.1 y4v.2, RowV 115 1 (V115 tt) y32v.1 (([(b23v, 0), (b23v, 1), (b23v, 4), (b23v, 5), (b23v, 6), (b23v, 7), (b23v, 8), (b23v, 9), (b23v, 10), (b23v, 11), (b23v, 12), (b23v, 13), (b23v, 14), (b23v, 15), (b23v, 16), (b23v, 17), (b23v, 18)] : List ((Nat × Nat))) ++ ([(b24v, 0)] : List ((Nat × Nat)))) y32v.2, F]) ?_ ?_
 refine simL_caseb (fun hb382v => ?_) (fun hb383v => ?_)
 rw [hb382v]
 refine simL_skipd rfl rfl rfl rfl rfl rfl ?_
 refine simL_skipd rfl rfl rfl rfl rfl rfl ?_
 refine simL_skipd rfl rfl rfl rfl rfl rfl ?_
 refine simL_skipu rfl rfl rfl rfl rfl ?_
 refine simL_skipu rfl rfl rfl rfl rfl ?_
 refine simL_skipd rfl rfl rfl rfl rfl rfl ?_
 refine vq (q_pick rfl rfl rfl rfl rfl) rfl (simL_nil ?_)
 exact nrm_cut (s := true) () ⟨rfl, rfl, rfl, rfl, rfl, rfl, rfl, rfl, rfl, rfl, rfl, rfl, trivial⟩ (.sel 0 rfl (.sel 0 rfl (.sel 0 rfl (.sel' 0 rfl (RowV.mk hl376v) (.sel' 0 rfl (RowV.mk hl366v) (.sel 0 rfl (.nil _)))))))
 rw [hb383v]
 refine simL_valg (q_move rfl rfl) rfl rfl rfl rfl rfl rfl ?_
 refine simL_valg (q_eqpp 0 1 (.inl rfl) rfl rfl rfl rfl rfl Tryd.underlying115 Tryd.sizeOf3) rfl rfl rfl rfl rfl rfl ?_
 refine simL_valg (q_move rfl rfl) rfl rfl rfl rfl rfl rfl ?_
 refine simL_skipd rfl rfl rfl rfl rfl rfl ?_
 refine simL_skipd rfl rfl rfl rfl rfl rfl ?_
 refine simL_valg (q_pick rfl rfl rfl rfl rfl) rfl rfl rfl rfl rfl rfl ?_
 refine vq (q_pick rfl rfl rfl rfl rfl) rfl (simL_nil ?_)
 exact nrm_cut (s := false) () ⟨rfl, rfl, rfl, rfl, rfl, rfl, rfl, rfl, rfl, rfl, rfl, rfl, trivial⟩ (.sel 0 rfl (.sel 0 rfl (.sel 0 rfl (.sel' 0 rfl (RowV.mk hl376v) (.sel' 0 rfl (RowV.mk hl366v) (.sel 0 rfl (.nil _)))))))
 intro s380v y381v
 refine simL_nil (nrm_then ?_)
 refine sim_condb rfl (fun h384v => ?_) (fun h385v => ?_)
 refine sr ?_
 refine vq (q_build (v := .agg #[.int .i64 0, .int .i64 0, .int .i64 0, .int .i64 0, .int .i64 0, .int .i64 0, .int .i64 0, .int .i64 0, .int .i64 0, .int .i64 0, .int .i64 0, .int .i64 0, .int .i64 0, .int .i64 0, .int .i64 0, .int .i64 0, .int .i64 0, .int .i64 0, .int .i64 0]) rfl rfl (fun _ => by kernel_rfl)) rfl ?_
 refine simL_do (re_store 2 rfl rfl rfl Tryd.sizeOf54 rfl rfl (one_of (by rfl)) rfl rfl) rfl rfl ?_
 intro _
 refine simL_ent (H' := [obj b23v 54 [.int .i64 s58v.1, .int .i64 s87v.1, .int .i64 0, .int .i64 0, .int .i64 s116v.1, .int .i64 s145v.1, .int .i64 s174v.1, .int .i64 s203v.1, .int .i64 s232v.1, .int .i64 s261v.1, .int .i64 s290v.1, .int .i64 s319v.1, .int .i64 s348v.1, .int .i64 0, .int .i64 0, .int .i64 0, .int .i64 0, .int .i64 0, .int .i64 0], obj b24v 3 [.int .i64 0], obj b1v 54 [.int .i64 0, .int .i64 0, .int .i64 0, .int .i64 0, .int .i64 0, .int .i64 0, .int .i64 0, .int .i64 0, .int .i64 0, .int .i64 0, .int .i64 0, .int .i64 0, .int .i64 0, .int .i64 0, .int .i64 0, .int .i64 0, .int .i64 0, .int .i64 0, .int .i64 0], RowV 9 1 (V9 tt) y4v.1 s2v.1 y4v.2, RowV 115 1 (V115 tt) y32v.1 (([(b23v, 0), (b23v, 1), (b23v, 4), (b23v, 5), (b23v, 6), (b23v, 7), (b23v, 8), (b23v, 9), (b23v, 10), (b23v, 11), (b23v, 12), (b23v, 13), (b23v, 14), (b23v, 15), (b23v, 16), (b23v, 17), (b23v, 18)] : List ((Nat × Nat))) ++ ([(b24v, 0)] : List ((Nat × Nat)))) y32v.2, F]) (Ent.refl _) ?_
 refine va rfl rfl (simL_nil (nrm_then (sim_rtn ?_)))
 refine rtn_then ?_
 refine rtn_block ?_
 refine rtn_then ?_
 refine rtn_rnd ?_
 refine rtn_block ?_
 refine rtn_then ?_
 exact rtn_fnC (vs := [.agg #[.int .i64 0, .int .i64 0, .int .i64 0, .int .i64 0, .int .i64 0, .int .i64 0, .int .i64 0, .int .i64 0, .int .i64 0, .int .i64 0, .int .i64 0, .int .i64 0, .int .i64 0, .int .i64 0, .int .i64 0, .int .i64 0, .int .i64 0, .int .i64 0, .int .i64 0], .int .i64 22]) () rfl ⟨⟨b1v, rfl, load_agg 2 Tryd.isAgg54 Tryd.sizeOf54 rfl rfl⟩, rfl, trivial⟩ rfl (.sel 5 rfl (.nil _))
 refine sim_skip ?_
 refine nrm_then (sim_region ?_)
 refine vm rfl rfl ?_
 refine vm rfl rfl ?_
 refine vn rfl rfl ?_
 refine simL_do (re_store 0 rfl rfl rfl Tryd.sizeOf3 rfl rfl (one_of (by rfl)) rfl rfl) rfl rfl ?_
 intro _
 refine simL_ent (H' := [obj b23v 54 [.int .i64 s58v.1, .int .i64 s87v.1, .int .i64 0, .int .i64 0, .int .i64 s116v.1, .int .i64 s145v.1, .int .i64 s174v.1, .int .i64 s203v.1, .int .i64 s232v.1, .int .i64 s261v.1, .int .i64 s290v.1, .int .i64 s319v.1, .int .i64 s348v.1, .int .i64 s377v.1, .int .i64 0, .int .i64 0, .int .i64 0, .int .i64 0, .int .i64 0], obj b24v 3 [.int .i64 0], obj b1v 54 [.int .i64 0, .int .i64 0, .int .i64 0, .int .i64 0, .int .i64 0, .int .i64 0, .int .i64 0, .int .i64 0, .int .i64 0, .int .i64 0, .int .i64 0, .int .i64 0, .int .i64 0, .int .i64 0, .int .i64 0, .int .i64 0, .int .i64 0, .int .i64 0, .int .i64 0], RowV 9 1 (V9 tt) y4v.1 s2v.1 y4v.2, RowV 115 1 (V115 tt) y32v.1 (([(b23v, 0), (b23v, 1), (b23v, 4), (b23v, 5), (b23v, 6), (b23v, 7), (b23v, 8), (b23v, 9), (b23v, 10), (b23v, 11), (b23v, 12), (b23v, 13), (b23v, 14), (b23v, 15), (b23v, 16), (b23v, 17), (b23v, 18)] : List ((Nat × Nat))) ++ ([(b24v, 0)] : List ((Nat × Nat)))) y32v.2, F]) (Ent.refl _) ?_
 refine simL_nil (nrm_block (nrm_then (sim_region ?_)))
 refine vq (q_add rfl rfl rfl) rfl ?_
 refine vm rfl rfl (simL_nil ?_)
 refine nrm_rnd (rnd_succ ?_)
 refine sr ?_
 refine vq (q_lss rfl rfl rfl) rfl (simL_nil (nrm_then (sim_seq ?_)))
 refine sim_true rfl ?_
 refine sim_skip ?_
 refine nrm_then (sim_seq ?_)
 refine sim_block ?_
 refine sr ?_
 refine vm rfl rfl ?_
 refine simL_openV 4 rfl (fun rs394v hl395v => ?_)
 have hi386v : (0 : Int) ≤ (12 : Int) ∧ (12 : Int) < ((([(b23v, 0), (b23v, 1), (b23v, 4), (b23v, 5), (b23v, 6), (b23v, 7), (b23v, 8), (b23v, 9), (b23v, 10), (b23v, 11), (b23v, 12), (b23v, 13), (b23v, 14), (b23v, 15), (b23v, 16), (b23v, 17), (b23v, 18)] : List ((Nat × Nat))) ++ ([(b24v, 0)] : List ((Nat × Nat)))).length : Int) := ⟨by decide, (show (12 : Int) < ((18 : Nat) : Int) by decide)⟩
 refine simL_posV 4 rfl hl395v rfl (i := (12 : Int).toNat) (by omega) ((0, 0) : Nat × Nat) (fun b387v b387vo r390v ha388v hV391v hlr392v hcell393v => ?_)
 obtain rfl := hV391v
 refine vq (q_idx rfl rfl rfl ha388v Tryd.underlying120 Tryd.sizeOf115 hi386v.1 hi386v.2) rfl ?_
 refine vq (rq_cast (v' := .pointer (some ⟨b23v, 14, none⟩)) rfl (q_load rfl rfl Tryd.isAgg115 (hcell393v 4 rfl 0 _ rfl))) rfl ?_
 refine va rfl rfl ?_
 refine va rfl rfl (nx ?_)
 refine vm rfl rfl ?_
 refine vm rfl rfl ?_
 refine vq (q_add rfl rfl rfl) rfl ?_
 refine simL_openV 3 rfl (fun rs404v hl405v => ?_)
 refine simL_ask (fun hi396v => ?_)
 refine simL_posV 3 rfl hl405v rfl (i := (13 : Int).toNat) (by omega) ([] : List UInt8) (fun b397v b397vo r400v ha398v hV401v hlr402v hcell403v => ?_)
 obtain rfl := hV401v
 refine vq (q_idx rfl rfl rfl ha398v Tryd.underlying23 Tryd.sizeOf9 hi396v.1 hi396v.2) rfl ?_
 refine vq (q_load rfl rfl Tryd.isAgg9 (hcell403v 3 rfl 0 _ rfl)) rfl ?_
 refine simL_bind (fun s406v hs407v => ?_)
 refine simL_eff (re_call (vs := [str (s2v.1.getD (13 : Int).toNat ([] : List UInt8))]) (cap := []) (A := []) (rst := [obj b23v 54 [.int .i64 s58v.1, .int .i64 s87v.1, .int .i64 0, .int .i64 0, .int .i64 s116v.1, .int .i64 s145v.1, .int .i64 s174v.1, .int .i64 s203v.1, .int .i64 s232v.1, .int .i64 s261v.1, .int .i64 s290v.1, .int .i64 s319v.1, .int .i64 s348v.1, .int .i64 s377v.1, .int .i64 0, .int .i64 0, .int .i64 0, .int .i64 0, .int .i64 0], obj b24v 3 [.int .i64 0], obj b1v 54 [.int .i64 0, .int .i64 0, .int .i64 0, .int .i64 0, .int .i64 0, .int .i64 0, .int .i64 0, .int .i64 0, .int .i64 0, .int .i64 0, .int .i64 0, .int .i64 0, .int .i64 0, .int .i64 0, .int .i64 0, .int .i64 0, .int .i64 0, .int .i64 0, .int .i64 0], Row 9 1 y4v.1 s2v.1.length y4v.2 rs404v.flatten, Row 115 1 y32v.1 (([(b23v, 0), (b23v, 1), (b23v, 4), (b23v, 5), (b23v, 6), (b23v, 7), (b23v, 8), (b23v, 9), (b23v, 10), (b23v, 11), (b23v, 12), (b23v, 13), (b23v, 14), (b23v, 15), (b23v, 16), (b23v, 17), (b23v, 18)] : List ((Nat × Nat))) ++ ([(b24v, 0)] : List ((Nat × Nat)))).length y32v.2 rs394v.flatten, F]) rfl rfl rfl rfl rfl rfl Tryd.call55 (.sel 0 rfl (.sel 0 rfl (.sel 0 rfl (.sel 0 rfl (.sel 0 rfl (.sel 0 rfl (.nil _))))))) (text_number.calls _ _ (s2v.1.getD (13 : Int).toNat ([] : List UInt8)) (hgl.lend 5 rfl)) hs407v) rfl rfl rfl ?_
 intro y408v
 refine vm rfl rfl ?_
 refine vq (q_ext rfl rfl rfl) rfl ?_
 refine vq (q_ext rfl rfl rfl) rfl ?_
 refine va rfl rfl ?_
 refine va rfl rfl (simL_nil (nrm_then (sim_seq (sr ?_))))
 refine vm rfl rfl ?_
 refine vq (q_not rfl rfl) rfl ?_
 refine vm rfl rfl ?_
 refine simL_cut' 7 (S := Bool) (Unit) (fun s y => [(2, .pointer (some ⟨b1v, 0, none⟩)), (4, .slice y4v.1 s2v.1.length y4v.2), (6, .pointer (some ⟨b23v, 0, none⟩)), (7, .pointer (some ⟨b24v, 0, none⟩)), (10, .pointer (some ⟨b23v, 14, none⟩)), (11, .int .i64 s406v.1), (43, .slice y32v.1 ((([(b23v, 0), (b23v, 1), (b23v, 4), (b23v, 5), (b23v, 6), (b23v, 7), (b23v, 8), (b23v, 9), (b23v, 10), (b23v, 11), (b23v, 12), (b23v, 13), (b23v, 14), (b23v, 15), (b23v, 16), (b23v, 17), (b23v, 18)] : List ((Nat × Nat))) ++ ([(b24v, 0)] : List ((Nat × Nat)))).length) y32v.2), (44, .int .i64 18), (45, .int .i64 12), (65, undef), (66, undef), (68, .bool s)]) (fun s y => [obj b23v 54 [.int .i64 s58v.1, .int .i64 s87v.1, .int .i64 0, .int .i64 0, .int .i64 s116v.1, .int .i64 s145v.1, .int .i64 s174v.1, .int .i64 s203v.1, .int .i64 s232v.1, .int .i64 s261v.1, .int .i64 s290v.1, .int .i64 s319v.1, .int .i64 s348v.1, .int .i64 s377v.1, .int .i64 0, .int .i64 0, .int .i64 0, .int .i64 0, .int .i64 0], obj b24v 3 [.int .i64 0], obj b1v 54 [.int .i64 0, .int .i64 0, .int .i64 0, .int .i64 0, .int .i64 0, .int .i64 0, .int .i64 0, .int .i64 0, .int .i64 0, .int .i64 0, .int .i64 0, .int .i64 0, .int .i64 0, .int .i64 0, .int .i64 0, .int .i64 0, .int .i64 0, .int .i64 0, .int .i64 0], RowV 9 1 (V9 tt) y4v.1 s2v.1 y4v.2, RowV 115 1 (V115 tt) y32v.1 (([(b23v, 0), (b23v, 1), (b23v, 4), (b23v, 5), (b23v, 6), (b23v, 7), (b23v, 8), (b23v, 9), (b23v, 10), (b23v, 11), (b23v, 12), (b23v, 13), (b23v, 14), (b23v, 15), (b23v, 16), (b23v, 17), (b23v, 18)] : List ((Nat × Nat))) ++ ([(b24v, 0)] : List ((Nat × Nat)))) y32v.2, F]) ?_ ?_
 refine simL_caseb (fun hb411v => ?_) (fun hb412v => ?_)
 rw [hb411v]
 refine simL_skipd rfl rfl rfl rfl rfl rfl ?_
 refine simL_skipd rfl rfl rfl rfl rfl rfl ?_
 refine simL_skipd rfl rfl rfl rfl rfl rfl ?_
 refine simL_skipu rfl rfl rfl rfl rfl ?_
 refine simL_skipu rfl rfl rfl rfl rfl ?_
 refine simL_skipd rfl rfl rfl rfl rfl rfl ?_
 refine vq (q_pick rfl rfl rfl rfl rfl) rfl (simL_nil ?_)
 exact nrm_cut (s := true) () ⟨rfl, rfl, rfl, rfl, rfl, rfl, rfl, rfl, rfl, rfl, rfl, rfl, trivial⟩ (.sel 0 rfl (.sel 0 rfl (.sel 0 rfl (.sel' 0 rfl (RowV.mk hl405v) (.sel' 0 rfl (RowV.mk hl395v) (.sel 0 rfl (.nil _)))))))
 rw [hb412v]
 refine simL_valg (q_move rfl rfl) rfl rfl rfl rfl rfl rfl ?_
 refine simL_valg (q_eqpp 0 1 (.inl rfl) rfl rfl rfl rfl rfl Tryd.underlying115 Tryd.sizeOf3) rfl rfl rfl rfl rfl rfl ?_
 refine simL_valg (q_move rfl rfl) rfl rfl rfl rfl rfl rfl ?_
 refine simL_skipd rfl rfl rfl rfl rfl rfl ?_
 refine simL_skipd rfl rfl rfl rfl rfl rfl ?_
 refine simL_valg (q_pick rfl rfl rfl rfl rfl) rfl rfl rfl rfl rfl rfl ?_
 refine vq (q_pick rfl rfl rfl rfl rfl) rfl (simL_nil ?_)
 exact nrm_cut (s := false) () ⟨rfl, rfl, rfl, rfl, rfl, rfl, rfl, rfl, rfl, rfl, rfl, rfl, trivial⟩ (.sel 0 rfl (.sel 0 rfl (.sel 0 rfl (.sel' 0 rfl (RowV.mk hl405v) (.sel' 0 rfl (RowV.mk hl395v) (.sel 0 rfl (.nil _)))))))
 intro s409v y410v
 refine simL_nil (nrm_then ?_)
 refine sim_condb rfl (fun h413v => ?_) (fun h414v => ?_)
 refine sr ?_
 refine vq (q_build (v := .agg #[.int .i64 0, .int .i64 0, .int .i64 0, .int .i64 0, .int .i64 0, .int .i64 0, .int .i64 0, .int .i64 0, .int .i64 0, .int .i64 0, .int .i64 0, .int .i64 0, .int .i64 0, .int .i64 0, .int .i64 0, .int .i64 0, .int .i64 0, .int .i64 0, .int .i64 0]) rfl rfl (fun _ => by kernel_rfl)) rfl ?_
 refine simL_do (re_store 2 rfl rfl rfl Tryd.sizeOf54 rfl rfl (one_of (by rfl)) rfl rfl) rfl rfl ?_
 intro _
 refine simL_ent (H' := [obj b23v 54 [.int .i64 s58v.1, .int .i64 s87v.1, .int .i64 0, .int .i64 0, .int .i64 s116v.1, .int .i64 s145v.1, .int .i64 s174v.1, .int .i64 s203v.1, .int .i64 s232v.1, .int .i64 s261v.1, .int .i64 s290v.1, .int .i64 s319v.1, .int .i64 s348v.1, .int .i64 s377v.1, .int .i64 0, .int .i64 0, .int .i64 0, .int .i64 0, .int .i64 0], obj b24v 3 [.int .i64 0], obj b1v 54 [.int .i64 0, .int .i64 0, .int .i64 0, .int .i64 0, .int .i64 0, .int .i64 0, .int .i64 0, .int .i64 0, .int .i64 0, .int .i64 0, .int .i64 0, .int .i64 0, .int .i64 0, .int .i64 0, .int .i64 0, .int .i64 0, .int .i64 0, .int .i64 0, .int .i64 0], RowV 9 1 (V9 tt) y4v.1 s2v.1 y4v.2, RowV 115 1 (V115 tt) y32v.1 (([(b23v, 0), (b23v, 1), (b23v, 4), (b23v, 5), (b23v, 6), (b23v, 7), (b23v, 8), (b23v, 9), (b23v, 10), (b23v, 11), (b23v, 12), (b23v, 13), (b23v, 14), (b23v, 15), (b23v, 16), (b23v, 17), (b23v, 18)] : List ((Nat × Nat))) ++ ([(b24v, 0)] : List ((Nat × Nat)))) y32v.2, F]) (Ent.refl _) ?_
 refine va rfl rfl (simL_nil (nrm_then (sim_rtn ?_)))
 refine rtn_then ?_
 refine rtn_block ?_
 refine rtn_then ?_
 refine rtn_rnd ?_
 refine rtn_block ?_
 refine rtn_then ?_
 exact rtn_fnC (vs := [.agg #[.int .i64 0, .int .i64 0, .int .i64 0, .int .i64 0, .int .i64 0, .int .i64 0, .int .i64 0, .int .i64 0, .int .i64 0, .int .i64 0, .int .i64 0, .int .i64 0, .int .i64 0, .int .i64 0, .int .i64 0, .int .i64 0, .int .i64 0, .int .i64 0, .int .i64 0], .int .i64 22]) () rfl ⟨⟨b1v, rfl, load_agg 2 Tryd.isAgg54 Tryd.sizeOf54 rfl rfl⟩, rfl, trivial⟩ rfl (.sel 5 rfl (.nil _))
 refine sim_skip ?_
 refine nrm_then (sim_region ?_)
 refine vm rfl rfl ?_
 refine vm rfl rfl ?_
 refine vn rfl rfl ?_
 refine simL_do (re_store 0 rfl rfl rfl Tryd.sizeOf3 rfl rfl (one_of (by rfl)) rfl rfl) rfl rfl ?_
 intro _
 refine simL_ent (H' := [obj b23v 54 [.int .i64 s58v.1, .int .i64 s87v.1, .int .i64 0, .int .i64 0, .int .i64 s116v.1, .int .i64 s145v.1, .int .i64 s174v.1, .int .i64 s203v.1, .int .i64 s232v.1, .int .i64 s261v.1, .int .i64 s290v.1, .int .i64 s319v.1, .int .i64 s348v.1, .int .i64 s377v.1, .int .i64 s406v.1, .int .i64 0, .int .i64 0, .int .i64 0, .int .i64 0], obj b24v 3 [.int .i64 0], obj b1v 54 [.int .i64 0, .int .i64 0, .int .i64 0, .int .i64 0, .int .i64 0, .int .i64 0, .int .i64 0, .int .i64 0, .int .i64 0, .int .i64 0, .int .i64 0, .int .i64 0, .int .i64 0, .int .i64 0, .int .i64 0, .int .i64 0, .int .i64 0, .int .i64 0, .int .i64 0], RowV 9 1 (V9 tt) y4v.1 s2v.1 y4v.2, RowV 115 1 (V115 tt) y32v.1 (([(b23v, 0), (b23v, 1), (b23v, 4), (b23v, 5), (b23v, 6), (b23v, 7), (b23v, 8), (b23v, 9), (b23v, 10), (b23v, 11), (b23v, 12), (b23v, 13), (b23v, 14), (b23v, 15), (b23v, 16), (b23v, 17), (b23v, 18)] : List ((Nat × Nat))) ++ ([(b24v, 0)] : List ((Nat × Nat)))) y32v.2, F]) (Ent.refl _) ?_
 refine simL_nil (nrm_block (nrm_then (sim_region ?_)))
 refine vq (q_add rfl rfl rfl) rfl ?_
 refine vm rfl rfl (simL_nil ?_)
 refine nrm_rnd (rnd_succ ?_)
 refine sr ?_
 refine vq (q_lss rfl rfl rfl) rfl (simL_nil (nrm_then (sim_seq ?_)))
 refine sim_true rfl ?_
 refine sim_skip ?_
 refine nrm_then (sim_seq ?_)
 refine sim_block ?_
 refine sr ?_
 refine vm rfl rfl ?_
 refine simL_openV 4 rfl (fun rs423v hl424v => ?_)
 have hi415v : (0 : Int) ≤ (13 : Int) ∧ (13 : Int) < ((([(b23v, 0), (b23v, 1), (b23v, 4), (b23v, 5), (b23v, 6), (b23v, 7), (b23v, 8), (b23v, 9), (b23v, 10), (b23v, 11), (b23v, 12), (b23v, 13), (b23v, 14), (b23v, 15), (b23v, 16), (b23v, 17), (b23v, 18)] : List ((Nat × Nat))) ++ ([(b24v, 0)] : List ((Nat × Nat)))).length : Int) := ⟨by decide, (show (13 : Int) < ((18 : Nat) : Int) by decide)⟩
 refine simL_posV 4 rfl hl424v rfl (i := (13 : Int).toNat) (by omega) ((0, 0) : Nat × Nat) (fun b416v b416vo r419v ha417v hV420v hlr421v hcell422v => ?_)
 obtain rfl := hV420v
 refine vq (q_idx rfl rfl rfl ha417v Tryd.underlying120 Tryd.sizeOf115 hi415v.1 hi415v.2) rfl ?_
 refine vq (rq_cast (v' := .pointer (some ⟨b23v, 15, none⟩)) rfl (q_load rfl rfl Tryd.isAgg115 (hcell422v 4 rfl 0 _ rfl))) rfl ?_
 refine va rfl rfl ?_
 refine va rfl rfl (nx ?_)
 refine vm rfl rfl ?_
 refine vm rfl rfl ?_
 refine vq (q_add rfl rfl rfl) rfl ?_
 refine simL_openV 3 rfl (fun rs433v hl434v => ?_)
 refine simL_ask (fun hi425v => ?_)
 refine simL_posV 3 rfl hl434v rfl (i := (14 : Int).toNat) (by omega) ([] : List UInt8) (fun b426v b426vo r429v ha427v hV430v hlr431v hcell432v => ?_)
 obtain rfl := hV430v
 refine vq (q_idx rfl rfl rfl ha427v Tryd.underlying23 Tryd.sizeOf9 hi425v.1 hi425v.2) rfl ?_
 refine vq (q_load rfl rfl Tryd.isAgg9 (hcell432v 3 rfl 0 _ rfl)) rfl ?_
 refine simL_bind (fun s435v hs436v => ?_)
 refine simL_eff (re_call (vs := [str (s2v.1.getD (14 : Int).toNat ([] : List UInt8))]) (cap := []) (A := []) (rst := [obj b23v 54 [.int .i64 s58v.1, .int .i64 s87v.1, .int .i64 0, .int .i64 0, .int .i64 s116v.1, .int .i64 s145v.1, .int .i64 s174v.1, .int .i64 s203v.1, .int .i64 s232v.1, .int .i64 s261v.1, .int .i64 s290v.1, .int .i64 s319v.1, .int .i64 s348v.1, .int .i64 s377v.1, .int .i64 s406v.1, .int .i64 0, .int .i64 0, .int .i64 0, .int .i64 0], obj b24v 3 [.int .i64 0], obj b1v 54 [.int .i64 0, .int .i64 0, .int .i64 0, .int .i64 0, .int .i64 0, .int .i64 0, .int .i64 0, .int .i64 0, .int .i64 0, .int .i64 0, .int .i64 0, .int .i64 0, .int .i64 0, .int .i64 0, .int .i64 0, .int .i64 0, .int .i64 0, .int .i64 0, .int .i64 0], Row 9 1 y4v.1 s2v.1.length y4v.2 rs433v.flatten, Row 115 1 y32v.1 (([(b23v, 0), (b23v, 1), (b23v, 4), (b23v, 5), (b23v, 6), (b23v, 7), (b23v, 8), (b23v, 9), (b23v, 10), (b23v, 11), (b23v, 12), (b23v, 13), (b23v, 14), (b23v, 15), (b23v, 16), (b23v, 17), (b23v, 18)] : List ((Nat × Nat))) ++ ([(b24v, 0)] : List ((Nat × Nat)))).length y32v.2 rs423v.flatten, F]) rfl rfl rfl rfl rfl rfl Tryd.call55 (.sel 0 rfl (.sel 0 rfl (.sel 0 rfl (.sel 0 rfl (.sel 0 rfl (.sel 0 rfl (.nil _))))))) (text_number.calls _ _ (s2v.1.getD (14 : Int).toNat ([] : List UInt8)) (hgl.lend 5 rfl)) hs436v) rfl rfl rfl ?_
 intro y437v
 refine vm rfl rfl ?_
 refine vq (q_ext rfl rfl rfl) rfl ?_
 refine vq (q_ext rfl rfl rfl) rfl ?_
 refine va rfl rfl ?_
 refine va rfl rfl (simL_nil (nrm_then (sim_seq (sr ?_))))
 refine vm rfl rfl ?_
 refine vq (q_not rfl rfl) rfl ?_
 refine vm rfl rfl ?_
 refine simL_cut' 7 (S := Bool) (Unit) (fun s y => [(2, .pointer (some ⟨b1v, 0, none⟩)), (4, .slice y4v.1 s2v.1.length y4v.2), (6, .pointer (some ⟨b23v, 0, none⟩)), (7, .pointer (some ⟨b24v, 0, none⟩)), (10, .pointer (some ⟨b23v, 15, none⟩)), (11, .int .i64 s435v.1), (43, .slice y32v.1 ((([(b23v, 0), (b23v, 1), (b23v, 4), (b23v, 5), (b23v, 6), (b23v, 7), (b23v, 8), (b23v, 9), (b23v, 10), (b23v, 11), (b23v, 12), (b23v, 13), (b23v, 14), (b23v, 15), (b23v, 16), (b23v, 17), (b23v, 18)] : List ((Nat × Nat))) ++ ([(b24v, 0)] : List ((Nat × Nat)))).length) y32v.2), (44, .int .i64 18), (45, .int .i64 13), (65, undef), (66, undef), (68, .bool s)]) (fun s y => [obj b23v 54 [.int .i64 s58v.1, .int .i64 s87v.1, .int .i64 0, .int .i64 0, .int .i64 s116v.1, .int .i64 s145v.1, .int .i64 s174v.1, .int .i64 s203v.1, .int .i64 s232v.1, .int .i64 s261v.1, .int .i64 s290v.1, .int .i64 s319v.1, .int .i64 s348v.1, .int .i64 s377v.1, .int .i64 s406v.1, .int .i64 0, .int .i64 0, .int .i64 0, .int .i64 0], obj b24v 3 [.int .i64 0], obj b1v 54 [.int .i64 0, .int .i64 0, .int .i64 0, .int .i64 0, .int .i64 0, .int .i64 0, .int .i64 0, .int .i64 0, .int .i64 0, .int .i64 0, .int .i64 0, .int .i64 0, .int .i64 0, .int .i64 0, .int .i64 0, .int .i64 0, .int .i64 0, .int .i64 0, .int .i64 0], RowV 9 1 (V9 tt) y4v.1 s2v.1 y4v.2, RowV 115 1 (V115 tt) y32v.1 (([(b23v, 0), (b23v, 1), (b23v, 4), (b23v, 5), (b23v, 6), (b23v, 7), (b23v, 8), (b23v, 9), (b23v, 10), (b23v, 11), (b23v, 12), (b23v, 13), (b23v, 14), (b23v, 15), (b23v, 16), (b23v, 17), (b23v, 18)] : List ((Nat × Nat))) ++ ([(b24v, 0)] : List ((Nat × Nat)))) y32v.2, F]) ?_ ?_
 refine simL_caseb (fun hb440v => ?_) (fun hb441v => ?_)
 rw [hb440v]
 refine simL_skipd rfl rfl rfl rfl rfl rfl ?_
 refine simL_skipd rfl rfl rfl rfl rfl rfl ?_
 refine simL_skipd rfl rfl rfl rfl rfl rfl ?_
 refine simL_skipu rfl rfl rfl rfl rfl ?_
 refine simL_skipu rfl rfl rfl rfl rfl ?_
 refine simL_skipd rfl rfl rfl rfl rfl rfl ?_
 refine vq (q_pick rfl rfl rfl rfl rfl) rfl (simL_nil ?_)
 exact nrm_cut (s := true) () ⟨rfl, rfl, rfl, rfl, rfl, rfl, rfl, rfl, rfl, rfl, rfl, rfl, trivial⟩ (.sel 0 rfl (.sel 0 rfl (.sel 0 rfl (.sel' 0 rfl (RowV.mk hl434v) (.sel' 0 rfl (RowV.mk hl424v) (.sel 0 rfl (.nil _)))))))
 rw [hb441v]
 refine simL_valg (q_move rfl rfl) rfl rfl rfl rfl rfl rfl ?_
 refine simL_valg (q_eqpp 0 1 (.inl rfl) rfl rfl rfl rfl rfl Tryd.underlying115 Tryd.sizeOf3) rfl rfl rfl rfl rfl rfl ?_
 refine simL_valg (q_move rfl rfl) rfl rfl rfl rfl rfl rfl ?_
 refine simL_skipd rfl rfl rfl rfl rfl rfl ?_
 refine simL_skipd rfl rfl rfl rfl rfl rfl ?_
 refine simL_valg (q_pick rfl rfl rfl rfl rfl) rfl rfl rfl rfl rfl rfl ?_
 refine vq (q_pick rfl rfl rfl rfl rfl) rfl (simL_nil ?_)
 exact nrm_cut (s := false) () ⟨rfl, rfl, rfl, rfl, rfl, rfl, rfl, rfl, rfl, rfl, rfl, rfl, trivial⟩ (.sel 0 rfl (.sel 0 rfl (.sel 0 rfl (.sel' 0 rfl (RowV.mk hl434v) (.sel' 0 rfl (RowV.mk hl424v) (.sel 0 rfl (.nil _)))))))
 intro s438v y439v
 refine simL_nil (nrm_then ?_)
 refine sim_condb rfl (fun h442v => ?_) (fun h443v => ?_)
 refine sr ?_
 refine vq (q_build (v := .agg #[.int .i64 0, .int .i64 0, .int .i64 0, .int .i64 0, .int .i64 0, .int .i64 0, .int .i64 0, .int .i64 0, .int .i64 0, .int .i64 0, .int .i64 0, .int .i64 0, .int .i64 0, .int .i64 0, .int .i64 0, .int .i64 0, .int .i64 0, .int .i64 0, .int .i64 0]) rfl rfl (fun _ => by kernel_rfl)) rfl ?_
 refine simL_do (re_store 2 rfl rfl rfl Tryd.sizeOf54 rfl rfl (one_of (by rfl)) rfl rfl) rfl rfl ?_
 intro _
 refine simL_ent (H' := [obj b23v 54 [.int .i64 s58v.1, .int .i64 s87v.1, .int .i64 0, .int .i64 0, .int .i64 s116v.1, .int .i64 s145v.1, .int .i64 s174v.1, .int .i64 s203v.1, .int .i64 s232v.1, .int .i64 s261v.1, .int .i64 s290v.1, .int .i64 s319v.1, .int .i64 s348v.1, .int .i64 s377v.1, .int .i64 s406v.1, .int .i64 0, .int .i64 0, .int .i64 0, .int .i64 0], obj b24v 3 [.int .i64 0], obj b1v 54 [.int .i64 0, .int .i64 0, .int .i64 0, .int .i64 0, .int .i64 0, .int .i64 0, .int .i64 0, .int .i64 0, .int .i64 0, .int .i64 0, .int .i64 0, .int .i64 0, .int .i64 0, .int .i64 0, .int .i64 0, .int .i64 0, .int .i64 0, .int .i64 0, .int .i64 0], RowV 9 1 (V9 tt) y4v.1 s2v.1 y4v.2, RowV 115 1 (V115 tt) y32v.1 (([(b23v, 0), (b23v, 1), (b23v, 4), (b23v, 5), (b23v, 6), (b23v, 7), (b23v, 8), (b23v, 9), (b23v, 10), (b23v, 11), (b23v, 12), (b23v, 13), (b23v, 14), (b23v, 15), (b23v, 16), (b23v, 17), (b23v, 18)] : List ((Nat × Nat))) ++ ([(b24v, 0)] : List ((Nat × Nat)))) y32v.2, F]) (Ent.refl _) ?_
 refine va rfl rfl (simL_nil (nrm_then (sim_rtn ?_)))
 refine rtn_then ?_
 refine rtn_block ?_
 refine rtn_then ?_
 refine rtn_rnd ?_
 refine rtn_block ?_
 refine rtn_then ?_
 exact rtn_fnC (vs := [.agg #[.int .i64 0, .int .i64 0, .int .i64 0, .int .i64 0, .int .i64 0, .int .i64 0, .int .i64 0, .int .i64 0, .int .i64 0, .int .i64 0, .int .i64 0, .int .i64 0, .int .i64 0, .int .i64 0, .int .i64 0, .int .i64 0, .int .i64 0, .int .i64 0, .int .i64 0], .int .i64 22]) () rfl ⟨⟨b1v, rfl, load_agg 2 Tryd.isAgg54 Tryd.sizeOf54 rfl rfl⟩, rfl, trivial⟩ rfl (.sel 5 rfl (.nil _))
 refine sim_skip ?_
 refine nrm_then (sim_region ?_)
 refine vm rfl rfl ?_
 refine vm rfl rfl ?_
 refine vn rfl rfl ?_
 refine simL_do (re_store 0 rfl rfl rfl Tryd.sizeOf3 rfl rfl (one_of (by rfl)) rfl rfl) rfl rfl ?_
 intro _
 refine simL_ent (H' := [obj b23v 54 [.int .i64 s58v.1, .int .i64 s87v.1, .int .i64 0, .int .i64 0, .int .i64 s116v.1, .int .i64 s145v.1, .int .i64 s174v.1, .int .i64 s203v.1, .int .i64 s232v.1, .int .i64 s261v.1, .int .i64 s290v.1, .int .i64 s319v.1, .int .i64 s348v.1, .int .i64 s377v.1, .int .i64 s406v.1, .int .i64 s435v.1, .int .i64 0, .int .i64 0, .int .i64 0], obj b24v 3 [.int .i64 0], obj b1v 54 [.int .i64 0, .int .i64 0, .int .i64 0, .int .i64 0, .int .i64 0, .int .i64 0, .int .i64 0, .int .i64 0, .int .i64 0, .int .i64 0, .int .i64 0, .int .i64 0, .int .i64 0, .int .i64 0, .int .i64 0, .int .i64 0, .int .i64 0, .int .i64 0, .int .i64 0], RowV 9 1 (V9 tt) y4v.1 s2v.1 y4v.2, RowV 115 1 (V115 tt) y32v.1 (([(b23v, 0), (b23v, 1), (b23v, 4), (b23v, 5), (b23v, 6), (b23v, 7), (b23v, 8), (b23v, 9), (b23v, 10), (b23v, 11), (b23v, 12), (b23v, 13), (b23v, 14), (b23v, 15), (b23v, 16), (b23v, 17), (b23v, 18)] : List ((Nat × Nat))) ++ ([(b24v, 0)] : List ((Nat × Nat)))) y32v.2, F]) (Ent.refl _) ?_
 refine simL_nil (nrm_block (nrm_then (sim_region ?_)))
 refine vq (q_add rfl rfl rfl) rfl ?_
 refine vm rfl rfl (simL_nil ?_)
 refine nrm_rnd (rnd_succ ?_)
 refine sr ?_
 refine vq (q_lss rfl rfl rfl) rfl (simL_nil (nrm_then (sim_seq ?_)))
 refine sim_true rfl ?_
 refine sim_skip ?_
 refine nrm_then (sim_seq ?_)
 refine sim_block ?_
 refine sr ?_
 refine vm rfl rfl ?_
 refine simL_openV 4 rfl (fun rs452v hl453v => ?_)
 have hi444v : (0 : Int) ≤ (14 : Int) ∧ (14 : Int) < ((([(b23v, 0), (b23v, 1), (b23v, 4), (b23v, 5), (b23v, 6), (b23v, 7), (b23v, 8), (b23v, 9), (b23v, 10), (b23v, 11), (b23v, 12), (b23v, 13), (b23v, 14), (b23v, 15), (b23v, 16), (b23v, 17), (b23v, 18)] : List ((Nat × Nat))) ++ ([(b24v, 0)] : List ((Nat × Nat)))).length : Int) := ⟨by decide, (show (14 : Int) < ((18 : Nat) : Int) by decide)⟩
 refine simL_posV 4 rfl hl453v rfl (i := (14 : Int).toNat) (by omega) ((0, 0) : Nat × Nat) (fun b445v b445vo r448v ha446v hV449v hlr450v hcell451v => ?_)
 obtain rfl := hV449v
 refine vq (q_idx rfl rfl rfl ha446v Tryd.underlying120 Tryd.sizeOf115 hi444v.1 hi444v.2) rfl ?_
 refine vq (rq_cast (v' := .pointer (some ⟨b23v, 16, none⟩)) rfl (q_load rfl rfl Tryd.isAgg115 (hcell451v 4 rfl 0 _ rfl))) rfl ?_
 refine va rfl rfl ?_
 refine va rfl rfl (nx ?_)
 refine vm rfl rfl ?_
 refine vm rfl rfl ?_
 refine vq (q_add rfl rfl rfl) rfl ?_
 refine simL_openV 3 rfl (fun rs462v hl463v => ?_)
 refine simL_ask (fun hi454v => ?_)
 refine simL_posV 3 rfl hl463v rfl (i := (15 : Int).toNat) (by omega) ([] : List UInt8) (fun b455v b455vo r458v ha456v hV459v hlr460v hcell461v => ?_)
 obtain rfl := hV459v
 refine vq (q_idx rfl rfl rfl ha456v Tryd.underlying23 Tryd.sizeOf9 hi454v.1 hi454v.2) rfl ?_
 refine vq (q_load rfl rfl Tryd.isAgg9 (hcell461v 3 rfl 0 _ rfl)) rfl ?_
 refine simL_bind (fun s464v hs465v => ?_)
 refine simL_eff (re_call (vs := [str (s2v.1.getD (15 : Int).toNat ([] : List UInt8))]) (cap := []) (A := []) (rst := [obj b23v 54 [.int .i64 s58v.1, .int .i64 s87v.1, .int .i64 0, .int .i64 0, .int .i64 s116v.1, .int .i64 s145v.1, .int .i64 s174v.1, .int .i64 s203v.1, .int .i64 s232v.1, .int .i64 s261v.1, .int .i64 s290v.1, .int .i64 s319v.1, .int .i64 s348v.1, .int .i64 s377v.1, .int .i64 s406v.1, .int .i64 s435v.1, .int .i64 0, .int .i64 0, .int .i64 0], obj b24v 3 [.int .i64 0], obj b1v 54 [.int .i64 0, .int .i64 0, .int .i64 0, .int .i64 0, .int .i64 0, .int .i64 0, .int .i64 0, .int .i64 0, .int .i64 0, .int .i64 0, .int .i64 0, .int .i64 0, .int .i64 0, .int .i64 0, .int .i64 0, .int .i64 0, .int .i64 0, .int .i64 0, .int .i64 0], Row 9 1 y4v.1 s2v.1.length y4v.2 rs462v.flatten, Row 115 1 y32v.1 (([(b23v, 0), (b23v, 1), (b23v, 4), (b23v, 5), (b23v, 6), (b23v, 7), (b23v, 8), (b23v, 9), (b23v, 10), (b23v, 11), (b23v, 12), (b23v, 13), (b23v, 14), (b23v, 15), (b23v, 16), (b23v, 17), (b23v, 18)] : List ((Nat × Nat))) ++ ([(b24v, 0)] : List ((Nat × Nat)))).length y32v.2 rs452v.flatten, F]) rfl rfl rfl rfl rfl rfl Tryd.call55 (.sel 0 rfl (.sel 0 rfl (.sel 0 rfl (.sel 0 rfl (.sel 0 rfl (.sel 0 rfl (.nil _))))))) (text_number.calls _ _ (s2v.1.getD (15 : Int).toNat ([] : List UInt8)) (hgl.lend 5 rfl)) hs465v) rfl rfl rfl ?_
 intro y466v
 refine vm rfl rfl ?_
 refine vq (q_ext rfl rfl rfl) rfl ?_
 refine vq (q_ext rfl rfl rfl) rfl ?_
 refine va rfl rfl ?_
 refine va rfl rfl (simL_nil (nrm_then (sim_seq (sr ?_))))
 refine vm rfl rfl ?_
 refine vq (q_not rfl rfl) rfl ?_
 refine vm rfl rfl ?_
 refine simL_cut' 7 (S := Bool) (Unit) (fun s y => [(2, .pointer (some ⟨b1v, 0, none⟩)), (4, .slice y4v.1 s2v.1.length y4v.2), (6, .pointer (some ⟨b23v, 0, none⟩)), (7, .pointer (some ⟨b24v, 0, none⟩)), (10, .pointer (some ⟨b23v, 16, none⟩)), (11, .int .i64 s464v.1), (43, .slice y32v.1 ((([(b23v, 0), (b23v, 1), (b23v, 4), (b23v, 5), (b23v, 6), (b23v, 7), (b23v, 8), (b23v, 9), (b23v, 10), (b23v, 11), (b23v, 12), (b23v, 13), (b23v, 14), (b23v, 15), (b23v, 16), (b23v, 17), (b23v, 18)] : List ((Nat × Nat))) ++ ([(b24v, 0)] : List ((Nat × Nat)))).length) y32v.2), (44, .int .i64 18), (45, .int .i64 14), (65, undef), (66, undef), (68, .bool s)]) (fun s y => [obj b23v 54 [.int .i64 s58v.1, .int .i64 s87v.1, .int .i64 0, .int .i64 0, .int .i64 s116v.1, .int .i64 s145v.1, .int .i64 s174v.1, .int .i64 s203v.1, .int .i64 s232v.1, .int .i64 s261v.1, .int .i64 s290v.1, .int .i64 s319v.1, .int .i64 s348v.1, .int .i64 s377v.1, .int .i64 s406v.1, .int .i64 s435v.1, .int .i64 0, .int .i64 0, .int .i64 0], obj b24v 3 [.int .i64 0], obj b1v 54 [.int .i64 0, .int .i64 0, .int .i64 0, .int .i64 0, .int .i64 0, .int .i64 0, .int .i64 0, .int .i64 0, .int .i64 0, .int .i64 0, .int .i64 0, .int .i64 0, .int .i64 0, .int .i64 0, .int .i64 0, .int .i64 0, .int .i64 0, .int .i64 0, .int .i64 0], RowV 9 1 (V9 tt) y4v.1 s2v.1 y4v.2, RowV 115 1 (V115 tt) y32v.1 (([(b23v, 0), (b23v, 1), (b23v, 4), (b23v, 5), (b23v, 6), (b23v, 7), (b23v, 8), (b23v, 9), (b23v, 10), (b23v, 11), (b23v, 12), (b23v, 13), (b23v, 14), (b23v, 15), (b23v, 16), (b23v, 17), (b23v, 18)] : List ((Nat × Nat))) ++ ([(b24v, 0)] : List ((Nat × Nat)))) y32v.2, F]) ?_ ?_
 refine simL_caseb (fun hb469v => ?_) (fun hb470v => ?_)
 rw [hb469v]
 refine simL_skipd rfl rfl rfl rfl rfl rfl ?_
 refine simL_skipd rfl rfl rfl rfl rfl rfl ?_
 refine simL_skipd rfl rfl rfl rfl rfl rfl ?_
 refine simL_skipu rfl rfl rfl rfl rfl ?_
 refine simL_skipu rfl rfl rfl rfl rfl ?_
 refine simL_skipd rfl rfl rfl rfl rfl rfl ?_
 refine vq (q_pick rfl rfl rfl rfl rfl) rfl (simL_nil ?_)
 exact nrm_cut (s := true) () ⟨rfl, rfl, rfl, rfl, rfl, rfl, rfl, rfl, rfl, rfl, rfl, rfl, trivial⟩ (.sel 0 rfl (.sel 0 rfl (.sel 0 rfl (.sel' 0 rfl (RowV.mk hl463v) (.sel' 0 rfl (RowV.mk hl453v) (.sel 0 rfl (.nil _)))))))
 rw [hb470v]
 refine simL_valg (q_move rfl rfl) rfl rfl rfl rfl rfl rfl ?_
 refine simL_valg (q_eqpp 0 1 (.inl rfl) rfl rfl rfl rfl rfl Tryd.underlying115 Tryd.sizeOf3) rfl rfl rfl rfl rfl rfl ?_
 refine simL_valg (q_move rfl rfl) rfl rfl rfl rfl rfl rfl ?_
 refine simL_skipd rfl rfl rfl rfl rfl rfl ?_
 refine simL_skipd rfl rfl rfl rfl rfl rfl ?_
 refine simL_valg (q_pick rfl rfl rfl rfl rfl) rfl rfl rfl rfl rfl rfl ?_
 refine vq (q_pick rfl rfl rfl rfl rfl) rfl (simL_nil ?_)
 exact nrm_cut (s := false) () ⟨rfl, rfl, rfl, rfl, rfl, rfl, rfl, rfl, rfl, rfl, rfl, rfl, trivial⟩ (.sel 0 rfl (.sel 0 rfl (.sel 0 rfl (.sel' 0 rfl (RowV.mk hl463v) (.sel' 0 rfl (RowV.mk hl453v) (.sel 0 rfl (.nil _)))))))
 intro s467v y468v
 refine simL_nil (nrm_then ?_)
 refine sim_condb rfl (fun h471v => ?_) (fun h472v => ?_)
 refine sr ?_
 refine vq (q_build (v := .agg #[.int .i64 0, .int .i64 0, .int .i64 0, .int .i64 0, .int .i64 0, .int .i64 0, .int .i64 0, .int .i64 0, .int .i64 0, .int .i64 0, .int .i64 0, .int .i64 0, .int .i64 0, .int .i64 0, .int .i64 0, .int .i64 0, .int .i64 0, .int .i64 0, .int .i64 0]) rfl rfl (fun _ => by kernel_rfl)) rfl ?_
 refine simL_do (re_store 2 rfl rfl rfl Tryd.sizeOf54 rfl rfl (one_of (by rfl)) rfl rfl) rfl rfl ?_
 intro _
 refine simL_ent (H' := [obj b23v 54 [.int .i64 s58v.1, .int .i64 s87v.1, .int .i64 0, .int .i64 0, .int .i64 s116v.1, .int .i64 s145v.1, .int .i64 s174v.1, .int .i64 s203v.1, .int .i64 s232v.1, .int .i64 s261v.1, .int .i64 s290v.1, .int .i64 s319v.1, .int .i64 s348v.1, .int .i64 s377v.1, .int .i64 s406v.1, .int .i64 s435v.1, .int .i64 0, .int .i64 0, .int .i64 0], obj b24v 3 [.int .i64 0], obj b1v 54 [.int .i64 0, .int .i64 0, .int .i64 0, .int .i64 0, .int .i64 0, .int .i64 0, .int .i64 0, .int .i64 0, .int .i64 0, .int .i64 0, .int .i64 0, .int .i64 0, .int .i64 0, .int .i64 0, .int .i64 0, .int .i64 0, .int .i64 0, .int .i64 0, .int .i64 0], RowV 9 1 (V9 tt) y4v.1 s2v.1 y4v.2, RowV 115 1 (V115 tt) y32v.1 (([(b23v, 0), (b23v, 1), (b23v, 4), (b23v, 5), (b23v, 6), (b23v, 7), (b23v, 8), (b23v, 9), (b23v, 10), (b23v, 11), (b23v, 12), (b23v, 13), (b23v, 14), (b23v, 15), (b23v, 16), (b23v, 17), (b23v, 18)] : List ((Nat × Nat))) ++ ([(b24v, 0)] : List ((Nat × Nat)))) y32v.2, F]) (Ent.refl _) ?_
 refine va rfl rfl (simL_nil (nrm_then (sim_rtn ?_)))
 refine rtn_then ?_
 refine rtn_block ?_
 refine rtn_then ?_
 refine rtn_rnd ?_
 refine rtn_block ?_
 refine rtn_then ?_
 exact rtn_fnC (vs := [.agg #[.int .i64 0, .int .i64 0, .int .i64 0, .int .i64 0, .int .i64 0, .int .i64 0, .int .i64 0, .int .i64 0, .int .i64 0, .int .i64 0, .int .i64 0, .int .i64 0, .int .i64 0, .int .i64 0, .int .i64 0, .int .i64 0, .int .i64 0, .int .i64 0, .int .i64 0], .int .i64 22]) () rfl ⟨⟨b1v, rfl, load_agg 2 Tryd.isAgg54 Tryd.sizeOf54 rfl rfl⟩, rfl, trivial⟩ rfl (.sel 5 rfl (.nil _))
 refine sim_skip ?_
 refine nrm_then (sim_region ?_)
 refine vm rfl rfl ?_
 refine vm rfl rfl ?_
 refine vn rfl rfl ?_
 refine simL_do (re_store 0 rfl rfl rfl Tryd.sizeOf3 rfl rfl (one_of (by rfl)) rfl rfl) rfl rfl ?_
 intro _
 refine simL_ent (H' := [obj b23v 54 [.int .i64 s58v.1, .int .i64 s87v.1, .int .i64 0, .int .i64 0, .int .i64 s116v.1, .int .i64 s145v.1, .int .i64 s174v.1, .int .i64 s203v.1, .int .i64 s232v.1, .int .i64 s261v.1, .int .i64 s290v.1, .int .i64 s319v.1, .int .i64 s348v.1, .int .i64 s377v.1, .int .i64 s406v.1, .int .i64 s435v.1, .int .i64 s464v.1, .int .i64 0, .int .i64 0], obj b24v 3 [.int .i64 0], obj b1v 54 [.int .i64 0, .int .i64 0, .int .i64 0, .int .i64 0, .int .i64 0, .int .i64 0, .int .i64 0, .int .i64 0, .int .i64 0, .int .i64 0, .int .i64 0, .int .i64 0, .int .i64 0, .int .i64 0, .int .i64 0, .int .i64 0, .int .i64 0, .int .i64 0, .int .i64 0], RowV 9 1 (V9 tt) y4v.1 s2v.1 y4v.2, RowV 115 1 (V115 tt) y32v.1 (([(b23v, 0), (b23v, 1), (b23v, 4), (b23v, 5), (b23v, 6), (b23v, 7), (b23v, 8), (b23v, 9), (b23v, 10), (b23v, 11), (b23v, 12), (b23v, 13), (b23v, 14), (b23v, 15), (b23v, 16), (b23v, 17), (b23v, 18)] : List ((Nat × Nat))) ++ ([(b24v, 0)] : List ((Nat × Nat)))) y32v.2, F]) (Ent.refl _) ?_
 refine simL_nil (nrm_block (nrm_then (sim_region ?_)))
 refine vq (q_add rfl rfl rfl) rfl ?_
 refine vm rfl rfl (simL_nil ?_)
 refine nrm_rnd (rnd_succ ?_)
 refine sr ?_
 refine vq (q_lss rfl rfl rfl) rfl (simL_nil (nrm_then (sim_seq ?_)))
 refine sim_true rfl ?_
 refine sim_skip ?_
 refine nrm_then (sim_seq ?_)
 refine sim_block ?_
 refine sr ?_
 refine vm rfl rfl ?_
 refine simL_openV 4 rfl (fun rs481v hl482v => ?_)
 have hi473v : (0 : Int) ≤ (15 : Int) ∧ (15 : Int) < ((([(b23v, 0), (b23v, 1), (b23v, 4), (b23v, 5), (b23v, 6), (b23v, 7), (b23v, 8), (b23v, 9), (b23v, 10), (b23v, 11), (b23v, 12), (b23v, 13), (b23v, 14), (b23v, 15), (b23v, 16), (b23v, 17), (b23v, 18)] : List ((Nat × Nat))) ++ ([(b24v, 0)] : List ((Nat × Nat)))).length : Int) := ⟨by decide, (show (15 : Int) < ((18 : Nat) : Int) by decide)⟩
 refine simL_posV 4 rfl hl482v rfl (i := (15 : Int).toNat) (by omega) ((0, 0) : Nat × Nat) (fun b474v b474vo r477v ha475v hV478v hlr479v hcell480v => ?_)
 obtain rfl := hV478v
 refine vq (q_idx rfl rfl rfl ha475v Tryd.underlying120 Tryd.sizeOf115 hi473v.1 hi473v.2) rfl ?_
 refine vq (rq_cast (v' := .pointer (some ⟨b23v, 17, none⟩)) rfl (q_load rfl rfl Tryd.isAgg115 (hcell480v 4 rfl 0 _ rfl))) rfl ?_
 refine va rfl rfl ?_
 refine va rfl rfl (nx ?_)
 refine vm rfl rfl ?_
 refine vm rfl rfl ?_
 refine vq (q_add rfl rfl rfl) rfl ?_
 refine simL_openV 3 rfl (fun rs491v hl492v => ?_)
 refine simL_ask (fun hi483v => ?_)
 refine simL_posV 3 rfl hl492v rfl (i := (16 : Int).toNat) (by omega) ([] : List UInt8) (fun b484v b484vo r487v ha485v hV488v hlr489v hcell490v => ?_)
 obtain rfl := hV488v
 refine vq (q_idx rfl rfl rfl ha485v Tryd.underlying23 Tryd.sizeOf9 hi483v.1 hi483v.2) rfl ?_
 refine vq (q_load rfl rfl Tryd.isAgg9 (hcell490v 3 rfl 0 _ rfl)) rfl ?_
 refine simL_bind (fun s493v hs494v => ?_)
 refine simL_eff (re_call (vs := [str (s2v.1.getD (16 : Int).toNat ([] : List UInt8))]) (cap := []) (A := []) (rst := [obj b23v 54 [.int .i64 s58v.1, .int .i64 s87v.1, .int .i64 0, .int .i64 0, .int .i64 s116v.1, .int .i64 s145v.1, .int .i64 s174v.1, .int .i64 s203v.1, .int .i64 s232v.1, .int .i64 s261v.1, .int .i64 s290v.1, .int .i64 s319v.1, .int .i64 s348v.1, .int .i64 s377v.1, .int .i64 s406v.1, .int .i64 s435v.1, .int .i64 s464v.1, .int .i64 0, .int .i64 0], obj b24v 3 [.int .i64 0], obj b1v 54 [.int .i64 0, .int .i64 0, .int .i64 0, .int .i64 0, .int .i64 0, .int .i64 0, .int .i64 0, .int .i64 0, .int .i64 0, .int .i64 0, .int .i64 0, .int .i64 0, .int .i64 0, .int .i64 0, .int .i64 0, .int .i64 0, .int .i64 0, .int .i64 0, .int .i64 0], Row 9 1 y4v.1 s2v.1.length y4v.2 rs491v.flatten, Row 115 1 y32v.1 (([(b23v, 0), (b23v, 1), (b23v, 4), (b23v, 5), (b23v, 6), (b23v, 7), (b23v, 8), (b23v, 9), (b23v, 10), (b23v, 11), (b23v, 12), (b23v, 13), (b23v, 14), (b23v, 15), (b23v, 16), (b23v, 17), (b23v, 18)] : List ((Nat × Nat))) ++ ([(b24v, 0)] : List ((Nat × Nat)))).length y32v.2 rs481v.flatten, F]) rfl rfl rfl rfl rfl rfl Tryd.call55 (.sel 0 rfl (.sel 0 rfl (.sel 0 rfl (.sel 0 rfl (.sel 0 rfl (.sel 0 rfl (.nil _))))))) (text_number.calls _ _ (s2v.1.getD (16 : Int).toNat ([] : List UInt8)) (hgl.lend 5 rfl)) hs494v) rfl rfl rfl ?_
 intro y495v
 refine vm rfl rfl ?_
 refine vq (q_ext rfl rfl rfl) rfl ?_
 refine vq (q_ext rfl rfl rfl) rfl ?_
 refine va rfl rfl ?_
 refine va rfl rfl (simL_nil (nrm_then (sim_seq (sr ?_))))
 refine vm rfl rfl ?_
 refine vq (q_not rfl rfl) rfl ?_
 refine vm rfl rfl ?_
 refine simL_cut' 7 (S := Bool) (Unit) (fun s y => [(2, .pointer (some ⟨b1v, 0, none⟩)), (4, .slice y4v.1 s2v.1.length y4v.2), (6, .pointer (some ⟨b23v, 0, none⟩)), (7, .pointer (some ⟨b24v, 0, none⟩)), (10, .pointer (some ⟨b23v, 17, none⟩)), (11, .int .i64 s493v.1), (43, .slice y32v.1 ((([(b23v, 0), (b23v, 1), (b23v, 4), (b23v, 5), (b23v, 6), (b23v, 7), (b23v, 8), (b23v, 9), (b23v, 10), (b23v, 11), (b23v, 12), (b23v, 13), (b23v, 14), (b23v, 15), (b23v, 16), (b23v, 17), (b23v, 18)] : List ((Nat × Nat))) ++ ([(b24v, 0)] : List ((Nat × Nat)))).length) y32v.2), (44, .int .i64 18), (45, .int .i64 15), (65, undef), (66, undef), (68, .bool s)]) (fun s y => [obj b23v 54 [.int .i64 s58v.1, .int .i64 s87v.1, .int .i64 0, .int .i64 0, .int .i64 s116v.1, .int .i64 s145v.1, .int .i64 s174v.1, .int .i64 s203v.1, .int .i64 s232v.1, .int .i64 s261v.1, .int .i64 s290v.1, .int .i64 s319v.1, .int .i64 s348v.1, .int .i64 s377v.1, .int .i64 s406v.1, .int .i64 s435v.1, .int .i64 s464v.1, .int .i64 0, .int .i64 0], obj b24v 3 [.int .i64 0], obj b1v 54 [.int .i64 0, .int .i64 0, .int .i64 0, .int .i64 0, .int .i64 0, .int .i64 0, .int .i64 0, .int .i64 0, .int .i64 0, .int .i64 0, .int .i64 0, .int .i64 0, .int .i64 0, .int .i64 0, .int .i64 0, .int .i64 0, .int .i64 0, .int .i64 0, .int .i64 0], RowV 9 1 (V9 tt) y4v.1 s2v.1 y4v.2, RowV 115 1 (V115 tt) y32v.1 (([(b23v, 0), (b23v, 1), (b23v, 4), (b23v, 5), (b23v, 6), (b23v, 7), (b23v, 8), (b23v, 9), (b23v, 10), (b23v, 11), (b23v, 12), (b23v, 13), (b23v, 14), (b23v, 15), (b23v, 16), (b23v, 17), (b23v, 18)] : List ((Nat × Nat))) ++ ([(b24v, 0)] : List ((Nat × Nat)))) y32v.2, F]) ?_ ?_
 refine simL_caseb (fun hb498v => ?_) (fun hb499v => ?_)
 rw [hb498v]
 refine simL_skipd rfl rfl rfl rfl rfl rfl ?_
 refine simL_skipd rfl rfl rfl rfl rfl rfl ?_
 refine simL_skipd rfl rfl rfl rfl rfl rfl ?_
 refine simL_skipu rfl rfl rfl rfl rfl ?_
 refine simL_skipu rfl rfl rfl rfl rfl ?_
 refine simL_skipd rfl rfl rfl rfl rfl rfl ?_
 refine vq (q_pick rfl rfl rfl rfl rfl) rfl (simL_nil ?_)
 exact nrm_cut (s := true) () ⟨rfl, rfl, rfl, rfl, rfl, rfl, rfl, rfl, rfl, rfl, rfl, rfl, trivial⟩ (.sel 0 rfl (.sel 0 rfl (.sel 0 rfl (.sel' 0 rfl (RowV.mk hl492v) (.sel' 0 rfl (RowV.mk hl482v) (.sel 0 rfl (.nil _)))))))
 rw [hb499v]
 refine simL_valg (q_move rfl rfl) rfl rfl rfl rfl rfl rfl ?_
 refine simL_valg (q_eqpp 0 1 (.inl rfl) rfl rfl rfl rfl rfl Tryd.underlying115 Tryd.sizeOf3) rfl rfl rfl rfl rfl rfl ?_
 refine simL_valg (q_move rfl rfl) rfl rfl rfl rfl rfl rfl ?_
 refine simL_skipd rfl rfl rfl rfl rfl rfl ?_
 refine simL_skipd rfl rfl rfl rfl rfl rfl ?_
 refine simL_valg (q_pick rfl rfl rfl rfl rfl) rfl rfl rfl rfl rfl rfl ?_
 refine vq (q_pick rfl rfl rfl rfl rfl) rfl (simL_nil ?_)
 exact nrm_cut (s := false) () ⟨rfl, rfl, rfl, rfl, rfl, rfl, rfl, rfl, rfl, rfl, rfl, rfl, trivial⟩ (.sel 0 rfl (.sel 0 rfl (.sel 0 rfl (.sel' 0 rfl (RowV.mk hl492v) (.sel' 0 rfl (RowV.mk hl482v) (.sel 0 rfl (.nil _)))))))
 intro s496v y497v
 refine simL_nil (nrm_then ?_)
 refine sim_condb rfl (fun h500v => ?_) (fun h501v => ?_)
 refine sr ?_
 refine vq (q_build (v := .agg #[.int .i64 0, .int .i64 0, .int .i64 0, .int .i64 0, .int .i64 0, .int .i64 0, .int .i64 0, .int .i64 0, .int .i64 0, .int .i64 0, .int .i64 0, .int .i64 0, .int .i64 0, .int .i64 0, .int .i64 0, .int .i64 0, .int .i64 0, .int .i64 0, .int .i64 0]) rfl rfl (fun _ => by kernel_rfl)) rfl ?_
 refine simL_do (re_store 2 rfl rfl rfl Tryd.sizeOf54 rfl rfl (one_of (by rfl)) rfl rfl) rfl rfl ?_
 intro _
 refine simL_ent (H' := [obj b23v 54 [.int .i64 s58v.1, .int .i64 s87v.1, .int .i64 0, .int .i64 0, .int .i64 s116v.1, .int .i64 s145v.1, .int .i64 s174v.1, .int .i64 s203v.1, .int .i64 s232v.1, .int .i64 s261v.1, .int .i64 s290v.1, .int .i64 s319v.1, .int .i64 s348v.1, .int .i64 s377v.1, .int .i64 s406v.1, .int .i64 s435v.1, .int .i64 s464v.1, .int .i64 0, .int .i64 0], obj b24v 3 [.int .i64 0], obj b1v 54 [.int .i64 0, .int .i64 0, .int .i64 0, .int .i64 0, .int .i64 0, .int .i64 0, .int .i64 0, .int .i64 0, .int .i64 0, .int .i64 0, .int .i64 0, .int .i64 0, .int .i64 0, .int .i64 0, .int .i64 0, .int .i64 0, .int .i64 0, .int .i64 0, .int .i64 0], RowV 9 1 (V9 tt) y4v.1 s2v.1 y4v.2, RowV 115 1 (V115 tt) y32v.1 (([(b23v, 0), (b23v, 1), (b23v, 4), (b23v, 5), (b23v, 6), (b23v, 7), (b23v, 8), (b23v, 9), (b23v, 10), (b23v, 11), (b23v, 12), (b23v, 13), (b23v, 14), (b23v, 15), (b23v, 16), (b23v, 17), (b23v, 18)] : List ((Nat × Nat))) ++ ([(b24v, 0)] : List ((Nat × Nat)))) y32v.2, F]) (Ent.refl _) ?_
 refine va rfl rfl (simL_nil (nrm_then (sim_rtn ?_)))
 refine rtn_then ?_
 refine rtn_block ?_
 refine rtn_then ?_
 refine rtn_rnd ?_
 refine rtn_block ?_
 refine rtn_then ?_
 exact rtn_fnC (vs := [.agg #[.int .i64 0, .int .i64 0, .int .i64 0, .int .i64 0, .int .i64 0, .int .i64 0, .int .i64 0, .int .i64 0, .int .i64 0, .int .i64 0, .int .i64 0, .int .i64 0, .int .i64 0, .int .i64 0, .int .i64 0, .int .i64 0, .int .i64 0, .int .i64 0, .int .i64 0], .int .i64 22]) () rfl ⟨⟨b1v, rfl, load_agg 2 Tryd.isAgg54 Tryd.sizeOf54 rfl rfl⟩, rfl, trivial⟩ rfl (.sel 5 rfl (.nil _))
 refine sim_skip ?_
 refine nrm_then (sim_region ?_)
 refine vm rfl rfl ?_
 refine vm rfl rfl ?_
 refine vn rfl rfl ?_
 refine simL_do (re_store 0 rfl rfl rfl Tryd.sizeOf3 rfl rfl (one_of (by rfl)) rfl rfl) rfl rfl ?_
 intro _
 refine simL_ent (H' := [obj b23v 54 [.int .i64 s58v.1, .int .i64 s87v.1, .int .i64 0, .int .i64 0, .int .i64 s116v.1, .int .i64 s145v.1, .int .i64 s174v.1, .int .i64 s203v.1, .int .i64 s232v.1, .int .i64 s261v.1, .int .i64 s290v.1, .int .i64 s319v.1, .int .i64 s348v.1, .int .i64 s377v.1, .int .i64 s406v.1, .int .i64 s435v.1, .int .i64 s464v.1, .int .i64 s493v.1, .int .i64 0], obj b24v 3 [.int .i64 0], obj b1v 54 [.int .i64 0, .int .i64 0, .int .i64 0, .int .i64 0, .int .i64 0, .int .i64 0, .int .i64 0, .int .i64 0, .int .i64 0, .int .i64 0, .int .i64 0, .int .i64 0, .int .i64 0, .int .i64 0, .int .i64 0, .int .i64 0, .int .i64 0, .int .i64 0, .int .i64 0], RowV 9 1 (V9 tt) y4v.1 s2v.1 y4v.2, RowV 115 1 (V115 tt) y32v.1 (([(b23v, 0), (b23v, 1), (b23v, 4), (b23v, 5), (b23v, 6), (b23v, 7), (b23v, 8), (b23v, 9), (b23v, 10), (b23v, 11), (b23v, 12), (b23v, 13), (b23v, 14), (b23v, 15), (b23v, 16), (b23v, 17), (b23v, 18)] : List ((Nat × Nat))) ++ ([(b24v, 0)] : List ((Nat × Nat)))) y32v.2, F]) (Ent.refl _) ?_
 refine simL_nil (nrm_block (nrm_then (sim_region ?_)))
 refine vq (q_add rfl rfl rfl) rfl ?_
 refine vm rfl rfl (simL_nil ?_)
 refine nrm_rnd (rnd_succ ?_)
 refine sr ?_
 refine vq (q_lss rfl rfl rfl) rfl (simL_nil (nrm_then (sim_seq ?_)))
 refine sim_true rfl ?_
 refine sim_skip ?_
 refine nrm_then (sim_seq ?_)
 refine sim_block ?_
 refine sr ?_
 refine vm rfl rfl ?_
 refine simL_openV 4 rfl (fun rs510v hl511v => ?_)
 have hi502v : (0 : Int) ≤ (16 : Int) ∧ (16 : Int) < ((([(b23v, 0), (b23v, 1), (b23v, 4), (b23v, 5), (b23v, 6), (b23v, 7), (b23v, 8), (b23v, 9), (b23v, 10), (b23v, 11), (b23v, 12), (b23v, 13), (b23v, 14), (b23v, 15), (b23v, 16), (b23v, 17), (b23v, 18)] : List ((Nat × Nat))) ++ ([(b24v, 0)] : List ((Nat × Nat)))).length : Int) := ⟨by decide, (show (16 : Int) < ((18 : Nat) : Int) by decide)⟩
 refine simL_posV 4 rfl hl511v rfl (i := (16 : Int).toNat) (by omega) ((0, 0) : Nat × Nat) (fun b503v b503vo r506v ha504v hV507v hlr508v hcell509v => ?_)
 obtain rfl := hV507v
 refine vq (q_idx rfl rfl rfl ha504v Tryd.underlying120 Tryd.sizeOf115 hi502v.1 hi502v.2) rfl ?_
 refine vq (rq_cast (v' := .pointer (some ⟨b23v, 18, none⟩)) rfl (q_load rfl rfl Tryd.isAgg115 (hcell509v 4 rfl 0 _ rfl))) rfl ?_
 refine va rfl rfl ?_
 refine va rfl rfl (nx ?_)
 refine vm rfl rfl ?_
 refine vm rfl rfl ?_
 refine vq (q_add rfl rfl rfl) rfl ?_
 refine simL_openV 3 rfl (fun rs520v hl521v => ?_)
 refine simL_ask (fun hi512v => ?_)
 refine simL_posV 3 rfl hl521v rfl (i := (17 : Int).toNat) (by omega) ([] : List UInt8) (fun b513v b513vo r516v ha514v hV517v hlr518v hcell519v => ?_)
 obtain rfl := hV517v
 refine vq (q_idx rfl rfl rfl ha514v Tryd.underlying23 Tryd.sizeOf9 hi512v.1 hi512v.2) rfl ?_
 refine vq (q_load rfl rfl Tryd.isAgg9 (hcell519v 3 rfl 0 _ rfl)) rfl ?_
 refine simL_bind (fun s522v hs523v => ?_)
 refine simL_eff (re_call (vs := [str (s2v.1.getD (17 : Int).toNat ([] : List UInt8))]) (cap := []) (A := []) (rst := [obj b23v 54 [.int .i64 s58v.1, .int .i64 s87v.1, .int .i64 0, .int .i64 0, .int .i64 s116v.1, .int .i64 s145v.1, .int .i64 s174v.1, .int .i64 s203v.1, .int .i64 s232v.1, .int .i64 s261v.1, .int .i64 s290v.1, .int .i64 s319v.1, .int .i64 s348v.1, .int .i64 s377v.1, .int .i64 s406v.1, .int .i64 s435v.1, .int .i64 s464v.1, .int .i64 s493v.1, .int .i64 0], obj b24v 3 [.int .i64 0], obj b1v 54 [.int .i64 0, .int .i64 0, .int .i64 0, .int .i64 0, .int .i64 0, .int .i64 0, .int .i64 0, .int .i64 0, .int .i64 0, .int .i64 0, .int .i64 0, .int .i64 0, .int .i64 0, .int .i64 0, .int .i64 0, .int .i64 0, .int .i64 0, .int .i64 0, .int .i64 0], Row 9 1 y4v.1 s2v.1.length y4v.2 rs520v.flatten, Row 115 1 y32v.1 (([(b23v, 0), (b23v, 1), (b23v, 4), (b23v, 5), (b23v, 6), (b23v, 7), (b23v, 8), (b23v, 9), (b23v, 10), (b23v, 11), (b23v, 12), (b23v, 13), (b23v, 14), (b23v, 15), (b23v, 16), (b23v, 17), (b23v, 18)] : List ((Nat × Nat))) ++ ([(b24v, 0)] : List ((Nat × Nat)))).length y32v.2 rs510v.flatten, F]) rfl rfl rfl rfl rfl rfl Tryd.call55 (.sel 0 rfl (.sel 0 rfl (.sel 0 rfl (.sel 0 rfl (.sel 0 rfl (.sel 0 rfl (.nil _))))))) (text_number.calls _ _ (s2v.1.getD (17 : Int).toNat ([] : List UInt8)) (hgl.lend 5 rfl)) hs523v) rfl rfl rfl ?_
 intro y524v
 refine vm rfl rfl ?_
 refine vq (q_ext rfl rfl rfl) rfl ?_
 refine vq (q_ext rfl rfl rfl) rfl ?_
 refine va rfl rfl ?_
 refine va rfl rfl (simL_nil (nrm_then (sim_seq (sr ?_))))
 refine vm rfl rfl ?_
 refine vq (q_not rfl rfl) rfl ?_
 refine vm rfl rfl ?_
 refine simL_cut' 7 (S := Bool) (Unit) (fun s y => [(2, .pointer (some ⟨b1v, 0, none⟩)), (4, .slice y4v.1 s2v.1.length y4v.2), (6, .pointer (some ⟨b23v, 0, none⟩)), (7, .pointer (some ⟨b24v, 0, none⟩)), (10, .pointer (some ⟨b23v, 18, none⟩)), (11, .int .i64 s522v.1), (43, .slice y32v.1 ((([(b23v, 0), (b23v, 1), (b23v, 4), (b23v, 5), (b23v, 6), (b23v, 7), (b23v, 8), (b23v, 9), (b23v, 10), (b23v, 11), (b23v, 12), (b23v, 13), (b23v, 14), (b23v, 15), (b23v, 16), (b23v, 17), (b23v, 18)] : List ((Nat × Nat))) ++ ([(b24v, 0)] : List ((Nat × Nat)))).length) y32v.2), (44, .int .i64 18), (45, .int .i64 16), (65, undef), (66, undef), (68, .bool s)]) (fun s y => [obj b23v 54 [.int .i64 s58v.1, .int .i64 s87v.1, .int .i64 0, .int .i64 0, .int .i64 s116v.1, .int .i64 s145v.1, .int .i64 s174v.1, .int .i64 s203v.1, .int .i64 s232v.1, .int .i64 s261v.1, .int .i64 s290v.1, .int .i64 s319v.1, .int .i64 s348v.1, .int .i64 s377v.1, .int .i64 s406v.1, .int .i64 s435v.1, .int .i64 s464v.1, .int .i64 s493v.1, .int .i64 0], obj b24v 3 [.int .i64 0], obj b1v 54 [.int .i64 0, .int .i64 0, .int .i64 0, .int .i64 0, .int .i64 0, .int .i64 0, .int .i64 0, .int .i64 0, .int .i64 0, .int .i64 0, .int .i64 0, .int .i64 0, .int .i64 0, .int .i64 0, .int .i64 0, .int .i64 0, .int .i64 0, .int .i64 0, .int .i64 0], RowV 9 1 (V9 tt) y4v.1 s2v.1 y4v.2, RowV 115 1 (V115 tt) y32v.1 (([(b23v, 0), (b23v, 1), (b23v, 4), (b23v, 5), (b23v, 6), (b23v, 7), (b23v, 8), (b23v, 9), (b23v, 10), (b23v, 11), (b23v, 12), (b23v, 13), (b23v, 14), (b23v, 15), (b23v, 16), (b23v, 17), (b23v, 18)] : List ((Nat × Nat))) ++ ([(b24v, 0)] : List ((Nat × Nat)))) y32v.2, F]) ?_ ?_
 refine simL_caseb (fun hb527v => ?_) (fun hb528v => ?_)
 rw [hb527v]
 refine simL_skipd rfl rfl rfl rfl rfl rfl ?_
 refine simL_skipd rfl rfl rfl rfl rfl rfl ?_
 refine simL_skipd rfl rfl rfl rfl rfl rfl ?_
 refine simL_skipu rfl rfl rfl rfl rfl ?_
 refine simL_skipu rfl rfl rfl rfl rfl ?_
 refine simL_skipd rfl rfl rfl rfl rfl rfl ?_
 refine vq (q_pick rfl rfl rfl rfl rfl) rfl (simL_nil ?_)
 exact nrm_cut (s := true) () ⟨rfl, rfl, rfl, rfl, rfl, rfl, rfl, rfl, rfl, rfl, rfl, rfl, trivial⟩ (.sel 0 rfl (.sel 0 rfl (.sel 0 rfl (.sel' 0 rfl (RowV.mk hl521v) (.sel' 0 rfl (RowV.mk hl511v) (.sel 0 rfl (.nil _)))))))
 rw [hb528v]
 refine simL_valg (q_move rfl rfl) rfl rfl rfl rfl rfl rfl ?_
 refine simL_valg (q_eqpp 0 1 (.inl rfl) rfl rfl rfl rfl rfl Tryd.underlying115 Tryd.sizeOf3) rfl rfl rfl rfl rfl rfl ?_
 refine simL_valg (q_move rfl rfl) rfl rfl rfl rfl rfl rfl ?_
 refine simL_skipd rfl rfl rfl rfl rfl rfl ?_
 refine simL_skipd rfl rfl rfl rfl rfl rfl ?_
 refine simL_valg (q_pick rfl rfl rfl rfl rfl) rfl rfl rfl rfl rfl rfl ?_
 refine vq (q_pick rfl rfl rfl rfl rfl) rfl (simL_nil ?_)
 exact nrm_cut (s := false) () ⟨rfl, rfl, rfl, rfl, rfl, rfl, rfl, rfl, rfl, rfl, rfl, rfl, trivial⟩ (.sel 0 rfl (.sel 0 rfl (.sel 0 rfl (.sel' 0 rfl (RowV.mk hl521v) (.sel' 0 rfl (RowV.mk hl511v) (.sel 0 rfl (.nil _)))))))
 intro s525v y526v
 refine simL_nil (nrm_then ?_)
 refine sim_condb rfl (fun h529v => ?_) (fun h530v => ?_)
 refine sr ?_
 refine vq (q_build (v := .agg #[.int .i64 0, .int .i64 0, .int .i64 0, .int .i64 0, .int .i64 0, .int .i64 0, .int .i64 0, .int .i64 0, .int .i64 0, .int .i64 0, .int .i64 0, .int .i64 0, .int .i64 0, .int .i64 0, .int .i64 0, .int .i64 0, .int .i64 0, .int .i64 0, .int .i64 0]) rfl rfl (fun _ => by kernel_rfl)) rfl ?_
 refine simL_do (re_store 2 rfl rfl rfl Tryd.sizeOf54 rfl rfl (one_of (by rfl)) rfl rfl) rfl rfl ?_
 intro _
 refine simL_ent (H' := [obj b23v 54 [.int .i64 s58v.1, .int .i64 s87v.1, .int .i64 0, .int .i64 0, .int .i64 s116v.1, .int .i64 s145v.1, .int .i64 s174v.1, .int .i64 s203v.1, .int .i64 s232v.1, .int .i64 s261v.1, .int .i64 s290v.1, .int .i64 s319v.1, .int .i64 s348v.1, .int .i64 s377v.1, .int .i64 s406v.1, .int .i64 s435v.1, .int .i64 s464v.1, .int .i64 s493v.1, .int .i64 0], obj b24v 3 [.int .i64 0], obj b1v 54 [.int .i64 0, .int .i64 0, .int .i64 0, .int .i64 0, .int .i64 0, .int .i64 0, .int .i64 0, .int .i64 0, .int .i64 0, .int .i64 0, .int .i64 0, .int .i64 0, .int .i64 0, .int .i64 0, .int .i64 0, .int .i64 0, .int .i64 0, .int .i64 0, .int .i64 0], RowV 9 1 (V9 tt) y4v.1 s2v.1 y4v.2, RowV 115 1 (V115 tt) y32v.1 (([(b23v, 0), (b23v, 1), (b23v, 4), (b23v, 5), (b23v, 6), (b23v, 7), (b23v, 8), (b23v, 9), (b23v, 10), (b23v, 11), (b23v, 12), (b23v, 13), (b23v, 14), (b23v, 15), (b23v, 16), (b23v, 17), (b23v, 18)] : List ((Nat × Nat))) ++ ([(b24v, 0)] : List ((Nat × Nat)))) y32v.2, F]) (Ent.refl _) ?_
 refine va rfl rfl (simL_nil (nrm_then (sim_rtn ?_)))
 refine rtn_then ?_
 refine rtn_block ?_
 refine rtn_then ?_
 refine rtn_rnd ?_
 refine rtn_block ?_
 refine rtn_then ?_
 exact rtn_fnC (vs := [.agg #[.int .i64 0, .int .i64 0, .int .i64 0, .int .i64 0, .int .i64 0, .int .i64 0, .int .i64 0, .int .i64 0, .int .i64 0, .int .i64 0, .int .i64 0, .int .i64 0, .int .i64 0, .int .i64 0, .int .i64 0, .int .i64 0, .int .i64 0, .int .i64 0, .int .i64 0], .int .i64 22]) () rfl ⟨⟨b1v, rfl, load_agg 2 Tryd.isAgg54 Tryd.sizeOf54 rfl rfl⟩, rfl, trivial⟩ rfl (.sel 5 rfl (.nil _))
 refine sim_skip ?_
 refine nrm_then (sim_region ?_)
 refine vm rfl rfl ?_
 refine vm rfl rfl ?_
 refine vn rfl rfl ?_
 refine simL_do (re_store 0 rfl rfl rfl Tryd.sizeOf3 rfl rfl (one_of (by rfl)) rfl rfl) rfl rfl ?_
 intro _
 refine simL_ent (H' := [obj b23v 54 [.int .i64 s58v.1, .int .i64 s87v.1, .int .i64 0, .int .i64 0, .int .i64 s116v.1, .int .i64 s145v.1, .int .i64 s174v.1, .int .i64 s203v.1, .int .i64 s232v.1, .int .i64 s261v.1, .int .i64 s290v.1, .int .i64 s319v.1, .int .i64 s348v.1, .int .i64 s377v.1, .int .i64 s406v.1, .int .i64 s435v.1, .int .i64 s464v.1, .int .i64 s493v.1, .int .i64 s522v.1], obj b24v 3 [.int .i64 0], obj b1v 54 [.int .i64 0, .int .i64 0, .int .i64 0, .int .i64 0, .int .i64 0, .int .i64 0, .int .i64 0, .int .i64 0, .int .i64 0, .int .i64 0, .int .i64 0, .int .i64 0, .int .i64 0, .int .i64 0, .int .i64 0, .int .i64 0, .int .i64 0, .int .i64 0, .int .i64 0], RowV 9 1 (V9 tt) y4v.1 s2v.1 y4v.2, RowV 115 1 (V115 tt) y32v.1 (([(b23v, 0), (b23v, 1), (b23v, 4), (b23v, 5), (b23v, 6), (b23v, 7), (b23v, 8), (b23v, 9), (b23v, 10), (b23v, 11), (b23v, 12), (b23v, 13), (b23v, 14), (b23v, 15), (b23v, 16), (b23v, 17), (b23v, 18)] : List ((Nat × Nat))) ++ ([(b24v, 0)] : List ((Nat × Nat)))) y32v.2, F]) (Ent.refl _) ?_
 refine simL_nil (nrm_block (nrm_then (sim_region ?_)))
 refine vq (q_add rfl rfl rfl) rfl ?_
 refine vm rfl rfl (simL_nil ?_)
 refine nrm_rnd (rnd_succ ?_)
 refine sr ?_
 refine vq (q_lss rfl rfl rfl) rfl (simL_nil (nrm_then (sim_seq ?_)))
 refine sim_true rfl ?_
 refine sim_skip ?_
 refine nrm_then (sim_seq ?_)
 refine sim_block ?_
 refine sr ?_
 refine vm rfl rfl ?_
 refine simL_openV 4 rfl (fun rs539v hl540v => ?_)
 have hi531v : (0 : Int) ≤ (17 : Int) ∧ (17 : Int) < ((([(b23v, 0), (b23v, 1), (b23v, 4), (b23v, 5), (b23v, 6), (b23v, 7), (b23v, 8), (b23v, 9), (b23v, 10), (b23v, 11), (b23v, 12), (b23v, 13), (b23v, 14), (b23v, 15), (b23v, 16), (b23v, 17), (b23v, 18)] : List ((Nat × Nat))) ++ ([(b24v, 0)] : List ((Nat × Nat)))).length : Int) := ⟨by decide, (show (17 : Int) < ((18 : Nat) : Int) by decide)⟩
 refine simL_posV 4 rfl hl540v rfl (i := (17 : Int).toNat) (by omega) ((0, 0) : Nat × Nat) (fun b532v b532vo r535v ha533v hV536v hlr537v hcell538v => ?_)
 obtain rfl := hV536v
 refine vq (q_idx rfl rfl rfl ha533v Tryd.underlying120 Tryd.sizeOf115 hi531v.1 hi531v.2) rfl ?_
 refine vq (rq_cast (v' := .pointer (some ⟨b24v, 0, none⟩)) rfl (q_load rfl rfl Tryd.isAgg115 (hcell538v 4 rfl 0 _ rfl))) rfl ?_
 refine va rfl rfl ?_
 refine va rfl rfl (nx ?_)
 refine vm rfl rfl ?_
 refine vm rfl rfl ?_
 refine vq (q_add rfl rfl rfl) rfl ?_
 refine simL_openV 3 rfl (fun rs549v hl550v => ?_)
 refine simL_ask (fun hi541v => ?_)
 refine simL_posV 3 rfl hl550v rfl (i := (18 : Int).toNat) (by omega) ([] : List UInt8) (fun b542v b542vo r545v ha543v hV546v hlr547v hcell548v => ?_)
 obtain rfl := hV546v
 refine vq (q_idx rfl rfl rfl ha543v Tryd.underlying23 Tryd.sizeOf9 hi541v.1 hi541v.2) rfl ?_
 refine vq (q_load rfl rfl Tryd.isAgg9 (hcell548v 3 rfl 0 _ rfl)) rfl ?_
 refine simL_bind (fun s551v hs552v => ?_)
 refine simL_eff (re_call (vs := [str (s2v.1.getD (18 : Int).toNat ([] : List UInt8))]) (cap := []) (A := []) (rst := [obj b23v 54 [.int .i64 s58v.1, .int .i64 s87v.1, .int .i64 0, .int .i64 0, .int .i64 s116v.1, .int .i64 s145v.1, .int .i64 s174v.1, .int .i64 s203v.1, .int .i64 s232v.1, .int .i64 s261v.1, .int .i64 s290v.1, .int .i64 s319v.1, .int .i64 s348v.1, .int .i64 s377v.1, .int .i64 s406v.1, .int .i64 s435v.1, .int .i64 s464v.1, .int .i64 s493v.1, .int .i64 s522v.1], obj b24v 3 [.int .i64 0], obj b1v 54 [.int .i64 0, .int .i64 0, .int .i64 0, .int .i64 0, .int .i64 0, .int .i64 0, .int .i64 0, .int .i64 0, .int .i64 0, .int .i64 0, .int .i64 0, .int .i64 0, .int .i64 0, .int .i64 0, .int .i64 0, .int .i64 0, .int .i64 0, .int .i64 0, .int .i64 0], Row 9 1 y4v.1 s2v.1.length y4v.2 rs549v.flatten, Row 115 1 y32v.1 (([(b23v, 0), (b23v, 1), (b23v, 4), (b23v, 5), (b23v, 6), (b23v, 7), (b23v, 8), (b23v, 9), (b23v, 10), (b23v, 11), (b23v, 12), (b23v, 13), (b23v, 14), (b23v, 15), (b23v, 16), (b23v, 17), (b23v, 18)] : List ((Nat × Nat))) ++ ([(b24v, 0)] : List ((Nat × Nat)))).length y32v.2 rs539v.flatten, F]) rfl rfl rfl rfl rfl rfl Tryd.call55 (.sel 0 rfl (.sel 0 rfl (.sel 0 rfl (.sel 0 rfl (.sel 0 rfl (.sel 0 rfl (.nil _))))))) (text_number.calls _ _ (s2v.1.getD (18 : Int).toNat ([] : List UInt8)) (hgl.lend 5 rfl)) hs552v) rfl rfl rfl ?_
 intro y553v
 refine vm rfl rfl ?_
 refine vq (q_ext rfl rfl rfl) rfl ?_
 refine vq (q_ext rfl rfl rfl) rfl ?_
 refine va rfl rfl ?_
 refine va rfl rfl (simL_nil (nrm_then (sim_seq (sr ?_))))
 refine vm rfl rfl ?_
 refine vq (q_not rfl rfl) rfl ?_
 refine vm rfl rfl ?_
 refine simL_cut' 7 (S := Bool) (Unit) (fun s y => [(2, .pointer (some ⟨b1v, 0, none⟩)), (4, .slice y4v.1 s2v.1.length y4v.2), (6, .pointer (some ⟨b23v, 0, none⟩)), (7, .pointer (some ⟨b24v, 0, none⟩)), (10, .pointer (some ⟨b24v, 0, none⟩)), (11, .int .i64 s551v.1), (43, .slice y32v.1 ((([(b23v, 0), (b23v, 1), (b23v, 4), (b23v, 5), (b23v, 6), (b23v, 7), (b23v, 8), (b23v, 9), (b23v, 10), (b23v, 11), (b23v, 12), (b23v, 13), (b23v, 14), (b23v, 15), (b23v, 16), (b23v, 17), (b23v, 18)] : List ((Nat × Nat))) ++ ([(b24v, 0)] : List ((Nat × Nat)))).length) y32v.2), (44, .int .i64 18), (45, .int .i64 17), (68, .bool s)]) (fun s y => [obj b23v 54 [.int .i64 s58v.1, .int .i64 s87v.1, .int .i64 0, .int .i64 0, .int .i64 s116v.1, .int .i64 s145v.1, .int .i64 s174v.1, .int .i64 s203v.1, .int .i64 s232v.1, .int .i64 s261v.1, .int .i64 s290v.1, .int .i64 s319v.1, .int .i64 s348v.1, .int .i64 s377v.1, .int .i64 s406v.1, .int .i64 s435v.1, .int .i64 s464v.1, .int .i64 s493v.1, .int .i64 s522v.1], obj b24v 3 [.int .i64 0], obj b1v 54 [.int .i64 0, .int .i64 0, .int .i64 0, .int .i64 0, .int .i64 0, .int .i64 0, .int .i64 0, .int .i64 0, .int .i64 0, .int .i64 0, .int .i64 0, .int .i64 0, .int .i64 0, .int .i64 0, .int .i64 0, .int .i64 0, .int .i64 0, .int .i64 0, .int .i64 0], RowV 9 1 (V9 tt) y4v.1 s2v.1 y4v.2, RowV 115 1 (V115 tt) y32v.1 (([(b23v, 0), (b23v, 1), (b23v, 4), (b23v, 5), (b23v, 6), (b23v, 7), (b23v, 8), (b23v, 9), (b23v, 10), (b23v, 11), (b23v, 12), (b23v, 13), (b23v, 14), (b23v, 15), (b23v, 16), (b23v, 17), (b23v, 18)] : List ((Nat × Nat))) ++ ([(b24v, 0)] : List ((Nat × Nat)))) y32v.2, F]) ?_ ?_
 refine simL_caseb (fun hb556v => ?_) (fun hb557v => ?_)
 rw [hb556v]
 refine simL_skipd rfl rfl rfl rfl rfl rfl ?_
 refine simL_skipd rfl rfl rfl rfl rfl rfl ?_
 refine simL_skipd rfl rfl rfl rfl rfl rfl ?_
 refine simL_skipu rfl rfl rfl rfl rfl ?_
 refine simL_skipu rfl rfl rfl rfl rfl ?_
 refine simL_skipd rfl rfl rfl rfl rfl rfl ?_
 refine vq (q_pick rfl rfl rfl rfl rfl) rfl (simL_nil ?_)
 exact nrm_cut (s := true) () ⟨rfl, rfl, rfl, rfl, rfl, rfl, rfl, rfl, rfl, rfl, trivial⟩ (.sel 0 rfl (.sel 0 rfl (.sel 0 rfl (.sel' 0 rfl (RowV.mk hl550v) (.sel' 0 rfl (RowV.mk hl540v) (.sel 0 rfl (.nil _)))))))
 rw [hb557v]
 refine simL_valg (q_move rfl rfl) rfl rfl rfl rfl rfl rfl ?_
 refine simL_valg (q_eqpp_same rfl rfl rfl Tryd.underlying115 Tryd.sizeOf3) rfl rfl rfl rfl rfl rfl ?_
 refine simL_valg (q_move rfl rfl) rfl rfl rfl rfl rfl rfl ?_
 refine simL_valg (q_move rfl rfl) rfl rfl rfl rfl rfl rfl ?_
 refine simL_valg (q_neq rfl rfl rfl) rfl rfl rfl rfl rfl rfl ?_
 refine simL_valg (q_pick rfl rfl rfl rfl rfl) rfl rfl rfl rfl rfl rfl ?_
 refine vq (q_pick rfl rfl rfl rfl rfl) rfl (simL_nil ?_)
 exact nrm_cut (s := !decide (s551v.1 = (0 : Int))) () ⟨rfl, rfl, rfl, rfl, rfl, rfl, rfl, rfl, rfl, rfl, trivial⟩ (.sel 0 rfl (.sel 0 rfl (.sel 0 rfl (.sel' 0 rfl (RowV.mk hl550v) (.sel' 0 rfl (RowV.mk hl540v) (.sel 0 rfl (.nil _)))))))
 intro s554v y555v
 refine simL_nil (nrm_then ?_)
 refine sim_condb rfl (fun h558v => ?_) (fun h559v => ?_)
 refine sr ?_
 refine vq (q_build (v := .agg #[.int .i64 0, .int .i64 0, .int .i64 0, .int .i64 0, .int .i64 0, .int .i64 0, .int .i64 0, .int .i64 0, .int .i64 0, .int .i64 0, .int .i64 0, .int .i64 0, .int .i64 0, .int .i64 0, .int .i64 0, .int .i64 0, .int .i64 0, .int .i64 0, .int .i64 0]) rfl rfl (fun _ => by kernel_rfl)) rfl ?_
 refine simL_do (re_store 2 rfl rfl rfl Tryd.sizeOf54 rfl rfl (one_of (by rfl)) rfl rfl) rfl rfl ?_
 intro _
 refine simL_ent (H' := [obj b23v 54 [.int .i64 s58v.1, .int .i64 s87v.1, .int .i64 0, .int .i64 0, .int .i64 s116v.1, .int .i64 s145v.1, .int .i64 s174v.1, .int .i64 s203v.1, .int .i64 s232v.1, .int .i64 s261v.1, .int .i64 s290v.1, .int .i64 s319v.1, .int .i64 s348v.1, .int .i64 s377v.1, .int .i64 s406v.1, .int .i64 s435v.1, .int .i64 s464v.1, .int .i64 s493v.1, .int .i64 s522v.1], obj b24v 3 [.int .i64 0], obj b1v 54 [.int .i64 0, .int .i64 0, .int .i64 0, .int .i64 0, .int .i64 0, .int .i64 0, .int .i64 0, .int .i64 0, .int .i64 0, .int .i64 0, .int .i64 0, .int .i64 0, .int .i64 0, .int .i64 0, .int .i64 0, .int .i64 0, .int .i64 0, .int .i64 0, .int .i64 0], RowV 9 1 (V9 tt) y4v.1 s2v.1 y4v.2, RowV 115 1 (V115 tt) y32v.1 (([(b23v, 0), (b23v, 1), (b23v, 4), (b23v, 5), (b23v, 6), (b23v, 7), (b23v, 8), (b23v, 9), (b23v, 10), (b23v, 11), (b23v, 12), (b23v, 13), (b23v, 14), (b23v, 15), (b23v, 16), (b23v, 17), (b23v, 18)] : List ((Nat × Nat))) ++ ([(b24v, 0)] : List ((Nat × Nat)))) y32v.2, F]) (Ent.refl _) ?_
 refine va rfl rfl (simL_nil (nrm_then (sim_rtn ?_)))
 refine rtn_then ?_
 refine rtn_block ?_
 refine rtn_then ?_
 refine rtn_rnd ?_
 refine rtn_block ?_
 refine rtn_then ?_
 exact rtn_fnC (vs := [.agg #[.int .i64 0, .int .i64 0, .int .i64 0, .int .i64 0, .int .i64 0, .int .i64 0, .int .i64 0, .int .i64 0, .int .i64 0, .int .i64 0, .int .i64 0, .int .i64 0, .int .i64 0, .int .i64 0, .int .i64 0, .int .i64 0, .int .i64 0, .int .i64 0, .int .i64 0], .int .i64 22]) () rfl ⟨⟨b1v, rfl, load_agg 2 Tryd.isAgg54 Tryd.sizeOf54 rfl rfl⟩, rfl, trivial⟩ rfl (.sel 5 rfl (.nil _))
 refine sim_skip ?_
 refine nrm_then (sim_region ?_)
 refine vm rfl rfl ?_
 refine vm rfl rfl ?_
 refine vn rfl rfl ?_
 refine simL_do (re_store 1 rfl rfl rfl Tryd.sizeOf3 rfl rfl (one_of (by rfl)) rfl rfl) rfl rfl ?_
 intro _
 refine simL_nil (nrm_block (nrm_then (sim_region ?_)))
 refine vq (q_add rfl rfl rfl) rfl ?_
 refine vm rfl rfl (simL_nil ?_)
 refine nrm_rnd (rnd_succ ?_)
 refine sr ?_
 refine vq (q_lss rfl rfl rfl) rfl (simL_nil (nrm_then (sim_seq ?_)))
 refine sim_false rfl ?_
 refine sim_exi ?_
 refine exi_then ?_
 refine exi_rnd ?_
 refine exi_here ?_
 refine nrm_then (sr ?_)
 refine vq (q_loado 0 rfl rfl Tryd.isAgg54 Tryd.sizeOf54 rfl rfl) rfl ?_
 refine simL_do (re_store 2 rfl rfl rfl Tryd.sizeOf54 rfl rfl (one_of (by rfl)) rfl rfl) rfl rfl ?_
 intro _
 refine simL_ent (H' := [obj b23v 54 [.int .i64 s58v.1, .int .i64 s87v.1, .int .i64 0, .int .i64 0, .int .i64 s116v.1, .int .i64 s145v.1, .int .i64 s174v.1, .int .i64 s203v.1, .int .i64 s232v.1, .int .i64 s261v.1, .int .i64 s290v.1, .int .i64 s319v.1, .int .i64 s348v.1, .int .i64 s377v.1, .int .i64 s406v.1, .int .i64 s435v.1, .int .i64 s464v.1, .int .i64 s493v.1, .int .i64 s522v.1], obj b24v 3 [.int .i64 s551v.1], obj b1v 54 [.int .i64 s58v.1, .int .i64 s87v.1, .int .i64 0, .int .i64 0, .int .i64 s116v.1, .int .i64 s145v.1, .int .i64 s174v.1, .int .i64 s203v.1, .int .i64 s232v.1, .int .i64 s261v.1, .int .i64 s290v.1, .int .i64 s319v.1, .int .i64 s348v.1, .int .i64 s377v.1, .int .i64 s406v.1, .int .i64 s435v.1, .int .i64 s464v.1, .int .i64 s493v.1, .int .i64 s522v.1], RowV 9 1 (V9 tt) y4v.1 s2v.1 y4v.2, RowV 115 1 (V115 tt) y32v.1 (([(b23v, 0), (b23v, 1), (b23v, 4), (b23v, 5), (b23v, 6), (b23v, 7), (b23v, 8), (b23v, 9), (b23v, 10), (b23v, 11), (b23v, 12), (b23v, 13), (b23v, 14), (b23v, 15), (b23v, 16), (b23v, 17), (b23v, 18)] : List ((Nat × Nat))) ++ ([(b24v, 0)] : List ((Nat × Nat)))) y32v.2, F]) (Ent.refl _) ?_
 refine va rfl rfl (simL_nil (nrm_then (sim_rtn ?_)))
 exact rtn_fnC (vs := [.agg #[.int .i64 s58v.1, .int .i64 s87v.1, .int .i64 0, .int .i64 0, .int .i64 s116v.1, .int .i64 s145v.1, .int .i64 s174v.1, .int .i64 s203v.1, .int .i64 s232v.1, .int .i64 s261v.1, .int .i64 s290v.1, .int .i64 s319v.1, .int .i64 s348v.1, .int .i64 s377v.1, .int .i64 s406v.1, .int .i64 s435v.1, .int .i64 s464v.1, .int .i64 s493v.1, .int .i64 s522v.1], .int .i64 0]) () rfl ⟨⟨b1v, rfl, load_agg 2 Tryd.isAgg54 Tryd.sizeOf54 rfl rfl⟩, rfl, trivial⟩ rfl (.sel 5 rfl (.nil _))
 refine sr ?_
 refine vq (q_build (v := .agg #[.int .i64 0, .int .i64 0, .int .i64 0, .int .i64 0, .int .i64 0, .int .i64 0, .int .i64 0, .int .i64 0, .int .i64 0, .int .i64 0, .int .i64 0, .int .i64 0, .int .i64 0, .int .i64 0, .int .i64 0, .int .i64 0, .int .i64 0, .int .i64 0, .int .i64 0]) rfl rfl (fun _ => by kernel_rfl)) rfl ?_
 refine simL_do (re_store 4 rfl rfl rfl Tryd.sizeOf54 rfl rfl (one_of (by rfl)) rfl rfl) rfl rfl ?_
 intro _
 refine simL_ent (H' := [Row 115 1 (some ⟨b29v, 0, none⟩) ([(b24v, 0)] : List ((Nat × Nat))).length 1 [[.pointer (some ⟨b24v, 0, none⟩)]].flatten, RowV 115 1 (V115 tt) y32v.1 (([(b23v, 0), (b23v, 1), (b23v, 4), (b23v, 5), (b23v, 6), (b23v, 7), (b23v, 8), (b23v, 9), (b23v, 10), (b23v, 11), (b23v, 12), (b23v, 13), (b23v, 14), (b23v, 15), (b23v, 16), (b23v, 17), (b23v, 18)] : List ((Nat × Nat))) ++ ([(b24v, 0)] : List ((Nat × Nat)))) y32v.2, obj b23v 54 [.int .i64 0, .int .i64 0, .int .i64 0, .int .i64 0, .int .i64 0, .int .i64 0, .int .i64 0, .int .i64 0, .int .i64 0, .int .i64 0, .int .i64 0, .int .i64 0, .int .i64 0, .int .i64 0, .int .i64 0, .int .i64 0, .int .i64 0, .int .i64 0, .int .i64 0], obj b24v 3 [.int .i64 0], obj b1v 54 [.int .i64 0, .int .i64 0, .int .i64 0, .int .i64 0, .int .i64 0, .int .i64 0, .int .i64 0, .int .i64 0, .int .i64 0, .int .i64 0, .int .i64 0, .int .i64 0, .int .i64 0, .int .i64 0, .int .i64 0, .int .i64 0, .int .i64 0, .int .i64 0, .int .i64 0], RowV 9 1 (V9 tt) y4v.1 s2v.1 y4v.2, F]) (Ent.refl _) ?_
 refine va rfl rfl (simL_nil (nrm_then (sim_rtn ?_)))
 refine rtn_then ?_
 exact rtn_fnC (vs := [.agg #[.int .i64 0, .int .i64 0, .int .i64 0, .int .i64 0, .int .i64 0, .int .i64 0, .int .i64 0, .int .i64 0, .int .i64 0, .int .i64 0, .int .i64 0, .int .i64 0, .int .i64 0, .int .i64 0, .int .i64 0, .int .i64 0, .int .i64 0, .int .i64 0, .int .i64 0], .int .i64 21]) () rfl ⟨⟨b1v, rfl, load_agg 4 Tryd.isAgg54 Tryd.sizeOf54 rfl rfl⟩, rfl, trivial⟩ rfl (.sel 6 rfl (.nil _))
 refine sr ?_
 refine vq (q_build (v := .agg #[.int .i64 0, .int .i64 0, .int .i64 0, .int .i64 0, .int .i64 0, .int .i64 0, .int .i64 0, .int .i64 0, .int .i64 0, .int .i64 0, .int .i64 0, .int .i64 0, .int .i64 0, .int .i64 0, .int .i64 0, .int .i64 0, .int .i64 0, .int .i64 0, .int .i64 0]) rfl rfl (fun _ => by kernel_rfl)) rfl ?_
 refine vm rfl rfl ?_
 refine simL_do (re_store 1 rfl rfl rfl Tryd.sizeOf54 rfl rfl (one_of (by rfl)) rfl rfl) rfl rfl ?_
 intro _
 refine simL_ent (H' := [RowV 9 1 (V9 tt) y4v.1 s2v.1 y4v.2, obj b1v 54 [.int .i64 0, .int .i64 0, .int .i64 0, .int .i64 0, .int .i64 0, .int .i64 0, .int .i64 0, .int .i64 0, .int .i64 0, .int .i64 0, .int .i64 0, .int .i64 0, .int .i64 0, .int .i64 0, .int .i64 0, .int .i64 0, .int .i64 0, .int .i64 0, .int .i64 0], F]) (Ent.refl _) ?_
 refine va rfl rfl (simL_nil (nrm_then (sim_rtn ?_)))
 refine rtn_then ?_
 exact rtn_fnC (vs := [.agg #[.int .i64 0, .int .i64 0, .int .i64 0, .int .i64 0, .int .i64 0, .int .i64 0, .int .i64 0, .int .i64 0, .int .i64 0, .int .i64 0, .int .i64 0, .int .i64 0, .int .i64 0, .int .i64 0, .int .i64 0, .int .i64 0, .int .i64 0, .int .i64 0, .int .i64 0], .int .i64 s2v.2]) () rfl ⟨⟨b1v, rfl, load_agg 1 Tryd.isAgg54 Tryd.sizeOf54 rfl rfl⟩, rfl, trivial⟩ rfl (.sel 2 rfl (.nil _))
end Go.Proofs.YtbcnegennmpliaaDoor

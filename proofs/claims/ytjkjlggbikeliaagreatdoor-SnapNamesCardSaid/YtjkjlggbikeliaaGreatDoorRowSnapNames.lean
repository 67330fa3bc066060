/- The row of the law SnapNames, out of its pure law and the printed walk. Conditions: none. -/
import Derived.Test.YtjkjlggbikeliaaGreatDoorM3
import Derived.Laws.BitsLemmas
import Derived.Lib.ItoaMem
import Derived.Lib.Repeat
import Derived.Lib.SlTrimSet
import Derived.Test.YtjkjlggbikeliaaGreatDoorRows
import Derived.ProofKit
import Derived.OpenShut
import Derived.ShutString
import Derived.ChangeOld
import Derived.SizedLaws
import Derived.Deep.CondSized
import Derived.JoinedCond
import Derived.Lib.LaidTab
import Derived.Deep.DeepHandedRow
import Derived.Lay
import Derived.MakeChecks
import Derived.Test.YtjkjlggbikeliaaGreatDoorCards
import Derived.Test.YtjkjlggbikeliaaGreatDoorTie
namespace Go.Proofs.YtjkjlggbikeliaaGreatDoor
open Go.RowKit
set_option linter.unusedVariables false
set_option linter.unusedSimpArgs false
set_option maxRecDepth 20000
set_option maxHeartbeats 20000000
def wire_Writer_Bytes.f (k : Nat) (x0_0 : List UInt8) (x0_1 : Int) (x1 : List UInt8) (x2 : Int) : Option (List UInt8 × Int) := (if ((decide (x0_1 = (0 : Int))) && (decide (max x2 (0 : Int) < (x1.length : Int)))) = true then (some 3) else (some x0_1)).bind fun s1v => (if s1v = (0 : Int) then ((wire_Writer_Int.f k x0_0 s1v (x1.length : Int)).bind fun s12v => (if (s12v.1.length + x1.length) * 1 ≤ 140737488355328 then (some (s12v.1 ++ x1, s12v.2)) else none)) else (some (x0_0, s1v)))
theorem wire_Writer_Bytes.calls (W : World) (F : HA) (k : Nat) (b0 : Nat) (a0_0 : Option Addr) (c0_0 : Nat) (x0_0 : List UInt8) (x0_1 : Int) (a1 : Option Addr) (c1 : Nat) (x1 : List UInt8) (x2 : Int) (h1 : Rd F a1 (encB x1)) (hc1 : x1.length ≤ c1) (hm1 : c1 ≤ maxLen) :
    Fn Tryz.prog W 75 [.pointer (some ⟨b0, 0, none⟩), .slice a1 x1.length c1, .int .i64 x2] [obj b0 164 [.slice a0_0 x0_0.length c0_0, .int .i64 x0_1], Row 5 1 a0_0 x0_0.length c0_0 (encB x0_0)] F (wire_Writer_Bytes.f k x0_0 x0_1 x1 x2) (fun (r : List UInt8 × Int) (y : Option Addr × Nat) => .tuple #[]) (fun r y => [obj b0 164 [.slice y.1 r.1.length y.2, .int .i64 r.2], Row 5 1 y.1 r.1.length y.2 (encB r.1)]) := by
 unfold wire_Writer_Bytes.f
 refine fn_intro 39 Tryz.func75 rfl Tryz.ntmps75 rfl ?_
 refine sim_cut (S := Int) (Unit) (fun s y => [(0, .pointer (some ⟨b0, 0, none⟩)), (1, .slice a1 x1.length c1)]) (fun s y => [obj b0 164 [.slice a0_0 x0_0.length c0_0, .int .i64 s], Row 5 1 a0_0 x0_0.length c0_0 (encB x0_0), F]) ?_ ?_
 refine sr ?_
 refine vm rfl rfl ?_
 refine vn rfl rfl ?_
 refine vq (q_fa rfl rfl Tryz.underlying164 rfl rfl Tryz.sizeOf30 rfl) rfl ?_
 refine vq (q_load rfl rfl Tryz.isAgg30 (.obj 0 rfl rfl)) rfl ?_
 refine vq (q_eql rfl rfl rfl) rfl ?_
 refine vm rfl rfl ?_
 refine simL_valc (b := decide (x0_1 = (0 : Int))) (fun hb9v => RQ.sub (E' := [(1, .slice a1 x1.length c1)]) ⟨rfl, trivial⟩ (q_move rfl rfl)) rfl rfl rfl rfl rfl ?_
 refine simL_valc (b := decide (x0_1 = (0 : Int))) (fun hb8v => RQ.sub (E' := [(12, .slice a1 x1.length c1)]) ⟨lk_cv rfl hb8v, trivial⟩ (q_len rfl rfl rfl Tryz.underlying25)) rfl rfl rfl rfl rfl ?_
 refine simL_valc (b := decide (x0_1 = (0 : Int))) (fun hb7v => RQ.sub (E' := [(2, .int .i64 x2)]) ⟨rfl, trivial⟩ (q_move rfl rfl)) rfl rfl rfl rfl rfl ?_
 refine simL_valc (b := decide (x0_1 = (0 : Int))) (fun hb6v => RQ.sub (E' := [(14, .int .i64 x2)]) ⟨lk_cv rfl hb6v, trivial⟩ (q_max rfl rfl rfl)) rfl rfl rfl rfl rfl ?_
 refine simL_valc (b := decide (x0_1 = (0 : Int))) (fun hb5v => RQ.sub (E' := [(13, .int .i64 (x1.length : Int)), (15, .int .i64 (max x2 (0 : Int)))]) ⟨lk_cv rfl hb5v, lk_cv rfl hb5v, trivial⟩ (q_gtr rfl rfl rfl)) rfl rfl rfl rfl rfl ?_
 refine vq (q_and rfl rfl rfl) rfl (simL_nil (nrm_then ?_))
 refine sim_condb rfl (fun h3v => ?_) (fun h4v => ?_)
 refine sim_region ?_
 refine vm rfl rfl ?_
 refine vn rfl rfl ?_
 refine vq (q_fa rfl rfl Tryz.underlying164 rfl rfl Tryz.sizeOf30 rfl) rfl ?_
 refine simL_do (re_store 0 rfl rfl rfl Tryz.sizeOf30 rfl rfl (one_of (by rfl)) rfl rfl) rfl rfl ?_
 intro _
 refine simL_nil ?_
 exact nrm_cut (s := 3) () ⟨rfl, rfl, trivial⟩ (.sel 0 rfl (.sel 0 rfl (.sel 0 rfl (.nil _))))
 refine sim_skip ?_
 exact nrm_cut (s := x0_1) () ⟨rfl, rfl, trivial⟩ (.sel 0 rfl (.sel 0 rfl (.sel 0 rfl (.nil _))))
 intro s1v y2v
 refine sim_seq (sr ?_)
 refine vm rfl rfl ?_
 refine vn rfl rfl ?_
 refine vq (q_fa rfl rfl Tryz.underlying164 rfl rfl Tryz.sizeOf30 rfl) rfl ?_
 refine vq (q_load rfl rfl Tryz.isAgg30 (.obj 0 rfl rfl)) rfl ?_
 refine vq (q_neq rfl rfl rfl) rfl (simL_nil (nrm_then ?_))
 refine sim_condn rfl (fun h10v => ?_) (fun h11v => ?_)
 refine sim_skip ?_
 refine nrm_then (sr ?_)
 refine vm rfl rfl ?_
 refine vm rfl rfl ?_
 refine vq (q_len rfl rfl rfl Tryz.underlying25) rfl ?_
 refine simL_bind (fun s12v hs13v => ?_)
 refine simL_eff (re_call (vs := [.pointer (some ⟨b0, 0, none⟩), .int .i64 (x1.length : Int)]) (cap := []) (A := [obj b0 164 [.slice a0_0 x0_0.length c0_0, .int .i64 s1v], Row 5 1 a0_0 x0_0.length c0_0 (encB x0_0)]) (rst := [F]) rfl rfl rfl rfl rfl rfl Tryz.call74 (.sel 0 rfl (.sel 0 rfl (.sel 0 rfl (.nil _)))) (wire_Writer_Int.calls _ _ k b0 a0_0 c0_0 x0_0 s1v (x1.length : Int) ) hs13v) rfl rfl rfl ?_
 intro y14v
 refine ny ?_
 refine vm rfl rfl ?_
 refine vm rfl rfl ?_
 refine vn rfl rfl ?_
 refine vq (q_fa rfl rfl Tryz.underlying164 rfl rfl Tryz.sizeOf25 rfl) rfl ?_
 refine vq (q_load rfl rfl Tryz.isAgg25 (.obj 0 rfl rfl)) rfl ?_
 refine vm rfl rfl ?_
 refine simL_ask (fun hb16v => ?_)
 refine simL_eff (re_appendb 1 rfl rfl rfl Tryz.underlying25 elt5 rfl (h1.rds 1 rfl) hb16v) rfl rfl rfl ?_
 intro y15v
 refine vn rfl rfl ?_
 refine vq (q_fa rfl rfl Tryz.underlying164 rfl rfl Tryz.sizeOf25 rfl) rfl ?_
 refine simL_do (re_store 0 rfl rfl rfl Tryz.sizeOf25 rfl rfl (one_of (by rfl)) rfl rfl) rfl rfl ?_
 intro _
 refine simL_nil ?_
 exact nrm_fn (y15v.1, y15v.2) rfl rfl rfl (.sel 0 rfl (.sel 0 rfl (.sel 0 rfl (.nil _))))
 refine sim_rtn ?_
 refine rtn_then ?_
 exact rtn_fn (a0_0, c0_0) rfl rfl rfl (.sel 0 rfl (.sel 0 rfl (.sel 0 rfl (.nil _))))

def codec_Snaps_Put_1.f (k : Nat) (x0_0 : List UInt8) (x0_1 : Int) (x1_0 : Int) (x1_1 : Int) (x1_2 : List UInt8) : Option (List UInt8 × Int) := (wire_Writer_Int.f k x0_0 x0_1 x1_0).bind fun s1v => ((wire_Writer_Int.f k s1v.1 s1v.2 x1_1).bind fun s4v => ((wire_Writer_Bytes.f k s4v.1 s4v.2 x1_2 (524288 : Int)).bind fun s7v => (some (s7v.1, s7v.2))))
theorem codec_Snaps_Put_1.calls (W : World) (F : HA) (k : Nat) (b0 : Nat) (a0_0 : Option Addr) (c0_0 : Nat) (x0_0 : List UInt8) (x0_1 : Int) (b1 : Nat) (x1_0 : Int) (x1_1 : Int) (a1_2 : Option Addr) (c1_2 : Nat) (x1_2 : List UInt8) (h1_2 : Rd F a1_2 (encB x1_2)) (hc1_2 : x1_2.length ≤ c1_2) (hm1_2 : c1_2 ≤ maxLen) :
    Fn Tryz.prog W 73 [.pointer (some ⟨b0, 0, none⟩), .pointer (some ⟨b1, 0, none⟩)] [obj b0 164 [.slice a0_0 x0_0.length c0_0, .int .i64 x0_1], Row 5 1 a0_0 x0_0.length c0_0 (encB x0_0), obj b1 27 [.int .i64 x1_0, .int .i64 x1_1, .slice a1_2 x1_2.length c1_2]] F (codec_Snaps_Put_1.f k x0_0 x0_1 x1_0 x1_1 x1_2) (fun (r : List UInt8 × Int) (y : Option Addr × Nat) => .tuple #[]) (fun r y => [obj b0 164 [.slice y.1 r.1.length y.2, .int .i64 r.2], Row 5 1 y.1 r.1.length y.2 (encB r.1), obj b1 27 [.int .i64 x1_0, .int .i64 x1_1, .slice a1_2 x1_2.length c1_2]]) := by
 unfold codec_Snaps_Put_1.f
 refine fn_intro 15 Tryz.func73 rfl Tryz.ntmps73 rfl ?_
 refine sr ?_
 refine vm rfl rfl ?_
 refine vq (q_fa rfl rfl Tryz.underlying27 rfl rfl Tryz.sizeOf3 rfl) rfl ?_
 refine vq (q_load rfl rfl Tryz.isAgg3 (.obj 2 rfl rfl)) rfl ?_
 refine simL_bind (fun s1v hs2v => ?_)
 refine simL_eff (re_call (vs := [.pointer (some ⟨b0, 0, none⟩), .int .i64 x1_0]) (cap := []) (A := [obj b0 164 [.slice a0_0 x0_0.length c0_0, .int .i64 x0_1], Row 5 1 a0_0 x0_0.length c0_0 (encB x0_0)]) (rst := [obj b1 27 [.int .i64 x1_0, .int .i64 x1_1, .slice a1_2 x1_2.length c1_2], F]) rfl rfl rfl rfl rfl rfl Tryz.call74 (.sel 0 rfl (.sel 0 rfl (.sel 0 rfl (.sel 0 rfl (.nil _))))) (wire_Writer_Int.calls _ _ k b0 a0_0 c0_0 x0_0 x0_1 x1_0 ) hs2v) rfl rfl rfl ?_
 intro y3v
 refine nx ?_
 refine vm rfl rfl ?_
 refine vq (q_fa rfl rfl Tryz.underlying27 rfl rfl Tryz.sizeOf3 rfl) rfl ?_
 refine vq (q_load rfl rfl Tryz.isAgg3 (.obj 2 rfl rfl)) rfl ?_
 refine simL_bind (fun s4v hs5v => ?_)
 refine simL_eff (re_call (vs := [.pointer (some ⟨b0, 0, none⟩), .int .i64 x1_1]) (cap := []) (A := [obj b0 164 [.slice y3v.1 s1v.1.length y3v.2, .int .i64 s1v.2], Row 5 1 y3v.1 s1v.1.length y3v.2 (encB s1v.1)]) (rst := [obj b1 27 [.int .i64 x1_0, .int .i64 x1_1, .slice a1_2 x1_2.length c1_2], F]) rfl rfl rfl rfl rfl rfl Tryz.call74 (.sel 0 rfl (.sel 0 rfl (.sel 0 rfl (.sel 0 rfl (.nil _))))) (wire_Writer_Int.calls _ _ k b0 y3v.1 y3v.2 s1v.1 s1v.2 x1_1 ) hs5v) rfl rfl rfl ?_
 intro y6v
 refine ny ?_
 refine vm rfl rfl ?_
 refine vq (q_fa rfl rfl Tryz.underlying27 rfl rfl Tryz.sizeOf25 rfl) rfl ?_
 refine vq (q_load rfl rfl Tryz.isAgg25 (.obj 2 rfl rfl)) rfl ?_
 refine simL_bind (fun s7v hs8v => ?_)
 refine simL_eff (re_call (vs := [.pointer (some ⟨b0, 0, none⟩), .slice a1_2 x1_2.length c1_2, .int .i64 524288]) (cap := []) (A := [obj b0 164 [.slice y6v.1 s4v.1.length y6v.2, .int .i64 s4v.2], Row 5 1 y6v.1 s4v.1.length y6v.2 (encB s4v.1)]) (rst := [obj b1 27 [.int .i64 x1_0, .int .i64 x1_1, .slice a1_2 x1_2.length c1_2], F]) rfl rfl rfl rfl rfl rfl Tryz.call75 (.sel 0 rfl (.sel 0 rfl (.sel 0 rfl (.sel 0 rfl (.nil _))))) (wire_Writer_Bytes.calls _ _ k b0 y6v.1 y6v.2 s4v.1 s4v.2 a1_2 c1_2 x1_2 (524288 : Int) (h1_2.lend 1 rfl) hc1_2 hm1_2) hs8v) rfl rfl rfl ?_
 intro y9v
 refine simL_nil ?_
 exact nrm_fn (y9v.1, y9v.2) rfl rfl rfl (.sel 0 rfl (.sel 0 rfl (.sel 0 rfl (.sel 0 rfl (.nil _)))))

def wire_NewWriter.f  : Option (List UInt8 × Int) := some (([] : List UInt8), 0)
theorem wire_NewWriter.calls (W : World) (F : HA)   :
    Fn Tryz.prog W 115 [] [] F (wire_NewWriter.f ) (fun (r : List UInt8 × Int) (y : Nat × Option Addr × Nat) => .pointer (some ⟨y.1, 0, none⟩)) (fun r y => [obj y.1 164 [.slice y.2.1 r.1.length y.2.2, .int .i64 r.2], Row 5 1 y.2.1 r.1.length y.2.2 (encB r.1)]) := by
 unfold wire_NewWriter.f
 refine fn_intro 3 Tryz.func115 rfl Tryz.ntmps115 rfl ?_
 refine sr ?_
 refine va rfl rfl (nx ?_)
 refine vq (q_build (v := .agg #[.slice none 0 0, .int .i64 0]) rfl rfl (fun _ => by kernel_rfl)) rfl ?_
 refine simL_eff (re_box rfl rfl rfl) rfl rfl rfl ?_
 intro b1v
 refine va rfl rfl (simL_nil (nrm_then (sim_rtn ?_)))
 exact rtn_fn (b1v, none, 0) rfl rfl rfl (.sel 0 rfl (.row_nil (.sel 0 rfl (.nil _))))

def wire_Writer_Done.f (x0_0 : List UInt8) (x0_1 : Int) : Option (List UInt8 × Int) := if x0_1 = (0 : Int) then ((wire_fresh.f x0_0).bind fun s3v => (some (s3v, 0))) else (some (([] : List UInt8), x0_1))
theorem wire_Writer_Done.calls (W : World) (F : HA) (b0 : Nat) (a0_0 : Option Addr) (c0_0 : Nat) (x0_0 : List UInt8) (x0_1 : Int) (h0_0 : Rd F a0_0 (encB x0_0)) (hc0_0 : x0_0.length ≤ c0_0) (hm0_0 : c0_0 ≤ maxLen) :
    Fn Tryz.prog W 116 [.pointer (some ⟨b0, 0, none⟩)] [obj b0 164 [.slice a0_0 x0_0.length c0_0, .int .i64 x0_1]] F (wire_Writer_Done.f x0_0 x0_1) (fun (r : List UInt8 × Int) (y : Option Addr × Nat) => .tuple #[.slice y.1 r.1.length y.2, .int .i64 r.2]) (fun r y => [Row 5 1 y.1 r.1.length y.2 (encB r.1), obj b0 164 [.slice a0_0 x0_0.length c0_0, .int .i64 x0_1]]) := by
 unfold wire_Writer_Done.f
 refine fn_intro 18 Tryz.func116 rfl Tryz.ntmps116 rfl ?_
 refine sr ?_
 refine va rfl rfl ?_
 refine va rfl rfl (simL_nil (nrm_then (sim_seq (sr ?_))))
 refine vm rfl rfl ?_
 refine vn rfl rfl ?_
 refine vq (q_fa rfl rfl Tryz.underlying164 rfl rfl Tryz.sizeOf30 rfl) rfl ?_
 refine vq (q_load rfl rfl Tryz.isAgg30 (.obj 0 rfl rfl)) rfl ?_
 refine vq (q_neq rfl rfl rfl) rfl (simL_nil (nrm_then ?_))
 refine sim_condn rfl (fun h1v => ?_) (fun h2v => ?_)
 refine sim_skip ?_
 refine nrm_then (sr ?_)
 refine vm rfl rfl ?_
 refine vn rfl rfl ?_
 refine vq (q_fa rfl rfl Tryz.underlying164 rfl rfl Tryz.sizeOf25 rfl) rfl ?_
 refine vq (q_load rfl rfl Tryz.isAgg25 (.obj 0 rfl rfl)) rfl ?_
 refine simL_bind (fun s3v hs4v => ?_)
 refine simL_eff (re_call (vs := [.slice a0_0 x0_0.length c0_0]) (cap := []) (A := []) (rst := [obj b0 164 [.slice a0_0 x0_0.length c0_0, .int .i64 x0_1], F]) rfl rfl rfl rfl rfl rfl Tryz.call160 (.sel 0 rfl (.sel 0 rfl (.nil _))) (wire_fresh.calls _ _ a0_0 c0_0 x0_0 (h0_0.lend 1 rfl) hc0_0 hm0_0) hs4v) rfl rfl rfl ?_
 intro y5v
 refine va rfl rfl ?_
 refine va rfl rfl (simL_nil (nrm_then (sim_rtn ?_)))
 exact rtn_fn (y5v.1, y5v.2) rfl rfl rfl (.sel 0 rfl (.sel 0 rfl (.sel 0 rfl (.nil _))))
 refine sim_seq ?_
 refine sim_draw (Γ := Unit) () [[], [0], [0, 1], [0, 1, 2], [], rL 5] [] [0, 1, 2, 3, 4, 5] (fun i => [[0], [0], [0], [0], [0], [0]].getD i []) (fun i => [[], [], [], [], [], []].getD i []) (fun γ i => [.pointer (some ⟨b0, 0, none⟩), .pointer (some ⟨b0, 0, none⟩), .pointer (some ⟨b0, 1, none⟩), .int .i64 x0_1, .slice none 0 0, .int .i64 x0_1].getD i undef) (fun j γ => [[obj b0 164 [.slice a0_0 x0_0.length c0_0, .int .i64 x0_1], F]].getD j []) (fun γ => [(2, .slice none 0 0), (3, .int .i64 x0_1)]) mixed (by decide) (by decide) (by decide) (by decide) (by decide) (by decide) (by decide) 18 rfl (by decide) (by decide) (by decide) (Ent.refl _) ?_ ?_ (fun _ => ⟨rfl, rfl, trivial⟩) ?_
 exact (aq rfl (fun γ => qm rfl (.o (s := 0) rfl (by decide) .nil) rfl) (aq rfl (fun γ => qp rfl rfl (.v 0 rfl rfl .nil) (q_nil rfl rfl) rfl) (aq rfl (fun γ => qp rfl rfl (.v 1 rfl rfl .nil) (q_fa rfl rfl Tryz.underlying164 rfl rfl Tryz.sizeOf30 rfl) rfl) (aq rfl (fun γ => qp rfl rfl (.v 2 rfl rfl .nil) (q_load rfl rfl Tryz.isAgg30 (.obj 0 rfl rfl)) rfl) (aq rfl (fun γ => qp rfl rfl .nil (q_asg rfl rfl) rfl) (aq rfl (fun γ => qp rfl rfl (.v 3 rfl rfl .nil) (q_asg rfl rfl) rfl) zA))))))
 exact zA
 intro g6v
 refine nrm_then (sim_rtn ?_)
 refine rtn_then ?_
 exact rtn_fn (none, 0) rfl rfl rfl (.row_nil (.sel 0 rfl (.sel 0 rfl (.nil _))))

def codec_text_codec_Snaps_Put_1.f (k : Nat) (x0 : Int) (xp0_0 : Int) (xp0_1 : Int) (xp0_2 : List UInt8) : Option (List UInt8 × Int) := if x0 = (0 : Int) then ((wire_NewWriter.f).bind fun s3v => ((codec_Snaps_Put_1.f k s3v.1 s3v.2 xp0_0 xp0_1 xp0_2).bind fun s6v => ((wire_Writer_Done.f s6v.1 s6v.2).bind fun s13v => (some (s13v.1, s13v.2))))) else (some (([] : List UInt8), x0))
theorem codec_text_codec_Snaps_Put_1.calls (W : World) (F : HA) (k : Nat) (x0 : Int) (bp0 : Nat) (xp0_0 : Int) (xp0_1 : Int) (ap0_2 : Option Addr) (cp0_2 : Nat) (xp0_2 : List UInt8) (hp0_2 : Rd F ap0_2 (encB xp0_2)) (hcp0_2 : xp0_2.length ≤ cp0_2) (hmp0_2 : cp0_2 ≤ maxLen) :
    Fn Tryz.prog W 71 [.int .i64 x0, .func (.func 73) #[] #[.pointer (some ⟨bp0, 0, none⟩)]] [obj bp0 27 [.int .i64 xp0_0, .int .i64 xp0_1, .slice ap0_2 xp0_2.length cp0_2]] F (codec_text_codec_Snaps_Put_1.f k x0 xp0_0 xp0_1 xp0_2) (fun (r : List UInt8 × Int) (y : Option Addr × Nat) => .tuple #[.slice y.1 r.1.length y.2, .int .i64 r.2]) (fun r y => [Row 5 1 y.1 r.1.length y.2 (encB r.1), obj bp0 27 [.int .i64 xp0_0, .int .i64 xp0_1, .slice ap0_2 xp0_2.length cp0_2]]) := by
 unfold codec_text_codec_Snaps_Put_1.f
 refine fn_intro 18 Tryz.func71 rfl Tryz.ntmps71 rfl ?_
 refine sr ?_
 refine va rfl rfl ?_
 refine va rfl rfl (simL_nil (nrm_then (sim_seq (sr ?_))))
 refine vm rfl rfl ?_
 refine vq (q_neq rfl rfl rfl) rfl (simL_nil (nrm_then ?_))
 refine sim_condn rfl (fun h1v => ?_) (fun h2v => ?_)
 refine sim_skip ?_
 refine nrm_then (sr ?_)
 refine simL_bind (fun s3v hs4v => ?_)
 refine simL_eff (re_call (vs := []) (cap := []) (A := []) (rst := [obj bp0 27 [.int .i64 xp0_0, .int .i64 xp0_1, .slice ap0_2 xp0_2.length cp0_2], F]) rfl rfl rfl rfl rfl rfl Tryz.call115 (.sel 0 rfl (.sel 0 rfl (.nil _))) (wire_NewWriter.calls _ _  ) hs4v) rfl rfl rfl ?_
 intro y5v
 refine va rfl rfl (nx ?_)
 refine vm rfl rfl ?_
 refine vm rfl rfl ?_
 refine simL_bind (fun s6v hs7v => ?_)
 refine simL_eff (re_call (vs := [.pointer (some ⟨y5v.1, 0, none⟩)]) (cap := [.pointer (some ⟨bp0, 0, none⟩)]) (A := [obj y5v.1 164 [.slice y5v.2.1 s3v.1.length y5v.2.2, .int .i64 s3v.2], Row 5 1 y5v.2.1 s3v.1.length y5v.2.2 (encB s3v.1), obj bp0 27 [.int .i64 xp0_0, .int .i64 xp0_1, .slice ap0_2 xp0_2.length cp0_2]]) (rst := [F]) rfl rfl rfl rfl rfl rfl Tryz.call73 (.sel 0 rfl (.sel 0 rfl (.sel 0 rfl (.sel 0 rfl (.nil _))))) (codec_Snaps_Put_1.calls _ _ k y5v.1 y5v.2.1 y5v.2.2 s3v.1 s3v.2 bp0 xp0_0 xp0_1 ap0_2 cp0_2 xp0_2 (hp0_2.lend 0 rfl) hcp0_2 hmp0_2) hs7v) rfl rfl rfl ?_
 intro y8v
 refine nx ?_
 refine vm rfl rfl ?_
 refine simL_bind (fun s13v hs14v => ?_)
 refine simL_lend 1 rfl (fun hq9v hq10v hq11v hq12v => ?_)
 refine simL_eff (re_call (vs := [.pointer (some ⟨y5v.1, 0, none⟩)]) (cap := []) (A := [obj y5v.1 164 [.slice y8v.1 s6v.1.length y8v.2, .int .i64 s6v.2]]) (rst := [Row 5 1 y8v.1 s6v.1.length y8v.2 (encB s6v.1), obj bp0 27 [.int .i64 xp0_0, .int .i64 xp0_1, .slice ap0_2 xp0_2.length cp0_2], F]) rfl rfl rfl rfl rfl rfl Tryz.call116 (.sel 0 rfl (.sel 0 rfl (.sel 0 rfl (.sel 0 rfl (.nil _))))) (wire_Writer_Done.calls _ _ y5v.1 y8v.1 y8v.2 s6v.1 s6v.2 (hq9v.lend 0 rfl) hq10v hq11v) hs14v) rfl rfl rfl ?_
 intro y15v
 refine vq (q_ext rfl rfl rfl) rfl ?_
 refine vq (q_ext rfl rfl rfl) rfl ?_
 refine va rfl rfl ?_
 refine va rfl rfl (simL_nil (nrm_then (sim_rtn ?_)))
 exact rtn_fn (y15v.1, y15v.2) rfl rfl rfl (.sel 0 rfl (.sel 2 rfl (.sel 2 rfl (.nil _))))
 refine sr ?_
 refine vm rfl rfl ?_
 refine va rfl rfl ?_
 refine va rfl rfl (simL_nil (nrm_then (sim_rtn ?_)))
 refine rtn_then ?_
 exact rtn_fn (none, 0) rfl rfl rfl (.row_nil (.sel 0 rfl (.sel 0 rfl (.nil _))))

def codec_Snaps_Put.f (k : Nat) (x1_0 : Int) (x1_1 : Int) (x1_2 : List UInt8) : Option (List UInt8 × Int) := (codec_Snaps_Check.f x1_0 x1_1 x1_2).bind fun s3v => ((codec_text_codec_Snaps_Put_1.f k s3v x1_0 x1_1 x1_2).bind fun s6v => (some (s6v.1, s6v.2)))
theorem codec_Snaps_Put.calls (W : World) (F : HA) (k : Nat) (x1_0 : Int) (x1_1 : Int) (a1_2 : Option Addr) (c1_2 : Nat) (x1_2 : List UInt8) (h1_2 : Rd F a1_2 (encB x1_2)) (hc1_2 : x1_2.length ≤ c1_2) (hm1_2 : c1_2 ≤ maxLen) :
    Fn Tryz.prog W 34 [.agg #[], .agg #[.int .i64 x1_0, .int .i64 x1_1, .slice a1_2 x1_2.length c1_2]] [] F (codec_Snaps_Put.f k x1_0 x1_1 x1_2) (fun (r : List UInt8 × Int) (y : Option Addr × Nat) => .tuple #[.slice y.1 r.1.length y.2, .int .i64 r.2]) (fun r y => [Row 5 1 y.1 r.1.length y.2 (encB r.1)]) := by
 unfold codec_Snaps_Put.f
 refine fn_intro 13 Tryz.func34 rfl Tryz.ntmps34 rfl ?_
 refine sr ?_
 refine simL_eff (re_box rfl rfl rfl) rfl rfl rfl ?_
 intro b1v
 refine simL_eff (re_box rfl rfl rfl) rfl rfl rfl ?_
 intro b2v
 refine va rfl rfl ?_
 refine va rfl rfl (nx ?_)
 refine vq (q_loado 1 rfl rfl Tryz.isAgg79 Tryz.sizeOf79 rfl rfl) rfl ?_
 refine vq (q_loado 0 rfl rfl Tryz.isAgg27 Tryz.sizeOf27 rfl rfl) rfl ?_
 refine simL_bind (fun s3v hs4v => ?_)
 refine simL_eff (re_call (vs := [.agg #[], .agg #[.int .i64 x1_0, .int .i64 x1_1, .slice a1_2 x1_2.length c1_2]]) (cap := []) (A := []) (rst := [obj b2v 27 [.int .i64 x1_0, .int .i64 x1_1, .slice a1_2 x1_2.length c1_2], obj b1v 79 [], F]) rfl rfl rfl rfl rfl rfl Tryz.call72 (.sel 0 rfl (.sel 0 rfl (.sel 0 rfl (.nil _)))) (codec_Snaps_Check.calls _ _ x1_0 x1_1 a1_2 c1_2 x1_2 (h1_2.lend 2 rfl) hc1_2 hm1_2) hs4v) rfl rfl rfl ?_
 intro y5v
 refine vq (q_mkfn rfl rfl rfl) rfl ?_
 refine simL_bind (fun s6v hs7v => ?_)
 refine simL_eff (re_call (vs := [.int .i64 s3v, .func (.func 73) #[] #[.pointer (some ⟨b2v, 0, none⟩)]]) (cap := []) (A := [obj b2v 27 [.int .i64 x1_0, .int .i64 x1_1, .slice a1_2 x1_2.length c1_2]]) (rst := [obj b1v 79 [], F]) rfl rfl rfl rfl rfl rfl Tryz.call71 (.sel 0 rfl (.sel 0 rfl (.sel 0 rfl (.nil _)))) (codec_text_codec_Snaps_Put_1.calls _ _ k s3v b2v x1_0 x1_1 a1_2 c1_2 x1_2 (h1_2.lend 1 rfl) hc1_2 hm1_2) hs7v) rfl rfl rfl ?_
 intro y8v
 refine vq (q_ext rfl rfl rfl) rfl ?_
 refine vq (q_ext rfl rfl rfl) rfl ?_
 refine va rfl rfl ?_
 refine va rfl rfl (simL_nil (nrm_then (sim_rtn ?_)))
 exact rtn_fn (y8v.1, y8v.2) rfl rfl rfl (.sel 0 rfl (.sel 2 rfl (.nil _)))

def frame_four.f (x0 : Int) : Option (List UInt8) := if 0 ≤ IntKind.u8.wrap x0 ∧ IntKind.u8.wrap x0 < 256 then (if 0 ≤ IntKind.u8.wrap (Int.fdiv x0 (2 ^ (min (8 : Int).toNat IntKind.u32.bits))) ∧ IntKind.u8.wrap (Int.fdiv x0 (2 ^ (min (8 : Int).toNat IntKind.u32.bits))) < 256 then (if 0 ≤ IntKind.u8.wrap (Int.fdiv x0 (2 ^ (min (16 : Int).toNat IntKind.u32.bits))) ∧ IntKind.u8.wrap (Int.fdiv x0 (2 ^ (min (16 : Int).toNat IntKind.u32.bits))) < 256 then (if 0 ≤ IntKind.u8.wrap (Int.fdiv x0 (2 ^ (min (24 : Int).toNat IntKind.u32.bits))) ∧ IntKind.u8.wrap (Int.fdiv x0 (2 ^ (min (24 : Int).toNat IntKind.u32.bits))) < 256 then (some ([(byte (IntKind.u8.wrap x0)), (byte (IntKind.u8.wrap (Int.fdiv x0 (2 ^ (min (8 : Int).toNat IntKind.u32.bits))))), (byte (IntKind.u8.wrap (Int.fdiv x0 (2 ^ (min (16 : Int).toNat IntKind.u32.bits))))), (byte (IntKind.u8.wrap (Int.fdiv x0 (2 ^ (min (24 : Int).toNat IntKind.u32.bits)))))] : List UInt8)) else none) else none) else none) else none
theorem frame_four.calls (W : World) (F : HA) (x0 : Int)  :
    Fn Tryz.prog W 121 [.int .u32 x0] [] F (frame_four.f x0) (fun (r : List UInt8) (y : Option Addr × Nat) => .slice y.1 r.length y.2) (fun r y => [Row 5 1 y.1 r.length y.2 (encB r)]) := by
 unfold frame_four.f
 refine fn_intro 15 Tryz.func121 rfl Tryz.ntmps121 rfl ?_
 refine sr ?_
 refine va rfl rfl (nx ?_)
 refine vm rfl rfl ?_
 refine vq (q_conv rfl rfl Tryz.underlying170 Tryz.underlying5) rfl ?_
 refine vm rfl rfl ?_
 refine vq (q_shr rfl rfl rfl (by decide)) rfl ?_
 refine vq (q_conv rfl rfl Tryz.underlying170 Tryz.underlying5) rfl ?_
 refine vm rfl rfl ?_
 refine vq (q_shr rfl rfl rfl (by decide)) rfl ?_
 refine vq (q_conv rfl rfl Tryz.underlying170 Tryz.underlying5) rfl ?_
 refine vm rfl rfl ?_
 refine vq (q_shr rfl rfl rfl (by decide)) rfl ?_
 refine vq (q_conv rfl rfl Tryz.underlying170 Tryz.underlying5) rfl ?_
 refine simL_ask (fun hb3v => ?_)
 refine simL_ask (fun hb4v => ?_)
 refine simL_ask (fun hb5v => ?_)
 refine simL_ask (fun hb6v => ?_)
 refine simL_eff (re_litb (cs := [.int .u8 (IntKind.u8.wrap x0), .int .u8 (IntKind.u8.wrap (Int.fdiv x0 (2 ^ (min (8 : Int).toNat IntKind.u32.bits)))), .int .u8 (IntKind.u8.wrap (Int.fdiv x0 (2 ^ (min (16 : Int).toNat IntKind.u32.bits)))), .int .u8 (IntKind.u8.wrap (Int.fdiv x0 (2 ^ (min (24 : Int).toNat IntKind.u32.bits))))]) ([(byte (IntKind.u8.wrap x0)), (byte (IntKind.u8.wrap (Int.fdiv x0 (2 ^ (min (8 : Int).toNat IntKind.u32.bits))))), (byte (IntKind.u8.wrap (Int.fdiv x0 (2 ^ (min (16 : Int).toNat IntKind.u32.bits))))), (byte (IntKind.u8.wrap (Int.fdiv x0 (2 ^ (min (24 : Int).toNat IntKind.u32.bits)))))] : List UInt8) rfl rfl Tryz.underlying25 elt5 rfl (by kernel_rfl) rfl rfl (lit_cons (byte_toNat hb3v.1 hb3v.2) (lit_cons (byte_toNat hb4v.1 hb4v.2) (lit_cons (byte_toNat hb5v.1 hb5v.2) (lit_cons (byte_toNat hb6v.1 hb6v.2) lit_nil))))) rfl rfl rfl ?_
 intro b1v
 refine va rfl rfl (simL_nil (nrm_then (sim_rtn ?_)))
 exact rtn_fn ((some ⟨b1v, 0, none⟩), 4) rfl rfl rfl (.sel 0 rfl (.sel 0 rfl (.nil _)))

def frame_lay.f (k : Nat) (x0 : List UInt8) (x1 : List UInt8) : Option (List UInt8) := (frame_four.f (IntKind.u32.wrap (x1.length : Int))).bind fun s1v => ((frame_more.f k (4294967295 : Int) s1v).bind fun s8v => ((frame_more.f k s8v x1).bind fun s11v => (if (x0.length + s1v.length) * 1 ≤ 140737488355328 then ((frame_four.f (bitsV .xor .u32 (if IntKind.u32.signed then -1 else IntKind.u32.max) s11v)).bind fun s16v => (if ((x0 ++ s1v).length + s16v.length) * 1 ≤ 140737488355328 then (if (((x0 ++ s1v) ++ s16v).length + x1.length) * 1 ≤ 140737488355328 then (some (((x0 ++ s1v) ++ s16v) ++ x1)) else none) else none)) else none)))
theorem frame_lay.calls (W : World) (F : HA) (k : Nat) (a0 : Option Addr) (c0 : Nat) (x0 : List UInt8) (a1 : Option Addr) (c1 : Nat) (x1 : List UInt8) (h1 : Rd F a1 (encB x1)) (hc1 : x1.length ≤ c1) (hm1 : c1 ≤ maxLen) :
    Fn Tryz.prog W 76 [.slice a0 x0.length c0, .slice a1 x1.length c1] [Row 5 1 a0 x0.length c0 (encB x0)] F (frame_lay.f k x0 x1) (fun (r : List UInt8) (y : Option Addr × Nat) => .slice y.1 r.length y.2) (fun r y => [Row 5 1 y.1 r.length y.2 (encB r)]) := by
 unfold frame_lay.f
 refine fn_intro 26 Tryz.func76 rfl Tryz.ntmps76 rfl ?_
 refine sr ?_
 refine va rfl rfl (nx ?_)
 refine vm rfl rfl ?_
 refine vq (q_len rfl rfl rfl Tryz.underlying25) rfl ?_
 refine vq (q_conv rfl rfl Tryz.underlying3 Tryz.underlying170) rfl ?_
 refine simL_bind (fun s1v hs2v => ?_)
 refine simL_eff (re_call (vs := [.int .u32 (IntKind.u32.wrap (x1.length : Int))]) (cap := []) (A := []) (rst := [Row 5 1 a0 x0.length c0 (encB x0), F]) rfl rfl rfl rfl rfl rfl Tryz.call121 (.sel 0 rfl (.sel 0 rfl (.nil _))) (frame_four.calls _ _ (IntKind.u32.wrap (x1.length : Int)) ) hs2v) rfl rfl rfl ?_
 intro y3v
 refine va rfl rfl (nx ?_)
 refine vm rfl rfl ?_
 refine simL_bind (fun s8v hs9v => ?_)
 refine simL_lend 0 rfl (fun hq4v hq5v hq6v hq7v => ?_)
 refine simL_eff (re_call (vs := [.int .u32 4294967295, .slice y3v.1 s1v.length y3v.2]) (cap := []) (A := []) (rst := [Row 5 1 y3v.1 s1v.length y3v.2 (encB s1v), Row 5 1 a0 x0.length c0 (encB x0), F]) rfl rfl rfl rfl rfl rfl Tryz.call122 (.sel 0 rfl (.sel 0 rfl (.sel 0 rfl (.nil _)))) (frame_more.calls _ _ k (4294967295 : Int) y3v.1 y3v.2 s1v (hq4v.lend 0 rfl) hq5v hq6v) hs9v) rfl rfl rfl ?_
 intro y10v
 refine vm rfl rfl ?_
 refine simL_bind (fun s11v hs12v => ?_)
 refine simL_eff (re_call (vs := [.int .u32 s8v, .slice a1 x1.length c1]) (cap := []) (A := []) (rst := [Row 5 1 y3v.1 s1v.length y3v.2 (encB s1v), Row 5 1 a0 x0.length c0 (encB x0), F]) rfl rfl rfl rfl rfl rfl Tryz.call122 (.sel 0 rfl (.sel 0 rfl (.sel 0 rfl (.nil _)))) (frame_more.calls _ _ k s8v a1 c1 x1 (h1.lend 2 rfl) hc1 hm1) hs12v) rfl rfl rfl ?_
 intro y13v
 refine vq (q_com rfl rfl) rfl ?_
 refine va rfl rfl (nx ?_)
 refine vm rfl rfl ?_
 refine vm rfl rfl ?_
 refine simL_ask (fun hb15v => ?_)
 refine simL_eff (re_appendb 1 rfl rfl rfl Tryz.underlying25 elt5 rfl (Rds.row 0 rfl) hb15v) rfl rfl rfl ?_
 intro y14v
 refine va rfl rfl (nx ?_)
 refine vm rfl rfl ?_
 refine vm rfl rfl ?_
 refine simL_bind (fun s16v hs17v => ?_)
 refine simL_eff (re_call (vs := [.int .u32 (bitsV .xor .u32 (if IntKind.u32.signed then -1 else IntKind.u32.max) s11v)]) (cap := []) (A := []) (rst := [Row 5 1 y3v.1 s1v.length y3v.2 (encB s1v), Row 5 1 y14v.1 (x0 ++ s1v).length y14v.2 (encB (x0 ++ s1v)), F]) rfl rfl rfl rfl rfl rfl Tryz.call121 (.sel 0 rfl (.sel 0 rfl (.sel 0 rfl (.nil _)))) (frame_four.calls _ _ (bitsV .xor .u32 (if IntKind.u32.signed then -1 else IntKind.u32.max) s11v) ) hs17v) rfl rfl rfl ?_
 intro y18v
 refine simL_ask (fun hb20v => ?_)
 refine simL_eff (re_appendb 2 rfl rfl rfl Tryz.underlying25 elt5 rfl (Rds.row 0 rfl) hb20v) rfl rfl rfl ?_
 intro y19v
 refine va rfl rfl (nx ?_)
 refine vm rfl rfl ?_
 refine vm rfl rfl ?_
 refine simL_ask (fun hb22v => ?_)
 refine simL_eff (re_appendb 2 rfl rfl rfl Tryz.underlying25 elt5 rfl (h1.rds 2 rfl) hb22v) rfl rfl rfl ?_
 intro y21v
 refine va rfl rfl (simL_nil (nrm_then (sim_rtn ?_)))
 exact rtn_fn (y21v.1, y21v.2) rfl rfl rfl (.sel 2 rfl (.sel 2 rfl (.nil _)))

def frame_Put.f (k : Nat) (x0 : List UInt8) : Option (List UInt8 × Int) := if (1048576 : Int) < (x0.length : Int) then (some (([] : List UInt8), 3)) else (if 0 ≤ (0 : Int) ∧ (0 : Int) ≤ IntKind.i64.wrap (8 + (x0.length : Int)) ∧ IntKind.i64.wrap (8 + (x0.length : Int)) * 1 ≤ 140737488355328 then ((frame_lay.f k (List.replicate (0 : Int).toNat (0 : UInt8)) x0).bind fun s5v => (some (s5v, 0))) else none)
theorem frame_Put.calls (W : World) (F : HA) (k : Nat) (a0 : Option Addr) (c0 : Nat) (x0 : List UInt8) (h0 : Rd F a0 (encB x0)) (hc0 : x0.length ≤ c0) (hm0 : c0 ≤ maxLen) :
    Fn Tryz.prog W 35 [.slice a0 x0.length c0] [] F (frame_Put.f k x0) (fun (r : List UInt8 × Int) (y : Option Addr × Nat) => .tuple #[.slice y.1 r.1.length y.2, .int .i64 r.2]) (fun r y => [Row 5 1 y.1 r.1.length y.2 (encB r.1)]) := by
 unfold frame_Put.f
 refine fn_intro 13 Tryz.func35 rfl Tryz.ntmps35 rfl ?_
 refine sr ?_
 refine va rfl rfl ?_
 refine va rfl rfl (simL_nil (nrm_then (sim_seq (sr ?_))))
 refine vm rfl rfl ?_
 refine vq (q_len rfl rfl rfl Tryz.underlying25) rfl ?_
 refine vq (q_gtr rfl rfl rfl) rfl (simL_nil (nrm_then ?_))
 refine sim_cond rfl (fun h1v => ?_) (fun h2v => ?_)
 refine sr ?_
 refine va rfl rfl ?_
 refine va rfl rfl (simL_nil (nrm_then (sim_rtn ?_)))
 refine rtn_then ?_
 exact rtn_fn (none, 0) rfl rfl rfl (.row_nil (.sel 0 rfl (.nil _)))
 refine sim_skip ?_
 refine nrm_then (sr ?_)
 refine vm rfl rfl ?_
 refine vq (q_len rfl rfl rfl Tryz.underlying25) rfl ?_
 refine vq (q_add rfl rfl rfl) rfl ?_
 refine simL_ask (fun hb4v => ?_)
 refine simL_eff (re_makeb rfl rfl rfl Tryz.underlying25 elt5 hb4v.1 hb4v.2.1 hb4v.2.2) rfl rfl rfl ?_
 intro b3v
 refine vm rfl rfl ?_
 refine simL_bind (fun s5v hs6v => ?_)
 refine simL_eff (re_call (vs := [.slice (some ⟨b3v, 0, none⟩) ((List.replicate (0 : Int).toNat (0 : UInt8)).length) ((IntKind.i64.wrap (8 + (x0.length : Int))).toNat), .slice a0 x0.length c0]) (cap := []) (A := [Row 5 1 (some ⟨b3v, 0, none⟩) (List.replicate (0 : Int).toNat (0 : UInt8)).length ((IntKind.i64.wrap (8 + (x0.length : Int))).toNat) (encB (List.replicate (0 : Int).toNat (0 : UInt8)))]) (rst := [F]) rfl rfl rfl rfl rfl rfl Tryz.call76 (.sel 0 rfl (.sel 0 rfl (.nil _))) (frame_lay.calls _ _ k (some ⟨b3v, 0, none⟩) ((IntKind.i64.wrap (8 + (x0.length : Int))).toNat) (List.replicate (0 : Int).toNat (0 : UInt8)) a0 c0 x0 (h0.lend 0 rfl) hc0 hm0) hs6v) rfl rfl rfl ?_
 intro y7v
 refine va rfl rfl ?_
 refine va rfl rfl (simL_nil (nrm_then (sim_rtn ?_)))
 exact rtn_fn (y7v.1, y7v.2) rfl rfl rfl (.sel 0 rfl (.sel 0 rfl (.nil _)))

def disk_Disk_Has.f (x0_0 : List ((List UInt8) × (List UInt8 × Int))) (x0_1 : List UInt8) (x0_2 : Int) (x0_3 : Bool) (x1 : List UInt8) : Option (Bool) := if (mget x0_0 x1).isSome = true then (some true) else (some false)
theorem disk_Disk_Has.calls (W : World) (F : HA) (b0 : Nat) (m0_0 : Nat) (q0_0 : Kps) (x0_0 : List ((List UInt8) × (List UInt8 × Int))) (x0_1 : List UInt8) (x0_2 : Int) (x0_3 : Bool) (x1 : List UInt8)  :
    Fn Tryz.prog W 69 [.pointer (some ⟨b0, 0, none⟩), str x1] [obj b0 76 [.map (some m0_0), str x0_1, .int .i64 x0_2, .bool x0_3], mapF (mapO m0_0 enc9 encP q0_0) FA89 q0_0 x0_0] F (disk_Disk_Has.f x0_0 x0_1 x0_2 x0_3 x1) (fun (r : Bool) (y : Unit) => .bool r) (fun r y => [obj b0 76 [.map (some m0_0), str x0_1, .int .i64 x0_2, .bool x0_3], mapF (mapO m0_0 enc9 encP q0_0) FA89 q0_0 x0_0]) := by
 unfold disk_Disk_Has.f
 refine fn_intro 12 Tryz.func69 rfl Tryz.ntmps69 rfl ?_
 refine sr ?_
 refine va rfl rfl (simL_nil (nrm_then (sim_seq ?_)))
 refine sim_if (fun hk1v => ?_) (fun hk1v => ?_)
 refine sim_region ?_
 refine vm rfl rfl ?_
 refine vn rfl rfl ?_
 refine vq (q_fa rfl rfl Tryz.underlying76 rfl rfl Tryz.sizeOf74 rfl) rfl ?_
 refine vq (q_load rfl rfl Tryz.isAgg74 (.obj 0 rfl rfl)) rfl ?_
 refine vm rfl rfl ?_
 refine vq ((q_mlookY (ek := enc9) x1 (tellsF 1 rfl) hk1v rfl rfl rfl Tryz.underlying74 key9 : RQ _ _ _ _ (.pointer (some ⟨(fptr q0_0 x1), 0, none⟩)))) rfl ?_
 refine vq (q_nep rfl rfl rfl Tryz.underlying87) rfl ?_
 refine va rfl rfl (simL_nil (nrm_then (sim_rtn ?_)))
 exact rtn_fn () rfl rfl rfl (.sel 0 rfl (.sel 0 rfl (.sel 0 rfl (.nil _))))
 refine sim_region ?_
 refine vm rfl rfl ?_
 refine vn rfl rfl ?_
 refine vq (q_fa rfl rfl Tryz.underlying76 rfl rfl Tryz.sizeOf74 rfl) rfl ?_
 refine vq (q_load rfl rfl Tryz.isAgg74 (.obj 0 rfl rfl)) rfl ?_
 refine vm rfl rfl ?_
 refine vq (q_mlookN (ek := enc9) x1 (tellsF 1 rfl) (isNone_of hk1v) rfl rfl rfl Tryz.underlying74 key9 Tryz.zeroValue87) rfl ?_
 refine vq (q_nenn rfl rfl rfl Tryz.underlying87) rfl ?_
 refine va rfl rfl (simL_nil (nrm_then (sim_rtn ?_)))
 exact rtn_fn () rfl rfl rfl (.sel 0 rfl (.sel 0 rfl (.sel 0 rfl (.nil _))))
def disk_Disk_Has.v (x0_0 : List ((List UInt8) × (List UInt8 × Int))) (x0_1 : List UInt8) (x0_2 : Int) (x0_3 : Bool) (x1 : List UInt8) : Bool := (disk_Disk_Has.f x0_0 x0_1 x0_2 x0_3 x1).getD false
def disk_Disk_fails.f (x0_0 : List ((List UInt8) × (List UInt8 × Int))) (x0_1 : List UInt8) (x0_2 : Int) (x0_3 : Bool) : Option (Bool × List UInt8 × Int × Bool) := if x0_2 = (0 : Int) then (some (false, x0_1, x0_2, x0_3)) else (some (decide (IntKind.i64.wrap (x0_2 - 1) = (0 : Int)), x0_1, IntKind.i64.wrap (x0_2 - 1), decide (IntKind.i64.wrap (x0_2 - 1) = (0 : Int))))
theorem disk_Disk_fails.calls (W : World) (F : HA) (b0 : Nat) (m0_0 : Nat) (q0_0 : Kps) (x0_0 : List ((List UInt8) × (List UInt8 × Int))) (x0_1 : List UInt8) (x0_2 : Int) (x0_3 : Bool)  :
    Fn Tryz.prog W 45 [.pointer (some ⟨b0, 0, none⟩)] [obj b0 76 [.map (some m0_0), str x0_1, .int .i64 x0_2, .bool x0_3], mapF (mapO m0_0 enc9 encP q0_0) FA89 q0_0 x0_0] F (disk_Disk_fails.f x0_0 x0_1 x0_2 x0_3) (fun (r : Bool × List UInt8 × Int × Bool) (y : Unit) => .bool r.1) (fun r y => [obj b0 76 [.map (some m0_0), str r.2.1, .int .i64 r.2.2.1, .bool r.2.2.2], mapF (mapO m0_0 enc9 encP q0_0) FA89 q0_0 x0_0]) := by
 unfold disk_Disk_fails.f
 refine fn_intro 27 Tryz.func45 rfl Tryz.ntmps45 rfl ?_
 refine sr ?_
 refine va rfl rfl (simL_nil (nrm_then (sim_seq (sr ?_))))
 refine vm rfl rfl ?_
 refine vn rfl rfl ?_
 refine vq (q_fa rfl rfl Tryz.underlying76 rfl rfl Tryz.sizeOf3 rfl) rfl ?_
 refine vq (q_load rfl rfl Tryz.isAgg3 (.obj 0 rfl rfl)) rfl ?_
 refine vq (q_eql rfl rfl rfl) rfl (simL_nil (nrm_then ?_))
 refine sim_cond rfl (fun h1v => ?_) (fun h2v => ?_)
 refine sr ?_
 refine va rfl rfl (simL_nil (nrm_then (sim_rtn ?_)))
 refine rtn_then ?_
 exact rtn_fn () rfl rfl rfl (.sel 0 rfl (.sel 0 rfl (.sel 0 rfl (.nil _))))
 refine sim_skip ?_
 refine nrm_then (sr ?_)
 refine vm rfl rfl ?_
 refine vn rfl rfl ?_
 refine vq (q_fa rfl rfl Tryz.underlying76 rfl rfl Tryz.sizeOf3 rfl) rfl ?_
 refine vq (q_load rfl rfl Tryz.isAgg3 (.obj 0 rfl rfl)) rfl ?_
 refine vq (q_sub rfl rfl rfl) rfl ?_
 refine vn rfl rfl ?_
 refine vq (q_fa rfl rfl Tryz.underlying76 rfl rfl Tryz.sizeOf3 rfl) rfl ?_
 refine simL_do (re_store 0 rfl rfl rfl Tryz.sizeOf3 rfl rfl (one_of (by rfl)) rfl rfl) rfl rfl ?_
 intro _
 refine nx ?_
 refine vm rfl rfl ?_
 refine vm rfl rfl ?_
 refine vn rfl rfl ?_
 refine vq (q_fa rfl rfl Tryz.underlying76 rfl rfl Tryz.sizeOf3 rfl) rfl ?_
 refine vq (q_load rfl rfl Tryz.isAgg3 (.obj 0 rfl rfl)) rfl ?_
 refine vq (q_eql rfl rfl rfl) rfl ?_
 refine vn rfl rfl ?_
 refine vq (q_fa rfl rfl Tryz.underlying76 rfl rfl Tryz.sizeOf4 rfl) rfl ?_
 refine simL_do (re_store 0 rfl rfl rfl Tryz.sizeOf4 rfl rfl (one_of (by rfl)) rfl rfl) rfl rfl ?_
 intro _
 refine nx ?_
 refine vm rfl rfl ?_
 refine vn rfl rfl ?_
 refine vq (q_fa rfl rfl Tryz.underlying76 rfl rfl Tryz.sizeOf4 rfl) rfl ?_
 refine vq (q_load rfl rfl Tryz.isAgg4 (.obj 0 rfl rfl)) rfl ?_
 refine va rfl rfl (simL_nil (nrm_then (sim_rtn ?_)))
 exact rtn_fn () rfl rfl rfl (.sel 0 rfl (.sel 0 rfl (.sel 0 rfl (.nil _))))
def disk_Disk_fails.v (x0_0 : List ((List UInt8) × (List UInt8 × Int))) (x0_1 : List UInt8) (x0_2 : Int) (x0_3 : Bool) : Bool × List UInt8 × Int × Bool := (disk_Disk_fails.f x0_0 x0_1 x0_2 x0_3).getD (false, [], 0, false)
def disk_Disk_Remove.f (x0_0 : List ((List UInt8) × (List UInt8 × Int))) (x0_1 : List UInt8) (x0_2 : Int) (x0_3 : Bool) (x1 : List UInt8) : Option (Int × (List ((List UInt8) × (List UInt8 × Int))) × List UInt8 × Int × Bool) := if x0_3 = true then (some (11, x0_0, x0_1, x0_2, x0_3)) else ((disk_Disk_Has.f x0_0 x0_1 x0_2 x0_3 x1).bind fun s3v => (if (!s3v) = true then (some (8, x0_0, x0_1, x0_2, x0_3)) else ((disk_Disk_fails.f x0_0 x0_1 x0_2 x0_3).bind fun s8v => (if s8v.1 = true then (some (11, x0_0, s8v.2.1, s8v.2.2.1, s8v.2.2.2)) else ((if s8v.2.1 = x1 then (some ([] : List UInt8)) else (some s8v.2.1)).bind fun s13v => (some (0, mdel x0_0 x1, s13v, s8v.2.2.1, s8v.2.2.2)))))))
theorem disk_Disk_Remove.calls (W : World) (F : HA) (b0 : Nat) (m0_0 : Nat) (q0_0 : Kps) (x0_0 : List ((List UInt8) × (List UInt8 × Int))) (x0_1 : List UInt8) (x0_2 : Int) (x0_3 : Bool) (x1 : List UInt8)  :
    Fn Tryz.prog W 49 [.pointer (some ⟨b0, 0, none⟩), str x1] [obj b0 76 [.map (some m0_0), str x0_1, .int .i64 x0_2, .bool x0_3], mapF (mapO m0_0 enc9 encP q0_0) FA89 q0_0 x0_0] F (disk_Disk_Remove.f x0_0 x0_1 x0_2 x0_3 x1) (fun (r : Int × (List ((List UInt8) × (List UInt8 × Int))) × List UInt8 × Int × Bool) (y : Nat × Kps) => .int .i64 r.1) (fun r y => [obj b0 76 [.map (some y.1), str r.2.2.1, .int .i64 r.2.2.2.1, .bool r.2.2.2.2], mapF (mapO y.1 enc9 encP y.2) FA89 y.2 r.2.1]) := by
 unfold disk_Disk_Remove.f
 refine fn_intro 32 Tryz.func49 rfl Tryz.ntmps49 rfl ?_
 refine sr ?_
 refine va rfl rfl (simL_nil (nrm_then (sim_seq ?_)))
 refine sim_block ?_
 refine sr ?_
 refine vm rfl rfl ?_
 refine vn rfl rfl ?_
 refine vq (q_fa rfl rfl Tryz.underlying76 rfl rfl Tryz.sizeOf4 rfl) rfl ?_
 refine vq (q_load rfl rfl Tryz.isAgg4 (.obj 0 rfl rfl)) rfl ?_
 refine va rfl rfl (simL_nil (nrm_then ?_))
 refine sim_condb rfl (fun h1v => ?_) (fun h2v => ?_)
 refine sr ?_
 refine va rfl rfl (simL_nil (nrm_then (sim_rtn ?_)))
 refine rtn_block ?_
 refine rtn_then ?_
 exact rtn_fn (m0_0, q0_0) rfl rfl rfl (.sel 0 rfl (.sel 0 rfl (.sel 0 rfl (.nil _))))
 refine sr ?_
 refine vm rfl rfl ?_
 refine vm rfl rfl ?_
 refine simL_bind (fun s3v hs4v => ?_)
 refine simL_eff (re_call (vs := [.pointer (some ⟨b0, 0, none⟩), str x1]) (cap := []) (A := [obj b0 76 [.map (some m0_0), str x0_1, .int .i64 x0_2, .bool x0_3], mapF (mapO m0_0 enc9 encP q0_0) FA89 q0_0 x0_0]) (rst := [F]) rfl rfl rfl rfl rfl rfl Tryz.call69 (.sel 0 rfl (.sel 0 rfl (.sel 0 rfl (.nil _)))) (disk_Disk_Has.calls _ _ b0 m0_0 q0_0 x0_0 x0_1 x0_2 x0_3 x1 ) hs4v) rfl rfl rfl ?_
 intro y5v
 refine vq (q_not rfl rfl) rfl ?_
 refine va rfl rfl (simL_nil (nrm_then ?_))
 refine sim_condb rfl (fun h6v => ?_) (fun h7v => ?_)
 refine sr ?_
 refine va rfl rfl (simL_nil (nrm_then (sim_rtn ?_)))
 refine rtn_block ?_
 refine rtn_then ?_
 exact rtn_fn (m0_0, q0_0) rfl rfl rfl (.sel 0 rfl (.sel 0 rfl (.sel 0 rfl (.nil _))))
 refine sr ?_
 refine vm rfl rfl ?_
 refine simL_bind (fun s8v hs9v => ?_)
 refine simL_eff (re_call (vs := [.pointer (some ⟨b0, 0, none⟩)]) (cap := []) (A := [obj b0 76 [.map (some m0_0), str x0_1, .int .i64 x0_2, .bool x0_3], mapF (mapO m0_0 enc9 encP q0_0) FA89 q0_0 x0_0]) (rst := [F]) rfl rfl rfl rfl rfl rfl Tryz.call45 (.sel 0 rfl (.sel 0 rfl (.sel 0 rfl (.nil _)))) (disk_Disk_fails.calls _ _ b0 m0_0 q0_0 x0_0 x0_1 x0_2 x0_3 ) hs9v) rfl rfl rfl ?_
 intro y10v
 refine va rfl rfl (simL_nil (nrm_then ?_))
 refine sim_condb rfl (fun h11v => ?_) (fun h12v => ?_)
 refine sr ?_
 refine va rfl rfl (simL_nil (nrm_then (sim_rtn ?_)))
 refine rtn_block ?_
 refine rtn_then ?_
 exact rtn_fn (m0_0, q0_0) rfl rfl rfl (.sel 0 rfl (.sel 0 rfl (.sel 0 rfl (.nil _))))
 refine sim_skip ?_
 refine nrm_block (nrm_then (sr ?_))
 refine vm rfl rfl ?_
 refine vn rfl rfl ?_
 refine vq (q_fa rfl rfl Tryz.underlying76 rfl rfl Tryz.sizeOf74 rfl) rfl ?_
 refine vq (q_load rfl rfl Tryz.isAgg74 (.obj 0 rfl rfl)) rfl ?_
 refine vm rfl rfl ?_
 refine simL_do (re_mdelF (ek := enc9) 1 x1 rfl rfl rfl rfl Tryz.underlying74 key9 rfl) rfl rfl ?_
 intro _
 refine simL_nil (nrm_then ?_)
 refine sim_cut (S := List UInt8) (Unit) (fun s y => []) (fun s y => [obj b0 76 [.map (some m0_0), str s, .int .i64 s8v.2.2.1, .bool s8v.2.2.2], mapF (mapO m0_0 enc9 encP (mdel q0_0 x1)) FA89 (mdel q0_0 x1) (mdel x0_0 x1), F]) ?_ ?_
 refine sr ?_
 refine vm rfl rfl ?_
 refine vn rfl rfl ?_
 refine vq (q_fa rfl rfl Tryz.underlying76 rfl rfl Tryz.sizeOf9 rfl) rfl ?_
 refine vq (q_load rfl rfl Tryz.isAgg9 (.obj 0 rfl rfl)) rfl ?_
 refine vm rfl rfl ?_
 refine vq (q_eqs rfl rfl rfl) rfl (simL_nil (nrm_then ?_))
 refine sim_cond rfl (fun h15v => ?_) (fun h16v => ?_)
 refine sim_region ?_
 refine vm rfl rfl ?_
 refine vn rfl rfl ?_
 refine vq (q_fa rfl rfl Tryz.underlying76 rfl rfl Tryz.sizeOf9 rfl) rfl ?_
 refine simL_do (re_store 0 rfl rfl rfl Tryz.sizeOf9 rfl rfl (one_of (by rfl)) rfl rfl) rfl rfl ?_
 intro _
 refine simL_nil ?_
 exact nrm_cut (s := ([] : List UInt8)) () trivial (.sel 0 rfl (.sel 0 rfl (.sel 0 rfl (.nil _))))
 refine sim_skip ?_
 exact nrm_cut (s := s8v.2.1) () trivial (.sel 0 rfl (.sel 0 rfl (.sel 0 rfl (.nil _))))
 intro s13v y14v
 refine sr ?_
 refine va rfl rfl (simL_nil (nrm_then (sim_rtn ?_)))
 exact rtn_fn (m0_0, mdel q0_0 x1) rfl rfl rfl (.sel 0 rfl (.sel 0 rfl (.sel 0 rfl (.nil _))))
def disk_Disk_Remove.v (x0_0 : List ((List UInt8) × (List UInt8 × Int))) (x0_1 : List UInt8) (x0_2 : Int) (x0_3 : Bool) (x1 : List UInt8) : Int × (List ((List UInt8) × (List UInt8 × Int))) × List UInt8 × Int × Bool := (disk_Disk_Remove.f x0_0 x0_1 x0_2 x0_3 x1).getD (0, [], [], 0, false)
def snap_clean.f (x0_0 : List ((List UInt8) × (List UInt8 × Int))) (x0_1 : List UInt8) (x0_2 : Int) (x0_3 : Bool) : Option (Int × Int × (List ((List UInt8) × (List UInt8 × Int))) × List UInt8 × Int × Bool) := (disk_Disk_Has.f x0_0 x0_1 x0_2 x0_3 ([115, 110, 97, 112, 46, 116, 109, 112] : List UInt8)).bind fun s1v => (if (!s1v) = true then (some (0, 0, x0_0, x0_1, x0_2, x0_3)) else ((disk_Disk_Remove.f x0_0 x0_1 x0_2 x0_3 ([115, 110, 97, 112, 46, 116, 109, 112] : List UInt8)).bind fun s6v => (some (1, s6v.1, s6v.2.1, s6v.2.2.1, s6v.2.2.2.1, s6v.2.2.2.2))))
theorem snap_clean.calls (W : World) (F : HA) (b0 : Nat) (m0_0 : Nat) (q0_0 : Kps) (x0_0 : List ((List UInt8) × (List UInt8 × Int))) (x0_1 : List UInt8) (x0_2 : Int) (x0_3 : Bool)  :
    Fn Tryz.prog W 37 [.pointer (some ⟨b0, 0, none⟩)] [obj b0 76 [.map (some m0_0), str x0_1, .int .i64 x0_2, .bool x0_3], mapF (mapO m0_0 enc9 encP q0_0) FA89 q0_0 x0_0] F (snap_clean.f x0_0 x0_1 x0_2 x0_3) (fun (r : Int × Int × (List ((List UInt8) × (List UInt8 × Int))) × List UInt8 × Int × Bool) (y : Nat × Kps) => .tuple #[.int .i64 r.1, .int .i64 r.2.1]) (fun r y => [obj b0 76 [.map (some y.1), str r.2.2.2.1, .int .i64 r.2.2.2.2.1, .bool r.2.2.2.2.2], mapF (mapO y.1 enc9 encP y.2) FA89 y.2 r.2.2.1]) := by
 unfold snap_clean.f
 refine fn_intro 9 Tryz.func37 rfl Tryz.ntmps37 rfl ?_
 refine sr ?_
 refine va rfl rfl ?_
 refine va rfl rfl (simL_nil (nrm_then (sim_seq (sr ?_))))
 refine vm rfl rfl ?_
 refine simL_bind (fun s1v hs2v => ?_)
 refine simL_eff (re_call (vs := [.pointer (some ⟨b0, 0, none⟩), str ([115, 110, 97, 112, 46, 116, 109, 112] : List UInt8)]) (cap := []) (A := [obj b0 76 [.map (some m0_0), str x0_1, .int .i64 x0_2, .bool x0_3], mapF (mapO m0_0 enc9 encP q0_0) FA89 q0_0 x0_0]) (rst := [F]) rfl rfl rfl rfl rfl rfl Tryz.call69 (.sel 0 rfl (.sel 0 rfl (.sel 0 rfl (.nil _)))) (disk_Disk_Has.calls _ _ b0 m0_0 q0_0 x0_0 x0_1 x0_2 x0_3 ([115, 110, 97, 112, 46, 116, 109, 112] : List UInt8) ) hs2v) rfl rfl rfl ?_
 intro y3v
 refine vq (q_not rfl rfl) rfl (simL_nil (nrm_then ?_))
 refine sim_condb rfl (fun h4v => ?_) (fun h5v => ?_)
 refine sr ?_
 refine va rfl rfl ?_
 refine va rfl rfl (simL_nil (nrm_then (sim_rtn ?_)))
 refine rtn_then ?_
 exact rtn_fn (m0_0, q0_0) rfl rfl rfl (.sel 0 rfl (.sel 0 rfl (.sel 0 rfl (.nil _))))
 refine sim_skip ?_
 refine nrm_then (sr ?_)
 refine vm rfl rfl ?_
 refine simL_bind (fun s6v hs7v => ?_)
 refine simL_eff (re_call (vs := [.pointer (some ⟨b0, 0, none⟩), str ([115, 110, 97, 112, 46, 116, 109, 112] : List UInt8)]) (cap := []) (A := [obj b0 76 [.map (some m0_0), str x0_1, .int .i64 x0_2, .bool x0_3], mapF (mapO m0_0 enc9 encP q0_0) FA89 q0_0 x0_0]) (rst := [F]) rfl rfl rfl rfl rfl rfl Tryz.call49 (.sel 0 rfl (.sel 0 rfl (.sel 0 rfl (.nil _)))) (disk_Disk_Remove.calls _ _ b0 m0_0 q0_0 x0_0 x0_1 x0_2 x0_3 ([115, 110, 97, 112, 46, 116, 109, 112] : List UInt8) ) hs7v) rfl rfl rfl ?_
 intro y8v
 refine va rfl rfl ?_
 refine va rfl rfl (simL_nil (nrm_then (sim_rtn ?_)))
 exact rtn_fn (y8v.1, y8v.2) rfl rfl rfl (.sel 0 rfl (.sel 0 rfl (.sel 0 rfl (.nil _))))
def snap_clean.v (x0_0 : List ((List UInt8) × (List UInt8 × Int))) (x0_1 : List UInt8) (x0_2 : Int) (x0_3 : Bool) : Int × Int × (List ((List UInt8) × (List UInt8 × Int))) × List UInt8 × Int × Bool := (snap_clean.f x0_0 x0_1 x0_2 x0_3).getD (0, 0, [], [], 0, false)
def disk_named.l0 (x0 : List UInt8) : Nat → Int → Option ((Unit) ⊕ (Bool))
  | 0, _ => none
  | k + 1, z5v => if z5v < (x0.length : Int) then (if 0 ≤ z5v ∧ z5v < (x0.length : Int) then ((if ((decide (((x0.getD z5v.toNat 0).toNat : Int) < (97 : Int))) || (decide ((122 : Int) < ((x0.getD z5v.toNat 0).toNat : Int)))) = true then (some ((decide (((x0.getD z5v.toNat 0).toNat : Int) < (48 : Int))) || (decide ((57 : Int) < ((x0.getD z5v.toNat 0).toNat : Int))))) else (some false)).bind fun s9v => (if ((s9v && (!decide (((x0.getD z5v.toNat 0).toNat : Int) = (45 : Int)))) && (!decide (((x0.getD z5v.toNat 0).toNat : Int) = (46 : Int)))) = true then (some (.inr false)) else (disk_named.l0 x0 k (IntKind.i64.wrap (z5v + 1))))) else none) else (some (.inl ()))
def disk_named.f (k : Nat) (x0 : List UInt8) : Option (Bool) := orR (disk_named.l0 x0 k 0) fun s1v => (some ((decide ((0 : Int) < (x0.length : Int))) && (decide ((x0.length : Int) ≤ (32 : Int)))))
theorem disk_named.calls (W : World) (F : HA) (k : Nat) (x0 : List UInt8)  :
    Fn Tryz.prog W 68 [str x0] [] F (disk_named.f k x0) (fun (r : Bool) (y : Unit) => .bool r) (fun r y => []) := by
 unfold disk_named.f
 refine fn_intro 44 Tryz.func68 rfl Tryz.ntmps68 rfl ?_
 refine sr ?_
 refine va rfl rfl (simL_nil (nrm_then ?_))
 refine sim_cutR (S := Unit) (Unit) (fun s y => [(0, str x0)]) (fun s y => [F]) ?_ ?_
 refine sr ?_
 refine va rfl rfl (simL_nil (nrm_then ?_))
 refine sim_block ?_
 refine sim_loop (S := Int) (Unit) (fun k s => disk_named.l0 x0 k s) (fun s y => [(0, str x0), (3, .int .i64 s)]) (fun s y => [F]) (fun _ => by rw [disk_named.l0]) ?_ k 0 () ⟨rfl, rfl, trivial⟩ (.sel 0 rfl (.nil _))
 intro k s3v y4v
 refine sim_eq (by rw [disk_named.l0]) ?_
 refine sim_seq (sr ?_)
 refine vm rfl rfl ?_
 refine vm rfl rfl ?_
 refine vq (q_lens rfl rfl rfl Tryz.underlying9) rfl ?_
 refine vq (q_lss rfl rfl rfl) rfl (simL_nil (nrm_then ?_))
 refine sim_cond rfl (fun h6v => ?_) (fun h7v => ?_)
 refine sim_skip ?_
 refine nrm_then (sim_seq ?_)
 refine sim_block ?_
 refine sr ?_
 refine vm rfl rfl ?_
 refine vm rfl rfl ?_
 refine simL_ask (fun hi8v => ?_)
 refine vq (q_sidx rfl rfl rfl Tryz.underlying9 hi8v.1 hi8v.2) rfl ?_
 refine va rfl rfl (nx ?_)
 refine vm rfl rfl ?_
 refine vq (q_lss rfl rfl rfl) rfl ?_
 refine vm rfl rfl ?_
 refine simL_valc (b := decide (((x0.getD s3v.toNat 0).toNat : Int) < (97 : Int))) (fun hb22v => RQ.sub (E' := [(4, .int .u8 ((x0.getD s3v.toNat 0).toNat : Int))]) ⟨rfl, trivial⟩ (q_move rfl rfl)) rfl rfl rfl rfl rfl ?_
 refine simL_valc (b := decide (((x0.getD s3v.toNat 0).toNat : Int) < (97 : Int))) (fun hb21v => RQ.sub (E' := [(17, .int .u8 ((x0.getD s3v.toNat 0).toNat : Int))]) ⟨lk_cv rfl hb21v, trivial⟩ (q_gtr rfl rfl rfl)) rfl rfl rfl rfl rfl ?_
 refine vq (q_or rfl rfl rfl) rfl ?_
 refine vm rfl rfl ?_
 refine simL_cut' 7 (S := Bool) (Unit) (fun s y => [(0, str x0), (3, .int .i64 s3v), (4, .int .u8 ((x0.getD s3v.toNat 0).toNat : Int)), (27, .bool s)]) (fun s y => [F]) ?_ ?_
 refine simL_caseb (fun hb13v => ?_) (fun hb14v => ?_)
 rw [hb13v]
 refine simL_valg (q_move rfl rfl) rfl rfl rfl rfl rfl rfl ?_
 refine simL_valg (q_lss rfl rfl rfl) rfl rfl rfl rfl rfl rfl ?_
 refine simL_valg (q_move rfl rfl) rfl rfl rfl rfl rfl rfl ?_
 refine simL_valc (b := decide (((x0.getD s3v.toNat 0).toNat : Int) < (48 : Int))) (fun hb12v => RQ.sub (E' := [(4, .int .u8 ((x0.getD s3v.toNat 0).toNat : Int))]) ⟨rfl, trivial⟩ (q_move rfl rfl)) rfl rfl rfl rfl rfl ?_
 refine simL_valc (b := decide (((x0.getD s3v.toNat 0).toNat : Int) < (48 : Int))) (fun hb11v => RQ.sub (E' := [(24, .int .u8 ((x0.getD s3v.toNat 0).toNat : Int))]) ⟨lk_cv rfl hb11v, trivial⟩ (q_gtr rfl rfl rfl)) rfl rfl rfl rfl rfl ?_
 refine simL_valg (q_or rfl rfl rfl) rfl rfl rfl rfl rfl rfl ?_
 refine vq (q_pick rfl rfl rfl rfl rfl) rfl (simL_nil ?_)
 exact nrm_cut (s := (decide (((x0.getD s3v.toNat 0).toNat : Int) < (48 : Int))) || (decide ((57 : Int) < ((x0.getD s3v.toNat 0).toNat : Int)))) () ⟨rfl, rfl, rfl, rfl, trivial⟩ (.sel 0 rfl (.nil _))
 rw [hb14v]
 refine simL_skipd rfl rfl rfl rfl rfl rfl ?_
 refine simL_skipd rfl rfl rfl rfl rfl rfl ?_
 refine simL_skipd rfl rfl rfl rfl rfl rfl ?_
 refine simL_skipu rfl rfl rfl rfl rfl ?_
 refine simL_skipu rfl rfl rfl rfl rfl ?_
 refine simL_skipd rfl rfl rfl rfl rfl rfl ?_
 refine vq (q_pick rfl rfl rfl rfl rfl) rfl (simL_nil ?_)
 exact nrm_cut (s := false) () ⟨rfl, rfl, rfl, rfl, trivial⟩ (.sel 0 rfl (.nil _))
 intro s9v y10v
 refine vm rfl rfl ?_
 refine simL_valc (b := s9v) (fun hb20v => RQ.sub (E' := [(4, .int .u8 ((x0.getD s3v.toNat 0).toNat : Int))]) ⟨rfl, trivial⟩ (q_move rfl rfl)) rfl rfl rfl rfl rfl ?_
 refine simL_valc (b := s9v) (fun hb19v => RQ.sub (E' := [(29, .int .u8 ((x0.getD s3v.toNat 0).toNat : Int))]) ⟨lk_cv rfl hb19v, trivial⟩ (q_neq rfl rfl rfl)) rfl rfl rfl rfl rfl ?_
 refine vq (q_and rfl rfl rfl) rfl ?_
 refine vm rfl rfl ?_
 refine simL_valc (b := s9v && (!decide (((x0.getD s3v.toNat 0).toNat : Int) = (45 : Int)))) (fun hb18v => RQ.sub (E' := [(4, .int .u8 ((x0.getD s3v.toNat 0).toNat : Int))]) ⟨rfl, trivial⟩ (q_move rfl rfl)) rfl rfl rfl rfl rfl ?_
 refine simL_valc (b := s9v && (!decide (((x0.getD s3v.toNat 0).toNat : Int) = (45 : Int)))) (fun hb17v => RQ.sub (E' := [(33, .int .u8 ((x0.getD s3v.toNat 0).toNat : Int))]) ⟨lk_cv rfl hb17v, trivial⟩ (q_neq rfl rfl rfl)) rfl rfl rfl rfl rfl ?_
 refine vq (q_and rfl rfl rfl) rfl (simL_nil (nrm_then ?_))
 refine sim_condb rfl (fun h15v => ?_) (fun h16v => ?_)
 refine sr ?_
 refine va rfl rfl (simL_nil (nrm_then (sim_rtn ?_)))
 refine rtn_block ?_
 refine rtn_then ?_
 refine rtn_loop ?_
 refine rtn_block ?_
 refine rtn_cutR ?_
 exact rtn_fn () rfl rfl rfl (.sel 0 rfl (.nil _))
 refine sim_skip ?_
 refine nrm_block (nrm_then (sim_region ?_))
 refine vm rfl rfl ?_
 refine vq (q_add rfl rfl rfl) rfl ?_
 refine va rfl rfl (simL_nil ?_)
 exact nrm_again (s := IntKind.i64.wrap (s3v + 1)) () ⟨rfl, rfl, trivial⟩ (.sel 0 rfl (.nil _))
 refine sim_exi ?_
 refine exi_then ?_
 refine exi_loop ?_
 refine exi_here ?_
 exact nrm_cutR (s := ()) () ⟨rfl, trivial⟩ (.sel 0 rfl (.nil _))
 intro s1v y2v
 refine sr ?_
 refine vm rfl rfl ?_
 refine vq (q_lens rfl rfl rfl Tryz.underlying9) rfl ?_
 refine vq (q_gtr rfl rfl rfl) rfl ?_
 refine vm rfl rfl ?_
 refine simL_valc (b := decide ((0 : Int) < (x0.length : Int))) (fun hb25v => RQ.sub (E' := [(0, str x0)]) ⟨rfl, trivial⟩ (q_move rfl rfl)) rfl rfl rfl rfl rfl ?_
 refine simL_valc (b := decide ((0 : Int) < (x0.length : Int))) (fun hb24v => RQ.sub (E' := [(40, str x0)]) ⟨lk_cv rfl hb24v, trivial⟩ (q_lens rfl rfl rfl Tryz.underlying9)) rfl rfl rfl rfl rfl ?_
 refine simL_valc (b := decide ((0 : Int) < (x0.length : Int))) (fun hb23v => RQ.sub (E' := [(41, .int .i64 (x0.length : Int))]) ⟨lk_cv rfl hb23v, trivial⟩ (q_leq rfl rfl rfl)) rfl rfl rfl rfl rfl ?_
 refine vq (q_and rfl rfl rfl) rfl ?_
 refine va rfl rfl (simL_nil (nrm_then (sim_rtn ?_)))
 exact rtn_fn () rfl rfl rfl (.sel 0 rfl (.nil _))

def disk_Disk_Create.f (k : Nat) (x0_0 : List ((List UInt8) × (List UInt8 × Int))) (x0_1 : List UInt8) (x0_2 : Int) (x0_3 : Bool) (x1 : List UInt8) : Option (Int × (List ((List UInt8) × (List UInt8 × Int))) × List UInt8 × Int × Bool) := if x0_3 = true then (some (11, x0_0, x0_1, x0_2, x0_3)) else ((disk_named.f k x1).bind fun s3v => (if (!s3v) = true then (some (7, x0_0, x0_1, x0_2, x0_3)) else ((disk_Disk_Has.f x0_0 x0_1 x0_2 x0_3 x1).bind fun s8v => (if s8v = true then (some (9, x0_0, x0_1, x0_2, x0_3)) else (if (256 : Int) ≤ (x0_0.length : Int) then (some (10, x0_0, x0_1, x0_2, x0_3)) else ((disk_Disk_fails.f x0_0 x0_1 x0_2 x0_3).bind fun s15v => (if s15v.1 = true then (some (11, x0_0, s15v.2.1, s15v.2.2.1, s15v.2.2.2)) else (some (0, mput x0_0 x1 (([] : List UInt8), (0 : Int)), s15v.2.1, s15v.2.2.1, s15v.2.2.2)))))))))
theorem disk_Disk_Create.calls (W : World) (F : HA) (k : Nat) (b0 : Nat) (m0_0 : Nat) (q0_0 : Kps) (x0_0 : List ((List UInt8) × (List UInt8 × Int))) (x0_1 : List UInt8) (x0_2 : Int) (x0_3 : Bool) (x1 : List UInt8)  :
    Fn Tryz.prog W 29 [.pointer (some ⟨b0, 0, none⟩), str x1] [obj b0 76 [.map (some m0_0), str x0_1, .int .i64 x0_2, .bool x0_3], mapF (mapO m0_0 enc9 encP q0_0) FA89 q0_0 x0_0] F (disk_Disk_Create.f k x0_0 x0_1 x0_2 x0_3 x1) (fun (r : Int × (List ((List UInt8) × (List UInt8 × Int))) × List UInt8 × Int × Bool) (y : Nat × Kps) => .int .i64 r.1) (fun r y => [obj b0 76 [.map (some y.1), str r.2.2.1, .int .i64 r.2.2.2.1, .bool r.2.2.2.2], mapF (mapO y.1 enc9 encP y.2) FA89 y.2 r.2.1]) := by
 unfold disk_Disk_Create.f
 refine fn_intro 35 Tryz.func29 rfl Tryz.ntmps29 rfl ?_
 refine sr ?_
 refine va rfl rfl (simL_nil (nrm_then (sim_seq ?_)))
 refine sim_block ?_
 refine sr ?_
 refine vm rfl rfl ?_
 refine vn rfl rfl ?_
 refine vq (q_fa rfl rfl Tryz.underlying76 rfl rfl Tryz.sizeOf4 rfl) rfl ?_
 refine vq (q_load rfl rfl Tryz.isAgg4 (.obj 0 rfl rfl)) rfl ?_
 refine va rfl rfl (simL_nil (nrm_then ?_))
 refine sim_condb rfl (fun h1v => ?_) (fun h2v => ?_)
 refine sr ?_
 refine va rfl rfl (simL_nil (nrm_then (sim_rtn ?_)))
 refine rtn_block ?_
 refine rtn_then ?_
 exact rtn_fn (m0_0, q0_0) rfl rfl rfl (.sel 0 rfl (.sel 0 rfl (.sel 0 rfl (.nil _))))
 refine sr ?_
 refine vm rfl rfl ?_
 refine simL_bind (fun s3v hs4v => ?_)
 refine simL_eff (re_call (vs := [str x1]) (cap := []) (A := []) (rst := [obj b0 76 [.map (some m0_0), str x0_1, .int .i64 x0_2, .bool x0_3], mapF (mapO m0_0 enc9 encP q0_0) FA89 q0_0 x0_0, F]) rfl rfl rfl rfl rfl rfl Tryz.call68 (.sel 0 rfl (.sel 0 rfl (.sel 0 rfl (.nil _)))) (disk_named.calls _ _ k x1 ) hs4v) rfl rfl rfl ?_
 intro y5v
 refine vq (q_not rfl rfl) rfl ?_
 refine va rfl rfl (simL_nil (nrm_then ?_))
 refine sim_condb rfl (fun h6v => ?_) (fun h7v => ?_)
 refine sr ?_
 refine va rfl rfl (simL_nil (nrm_then (sim_rtn ?_)))
 refine rtn_block ?_
 refine rtn_then ?_
 exact rtn_fn (m0_0, q0_0) rfl rfl rfl (.sel 0 rfl (.sel 0 rfl (.sel 0 rfl (.nil _))))
 refine sr ?_
 refine vm rfl rfl ?_
 refine vm rfl rfl ?_
 refine simL_bind (fun s8v hs9v => ?_)
 refine simL_eff (re_call (vs := [.pointer (some ⟨b0, 0, none⟩), str x1]) (cap := []) (A := [obj b0 76 [.map (some m0_0), str x0_1, .int .i64 x0_2, .bool x0_3], mapF (mapO m0_0 enc9 encP q0_0) FA89 q0_0 x0_0]) (rst := [F]) rfl rfl rfl rfl rfl rfl Tryz.call69 (.sel 0 rfl (.sel 0 rfl (.sel 0 rfl (.nil _)))) (disk_Disk_Has.calls _ _ b0 m0_0 q0_0 x0_0 x0_1 x0_2 x0_3 x1 ) hs9v) rfl rfl rfl ?_
 intro y10v
 refine va rfl rfl (simL_nil (nrm_then ?_))
 refine sim_condb rfl (fun h11v => ?_) (fun h12v => ?_)
 refine sr ?_
 refine va rfl rfl (simL_nil (nrm_then (sim_rtn ?_)))
 refine rtn_block ?_
 refine rtn_then ?_
 exact rtn_fn (m0_0, q0_0) rfl rfl rfl (.sel 0 rfl (.sel 0 rfl (.sel 0 rfl (.nil _))))
 refine sr ?_
 refine vm rfl rfl ?_
 refine vn rfl rfl ?_
 refine vq (q_fa rfl rfl Tryz.underlying76 rfl rfl Tryz.sizeOf74 rfl) rfl ?_
 refine vq (q_load rfl rfl Tryz.isAgg74 (.obj 0 rfl rfl)) rfl ?_
 refine vq (q_mlenF (tellsF 1 rfl) rfl rfl rfl Tryz.underlying74) rfl ?_
 refine vq (q_geq rfl rfl rfl) rfl ?_
 refine va rfl rfl (simL_nil (nrm_then ?_))
 refine sim_cond rfl (fun h13v => ?_) (fun h14v => ?_)
 refine sr ?_
 refine va rfl rfl (simL_nil (nrm_then (sim_rtn ?_)))
 refine rtn_block ?_
 refine rtn_then ?_
 exact rtn_fn (m0_0, q0_0) rfl rfl rfl (.sel 0 rfl (.sel 0 rfl (.sel 0 rfl (.nil _))))
 refine sr ?_
 refine vm rfl rfl ?_
 refine simL_bind (fun s15v hs16v => ?_)
 refine simL_eff (re_call (vs := [.pointer (some ⟨b0, 0, none⟩)]) (cap := []) (A := [obj b0 76 [.map (some m0_0), str x0_1, .int .i64 x0_2, .bool x0_3], mapF (mapO m0_0 enc9 encP q0_0) FA89 q0_0 x0_0]) (rst := [F]) rfl rfl rfl rfl rfl rfl Tryz.call45 (.sel 0 rfl (.sel 0 rfl (.sel 0 rfl (.nil _)))) (disk_Disk_fails.calls _ _ b0 m0_0 q0_0 x0_0 x0_1 x0_2 x0_3 ) hs16v) rfl rfl rfl ?_
 intro y17v
 refine va rfl rfl (simL_nil (nrm_then ?_))
 refine sim_condb rfl (fun h18v => ?_) (fun h19v => ?_)
 refine sr ?_
 refine va rfl rfl (simL_nil (nrm_then (sim_rtn ?_)))
 refine rtn_block ?_
 refine rtn_then ?_
 exact rtn_fn (m0_0, q0_0) rfl rfl rfl (.sel 0 rfl (.sel 0 rfl (.sel 0 rfl (.nil _))))
 refine sim_skip ?_
 refine nrm_block (nrm_then (sr ?_))
 refine vm rfl rfl ?_
 refine vn rfl rfl ?_
 refine vq (q_fa rfl rfl Tryz.underlying76 rfl rfl Tryz.sizeOf74 rfl) rfl ?_
 refine vq (q_load rfl rfl Tryz.isAgg74 (.obj 0 rfl rfl)) rfl ?_
 refine vm rfl rfl ?_
 refine vq (q_build (v := .agg #[.slice none 0 0, .int .i64 0]) rfl rfl (fun _ => by kernel_rfl)) rfl ?_
 refine simL_eff (re_box rfl rfl rfl) rfl rfl rfl ?_
 intro b20v
 refine simL_do (re_mputF (ek := enc9) 2 x1 b20v rfl rfl rfl rfl Tryz.underlying74 key9 rfl) rfl rfl ?_
 intro _
 refine simL_ent (H' := [obj b0 76 [.map (some m0_0), str s15v.2.1, .int .i64 s15v.2.2.1, .bool s15v.2.2.2], mapF (mapO m0_0 enc9 encP (mput q0_0 x1 b20v)) FA89 (mput q0_0 x1 b20v) (mput x0_0 x1 (([] : List UInt8), (0 : Int))), F]) ((.sel 1 rfl (.foldU (x := x1) (p := b20v) (v := (([] : List UInt8), (0 : Int))) (none, 0) (.sel 1 rfl (.sel 0 rfl (.row_nil (.sel 0 rfl (.nil _)))))))) ?_
 refine nx ?_
 refine va rfl rfl (simL_nil (nrm_then (sim_rtn ?_)))
 exact rtn_fn (m0_0, mput q0_0 x1 b20v) rfl rfl rfl (.sel 0 rfl (.sel 0 rfl (.sel 0 rfl (.nil _))))

def disk_Disk_Size.f (x0_0 : List ((List UInt8) × (List UInt8 × Int))) (x0_1 : List UInt8) (x0_2 : Int) (x0_3 : Bool) : Option (Int) := ((range0 (fun (s9v : Int) (x4v : List UInt8) (v5v : List UInt8 × Int) => some (IntKind.i64.wrap (s9v + (v5v.1.length : Int)))) 0 x0_0).bind fun s9v => (some s9v)).bind fun s1v => (some s1v)
theorem disk_Disk_Size.calls (W : World) (F : HA) (b0 : Nat) (m0_0 : Nat) (q0_0 : Kps) (x0_0 : List ((List UInt8) × (List UInt8 × Int))) (x0_1 : List UInt8) (x0_2 : Int) (x0_3 : Bool)  :
    Fn Tryz.prog W 62 [.pointer (some ⟨b0, 0, none⟩)] [obj b0 76 [.map (some m0_0), str x0_1, .int .i64 x0_2, .bool x0_3], mapF (mapO m0_0 enc9 encP q0_0) FA89 q0_0 x0_0] F (disk_Disk_Size.f x0_0 x0_1 x0_2 x0_3) (fun (r : Int) (y : Unit) => .int .i64 r) (fun r y => [obj b0 76 [.map (some m0_0), str x0_1, .int .i64 x0_2, .bool x0_3], mapF (mapO m0_0 enc9 encP q0_0) FA89 q0_0 x0_0]) := by
 unfold disk_Disk_Size.f
 refine fn_intro 23 Tryz.func62 rfl Tryz.ntmps62 rfl ?_
 refine sr ?_
 refine va rfl rfl (nx ?_)
 refine va rfl rfl (simL_nil (nrm_then ?_))
 refine sim_cut (S := Int) (Unit) (fun s y => [(3, .int .i64 s)]) (fun s y => [obj b0 76 [.map (some m0_0), str x0_1, .int .i64 x0_2, .bool x0_3], mapF (mapO m0_0 enc9 encP q0_0) FA89 q0_0 x0_0, F]) ?_ ?_
 refine sr ?_
 refine vm rfl rfl ?_
 refine vn rfl rfl ?_
 refine vq (q_fa rfl rfl Tryz.underlying76 rfl rfl Tryz.sizeOf74 rfl) rfl ?_
 refine vq (q_load rfl rfl Tryz.isAgg74 (.obj 0 rfl rfl)) rfl ?_
 refine simL_eff (re_rangeF 1 rfl rfl Tryz.underlying74 rfl) rfl rfl rfl ?_
 intro b3v
 refine simL_nil (nrm_then ?_)
 refine sim_block ?_
 refine sim_range0 (S := Int) (Y := Unit) (o2 := fun s9v => some s9v) (fun (s9v : Int) (x4v : List UInt8) (v5v : List UInt8 × Int) => some (IntKind.i64.wrap (s9v + (v5v.1.length : Int)))) (fun s y => [(3, .int .i64 s), (10, .pointer (some ⟨b3v, 0, none⟩))]) (fun s y => [obj b0 76 [.map (some m0_0), str x0_1, .int .i64 x0_2, .bool x0_3], F]) 0 () (fun x y e => by simpa [str] using e) (fun _ _ => rfl) rfl rfl (fun _ _ _ _ => ⟨rfl, rfl, trivial⟩) ⟨rfl, rfl, trivial⟩ ((.sel 1 rfl (.sel 0 rfl (.sel 0 rfl (.nil _))))) ?_ ?_
 intro kz6v td7v s9v y10v x4v v5v hv8v
 refine sim_eq (o' := some (IntKind.i64.wrap (s9v + (v5v.1.length : Int)))) rfl ?_
 refine sim_ent (H' := [mapF (itJ m0_0 b3v enc9 q0_0 td7v x4v) FA89 q0_0 kz6v, obj b0 76 [.map (some m0_0), str x0_1, .int .i64 x0_2, .bool x0_3], F]) (Ent.refl _) ?_
 refine sim_block ?_
 refine sr ?_
 refine vq (q_entry rfl rfl (ent_J 0 rfl)) rfl ?_
 refine vq (q_ext rfl rfl rfl) rfl ?_
 refine va rfl rfl (simL_nil (nrm_then ?_))
 refine sim_openF (v := v5v) 0 rfl hv8v (fun y12v => ?_)
 refine sim_ent (H' := [obj (fptr q0_0 x4v) 89 [.slice y12v.1 v5v.1.length y12v.2, .int .i64 v5v.2], Row 5 1 y12v.1 v5v.1.length y12v.2 (encB v5v.1), mapH (itJ m0_0 b3v enc9 q0_0 td7v x4v) FA89 q0_0 kz6v x4v, obj b0 76 [.map (some m0_0), str x0_1, .int .i64 x0_2, .bool x0_3], F]) (Ent.refl _) ?_
 refine sim_region ?_
 refine vm rfl rfl ?_
 refine vm rfl rfl ?_
 refine vn rfl rfl ?_
 refine vq (q_fa rfl rfl Tryz.underlying89 rfl rfl Tryz.sizeOf25 rfl) rfl ?_
 refine vq (q_load rfl rfl Tryz.isAgg25 (.obj 0 rfl rfl)) rfl ?_
 refine vq (q_len rfl rfl rfl Tryz.underlying25) rfl ?_
 refine vq (q_add rfl rfl rfl) rfl ?_
 refine va rfl rfl (simL_nil (nrm_block ?_))
 exact nrm_cut (s := IntKind.i64.wrap (s9v + (v5v.1.length : Int))) () ⟨rfl, rfl, trivial⟩ ((.foldF0 (x := x4v) (p := (fptr q0_0 x4v)) (v := v5v) (y12v.1, y12v.2) rfl hv8v (.sel 2 rfl (.sel 0 rfl (.sel 0 rfl (.sel 0 rfl (.sel 0 rfl (.nil _))))))))
 intro s9v y10v
 refine nrm_eq (o' := some s9v) rfl ?_
 refine nrm_ent (H' := [mapF (mapO m0_0 enc9 encP q0_0) FA89 q0_0 x0_0, obj b0 76 [.map (some m0_0), str x0_1, .int .i64 x0_2, .bool x0_3], F]) (Ent.refl _) ?_
 exact nrm_cut (s := s9v) () ⟨rfl, trivial⟩ (.sel 1 rfl (.sel 0 rfl (.sel 0 rfl (.nil _))))
 intro s1v y2v
 refine sr ?_
 refine vm rfl rfl ?_
 refine va rfl rfl (simL_nil (nrm_then (sim_rtn ?_)))
 exact rtn_fn () rfl rfl rfl (.sel 0 rfl (.sel 0 rfl (.sel 0 rfl (.nil _))))

def disk_Disk_Append.f (x0_0 : List ((List UInt8) × (List UInt8 × Int))) (x0_1 : List UInt8) (x0_2 : Int) (x0_3 : Bool) (x1 : List UInt8) (x2 : List UInt8) : Option (Int × (List ((List UInt8) × (List UInt8 × Int))) × List UInt8 × Int × Bool) := if (mget x0_0 x1).isSome = true then (if x0_3 = true then (some (11, x0_0, x0_1, x0_2, x0_3)) else ((disk_Disk_Size.f x0_0 x0_1 x0_2 x0_3).bind fun s4v => (if IntKind.i64.wrap (16777216 - s4v) < (x2.length : Int) then (some (10, x0_0, x0_1, x0_2, x0_3)) else (((disk_Disk_fails.f x0_0 x0_1 x0_2 x0_3).bind fun s11v => (if s11v.1 = true then (if 0 ≤ (0 : Int) ∧ (0 : Int) ≤ IntKind.i64.wrap (Int.tdiv (x2.length : Int) 2) ∧ IntKind.i64.wrap (Int.tdiv (x2.length : Int) 2) ≤ (x2.length : Int) then (some (cut x2 (0 : Int) (IntKind.i64.wrap (Int.tdiv (x2.length : Int) 2)), 11, s11v.2.1, s11v.2.2.1, s11v.2.2.2)) else none) else (some (x2, 0, s11v.2.1, s11v.2.2.1, s11v.2.2.2)))).bind fun s9v => (if ((((mget x0_0 x1).getD (([] : List UInt8), (0 : Int))).1).length + s9v.1.length) * 1 ≤ 140737488355328 then (some (s9v.2.1, mput x0_0 x1 ((((mget x0_0 x1).getD (([] : List UInt8), (0 : Int))).1) ++ s9v.1, ((mget x0_0 x1).getD (([] : List UInt8), (0 : Int))).2), x1, s9v.2.2.2.1, s9v.2.2.2.2)) else none))))) else (if x0_3 = true then (some (11, x0_0, x0_1, x0_2, x0_3)) else (some (8, x0_0, x0_1, x0_2, x0_3)))
theorem disk_Disk_Append.calls (W : World) (F : HA) (b0 : Nat) (m0_0 : Nat) (q0_0 : Kps) (x0_0 : List ((List UInt8) × (List UInt8 × Int))) (x0_1 : List UInt8) (x0_2 : Int) (x0_3 : Bool) (x1 : List UInt8) (a2 : Option Addr) (c2 : Nat) (x2 : List UInt8) (h2 : Rd F a2 (encB x2)) (hc2 : x2.length ≤ c2) (hm2 : c2 ≤ maxLen) :
    Fn Tryz.prog W 30 [.pointer (some ⟨b0, 0, none⟩), str x1, .slice a2 x2.length c2] [obj b0 76 [.map (some m0_0), str x0_1, .int .i64 x0_2, .bool x0_3], mapF (mapO m0_0 enc9 encP q0_0) FA89 q0_0 x0_0] F (disk_Disk_Append.f x0_0 x0_1 x0_2 x0_3 x1 x2) (fun (r : Int × (List ((List UInt8) × (List UInt8 × Int))) × List UInt8 × Int × Bool) (y : Nat × Kps) => .int .i64 r.1) (fun r y => [obj b0 76 [.map (some y.1), str r.2.2.1, .int .i64 r.2.2.2.1, .bool r.2.2.2.2], mapF (mapO y.1 enc9 encP y.2) FA89 y.2 r.2.1]) := by
 unfold disk_Disk_Append.f
 refine fn_intro 51 Tryz.func30 rfl Tryz.ntmps30 rfl ?_
 refine sr ?_
 refine va rfl rfl (simL_nil (nrm_then (sim_seq ?_)))
 refine sim_if (fun hk1v => ?_) (fun hk1v => ?_)
 refine sim_region ?_
 refine vm rfl rfl ?_
 refine vn rfl rfl ?_
 refine vq (q_fa rfl rfl Tryz.underlying76 rfl rfl Tryz.sizeOf74 rfl) rfl ?_
 refine vq (q_load rfl rfl Tryz.isAgg74 (.obj 0 rfl rfl)) rfl ?_
 refine vm rfl rfl ?_
 refine vq ((q_mlookY (ek := enc9) x1 (tellsF 1 rfl) hk1v rfl rfl rfl Tryz.underlying74 key9 : RQ _ _ _ _ (.pointer (some ⟨(fptr q0_0 x1), 0, none⟩)))) rfl ?_
 refine va rfl rfl (simL_nil (nrm_then (sim_seq ?_)))
 refine sim_block ?_
 refine sr ?_
 refine vm rfl rfl ?_
 refine vn rfl rfl ?_
 refine vq (q_fa rfl rfl Tryz.underlying76 rfl rfl Tryz.sizeOf4 rfl) rfl ?_
 refine vq (q_load rfl rfl Tryz.isAgg4 (.obj 0 rfl rfl)) rfl ?_
 refine va rfl rfl (simL_nil (nrm_then ?_))
 refine sim_condb rfl (fun h2v => ?_) (fun h3v => ?_)
 refine sr ?_
 refine va rfl rfl (simL_nil (nrm_then (sim_rtn ?_)))
 refine rtn_block ?_
 refine rtn_then ?_
 exact rtn_fn (m0_0, q0_0) rfl rfl rfl (.sel 0 rfl (.sel 0 rfl (.sel 0 rfl (.nil _))))
 refine sr ?_
 refine vm rfl rfl ?_
 refine vq (q_eqp rfl rfl rfl Tryz.underlying87) rfl ?_
 refine va rfl rfl (simL_nil (nrm_then ?_))
 refine sim_false rfl ?_
 refine sr ?_
 refine vm rfl rfl ?_
 refine vq (q_len rfl rfl rfl Tryz.underlying25) rfl ?_
 refine vm rfl rfl ?_
 refine simL_bind (fun s4v hs5v => ?_)
 refine simL_eff (re_call (vs := [.pointer (some ⟨b0, 0, none⟩)]) (cap := []) (A := [obj b0 76 [.map (some m0_0), str x0_1, .int .i64 x0_2, .bool x0_3], mapF (mapO m0_0 enc9 encP q0_0) FA89 q0_0 x0_0]) (rst := [F]) rfl rfl rfl rfl rfl rfl Tryz.call62 (.sel 0 rfl (.sel 0 rfl (.sel 0 rfl (.nil _)))) (disk_Disk_Size.calls _ _ b0 m0_0 q0_0 x0_0 x0_1 x0_2 x0_3 ) hs5v) rfl rfl rfl ?_
 intro y6v
 refine vq (q_sub rfl rfl rfl) rfl ?_
 refine vq (q_gtr rfl rfl rfl) rfl ?_
 refine va rfl rfl (simL_nil (nrm_then ?_))
 refine sim_cond rfl (fun h7v => ?_) (fun h8v => ?_)
 refine sr ?_
 refine va rfl rfl (simL_nil (nrm_then (sim_rtn ?_)))
 refine rtn_block ?_
 refine rtn_then ?_
 exact rtn_fn (m0_0, q0_0) rfl rfl rfl (.sel 0 rfl (.sel 0 rfl (.sel 0 rfl (.nil _))))
 refine sim_skip ?_
 refine nrm_block (nrm_then (sr ?_))
 refine va rfl rfl (simL_nil (nrm_then ?_))
 refine sim_cut (S := List UInt8 × Int × List UInt8 × Int × Bool) (Option Addr × Nat) (fun s y => [(0, .pointer (some ⟨b0, 0, none⟩)), (1, str x1), (2, .slice y.1 s.1.length y.2), (7, .pointer (some ⟨(fptr q0_0 x1), 0, none⟩)), (8, .int .i64 s.2.1)]) (fun s y => [pr (Rd F y.1 (encB s.1) ∧ s.1.length ≤ y.2 ∧ y.2 ≤ maxLen), obj b0 76 [.map (some m0_0), str s.2.2.1, .int .i64 s.2.2.2.1, .bool s.2.2.2.2], mapF (mapO m0_0 enc9 encP q0_0) FA89 q0_0 x0_0, F]) ?_ ?_
 refine sr ?_
 refine vm rfl rfl ?_
 refine simL_bind (fun s11v hs12v => ?_)
 refine simL_eff (re_call (vs := [.pointer (some ⟨b0, 0, none⟩)]) (cap := []) (A := [obj b0 76 [.map (some m0_0), str x0_1, .int .i64 x0_2, .bool x0_3], mapF (mapO m0_0 enc9 encP q0_0) FA89 q0_0 x0_0]) (rst := [F]) rfl rfl rfl rfl rfl rfl Tryz.call45 (.sel 0 rfl (.sel 0 rfl (.sel 0 rfl (.nil _)))) (disk_Disk_fails.calls _ _ b0 m0_0 q0_0 x0_0 x0_1 x0_2 x0_3 ) hs12v) rfl rfl rfl ?_
 intro y13v
 refine simL_nil (nrm_then ?_)
 refine sim_condb rfl (fun h14v => ?_) (fun h15v => ?_)
 refine sim_region ?_
 refine vm rfl rfl ?_
 refine vm rfl rfl ?_
 refine vq (q_len rfl rfl rfl Tryz.underlying25) rfl ?_
 refine vq (q_quo rfl rfl rfl (by decide)) rfl ?_
 refine simL_ask (fun hb17v => ?_)
 obtain ⟨a18v, c19v, hS20v, hr21v, hc22v, hm23v⟩ := slice_pre (lo := (0 : Int)) (hi := IntKind.i64.wrap (Int.tdiv (x2.length : Int) 2)) h2 hc2 hb17v
 refine vq (q_sub_ro (l := x2) (lo' := (0 : Int)) (hi' := IntKind.i64.wrap (Int.tdiv (x2.length : Int) 2)) rfl rfl rfl rfl Tryz.underlying25 Tryz.sizeOf5 (.inr ⟨_, rfl⟩) (.inl ⟨rfl, rfl⟩) hb17v hc2 hS20v) rfl ?_
 refine va rfl rfl ?_
 refine va rfl rfl (simL_nil ?_)
 exact nrm_cut (s := (cut x2 (0 : Int) (IntKind.i64.wrap (Int.tdiv (x2.length : Int) 2)), 11, s11v.2.1, s11v.2.2.1, s11v.2.2.2)) (a18v, c19v) ⟨rfl, rfl, rfl, rfl, rfl, trivial⟩ (.pr_in ⟨hr21v, hc22v, (Nat.le_trans hm23v hm2)⟩ (.sel 0 rfl (.sel 0 rfl (.sel 0 rfl (.nil _)))))
 refine sim_skip ?_
 exact nrm_cut (s := (x2, 0, s11v.2.1, s11v.2.2.1, s11v.2.2.2)) (a2, c2) ⟨rfl, rfl, rfl, rfl, rfl, trivial⟩ (.pr_in ⟨h2, hc2, hm2⟩ (.sel 0 rfl (.sel 0 rfl (.sel 0 rfl (.nil _)))))
 intro s9v y10v
 refine sim_pr (fun hj24v => ?_)
 refine sim_seq ?_
 refine sim_openF (v := ((mget x0_0 x1).getD (([] : List UInt8), (0 : Int)))) 1 rfl (getD_some hk1v) (fun y25v => ?_)
 refine sim_ent (H' := [obj (fptr q0_0 x1) 89 [.slice y25v.1 ((((mget x0_0 x1).getD (([] : List UInt8), (0 : Int))).1).length) y25v.2, .int .i64 (((mget x0_0 x1).getD (([] : List UInt8), (0 : Int))).2)], Row 5 1 y25v.1 (((mget x0_0 x1).getD (([] : List UInt8), (0 : Int))).1).length y25v.2 (encB (((mget x0_0 x1).getD (([] : List UInt8), (0 : Int))).1)), mapH (mapO m0_0 enc9 encP q0_0) FA89 q0_0 x0_0 x1, obj b0 76 [.map (some m0_0), str s9v.2.2.1, .int .i64 s9v.2.2.2.1, .bool s9v.2.2.2.2], F]) (Ent.refl _) ?_
 refine sim_region ?_
 refine vm rfl rfl ?_
 refine vm rfl rfl ?_
 refine vn rfl rfl ?_
 refine vq (q_fa rfl rfl Tryz.underlying89 rfl rfl Tryz.sizeOf25 rfl) rfl ?_
 refine vq (q_load rfl rfl Tryz.isAgg25 (.obj 0 rfl rfl)) rfl ?_
 refine vm rfl rfl ?_
 refine simL_ask (fun hb27v => ?_)
 refine simL_eff (re_appendb 1 rfl rfl rfl Tryz.underlying25 elt5 rfl (hj24v.1.rds 3 rfl) hb27v) rfl rfl rfl ?_
 intro y26v
 refine vn rfl rfl ?_
 refine vq (q_fa rfl rfl Tryz.underlying89 rfl rfl Tryz.sizeOf25 rfl) rfl ?_
 refine simL_do (re_store 0 rfl rfl rfl Tryz.sizeOf25 rfl rfl (one_of (by rfl)) rfl rfl) rfl rfl ?_
 intro _
 refine nx ?_
 refine vm rfl rfl ?_
 refine vm rfl rfl ?_
 refine vn rfl rfl ?_
 refine vq (q_fa rfl rfl Tryz.underlying76 rfl rfl Tryz.sizeOf9 rfl) rfl ?_
 refine simL_do (re_store 3 rfl rfl rfl Tryz.sizeOf9 rfl rfl (one_of (by rfl)) rfl rfl) rfl rfl ?_
 intro _
 refine nx ?_
 refine vm rfl rfl ?_
 refine va rfl rfl (simL_nil (nrm_then (sim_rtn ?_)))
 exact rtn_fn (m0_0, q0_0) rfl rfl rfl (.sel 3 rfl (.foldF (x := x1) (p := (fptr q0_0 x1)) (v := ((((mget x0_0 x1).getD (([] : List UInt8), (0 : Int))).1) ++ s9v.1, ((mget x0_0 x1).getD (([] : List UInt8), (0 : Int))).2)) (y26v.1, y26v.2) rfl (.sel 2 rfl (.sel 0 rfl (.sel 0 rfl (.sel 0 rfl (.nil _)))))))
 refine sim_region ?_
 refine vm rfl rfl ?_
 refine vn rfl rfl ?_
 refine vq (q_fa rfl rfl Tryz.underlying76 rfl rfl Tryz.sizeOf74 rfl) rfl ?_
 refine vq (q_load rfl rfl Tryz.isAgg74 (.obj 0 rfl rfl)) rfl ?_
 refine vm rfl rfl ?_
 refine vq (q_mlookN (ek := enc9) x1 (tellsF 1 rfl) (isNone_of hk1v) rfl rfl rfl Tryz.underlying74 key9 Tryz.zeroValue87) rfl ?_
 refine va rfl rfl (simL_nil (nrm_then (sim_seq ?_)))
 refine sim_block ?_
 refine sr ?_
 refine vm rfl rfl ?_
 refine vn rfl rfl ?_
 refine vq (q_fa rfl rfl Tryz.underlying76 rfl rfl Tryz.sizeOf4 rfl) rfl ?_
 refine vq (q_load rfl rfl Tryz.isAgg4 (.obj 0 rfl rfl)) rfl ?_
 refine va rfl rfl (simL_nil (nrm_then ?_))
 refine sim_condb rfl (fun h28v => ?_) (fun h29v => ?_)
 refine sr ?_
 refine va rfl rfl (simL_nil (nrm_then (sim_rtn ?_)))
 refine rtn_block ?_
 refine rtn_then ?_
 exact rtn_fn (m0_0, q0_0) rfl rfl rfl (.sel 0 rfl (.sel 0 rfl (.sel 0 rfl (.nil _))))
 refine sr ?_
 refine vm rfl rfl ?_
 refine vq (q_eqnn rfl rfl rfl Tryz.underlying87) rfl ?_
 refine va rfl rfl (simL_nil (nrm_then ?_))
 refine sim_true rfl ?_
 refine sr ?_
 refine va rfl rfl (simL_nil (nrm_then (sim_rtn ?_)))
 refine rtn_block ?_
 refine rtn_then ?_
 exact rtn_fn (m0_0, q0_0) rfl rfl rfl (.sel 0 rfl (.sel 0 rfl (.sel 0 rfl (.nil _))))

def disk_Disk_Sync.f (x0_0 : List ((List UInt8) × (List UInt8 × Int))) (x0_1 : List UInt8) (x0_2 : Int) (x0_3 : Bool) (x1 : List UInt8) : Option (Int × (List ((List UInt8) × (List UInt8 × Int))) × List UInt8 × Int × Bool) := if (mget x0_0 x1).isSome = true then (if x0_3 = true then (some (11, x0_0, x0_1, x0_2, x0_3)) else ((disk_Disk_fails.f x0_0 x0_1 x0_2 x0_3).bind fun s4v => (if s4v.1 = true then (some (11, x0_0, s4v.2.1, s4v.2.2.1, s4v.2.2.2)) else (some (0, mput x0_0 x1 (((mget x0_0 x1).getD (([] : List UInt8), (0 : Int))).1, ((((mget x0_0 x1).getD (([] : List UInt8), (0 : Int))).1).length : Int)), s4v.2.1, s4v.2.2.1, s4v.2.2.2))))) else (if x0_3 = true then (some (11, x0_0, x0_1, x0_2, x0_3)) else (some (8, x0_0, x0_1, x0_2, x0_3)))
theorem disk_Disk_Sync.calls (W : World) (F : HA) (b0 : Nat) (m0_0 : Nat) (q0_0 : Kps) (x0_0 : List ((List UInt8) × (List UInt8 × Int))) (x0_1 : List UInt8) (x0_2 : Int) (x0_3 : Bool) (x1 : List UInt8)  :
    Fn Tryz.prog W 31 [.pointer (some ⟨b0, 0, none⟩), str x1] [obj b0 76 [.map (some m0_0), str x0_1, .int .i64 x0_2, .bool x0_3], mapF (mapO m0_0 enc9 encP q0_0) FA89 q0_0 x0_0] F (disk_Disk_Sync.f x0_0 x0_1 x0_2 x0_3 x1) (fun (r : Int × (List ((List UInt8) × (List UInt8 × Int))) × List UInt8 × Int × Bool) (y : Nat × Kps) => .int .i64 r.1) (fun r y => [obj b0 76 [.map (some y.1), str r.2.2.1, .int .i64 r.2.2.2.1, .bool r.2.2.2.2], mapF (mapO y.1 enc9 encP y.2) FA89 y.2 r.2.1]) := by
 unfold disk_Disk_Sync.f
 refine fn_intro 31 Tryz.func31 rfl Tryz.ntmps31 rfl ?_
 refine sr ?_
 refine va rfl rfl (simL_nil (nrm_then (sim_seq ?_)))
 refine sim_if (fun hk1v => ?_) (fun hk1v => ?_)
 refine sim_region ?_
 refine vm rfl rfl ?_
 refine vn rfl rfl ?_
 refine vq (q_fa rfl rfl Tryz.underlying76 rfl rfl Tryz.sizeOf74 rfl) rfl ?_
 refine vq (q_load rfl rfl Tryz.isAgg74 (.obj 0 rfl rfl)) rfl ?_
 refine vm rfl rfl ?_
 refine vq ((q_mlookY (ek := enc9) x1 (tellsF 1 rfl) hk1v rfl rfl rfl Tryz.underlying74 key9 : RQ _ _ _ _ (.pointer (some ⟨(fptr q0_0 x1), 0, none⟩)))) rfl ?_
 refine va rfl rfl (simL_nil (nrm_then (sim_seq ?_)))
 refine sim_block ?_
 refine sr ?_
 refine vm rfl rfl ?_
 refine vn rfl rfl ?_
 refine vq (q_fa rfl rfl Tryz.underlying76 rfl rfl Tryz.sizeOf4 rfl) rfl ?_
 refine vq (q_load rfl rfl Tryz.isAgg4 (.obj 0 rfl rfl)) rfl ?_
 refine va rfl rfl (simL_nil (nrm_then ?_))
 refine sim_condb rfl (fun h2v => ?_) (fun h3v => ?_)
 refine sr ?_
 refine va rfl rfl (simL_nil (nrm_then (sim_rtn ?_)))
 refine rtn_block ?_
 refine rtn_then ?_
 exact rtn_fn (m0_0, q0_0) rfl rfl rfl (.sel 0 rfl (.sel 0 rfl (.sel 0 rfl (.nil _))))
 refine sr ?_
 refine vm rfl rfl ?_
 refine vq (q_eqp rfl rfl rfl Tryz.underlying87) rfl ?_
 refine va rfl rfl (simL_nil (nrm_then ?_))
 refine sim_false rfl ?_
 refine sr ?_
 refine vm rfl rfl ?_
 refine simL_bind (fun s4v hs5v => ?_)
 refine simL_eff (re_call (vs := [.pointer (some ⟨b0, 0, none⟩)]) (cap := []) (A := [obj b0 76 [.map (some m0_0), str x0_1, .int .i64 x0_2, .bool x0_3], mapF (mapO m0_0 enc9 encP q0_0) FA89 q0_0 x0_0]) (rst := [F]) rfl rfl rfl rfl rfl rfl Tryz.call45 (.sel 0 rfl (.sel 0 rfl (.sel 0 rfl (.nil _)))) (disk_Disk_fails.calls _ _ b0 m0_0 q0_0 x0_0 x0_1 x0_2 x0_3 ) hs5v) rfl rfl rfl ?_
 intro y6v
 refine va rfl rfl (simL_nil (nrm_then ?_))
 refine sim_condb rfl (fun h7v => ?_) (fun h8v => ?_)
 refine sr ?_
 refine va rfl rfl (simL_nil (nrm_then (sim_rtn ?_)))
 refine rtn_block ?_
 refine rtn_then ?_
 exact rtn_fn (m0_0, q0_0) rfl rfl rfl (.sel 0 rfl (.sel 0 rfl (.sel 0 rfl (.nil _))))
 refine sim_skip ?_
 refine nrm_block (nrm_then (sim_seq ?_))
 refine sim_openF (v := ((mget x0_0 x1).getD (([] : List UInt8), (0 : Int)))) 1 rfl (getD_some hk1v) (fun y9v => ?_)
 refine sim_ent (H' := [obj (fptr q0_0 x1) 89 [.slice y9v.1 ((((mget x0_0 x1).getD (([] : List UInt8), (0 : Int))).1).length) y9v.2, .int .i64 (((mget x0_0 x1).getD (([] : List UInt8), (0 : Int))).2)], Row 5 1 y9v.1 (((mget x0_0 x1).getD (([] : List UInt8), (0 : Int))).1).length y9v.2 (encB (((mget x0_0 x1).getD (([] : List UInt8), (0 : Int))).1)), mapH (mapO m0_0 enc9 encP q0_0) FA89 q0_0 x0_0 x1, obj b0 76 [.map (some m0_0), str s4v.2.1, .int .i64 s4v.2.2.1, .bool s4v.2.2.2], F]) (Ent.refl _) ?_
 refine sim_region ?_
 refine vm rfl rfl ?_
 refine vm rfl rfl ?_
 refine vn rfl rfl ?_
 refine vq (q_fa rfl rfl Tryz.underlying89 rfl rfl Tryz.sizeOf25 rfl) rfl ?_
 refine vq (q_load rfl rfl Tryz.isAgg25 (.obj 0 rfl rfl)) rfl ?_
 refine vq (q_len rfl rfl rfl Tryz.underlying25) rfl ?_
 refine vn rfl rfl ?_
 refine vq (q_fa rfl rfl Tryz.underlying89 rfl rfl Tryz.sizeOf3 rfl) rfl ?_
 refine simL_do (re_store 0 rfl rfl rfl Tryz.sizeOf3 rfl rfl (one_of (by rfl)) rfl rfl) rfl rfl ?_
 intro _
 refine nx ?_
 refine va rfl rfl (simL_nil (nrm_then (sim_rtn ?_)))
 exact rtn_fn (m0_0, q0_0) rfl rfl rfl (.sel 3 rfl (.foldF (x := x1) (p := (fptr q0_0 x1)) (v := (((mget x0_0 x1).getD (([] : List UInt8), (0 : Int))).1, ((((mget x0_0 x1).getD (([] : List UInt8), (0 : Int))).1).length : Int))) (y9v.1, y9v.2) rfl (.sel 2 rfl (.sel 0 rfl (.sel 0 rfl (.sel 0 rfl (.nil _)))))))
 refine sim_region ?_
 refine vm rfl rfl ?_
 refine vn rfl rfl ?_
 refine vq (q_fa rfl rfl Tryz.underlying76 rfl rfl Tryz.sizeOf74 rfl) rfl ?_
 refine vq (q_load rfl rfl Tryz.isAgg74 (.obj 0 rfl rfl)) rfl ?_
 refine vm rfl rfl ?_
 refine vq (q_mlookN (ek := enc9) x1 (tellsF 1 rfl) (isNone_of hk1v) rfl rfl rfl Tryz.underlying74 key9 Tryz.zeroValue87) rfl ?_
 refine va rfl rfl (simL_nil (nrm_then (sim_seq ?_)))
 refine sim_block ?_
 refine sr ?_
 refine vm rfl rfl ?_
 refine vn rfl rfl ?_
 refine vq (q_fa rfl rfl Tryz.underlying76 rfl rfl Tryz.sizeOf4 rfl) rfl ?_
 refine vq (q_load rfl rfl Tryz.isAgg4 (.obj 0 rfl rfl)) rfl ?_
 refine va rfl rfl (simL_nil (nrm_then ?_))
 refine sim_condb rfl (fun h10v => ?_) (fun h11v => ?_)
 refine sr ?_
 refine va rfl rfl (simL_nil (nrm_then (sim_rtn ?_)))
 refine rtn_block ?_
 refine rtn_then ?_
 exact rtn_fn (m0_0, q0_0) rfl rfl rfl (.sel 0 rfl (.sel 0 rfl (.sel 0 rfl (.nil _))))
 refine sr ?_
 refine vm rfl rfl ?_
 refine vq (q_eqnn rfl rfl rfl Tryz.underlying87) rfl ?_
 refine va rfl rfl (simL_nil (nrm_then ?_))
 refine sim_true rfl ?_
 refine sr ?_
 refine va rfl rfl (simL_nil (nrm_then (sim_rtn ?_)))
 refine rtn_block ?_
 refine rtn_then ?_
 exact rtn_fn (m0_0, q0_0) rfl rfl rfl (.sel 0 rfl (.sel 0 rfl (.sel 0 rfl (.nil _))))
def disk_Disk_Sync.v (x0_0 : List ((List UInt8) × (List UInt8 × Int))) (x0_1 : List UInt8) (x0_2 : Int) (x0_3 : Bool) (x1 : List UInt8) : Int × (List ((List UInt8) × (List UInt8 × Int))) × List UInt8 × Int × Bool := (disk_Disk_Sync.f x0_0 x0_1 x0_2 x0_3 x1).getD (0, [], [], 0, false)
def disk_Disk_Rename.f (k : Nat) (x0_0 : List ((List UInt8) × (List UInt8 × Int))) (x0_1 : List UInt8) (x0_2 : Int) (x0_3 : Bool) (x1 : List UInt8) (x2 : List UInt8) : Option (Int × (List ((List UInt8) × (List UInt8 × Int))) × List UInt8 × Int × Bool) := if (mget x0_0 x1).isSome = true then (if x0_3 = true then (some (11, x0_0, x0_1, x0_2, x0_3)) else ((disk_named.f k x2).bind fun s4v => (if (!s4v) = true then (some (7, x0_0, x0_1, x0_2, x0_3)) else ((disk_Disk_fails.f x0_0 x0_1 x0_2 x0_3).bind fun s9v => (if s9v.1 = true then (some (11, x0_0, s9v.2.1, s9v.2.2.1, s9v.2.2.2)) else (if x1 = x2 then (some (0, x0_0, s9v.2.1, s9v.2.2.1, s9v.2.2.2)) else ((if s9v.2.1 = x1 then (some x2) else (if s9v.2.1 = x2 then (some ([] : List UInt8)) else (some s9v.2.1))).bind fun s16v => (some (0, mput (mdel x0_0 x1) x2 (((mget x0_0 x1).getD (([] : List UInt8), (0 : Int))).1, ((mget x0_0 x1).getD (([] : List UInt8), (0 : Int))).2), s16v, s9v.2.2.1, s9v.2.2.2))))))))) else (if x0_3 = true then (some (11, x0_0, x0_1, x0_2, x0_3)) else (some (8, x0_0, x0_1, x0_2, x0_3)))
theorem disk_Disk_Rename.calls (W : World) (F : HA) (k : Nat) (b0 : Nat) (m0_0 : Nat) (q0_0 : Kps) (x0_0 : List ((List UInt8) × (List UInt8 × Int))) (x0_1 : List UInt8) (x0_2 : Int) (x0_3 : Bool) (x1 : List UInt8) (x2 : List UInt8)  :
    Fn Tryz.prog W 42 [.pointer (some ⟨b0, 0, none⟩), str x1, str x2] [obj b0 76 [.map (some m0_0), str x0_1, .int .i64 x0_2, .bool x0_3], mapF (mapO m0_0 enc9 encP q0_0) FA89 q0_0 x0_0] F (disk_Disk_Rename.f k x0_0 x0_1 x0_2 x0_3 x1 x2) (fun (r : Int × (List ((List UInt8) × (List UInt8 × Int))) × List UInt8 × Int × Bool) (y : Nat × Kps) => .int .i64 r.1) (fun r y => [obj b0 76 [.map (some y.1), str r.2.2.1, .int .i64 r.2.2.2.1, .bool r.2.2.2.2], mapF (mapO y.1 enc9 encP y.2) FA89 y.2 r.2.1]) := by
 unfold disk_Disk_Rename.f
 refine fn_intro 61 Tryz.func42 rfl Tryz.ntmps42 rfl ?_
 refine sr ?_
 refine va rfl rfl (simL_nil (nrm_then (sim_seq ?_)))
 refine sim_if (fun hk1v => ?_) (fun hk1v => ?_)
 refine sim_region ?_
 refine vm rfl rfl ?_
 refine vn rfl rfl ?_
 refine vq (q_fa rfl rfl Tryz.underlying76 rfl rfl Tryz.sizeOf74 rfl) rfl ?_
 refine vq (q_load rfl rfl Tryz.isAgg74 (.obj 0 rfl rfl)) rfl ?_
 refine vm rfl rfl ?_
 refine vq ((q_mlookY (ek := enc9) x1 (tellsF 1 rfl) hk1v rfl rfl rfl Tryz.underlying74 key9 : RQ _ _ _ _ (.pointer (some ⟨(fptr q0_0 x1), 0, none⟩)))) rfl ?_
 refine va rfl rfl (simL_nil (nrm_then (sim_seq ?_)))
 refine sim_block ?_
 refine sr ?_
 refine vm rfl rfl ?_
 refine vn rfl rfl ?_
 refine vq (q_fa rfl rfl Tryz.underlying76 rfl rfl Tryz.sizeOf4 rfl) rfl ?_
 refine vq (q_load rfl rfl Tryz.isAgg4 (.obj 0 rfl rfl)) rfl ?_
 refine va rfl rfl (simL_nil (nrm_then ?_))
 refine sim_condb rfl (fun h2v => ?_) (fun h3v => ?_)
 refine sr ?_
 refine va rfl rfl (simL_nil (nrm_then (sim_rtn ?_)))
 refine rtn_block ?_
 refine rtn_then ?_
 exact rtn_fn (m0_0, q0_0) rfl rfl rfl (.sel 0 rfl (.sel 0 rfl (.sel 0 rfl (.nil _))))
 refine sr ?_
 refine vm rfl rfl ?_
 refine vq (q_eqp rfl rfl rfl Tryz.underlying87) rfl ?_
 refine va rfl rfl (simL_nil (nrm_then ?_))
 refine sim_false rfl ?_
 refine sr ?_
 refine vm rfl rfl ?_
 refine simL_bind (fun s4v hs5v => ?_)
 refine simL_eff (re_call (vs := [str x2]) (cap := []) (A := []) (rst := [obj b0 76 [.map (some m0_0), str x0_1, .int .i64 x0_2, .bool x0_3], mapF (mapO m0_0 enc9 encP q0_0) FA89 q0_0 x0_0, F]) rfl rfl rfl rfl rfl rfl Tryz.call68 (.sel 0 rfl (.sel 0 rfl (.sel 0 rfl (.nil _)))) (disk_named.calls _ _ k x2 ) hs5v) rfl rfl rfl ?_
 intro y6v
 refine vq (q_not rfl rfl) rfl ?_
 refine va rfl rfl (simL_nil (nrm_then ?_))
 refine sim_condb rfl (fun h7v => ?_) (fun h8v => ?_)
 refine sr ?_
 refine va rfl rfl (simL_nil (nrm_then (sim_rtn ?_)))
 refine rtn_block ?_
 refine rtn_then ?_
 exact rtn_fn (m0_0, q0_0) rfl rfl rfl (.sel 0 rfl (.sel 0 rfl (.sel 0 rfl (.nil _))))
 refine sr ?_
 refine vm rfl rfl ?_
 refine simL_bind (fun s9v hs10v => ?_)
 refine simL_eff (re_call (vs := [.pointer (some ⟨b0, 0, none⟩)]) (cap := []) (A := [obj b0 76 [.map (some m0_0), str x0_1, .int .i64 x0_2, .bool x0_3], mapF (mapO m0_0 enc9 encP q0_0) FA89 q0_0 x0_0]) (rst := [F]) rfl rfl rfl rfl rfl rfl Tryz.call45 (.sel 0 rfl (.sel 0 rfl (.sel 0 rfl (.nil _)))) (disk_Disk_fails.calls _ _ b0 m0_0 q0_0 x0_0 x0_1 x0_2 x0_3 ) hs10v) rfl rfl rfl ?_
 intro y11v
 refine va rfl rfl (simL_nil (nrm_then ?_))
 refine sim_condb rfl (fun h12v => ?_) (fun h13v => ?_)
 refine sr ?_
 refine va rfl rfl (simL_nil (nrm_then (sim_rtn ?_)))
 refine rtn_block ?_
 refine rtn_then ?_
 exact rtn_fn (m0_0, q0_0) rfl rfl rfl (.sel 0 rfl (.sel 0 rfl (.sel 0 rfl (.nil _))))
 refine sr ?_
 refine vm rfl rfl ?_
 refine vm rfl rfl ?_
 refine vq (q_eqs rfl rfl rfl) rfl ?_
 refine va rfl rfl (simL_nil (nrm_then ?_))
 refine sim_cond rfl (fun h14v => ?_) (fun h15v => ?_)
 refine sr ?_
 refine va rfl rfl (simL_nil (nrm_then (sim_rtn ?_)))
 refine rtn_block ?_
 refine rtn_then ?_
 exact rtn_fn (m0_0, q0_0) rfl rfl rfl (.sel 0 rfl (.sel 0 rfl (.sel 0 rfl (.nil _))))
 refine sim_skip ?_
 refine nrm_block (nrm_then ?_)
 refine sim_cut (S := List UInt8) (Unit) (fun s y => [(0, .pointer (some ⟨b0, 0, none⟩)), (1, str x1), (2, str x2), (7, .pointer (some ⟨(fptr q0_0 x1), 0, none⟩))]) (fun s y => [obj b0 76 [.map (some m0_0), str s, .int .i64 s9v.2.2.1, .bool s9v.2.2.2], mapF (mapO m0_0 enc9 encP q0_0) FA89 q0_0 x0_0, F]) ?_ ?_
 refine sr ?_
 refine vm rfl rfl ?_
 refine vn rfl rfl ?_
 refine vq (q_fa rfl rfl Tryz.underlying76 rfl rfl Tryz.sizeOf9 rfl) rfl ?_
 refine vq (q_load rfl rfl Tryz.isAgg9 (.obj 0 rfl rfl)) rfl (simL_nil (nrm_then ?_))
 refine sim_block ?_
 refine sr ?_
 refine vm rfl rfl ?_
 refine vq (q_eqs rfl rfl rfl) rfl ?_
 refine va rfl rfl (simL_nil (nrm_then ?_))
 refine sim_cond rfl (fun h18v => ?_) (fun h19v => ?_)
 refine sim_region ?_
 refine vm rfl rfl ?_
 refine vm rfl rfl ?_
 refine vn rfl rfl ?_
 refine vq (q_fa rfl rfl Tryz.underlying76 rfl rfl Tryz.sizeOf9 rfl) rfl ?_
 refine simL_do (re_store 0 rfl rfl rfl Tryz.sizeOf9 rfl rfl (one_of (by rfl)) rfl rfl) rfl rfl ?_
 intro _
 refine simL_nil (nrm_block ?_)
 exact nrm_cut (s := x2) () ⟨rfl, rfl, rfl, rfl, trivial⟩ (.sel 0 rfl (.sel 0 rfl (.sel 0 rfl (.nil _))))
 refine sr ?_
 refine vm rfl rfl ?_
 refine vq (q_eqs rfl rfl rfl) rfl ?_
 refine va rfl rfl (simL_nil (nrm_then ?_))
 refine sim_cond rfl (fun h20v => ?_) (fun h21v => ?_)
 refine sim_region ?_
 refine vm rfl rfl ?_
 refine vn rfl rfl ?_
 refine vq (q_fa rfl rfl Tryz.underlying76 rfl rfl Tryz.sizeOf9 rfl) rfl ?_
 refine simL_do (re_store 0 rfl rfl rfl Tryz.sizeOf9 rfl rfl (one_of (by rfl)) rfl rfl) rfl rfl ?_
 intro _
 refine simL_nil (nrm_block ?_)
 exact nrm_cut (s := ([] : List UInt8)) () ⟨rfl, rfl, rfl, rfl, trivial⟩ (.sel 0 rfl (.sel 0 rfl (.sel 0 rfl (.nil _))))
 refine sim_skip ?_
 refine nrm_block ?_
 exact nrm_cut (s := s9v.2.1) () ⟨rfl, rfl, rfl, rfl, trivial⟩ (.sel 0 rfl (.sel 0 rfl (.sel 0 rfl (.nil _))))
 intro s16v y17v
 refine sr ?_
 refine vm rfl rfl ?_
 refine vn rfl rfl ?_
 refine vq (q_fa rfl rfl Tryz.underlying76 rfl rfl Tryz.sizeOf74 rfl) rfl ?_
 refine vq (q_load rfl rfl Tryz.isAgg74 (.obj 0 rfl rfl)) rfl ?_
 refine vm rfl rfl ?_
 refine simL_openF (v := ((mget x0_0 x1).getD (([] : List UInt8), (0 : Int)))) 1 rfl (getD_some hk1v) (fun y22v => ?_)
 refine simL_ent (H' := [obj (fptr q0_0 x1) 89 [.slice y22v.1 ((((mget x0_0 x1).getD (([] : List UInt8), (0 : Int))).1).length) y22v.2, .int .i64 (((mget x0_0 x1).getD (([] : List UInt8), (0 : Int))).2)], Row 5 1 y22v.1 (((mget x0_0 x1).getD (([] : List UInt8), (0 : Int))).1).length y22v.2 (encB (((mget x0_0 x1).getD (([] : List UInt8), (0 : Int))).1)), mapH (mapO m0_0 enc9 encP q0_0) FA89 q0_0 x0_0 x1, obj b0 76 [.map (some m0_0), str s16v, .int .i64 s9v.2.2.1, .bool s9v.2.2.2], F]) (Ent.refl _) ?_
 refine simL_do (re_mdelH (ek := enc9) 2 x1 rfl rfl rfl rfl Tryz.underlying74 key9 rfl) rfl rfl ?_
 intro _
 refine nx ?_
 refine vm rfl rfl ?_
 refine vn rfl rfl ?_
 refine vq (q_fa rfl rfl Tryz.underlying76 rfl rfl Tryz.sizeOf74 rfl) rfl ?_
 refine vq (q_load rfl rfl Tryz.isAgg74 (.obj 3 rfl rfl)) rfl ?_
 refine vm rfl rfl ?_
 refine vm rfl rfl ?_
 refine simL_do (re_mputF (ek := enc9) 2 x2 (fptr q0_0 x1) rfl rfl rfl rfl Tryz.underlying74 key9 rfl) rfl rfl ?_
 intro _
 refine simL_ent (H' := [mapF (mapO m0_0 enc9 encP (mput (mdel q0_0 x1) x2 (fptr q0_0 x1))) FA89 (mput (mdel q0_0 x1) x2 (fptr q0_0 x1)) (mput (mdel x0_0 x1) x2 (((mget x0_0 x1).getD (([] : List UInt8), (0 : Int))).1, ((mget x0_0 x1).getD (([] : List UInt8), (0 : Int))).2)), obj b0 76 [.map (some m0_0), str s16v, .int .i64 s9v.2.2.1, .bool s9v.2.2.2], F]) ((.foldU (x := x2) (p := (fptr q0_0 x1)) (v := (((mget x0_0 x1).getD (([] : List UInt8), (0 : Int))).1, ((mget x0_0 x1).getD (([] : List UInt8), (0 : Int))).2)) (y22v.1, y22v.2) (.sel 2 rfl (.sel 0 rfl (.sel 0 rfl (.sel 0 rfl (.sel 0 rfl (.nil _)))))))) ?_
 refine nx ?_
 refine va rfl rfl (simL_nil (nrm_then (sim_rtn ?_)))
 exact rtn_fn (m0_0, mput (mdel q0_0 x1) x2 (fptr q0_0 x1)) rfl rfl rfl (.sel 1 rfl (.sel 0 rfl (.sel 0 rfl (.nil _))))
 refine sim_region ?_
 refine vm rfl rfl ?_
 refine vn rfl rfl ?_
 refine vq (q_fa rfl rfl Tryz.underlying76 rfl rfl Tryz.sizeOf74 rfl) rfl ?_
 refine vq (q_load rfl rfl Tryz.isAgg74 (.obj 0 rfl rfl)) rfl ?_
 refine vm rfl rfl ?_
 refine vq (q_mlookN (ek := enc9) x1 (tellsF 1 rfl) (isNone_of hk1v) rfl rfl rfl Tryz.underlying74 key9 Tryz.zeroValue87) rfl ?_
 refine va rfl rfl (simL_nil (nrm_then (sim_seq ?_)))
 refine sim_block ?_
 refine sr ?_
 refine vm rfl rfl ?_
 refine vn rfl rfl ?_
 refine vq (q_fa rfl rfl Tryz.underlying76 rfl rfl Tryz.sizeOf4 rfl) rfl ?_
 refine vq (q_load rfl rfl Tryz.isAgg4 (.obj 0 rfl rfl)) rfl ?_
 refine va rfl rfl (simL_nil (nrm_then ?_))
 refine sim_condb rfl (fun h23v => ?_) (fun h24v => ?_)
 refine sr ?_
 refine va rfl rfl (simL_nil (nrm_then (sim_rtn ?_)))
 refine rtn_block ?_
 refine rtn_then ?_
 exact rtn_fn (m0_0, q0_0) rfl rfl rfl (.sel 0 rfl (.sel 0 rfl (.sel 0 rfl (.nil _))))
 refine sr ?_
 refine vm rfl rfl ?_
 refine vq (q_eqnn rfl rfl rfl Tryz.underlying87) rfl ?_
 refine va rfl rfl (simL_nil (nrm_then ?_))
 refine sim_true rfl ?_
 refine sr ?_
 refine va rfl rfl (simL_nil (nrm_then (sim_rtn ?_)))
 refine rtn_block ?_
 refine rtn_then ?_
 exact rtn_fn (m0_0, q0_0) rfl rfl rfl (.sel 0 rfl (.sel 0 rfl (.sel 0 rfl (.nil _))))

def snap_Save_1_s.f (xp1_0 : List ((List UInt8) × (List UInt8 × Int))) (xp1_1 : List UInt8) (xp1_2 : Int) (xp1_3 : Bool) : Option (Int × (List ((List UInt8) × (List UInt8 × Int))) × List UInt8 × Int × Bool) := (snap_clean.f xp1_0 xp1_1 xp1_2 xp1_3).bind fun s1v => (some (s1v.2.1, s1v.2.2.1, s1v.2.2.2.1, s1v.2.2.2.2.1, s1v.2.2.2.2.2))
theorem snap_Save_1_s.calls (W : World) (F : HA) (bp0 : Nat) (bp1 : Nat) (mp1_0 : Nat) (qp1_0 : Kps) (xp1_0 : List ((List UInt8) × (List UInt8 × Int))) (xp1_1 : List UInt8) (xp1_2 : Int) (xp1_3 : Bool)  :
    Fn Tryz.prog W 36 [.pointer (some ⟨bp0, 0, none⟩)] [obj bp1 76 [.map (some mp1_0), str xp1_1, .int .i64 xp1_2, .bool xp1_3], mapF (mapO mp1_0 enc9 encP qp1_0) FA89 qp1_0 xp1_0, obj bp0 28 [.pointer (some ⟨bp1, 0, none⟩)]] F (snap_Save_1_s.f xp1_0 xp1_1 xp1_2 xp1_3) (fun (r : Int × (List ((List UInt8) × (List UInt8 × Int))) × List UInt8 × Int × Bool) (y : Nat × Kps) => .int .i64 r.1) (fun r y => [obj bp1 76 [.map (some y.1), str r.2.2.1, .int .i64 r.2.2.2.1, .bool r.2.2.2.2], mapF (mapO y.1 enc9 encP y.2) FA89 y.2 r.2.1, obj bp0 28 [.pointer (some ⟨bp1, 0, none⟩)]]) := by
 unfold snap_Save_1_s.f
 refine fn_intro 10 Tryz.func36 rfl Tryz.ntmps36 rfl ?_
 refine sr ?_
 refine va rfl rfl (nx ?_)
 refine vq (q_load rfl rfl Tryz.isAgg28 (.obj 2 rfl rfl)) rfl ?_
 refine simL_bind (fun s1v hs2v => ?_)
 refine simL_eff (re_call (vs := [.pointer (some ⟨bp1, 0, none⟩)]) (cap := []) (A := [obj bp1 76 [.map (some mp1_0), str xp1_1, .int .i64 xp1_2, .bool xp1_3], mapF (mapO mp1_0 enc9 encP qp1_0) FA89 qp1_0 xp1_0]) (rst := [obj bp0 28 [.pointer (some ⟨bp1, 0, none⟩)], F]) rfl rfl rfl rfl rfl rfl Tryz.call37 (.sel 0 rfl (.sel 0 rfl (.sel 0 rfl (.sel 0 rfl (.nil _))))) (snap_clean.calls _ _ bp1 mp1_0 qp1_0 xp1_0 xp1_1 xp1_2 xp1_3 ) hs2v) rfl rfl rfl ?_
 intro y3v
 refine vm rfl rfl ?_
 refine vq (q_ext rfl rfl rfl) rfl ?_
 refine vq (q_ext rfl rfl rfl) rfl ?_
 refine va rfl rfl ?_
 refine va rfl rfl (nx ?_)
 refine vm rfl rfl ?_
 refine va rfl rfl (simL_nil (nrm_then (sim_rtn ?_)))
 exact rtn_fn (y3v.1, y3v.2) rfl rfl rfl (.sel 0 rfl (.sel 0 rfl (.sel 0 rfl (.sel 0 rfl (.nil _)))))

def snap_Save_2_s.f (k : Nat) (xp1_0 : List ((List UInt8) × (List UInt8 × Int))) (xp1_1 : List UInt8) (xp1_2 : Int) (xp1_3 : Bool) : Option (Int × (List ((List UInt8) × (List UInt8 × Int))) × List UInt8 × Int × Bool) := (disk_Disk_Create.f k xp1_0 xp1_1 xp1_2 xp1_3 ([115, 110, 97, 112, 46, 116, 109, 112] : List UInt8)).bind fun s1v => (some (s1v.1, s1v.2.1, s1v.2.2.1, s1v.2.2.2.1, s1v.2.2.2.2))
theorem snap_Save_2_s.calls (W : World) (F : HA) (k : Nat) (bp0 : Nat) (bp1 : Nat) (mp1_0 : Nat) (qp1_0 : Kps) (xp1_0 : List ((List UInt8) × (List UInt8 × Int))) (xp1_1 : List UInt8) (xp1_2 : Int) (xp1_3 : Bool)  :
    Fn Tryz.prog W 38 [.pointer (some ⟨bp0, 0, none⟩)] [obj bp1 76 [.map (some mp1_0), str xp1_1, .int .i64 xp1_2, .bool xp1_3], mapF (mapO mp1_0 enc9 encP qp1_0) FA89 qp1_0 xp1_0, obj bp0 28 [.pointer (some ⟨bp1, 0, none⟩)]] F (snap_Save_2_s.f k xp1_0 xp1_1 xp1_2 xp1_3) (fun (r : Int × (List ((List UInt8) × (List UInt8 × Int))) × List UInt8 × Int × Bool) (y : Nat × Kps) => .int .i64 r.1) (fun r y => [obj bp1 76 [.map (some y.1), str r.2.2.1, .int .i64 r.2.2.2.1, .bool r.2.2.2.2], mapF (mapO y.1 enc9 encP y.2) FA89 y.2 r.2.1, obj bp0 28 [.pointer (some ⟨bp1, 0, none⟩)]]) := by
 unfold snap_Save_2_s.f
 refine fn_intro 4 Tryz.func38 rfl Tryz.ntmps38 rfl ?_
 refine sr ?_
 refine va rfl rfl (nx ?_)
 refine vq (q_load rfl rfl Tryz.isAgg28 (.obj 2 rfl rfl)) rfl ?_
 refine simL_bind (fun s1v hs2v => ?_)
 refine simL_eff (re_call (vs := [.pointer (some ⟨bp1, 0, none⟩), str ([115, 110, 97, 112, 46, 116, 109, 112] : List UInt8)]) (cap := []) (A := [obj bp1 76 [.map (some mp1_0), str xp1_1, .int .i64 xp1_2, .bool xp1_3], mapF (mapO mp1_0 enc9 encP qp1_0) FA89 qp1_0 xp1_0]) (rst := [obj bp0 28 [.pointer (some ⟨bp1, 0, none⟩)], F]) rfl rfl rfl rfl rfl rfl Tryz.call29 (.sel 0 rfl (.sel 0 rfl (.sel 0 rfl (.sel 0 rfl (.nil _))))) (disk_Disk_Create.calls _ _ k bp1 mp1_0 qp1_0 xp1_0 xp1_1 xp1_2 xp1_3 ([115, 110, 97, 112, 46, 116, 109, 112] : List UInt8) ) hs2v) rfl rfl rfl ?_
 intro y3v
 refine va rfl rfl (simL_nil (nrm_then (sim_rtn ?_)))
 exact rtn_fn (y3v.1, y3v.2) rfl rfl rfl (.sel 0 rfl (.sel 0 rfl (.sel 0 rfl (.sel 0 rfl (.nil _)))))

def snap_Save_3_s.f (xp1_0 : List ((List UInt8) × (List UInt8 × Int))) (xp1_1 : List UInt8) (xp1_2 : Int) (xp1_3 : Bool) (xp2_0 : List UInt8) : Option (Int × (List ((List UInt8) × (List UInt8 × Int))) × List UInt8 × Int × Bool) := (disk_Disk_Append.f xp1_0 xp1_1 xp1_2 xp1_3 ([115, 110, 97, 112, 46, 116, 109, 112] : List UInt8) xp2_0).bind fun s1v => (some (s1v.1, s1v.2.1, s1v.2.2.1, s1v.2.2.2.1, s1v.2.2.2.2))
theorem snap_Save_3_s.calls (W : World) (F : HA) (bp0 : Nat) (bp1 : Nat) (mp1_0 : Nat) (qp1_0 : Kps) (xp1_0 : List ((List UInt8) × (List UInt8 × Int))) (xp1_1 : List UInt8) (xp1_2 : Int) (xp1_3 : Bool) (bp2 : Nat) (ap2_0 : Option Addr) (cp2_0 : Nat) (xp2_0 : List UInt8) (hp2_0 : Rd F ap2_0 (encB xp2_0)) (hcp2_0 : xp2_0.length ≤ cp2_0) (hmp2_0 : cp2_0 ≤ maxLen) :
    Fn Tryz.prog W 39 [.pointer (some ⟨bp0, 0, none⟩), .pointer (some ⟨bp2, 0, none⟩)] [obj bp1 76 [.map (some mp1_0), str xp1_1, .int .i64 xp1_2, .bool xp1_3], mapF (mapO mp1_0 enc9 encP qp1_0) FA89 qp1_0 xp1_0, obj bp0 28 [.pointer (some ⟨bp1, 0, none⟩)], obj bp2 25 [.slice ap2_0 xp2_0.length cp2_0]] F (snap_Save_3_s.f xp1_0 xp1_1 xp1_2 xp1_3 xp2_0) (fun (r : Int × (List ((List UInt8) × (List UInt8 × Int))) × List UInt8 × Int × Bool) (y : Nat × Kps) => .int .i64 r.1) (fun r y => [obj bp1 76 [.map (some y.1), str r.2.2.1, .int .i64 r.2.2.2.1, .bool r.2.2.2.2], mapF (mapO y.1 enc9 encP y.2) FA89 y.2 r.2.1, obj bp0 28 [.pointer (some ⟨bp1, 0, none⟩)], obj bp2 25 [.slice ap2_0 xp2_0.length cp2_0]]) := by
 unfold snap_Save_3_s.f
 refine fn_intro 6 Tryz.func39 rfl Tryz.ntmps39 rfl ?_
 refine sr ?_
 refine va rfl rfl (nx ?_)
 refine vq (q_load rfl rfl Tryz.isAgg28 (.obj 2 rfl rfl)) rfl ?_
 refine vq (q_load rfl rfl Tryz.isAgg25 (.obj 3 rfl rfl)) rfl ?_
 refine simL_bind (fun s1v hs2v => ?_)
 refine simL_eff (re_call (vs := [.pointer (some ⟨bp1, 0, none⟩), str ([115, 110, 97, 112, 46, 116, 109, 112] : List UInt8), .slice ap2_0 xp2_0.length cp2_0]) (cap := []) (A := [obj bp1 76 [.map (some mp1_0), str xp1_1, .int .i64 xp1_2, .bool xp1_3], mapF (mapO mp1_0 enc9 encP qp1_0) FA89 qp1_0 xp1_0]) (rst := [obj bp0 28 [.pointer (some ⟨bp1, 0, none⟩)], obj bp2 25 [.slice ap2_0 xp2_0.length cp2_0], F]) rfl rfl rfl rfl rfl rfl Tryz.call30 (.sel 0 rfl (.sel 0 rfl (.sel 0 rfl (.sel 0 rfl (.sel 0 rfl (.nil _)))))) (disk_Disk_Append.calls _ _ bp1 mp1_0 qp1_0 xp1_0 xp1_1 xp1_2 xp1_3 ([115, 110, 97, 112, 46, 116, 109, 112] : List UInt8) ap2_0 cp2_0 xp2_0 (hp2_0.lend 2 rfl) hcp2_0 hmp2_0) hs2v) rfl rfl rfl ?_
 intro y3v
 refine va rfl rfl (simL_nil (nrm_then (sim_rtn ?_)))
 exact rtn_fn (y3v.1, y3v.2) rfl rfl rfl (.sel 0 rfl (.sel 0 rfl (.sel 0 rfl (.sel 0 rfl (.sel 0 rfl (.nil _))))))

def snap_Save_4_s.f (xp1_0 : List ((List UInt8) × (List UInt8 × Int))) (xp1_1 : List UInt8) (xp1_2 : Int) (xp1_3 : Bool) : Option (Int × (List ((List UInt8) × (List UInt8 × Int))) × List UInt8 × Int × Bool) := (disk_Disk_Sync.f xp1_0 xp1_1 xp1_2 xp1_3 ([115, 110, 97, 112, 46, 116, 109, 112] : List UInt8)).bind fun s1v => (some (s1v.1, s1v.2.1, s1v.2.2.1, s1v.2.2.2.1, s1v.2.2.2.2))
theorem snap_Save_4_s.calls (W : World) (F : HA) (bp0 : Nat) (bp1 : Nat) (mp1_0 : Nat) (qp1_0 : Kps) (xp1_0 : List ((List UInt8) × (List UInt8 × Int))) (xp1_1 : List UInt8) (xp1_2 : Int) (xp1_3 : Bool)  :
    Fn Tryz.prog W 40 [.pointer (some ⟨bp0, 0, none⟩)] [obj bp1 76 [.map (some mp1_0), str xp1_1, .int .i64 xp1_2, .bool xp1_3], mapF (mapO mp1_0 enc9 encP qp1_0) FA89 qp1_0 xp1_0, obj bp0 28 [.pointer (some ⟨bp1, 0, none⟩)]] F (snap_Save_4_s.f xp1_0 xp1_1 xp1_2 xp1_3) (fun (r : Int × (List ((List UInt8) × (List UInt8 × Int))) × List UInt8 × Int × Bool) (y : Nat × Kps) => .int .i64 r.1) (fun r y => [obj bp1 76 [.map (some y.1), str r.2.2.1, .int .i64 r.2.2.2.1, .bool r.2.2.2.2], mapF (mapO y.1 enc9 encP y.2) FA89 y.2 r.2.1, obj bp0 28 [.pointer (some ⟨bp1, 0, none⟩)]]) := by
 unfold snap_Save_4_s.f
 refine fn_intro 4 Tryz.func40 rfl Tryz.ntmps40 rfl ?_
 refine sr ?_
 refine va rfl rfl (nx ?_)
 refine vq (q_load rfl rfl Tryz.isAgg28 (.obj 2 rfl rfl)) rfl ?_
 refine simL_bind (fun s1v hs2v => ?_)
 refine simL_eff (re_call (vs := [.pointer (some ⟨bp1, 0, none⟩), str ([115, 110, 97, 112, 46, 116, 109, 112] : List UInt8)]) (cap := []) (A := [obj bp1 76 [.map (some mp1_0), str xp1_1, .int .i64 xp1_2, .bool xp1_3], mapF (mapO mp1_0 enc9 encP qp1_0) FA89 qp1_0 xp1_0]) (rst := [obj bp0 28 [.pointer (some ⟨bp1, 0, none⟩)], F]) rfl rfl rfl rfl rfl rfl Tryz.call31 (.sel 0 rfl (.sel 0 rfl (.sel 0 rfl (.sel 0 rfl (.nil _))))) (disk_Disk_Sync.calls _ _ bp1 mp1_0 qp1_0 xp1_0 xp1_1 xp1_2 xp1_3 ([115, 110, 97, 112, 46, 116, 109, 112] : List UInt8) ) hs2v) rfl rfl rfl ?_
 intro y3v
 refine va rfl rfl (simL_nil (nrm_then (sim_rtn ?_)))
 exact rtn_fn (y3v.1, y3v.2) rfl rfl rfl (.sel 0 rfl (.sel 0 rfl (.sel 0 rfl (.sel 0 rfl (.nil _)))))

def snap_Save_5_s.f (k : Nat) (xp1_0 : List ((List UInt8) × (List UInt8 × Int))) (xp1_1 : List UInt8) (xp1_2 : Int) (xp1_3 : Bool) (xp2_0 : List UInt8) : Option (Int × (List ((List UInt8) × (List UInt8 × Int))) × List UInt8 × Int × Bool) := (disk_Disk_Rename.f k xp1_0 xp1_1 xp1_2 xp1_3 ([115, 110, 97, 112, 46, 116, 109, 112] : List UInt8) xp2_0).bind fun s1v => (some (s1v.1, s1v.2.1, s1v.2.2.1, s1v.2.2.2.1, s1v.2.2.2.2))
theorem snap_Save_5_s.calls (W : World) (F : HA) (k : Nat) (bp0 : Nat) (bp1 : Nat) (mp1_0 : Nat) (qp1_0 : Kps) (xp1_0 : List ((List UInt8) × (List UInt8 × Int))) (xp1_1 : List UInt8) (xp1_2 : Int) (xp1_3 : Bool) (bp2 : Nat) (xp2_0 : List UInt8)  :
    Fn Tryz.prog W 41 [.pointer (some ⟨bp0, 0, none⟩), .pointer (some ⟨bp2, 0, none⟩)] [obj bp1 76 [.map (some mp1_0), str xp1_1, .int .i64 xp1_2, .bool xp1_3], mapF (mapO mp1_0 enc9 encP qp1_0) FA89 qp1_0 xp1_0, obj bp0 28 [.pointer (some ⟨bp1, 0, none⟩)], obj bp2 9 [str xp2_0]] F (snap_Save_5_s.f k xp1_0 xp1_1 xp1_2 xp1_3 xp2_0) (fun (r : Int × (List ((List UInt8) × (List UInt8 × Int))) × List UInt8 × Int × Bool) (y : Nat × Kps) => .int .i64 r.1) (fun r y => [obj bp1 76 [.map (some y.1), str r.2.2.1, .int .i64 r.2.2.2.1, .bool r.2.2.2.2], mapF (mapO y.1 enc9 encP y.2) FA89 y.2 r.2.1, obj bp0 28 [.pointer (some ⟨bp1, 0, none⟩)], obj bp2 9 [str xp2_0]]) := by
 unfold snap_Save_5_s.f
 refine fn_intro 6 Tryz.func41 rfl Tryz.ntmps41 rfl ?_
 refine sr ?_
 refine va rfl rfl (nx ?_)
 refine vq (q_load rfl rfl Tryz.isAgg28 (.obj 2 rfl rfl)) rfl ?_
 refine vq (q_load rfl rfl Tryz.isAgg9 (.obj 3 rfl rfl)) rfl ?_
 refine simL_bind (fun s1v hs2v => ?_)
 refine simL_eff (re_call (vs := [.pointer (some ⟨bp1, 0, none⟩), str ([115, 110, 97, 112, 46, 116, 109, 112] : List UInt8), str xp2_0]) (cap := []) (A := [obj bp1 76 [.map (some mp1_0), str xp1_1, .int .i64 xp1_2, .bool xp1_3], mapF (mapO mp1_0 enc9 encP qp1_0) FA89 qp1_0 xp1_0]) (rst := [obj bp0 28 [.pointer (some ⟨bp1, 0, none⟩)], obj bp2 9 [str xp2_0], F]) rfl rfl rfl rfl rfl rfl Tryz.call42 (.sel 0 rfl (.sel 0 rfl (.sel 0 rfl (.sel 0 rfl (.sel 0 rfl (.nil _)))))) (disk_Disk_Rename.calls _ _ k bp1 mp1_0 qp1_0 xp1_0 xp1_1 xp1_2 xp1_3 ([115, 110, 97, 112, 46, 116, 109, 112] : List UInt8) xp2_0 ) hs2v) rfl rfl rfl ?_
 intro y3v
 refine va rfl rfl (simL_nil (nrm_then (sim_rtn ?_)))
 exact rtn_fn (y3v.1, y3v.2) rfl rfl rfl (.sel 0 rfl (.sel 0 rfl (.sel 0 rfl (.sel 0 rfl (.sel 0 rfl (.nil _))))))

def snap_Save.f (k : Nat) (x0_0 : List ((List UInt8) × (List UInt8 × Int))) (x0_1 : List UInt8) (x0_2 : Int) (x0_3 : Bool) (x1_0 : Int) (x1_1 : Int) (x1_2 : List UInt8) : Option (Int × (List ((List UInt8) × (List UInt8 × Int))) × List UInt8 × Int × Bool) := (codec_Snaps_Put.f k x1_0 x1_1 x1_2).bind fun s3v => (if s3v.2 = (0 : Int) then (if x1_0 = (0 : Int) then (some (4, x0_0, x0_1, x0_2, x0_3)) else ((frame_Put.f k s3v.1).bind fun s14v => (if s14v.2 = (0 : Int) then ((snap_Name.f x1_0).bind fun s20v => (if s20v.2 = (0 : Int) then ((snap_Save_1_s.f x0_0 x0_1 x0_2 x0_3).bind fun s27v => (if s27v.1 = (0 : Int) then ((snap_Save_2_s.f k s27v.2.1 s27v.2.2.1 s27v.2.2.2.1 s27v.2.2.2.2).bind fun s32v => (if s32v.1 = (0 : Int) then ((snap_Save_3_s.f s32v.2.1 s32v.2.2.1 s32v.2.2.2.1 s32v.2.2.2.2 s14v.1).bind fun s41v => (if s41v.1 = (0 : Int) then ((snap_Save_4_s.f s41v.2.1 s41v.2.2.1 s41v.2.2.2.1 s41v.2.2.2.2).bind fun s46v => (if s46v.1 = (0 : Int) then ((snap_Save_5_s.f k s46v.2.1 s46v.2.2.1 s46v.2.2.2.1 s46v.2.2.2.2 s20v.1).bind fun s51v => (if s51v.1 = (0 : Int) then (some (0, s51v.2.1, s51v.2.2.1, s51v.2.2.2.1, s51v.2.2.2.2)) else (some (s51v.1, s51v.2.1, s51v.2.2.1, s51v.2.2.2.1, s51v.2.2.2.2)))) else (some (s46v.1, s46v.2.1, s46v.2.2.1, s46v.2.2.2.1, s46v.2.2.2.2)))) else (some (s41v.1, s41v.2.1, s41v.2.2.1, s41v.2.2.2.1, s41v.2.2.2.2)))) else (some (s32v.1, s32v.2.1, s32v.2.2.1, s32v.2.2.2.1, s32v.2.2.2.2)))) else (some (s27v.1, s27v.2.1, s27v.2.2.1, s27v.2.2.2.1, s27v.2.2.2.2)))) else (some (s20v.2, x0_0, x0_1, x0_2, x0_3)))) else (some (s14v.2, x0_0, x0_1, x0_2, x0_3))))) else (some (s3v.2, x0_0, x0_1, x0_2, x0_3)))
theorem snap_Save.calls (W : World) (F : HA) (k : Nat) (b0 : Nat) (m0_0 : Nat) (q0_0 : Kps) (x0_0 : List ((List UInt8) × (List UInt8 × Int))) (x0_1 : List UInt8) (x0_2 : Int) (x0_3 : Bool) (x1_0 : Int) (x1_1 : Int) (a1_2 : Option Addr) (c1_2 : Nat) (x1_2 : List UInt8) (h1_2 : Rd F a1_2 (encB x1_2)) (hc1_2 : x1_2.length ≤ c1_2) (hm1_2 : c1_2 ≤ maxLen) (hgl : Glb Tryz.prog F) :
    Fn Tryz.prog W 10 [.pointer (some ⟨b0, 0, none⟩), .agg #[.int .i64 x1_0, .int .i64 x1_1, .slice a1_2 x1_2.length c1_2]] [obj b0 76 [.map (some m0_0), str x0_1, .int .i64 x0_2, .bool x0_3], mapF (mapO m0_0 enc9 encP q0_0) FA89 q0_0 x0_0] F (snap_Save.f k x0_0 x0_1 x0_2 x0_3 x1_0 x1_1 x1_2) (fun (r : Int × (List ((List UInt8) × (List UInt8 × Int))) × List UInt8 × Int × Bool) (y : Nat × Kps) => .int .i64 r.1) (fun r y => [obj b0 76 [.map (some y.1), str r.2.2.1, .int .i64 r.2.2.2.1, .bool r.2.2.2.2], mapF (mapO y.1 enc9 encP y.2) FA89 y.2 r.2.1]) := by
 unfold snap_Save.f
 refine fn_intro 60 Tryz.func10 rfl Tryz.ntmps10 rfl ?_
 refine sr ?_
 refine simL_eff (re_box rfl rfl rfl) rfl rfl rfl ?_
 intro b1v
 refine simL_eff (re_box rfl rfl rfl) rfl rfl rfl ?_
 intro b2v
 refine va rfl rfl (nx ?_)
 refine vq (q_build (v := .agg #[]) rfl rfl (fun _ => by kernel_rfl)) rfl ?_
 refine vq (q_loado 0 rfl rfl Tryz.isAgg27 Tryz.sizeOf27 rfl rfl) rfl ?_
 refine simL_bind (fun s3v hs4v => ?_)
 refine simL_eff (re_call (vs := [.agg #[], .agg #[.int .i64 x1_0, .int .i64 x1_1, .slice a1_2 x1_2.length c1_2]]) (cap := []) (A := []) (rst := [obj b2v 27 [.int .i64 x1_0, .int .i64 x1_1, .slice a1_2 x1_2.length c1_2], obj b1v 28 [.pointer (some ⟨b0, 0, none⟩)], obj b0 76 [.map (some m0_0), str x0_1, .int .i64 x0_2, .bool x0_3], mapF (mapO m0_0 enc9 encP q0_0) FA89 q0_0 x0_0, F]) rfl rfl rfl rfl rfl rfl Tryz.call34 (.sel 0 rfl (.sel 0 rfl (.sel 0 rfl (.sel 0 rfl (.sel 0 rfl (.nil _)))))) (codec_Snaps_Put.calls _ _ k x1_0 x1_1 a1_2 c1_2 x1_2 (h1_2.lend 4 rfl) hc1_2 hm1_2) hs4v) rfl rfl rfl ?_
 intro y5v
 refine vm rfl rfl ?_
 refine vq (q_ext rfl rfl rfl) rfl ?_
 refine vq (q_ext rfl rfl rfl) rfl ?_
 refine va rfl rfl ?_
 refine va rfl rfl (simL_nil (nrm_then (sim_seq (sr ?_))))
 refine vm rfl rfl ?_
 refine vq (q_neq rfl rfl rfl) rfl (simL_nil (nrm_then ?_))
 refine sim_condn rfl (fun h6v => ?_) (fun h7v => ?_)
 refine sim_skip ?_
 refine nrm_then (sim_seq (sr ?_))
 refine vq (q_fa rfl rfl Tryz.underlying27 rfl rfl Tryz.sizeOf3 rfl) rfl ?_
 refine vq (q_load rfl rfl Tryz.isAgg3 (.obj 1 rfl rfl)) rfl ?_
 refine vq (q_eql rfl rfl rfl) rfl (simL_nil (nrm_then ?_))
 refine sim_cond rfl (fun h8v => ?_) (fun h9v => ?_)
 refine sr ?_
 refine va rfl rfl (simL_nil (nrm_then (sim_rtn ?_)))
 refine rtn_then ?_
 exact rtn_fn (m0_0, q0_0) rfl rfl rfl (.sel 3 rfl (.sel 3 rfl (.sel 3 rfl (.nil _))))
 refine sim_skip ?_
 refine nrm_then (sr ?_)
 refine vm rfl rfl ?_
 refine simL_bind (fun s14v hs15v => ?_)
 refine simL_lend 0 rfl (fun hq10v hq11v hq12v hq13v => ?_)
 refine simL_eff (re_call (vs := [.slice y5v.1 s3v.1.length y5v.2]) (cap := []) (A := []) (rst := [Row 5 1 y5v.1 s3v.1.length y5v.2 (encB s3v.1), obj b2v 27 [.int .i64 x1_0, .int .i64 x1_1, .slice a1_2 x1_2.length c1_2], obj b1v 28 [.pointer (some ⟨b0, 0, none⟩)], obj b0 76 [.map (some m0_0), str x0_1, .int .i64 x0_2, .bool x0_3], mapF (mapO m0_0 enc9 encP q0_0) FA89 q0_0 x0_0, F]) rfl rfl rfl rfl rfl rfl Tryz.call35 (.sel 0 rfl (.sel 0 rfl (.sel 0 rfl (.sel 0 rfl (.sel 0 rfl (.sel 0 rfl (.nil _))))))) (frame_Put.calls _ _ k y5v.1 y5v.2 s3v.1 (hq10v.lend 0 rfl) hq11v hq12v) hs15v) rfl rfl rfl ?_
 intro y16v
 refine vm rfl rfl ?_
 refine vq (q_ext rfl rfl rfl) rfl ?_
 refine vq (q_ext rfl rfl rfl) rfl ?_
 refine simL_eff (re_alloc rfl Tryz.zeroValue25 rfl) rfl rfl rfl ?_
 intro b17v
 refine simL_do (re_store 0 rfl rfl rfl Tryz.sizeOf25 rfl rfl (one_of (by rfl)) rfl rfl) rfl rfl ?_
 intro _
 refine va rfl rfl (simL_nil (nrm_then (sim_seq (sr ?_))))
 refine vm rfl rfl ?_
 refine vq (q_neq rfl rfl rfl) rfl (simL_nil (nrm_then ?_))
 refine sim_condn rfl (fun h18v => ?_) (fun h19v => ?_)
 refine sim_skip ?_
 refine nrm_then (sr ?_)
 refine vq (q_fa rfl rfl Tryz.underlying27 rfl rfl Tryz.sizeOf3 rfl) rfl ?_
 refine vq (q_load rfl rfl Tryz.isAgg3 (.obj 3 rfl rfl)) rfl ?_
 refine simL_bind (fun s20v hs21v => ?_)
 refine simL_eff (re_call (vs := [.int .i64 x1_0]) (cap := []) (A := []) (rst := [obj b17v 25 [.slice y16v.1 s14v.1.length y16v.2], Row 5 1 y16v.1 s14v.1.length y16v.2 (encB s14v.1), Row 5 1 y5v.1 s3v.1.length y5v.2 (encB s3v.1), obj b2v 27 [.int .i64 x1_0, .int .i64 x1_1, .slice a1_2 x1_2.length c1_2], obj b1v 28 [.pointer (some ⟨b0, 0, none⟩)], obj b0 76 [.map (some m0_0), str x0_1, .int .i64 x0_2, .bool x0_3], mapF (mapO m0_0 enc9 encP q0_0) FA89 q0_0 x0_0, F]) rfl rfl rfl rfl rfl rfl Tryz.call11 (.sel 0 rfl (.sel 0 rfl (.sel 0 rfl (.sel 0 rfl (.sel 0 rfl (.sel 0 rfl (.sel 0 rfl (.sel 0 rfl (.nil _))))))))) (snap_Name.calls _ _ x1_0 (hgl.lend 7 rfl)) hs21v) rfl rfl rfl ?_
 intro y22v
 refine vm rfl rfl ?_
 refine vq (q_ext rfl rfl rfl) rfl ?_
 refine vq (q_ext rfl rfl rfl) rfl ?_
 refine simL_eff (re_alloc rfl Tryz.zeroValue9 rfl) rfl rfl rfl ?_
 intro b23v
 refine simL_do (re_store 0 rfl rfl rfl Tryz.sizeOf9 rfl rfl (one_of (by rfl)) rfl rfl) rfl rfl ?_
 intro _
 refine va rfl rfl (simL_nil (nrm_then (sim_seq (sr ?_))))
 refine vm rfl rfl ?_
 refine vq (q_neq rfl rfl rfl) rfl (simL_nil (nrm_then ?_))
 refine sim_condn rfl (fun h24v => ?_) (fun h25v => ?_)
 refine sim_skip ?_
 refine nrm_then (sr ?_)
 refine vq (q_mkfn rfl rfl rfl) rfl ?_
 refine vq (q_mkfn rfl rfl rfl) rfl ?_
 refine vq (q_mkfn rfl rfl rfl) rfl ?_
 refine vq (q_mkfn rfl rfl rfl) rfl ?_
 refine vq (q_mkfn rfl rfl rfl) rfl ?_
 refine simL_eff (re_litO (cs := [.func (.func 36) #[] #[.pointer (some ⟨b1v, 0, none⟩)], .func (.func 38) #[] #[.pointer (some ⟨b1v, 0, none⟩)], .func (.func 39) #[] #[.pointer (some ⟨b1v, 0, none⟩), .pointer (some ⟨b17v, 0, none⟩)], .func (.func 40) #[] #[.pointer (some ⟨b1v, 0, none⟩)], .func (.func 41) #[] #[.pointer (some ⟨b1v, 0, none⟩), .pointer (some ⟨b23v, 0, none⟩)]]) rfl rfl Tryz.underlying85 elt83 rfl (by kernel_rfl) rfl) rfl rfl rfl ?_
 intro b26v
 refine va rfl rfl (simL_nil (nrm_then (sim_seq (sr ?_))))
 refine vm rfl rfl ?_
 refine vq (rq_cast (v' := .int .i64 5) rfl (q_len rfl rfl rfl Tryz.underlying85)) rfl ?_
 refine vm rfl rfl (simL_nil (nrm_then ?_))
 refine sim_block ?_
 refine sim_rounds 7 (rnd_succ ?_)
 refine sr ?_
 refine vq (q_lss rfl rfl rfl) rfl (simL_nil (nrm_then (sim_seq ?_)))
 refine sim_true rfl ?_
 refine sim_skip ?_
 refine nrm_then (sim_seq ?_)
 refine sim_block ?_
 refine sr ?_
 refine vq (rq_cast (v' := .pointer (some ⟨b26v, 0 + (0 : Int).toNat, none⟩)) rfl (q_idx1 rfl rfl rfl rfl Tryz.underlying85 Tryz.sizeOf83 (by decide) (by decide))) rfl ?_
 refine vq (q_load rfl rfl Tryz.isAgg83 (.obj 0 rfl rfl)) rfl ?_
 refine va rfl rfl (nx ?_)
 refine vm rfl rfl ?_
 refine simL_bind (fun s27v hs28v => ?_)
 refine simL_eff (re_call (vs := []) (cap := [.pointer (some ⟨b1v, 0, none⟩)]) (A := [obj b0 76 [.map (some m0_0), str x0_1, .int .i64 x0_2, .bool x0_3], mapF (mapO m0_0 enc9 encP q0_0) FA89 q0_0 x0_0, obj b1v 28 [.pointer (some ⟨b0, 0, none⟩)]]) (rst := [obj b26v 83 [.func (.func 36) #[] #[.pointer (some ⟨b1v, 0, none⟩)], .func (.func 38) #[] #[.pointer (some ⟨b1v, 0, none⟩)], .func (.func 39) #[] #[.pointer (some ⟨b1v, 0, none⟩), .pointer (some ⟨b17v, 0, none⟩)], .func (.func 40) #[] #[.pointer (some ⟨b1v, 0, none⟩)], .func (.func 41) #[] #[.pointer (some ⟨b1v, 0, none⟩), .pointer (some ⟨b23v, 0, none⟩)]], obj b23v 9 [str s20v.1], obj b17v 25 [.slice y16v.1 s14v.1.length y16v.2], Row 5 1 y16v.1 s14v.1.length y16v.2 (encB s14v.1), Row 5 1 y5v.1 s3v.1.length y5v.2 (encB s3v.1), obj b2v 27 [.int .i64 x1_0, .int .i64 x1_1, .slice a1_2 x1_2.length c1_2], F]) rfl rfl rfl rfl rfl rfl Tryz.call36 (.sel 7 rfl (.sel 7 rfl (.sel 6 rfl (.sel 0 rfl (.sel 0 rfl (.sel 0 rfl (.sel 0 rfl (.sel 0 rfl (.sel 0 rfl (.sel 0 rfl (.nil _))))))))))) (snap_Save_1_s.calls _ _ b1v b0 m0_0 q0_0 x0_0 x0_1 x0_2 x0_3 ) hs28v) rfl rfl rfl ?_
 intro y29v
 refine va rfl rfl (nx ?_)
 refine vm rfl rfl ?_
 refine vq (q_neq rfl rfl rfl) rfl (simL_nil (nrm_then ?_))
 refine sim_condn rfl (fun h30v => ?_) (fun h31v => ?_)
 refine sim_skip ?_
 refine nrm_block (nrm_then (sim_region ?_))
 refine vq (q_add rfl rfl rfl) rfl ?_
 refine vm rfl rfl (simL_nil ?_)
 refine nrm_rnd (rnd_succ ?_)
 refine sr ?_
 refine vq (q_lss rfl rfl rfl) rfl (simL_nil (nrm_then (sim_seq ?_)))
 refine sim_true rfl ?_
 refine sim_skip ?_
 refine nrm_then (sim_seq ?_)
 refine sim_block ?_
 refine sr ?_
 refine vq (rq_cast (v' := .pointer (some ⟨b26v, 0 + (1 : Int).toNat, none⟩)) rfl (q_idx1 rfl rfl rfl rfl Tryz.underlying85 Tryz.sizeOf83 (by decide) (by decide))) rfl ?_
 refine vq (q_load rfl rfl Tryz.isAgg83 (.obj 3 rfl rfl)) rfl ?_
 refine va rfl rfl (nx ?_)
 refine vm rfl rfl ?_
 refine simL_bind (fun s32v hs33v => ?_)
 refine simL_eff (re_call (vs := []) (cap := [.pointer (some ⟨b1v, 0, none⟩)]) (A := [obj b0 76 [.map (some y29v.1), str s27v.2.2.1, .int .i64 s27v.2.2.2.1, .bool s27v.2.2.2.2], mapF (mapO y29v.1 enc9 encP y29v.2) FA89 y29v.2 s27v.2.1, obj b1v 28 [.pointer (some ⟨b0, 0, none⟩)]]) (rst := [obj b26v 83 [.func (.func 36) #[] #[.pointer (some ⟨b1v, 0, none⟩)], .func (.func 38) #[] #[.pointer (some ⟨b1v, 0, none⟩)], .func (.func 39) #[] #[.pointer (some ⟨b1v, 0, none⟩), .pointer (some ⟨b17v, 0, none⟩)], .func (.func 40) #[] #[.pointer (some ⟨b1v, 0, none⟩)], .func (.func 41) #[] #[.pointer (some ⟨b1v, 0, none⟩), .pointer (some ⟨b23v, 0, none⟩)]], obj b23v 9 [str s20v.1], obj b17v 25 [.slice y16v.1 s14v.1.length y16v.2], Row 5 1 y16v.1 s14v.1.length y16v.2 (encB s14v.1), Row 5 1 y5v.1 s3v.1.length y5v.2 (encB s3v.1), obj b2v 27 [.int .i64 x1_0, .int .i64 x1_1, .slice a1_2 x1_2.length c1_2], F]) rfl rfl rfl rfl rfl rfl Tryz.call38 (.sel 0 rfl (.sel 0 rfl (.sel 0 rfl (.sel 0 rfl (.sel 0 rfl (.sel 0 rfl (.sel 0 rfl (.sel 0 rfl (.sel 0 rfl (.sel 0 rfl (.nil _))))))))))) (snap_Save_2_s.calls _ _ k b1v b0 y29v.1 y29v.2 s27v.2.1 s27v.2.2.1 s27v.2.2.2.1 s27v.2.2.2.2 ) hs33v) rfl rfl rfl ?_
 intro y34v
 refine va rfl rfl (nx ?_)
 refine vm rfl rfl ?_
 refine vq (q_neq rfl rfl rfl) rfl (simL_nil (nrm_then ?_))
 refine sim_condn rfl (fun h35v => ?_) (fun h36v => ?_)
 refine sim_skip ?_
 refine nrm_block (nrm_then (sim_region ?_))
 refine vq (q_add rfl rfl rfl) rfl ?_
 refine vm rfl rfl (simL_nil ?_)
 refine nrm_rnd (rnd_succ ?_)
 refine sr ?_
 refine vq (q_lss rfl rfl rfl) rfl (simL_nil (nrm_then (sim_seq ?_)))
 refine sim_true rfl ?_
 refine sim_skip ?_
 refine nrm_then (sim_seq ?_)
 refine sim_block ?_
 refine sr ?_
 refine vq (rq_cast (v' := .pointer (some ⟨b26v, 0 + (2 : Int).toNat, none⟩)) rfl (q_idx1 rfl rfl rfl rfl Tryz.underlying85 Tryz.sizeOf83 (by decide) (by decide))) rfl ?_
 refine vq (q_load rfl rfl Tryz.isAgg83 (.obj 3 rfl rfl)) rfl ?_
 refine va rfl rfl (nx ?_)
 refine vm rfl rfl ?_
 refine simL_bind (fun s41v hs42v => ?_)
 refine simL_lend 6 rfl (fun hq37v hq38v hq39v hq40v => ?_)
 refine simL_eff (re_call (vs := []) (cap := [.pointer (some ⟨b1v, 0, none⟩), .pointer (some ⟨b17v, 0, none⟩)]) (A := [obj b0 76 [.map (some y34v.1), str s32v.2.2.1, .int .i64 s32v.2.2.2.1, .bool s32v.2.2.2.2], mapF (mapO y34v.1 enc9 encP y34v.2) FA89 y34v.2 s32v.2.1, obj b1v 28 [.pointer (some ⟨b0, 0, none⟩)], obj b17v 25 [.slice y16v.1 s14v.1.length y16v.2]]) (rst := [obj b26v 83 [.func (.func 36) #[] #[.pointer (some ⟨b1v, 0, none⟩)], .func (.func 38) #[] #[.pointer (some ⟨b1v, 0, none⟩)], .func (.func 39) #[] #[.pointer (some ⟨b1v, 0, none⟩), .pointer (some ⟨b17v, 0, none⟩)], .func (.func 40) #[] #[.pointer (some ⟨b1v, 0, none⟩)], .func (.func 41) #[] #[.pointer (some ⟨b1v, 0, none⟩), .pointer (some ⟨b23v, 0, none⟩)]], obj b23v 9 [str s20v.1], Row 5 1 y16v.1 s14v.1.length y16v.2 (encB s14v.1), Row 5 1 y5v.1 s3v.1.length y5v.2 (encB s3v.1), obj b2v 27 [.int .i64 x1_0, .int .i64 x1_1, .slice a1_2 x1_2.length c1_2], F]) rfl rfl rfl rfl rfl rfl Tryz.call39 (.sel 0 rfl (.sel 0 rfl (.sel 0 rfl (.sel 2 rfl (.sel 0 rfl (.sel 0 rfl (.sel 0 rfl (.sel 0 rfl (.sel 0 rfl (.sel 0 rfl (.nil _))))))))))) (snap_Save_3_s.calls _ _ b1v b0 y34v.1 y34v.2 s32v.2.1 s32v.2.2.1 s32v.2.2.2.1 s32v.2.2.2.2 b17v y16v.1 y16v.2 s14v.1 (hq37v.lend 2 rfl) hq38v hq39v) hs42v) rfl rfl rfl ?_
 intro y43v
 refine va rfl rfl (nx ?_)
 refine vm rfl rfl ?_
 refine vq (q_neq rfl rfl rfl) rfl (simL_nil (nrm_then ?_))
 refine sim_condn rfl (fun h44v => ?_) (fun h45v => ?_)
 refine sim_skip ?_
 refine nrm_block (nrm_then (sim_region ?_))
 refine vq (q_add rfl rfl rfl) rfl ?_
 refine vm rfl rfl (simL_nil ?_)
 refine nrm_rnd (rnd_succ ?_)
 refine sr ?_
 refine vq (q_lss rfl rfl rfl) rfl (simL_nil (nrm_then (sim_seq ?_)))
 refine sim_true rfl ?_
 refine sim_skip ?_
 refine nrm_then (sim_seq ?_)
 refine sim_block ?_
 refine sr ?_
 refine vq (rq_cast (v' := .pointer (some ⟨b26v, 0 + (3 : Int).toNat, none⟩)) rfl (q_idx1 rfl rfl rfl rfl Tryz.underlying85 Tryz.sizeOf83 (by decide) (by decide))) rfl ?_
 refine vq (q_load rfl rfl Tryz.isAgg83 (.obj 4 rfl rfl)) rfl ?_
 refine va rfl rfl (nx ?_)
 refine vm rfl rfl ?_
 refine simL_bind (fun s46v hs47v => ?_)
 refine simL_eff (re_call (vs := []) (cap := [.pointer (some ⟨b1v, 0, none⟩)]) (A := [obj b0 76 [.map (some y43v.1), str s41v.2.2.1, .int .i64 s41v.2.2.2.1, .bool s41v.2.2.2.2], mapF (mapO y43v.1 enc9 encP y43v.2) FA89 y43v.2 s41v.2.1, obj b1v 28 [.pointer (some ⟨b0, 0, none⟩)]]) (rst := [obj b17v 25 [.slice y16v.1 s14v.1.length y16v.2], obj b26v 83 [.func (.func 36) #[] #[.pointer (some ⟨b1v, 0, none⟩)], .func (.func 38) #[] #[.pointer (some ⟨b1v, 0, none⟩)], .func (.func 39) #[] #[.pointer (some ⟨b1v, 0, none⟩), .pointer (some ⟨b17v, 0, none⟩)], .func (.func 40) #[] #[.pointer (some ⟨b1v, 0, none⟩)], .func (.func 41) #[] #[.pointer (some ⟨b1v, 0, none⟩), .pointer (some ⟨b23v, 0, none⟩)]], obj b23v 9 [str s20v.1], Row 5 1 y16v.1 s14v.1.length y16v.2 (encB s14v.1), Row 5 1 y5v.1 s3v.1.length y5v.2 (encB s3v.1), obj b2v 27 [.int .i64 x1_0, .int .i64 x1_1, .slice a1_2 x1_2.length c1_2], F]) rfl rfl rfl rfl rfl rfl Tryz.call40 (.sel 0 rfl (.sel 0 rfl (.sel 0 rfl (.sel 0 rfl (.sel 0 rfl (.sel 0 rfl (.sel 0 rfl (.sel 0 rfl (.sel 0 rfl (.sel 0 rfl (.nil _))))))))))) (snap_Save_4_s.calls _ _ b1v b0 y43v.1 y43v.2 s41v.2.1 s41v.2.2.1 s41v.2.2.2.1 s41v.2.2.2.2 ) hs47v) rfl rfl rfl ?_
 intro y48v
 refine va rfl rfl (nx ?_)
 refine vm rfl rfl ?_
 refine vq (q_neq rfl rfl rfl) rfl (simL_nil (nrm_then ?_))
 refine sim_condn rfl (fun h49v => ?_) (fun h50v => ?_)
 refine sim_skip ?_
 refine nrm_block (nrm_then (sim_region ?_))
 refine vq (q_add rfl rfl rfl) rfl ?_
 refine vm rfl rfl (simL_nil ?_)
 refine nrm_rnd (rnd_succ ?_)
 refine sr ?_
 refine vq (q_lss rfl rfl rfl) rfl (simL_nil (nrm_then (sim_seq ?_)))
 refine sim_true rfl ?_
 refine sim_skip ?_
 refine nrm_then (sim_seq ?_)
 refine sim_block ?_
 refine sr ?_
 refine vq (rq_cast (v' := .pointer (some ⟨b26v, 0 + (4 : Int).toNat, none⟩)) rfl (q_idx1 rfl rfl rfl rfl Tryz.underlying85 Tryz.sizeOf83 (by decide) (by decide))) rfl ?_
 refine vq (q_load rfl rfl Tryz.isAgg83 (.obj 4 rfl rfl)) rfl ?_
 refine va rfl rfl (nx ?_)
 refine vm rfl rfl ?_
 refine simL_bind (fun s51v hs52v => ?_)
 refine simL_eff (re_call (vs := []) (cap := [.pointer (some ⟨b1v, 0, none⟩), .pointer (some ⟨b23v, 0, none⟩)]) (A := [obj b0 76 [.map (some y48v.1), str s46v.2.2.1, .int .i64 s46v.2.2.2.1, .bool s46v.2.2.2.2], mapF (mapO y48v.1 enc9 encP y48v.2) FA89 y48v.2 s46v.2.1, obj b1v 28 [.pointer (some ⟨b0, 0, none⟩)], obj b23v 9 [str s20v.1]]) (rst := [obj b17v 25 [.slice y16v.1 s14v.1.length y16v.2], obj b26v 83 [.func (.func 36) #[] #[.pointer (some ⟨b1v, 0, none⟩)], .func (.func 38) #[] #[.pointer (some ⟨b1v, 0, none⟩)], .func (.func 39) #[] #[.pointer (some ⟨b1v, 0, none⟩), .pointer (some ⟨b17v, 0, none⟩)], .func (.func 40) #[] #[.pointer (some ⟨b1v, 0, none⟩)], .func (.func 41) #[] #[.pointer (some ⟨b1v, 0, none⟩), .pointer (some ⟨b23v, 0, none⟩)]], Row 5 1 y16v.1 s14v.1.length y16v.2 (encB s14v.1), Row 5 1 y5v.1 s3v.1.length y5v.2 (encB s3v.1), obj b2v 27 [.int .i64 x1_0, .int .i64 x1_1, .slice a1_2 x1_2.length c1_2], F]) rfl rfl rfl rfl rfl rfl Tryz.call41 (.sel 0 rfl (.sel 0 rfl (.sel 0 rfl (.sel 2 rfl (.sel 0 rfl (.sel 0 rfl (.sel 0 rfl (.sel 0 rfl (.sel 0 rfl (.sel 0 rfl (.nil _))))))))))) (snap_Save_5_s.calls _ _ k b1v b0 y48v.1 y48v.2 s46v.2.1 s46v.2.2.1 s46v.2.2.2.1 s46v.2.2.2.2 b23v s20v.1 ) hs52v) rfl rfl rfl ?_
 intro y53v
 refine va rfl rfl (nx ?_)
 refine vm rfl rfl ?_
 refine vq (q_neq rfl rfl rfl) rfl (simL_nil (nrm_then ?_))
 refine sim_condn rfl (fun h54v => ?_) (fun h55v => ?_)
 refine sim_skip ?_
 refine nrm_block (nrm_then (sim_region ?_))
 refine vq (q_add rfl rfl rfl) rfl ?_
 refine vm rfl rfl (simL_nil ?_)
 refine nrm_rnd (rnd_succ ?_)
 refine sr ?_
 refine vq (q_lss rfl rfl rfl) rfl (simL_nil (nrm_then (sim_seq ?_)))
 refine sim_false rfl ?_
 refine sim_exi ?_
 refine exi_then ?_
 refine exi_rnd ?_
 refine exi_here ?_
 refine nrm_then (sr ?_)
 refine va rfl rfl (simL_nil (nrm_then (sim_rtn ?_)))
 exact rtn_fn (y53v.1, y53v.2) rfl rfl rfl (.sel 0 rfl (.sel 0 rfl (.sel 7 rfl (.nil _))))
 refine sr ?_
 refine vm rfl rfl ?_
 refine va rfl rfl (simL_nil (nrm_then (sim_rtn ?_)))
 refine rtn_block ?_
 refine rtn_then ?_
 refine rtn_rnd ?_
 refine rtn_block ?_
 refine rtn_then ?_
 exact rtn_fn (y53v.1, y53v.2) rfl rfl rfl (.sel 0 rfl (.sel 0 rfl (.sel 7 rfl (.nil _))))
 refine sr ?_
 refine vm rfl rfl ?_
 refine va rfl rfl (simL_nil (nrm_then (sim_rtn ?_)))
 refine rtn_block ?_
 refine rtn_then ?_
 refine rtn_rnd ?_
 refine rtn_block ?_
 refine rtn_then ?_
 exact rtn_fn (y48v.1, y48v.2) rfl rfl rfl (.sel 0 rfl (.sel 0 rfl (.sel 7 rfl (.nil _))))
 refine sr ?_
 refine vm rfl rfl ?_
 refine va rfl rfl (simL_nil (nrm_then (sim_rtn ?_)))
 refine rtn_block ?_
 refine rtn_then ?_
 refine rtn_rnd ?_
 refine rtn_block ?_
 refine rtn_then ?_
 exact rtn_fn (y43v.1, y43v.2) rfl rfl rfl (.sel 0 rfl (.sel 0 rfl (.sel 7 rfl (.nil _))))
 refine sr ?_
 refine vm rfl rfl ?_
 refine va rfl rfl (simL_nil (nrm_then (sim_rtn ?_)))
 refine rtn_block ?_
 refine rtn_then ?_
 refine rtn_rnd ?_
 refine rtn_block ?_
 refine rtn_then ?_
 exact rtn_fn (y34v.1, y34v.2) rfl rfl rfl (.sel 0 rfl (.sel 0 rfl (.sel 7 rfl (.nil _))))
 refine sr ?_
 refine vm rfl rfl ?_
 refine va rfl rfl (simL_nil (nrm_then (sim_rtn ?_)))
 refine rtn_block ?_
 refine rtn_then ?_
 refine rtn_rnd ?_
 refine rtn_block ?_
 refine rtn_then ?_
 exact rtn_fn (y29v.1, y29v.2) rfl rfl rfl (.sel 0 rfl (.sel 0 rfl (.sel 7 rfl (.nil _))))
 refine sr ?_
 refine vm rfl rfl ?_
 refine va rfl rfl (simL_nil (nrm_then (sim_rtn ?_)))
 refine rtn_then ?_
 exact rtn_fn (m0_0, q0_0) rfl rfl rfl (.sel 6 rfl (.sel 6 rfl (.sel 6 rfl (.nil _))))
 refine sr ?_
 refine vm rfl rfl ?_
 refine va rfl rfl (simL_nil (nrm_then (sim_rtn ?_)))
 refine rtn_then ?_
 exact rtn_fn (m0_0, q0_0) rfl rfl rfl (.sel 5 rfl (.sel 5 rfl (.sel 5 rfl (.nil _))))
 refine sr ?_
 refine vm rfl rfl ?_
 refine va rfl rfl (simL_nil (nrm_then (sim_rtn ?_)))
 refine rtn_then ?_
 exact rtn_fn (m0_0, q0_0) rfl rfl rfl (.sel 3 rfl (.sel 3 rfl (.sel 3 rfl (.nil _))))

def synodref_Num.f (x0 : Int) : Option (Int) := some x0
theorem synodref_Num.calls (W : World) (F : HA) (x0 : Int)  :
    Fn Tryz.prog W 12 [.int .i64 x0] [] F (synodref_Num.f x0) (fun (r : Int) (y : Unit) => .int .i64 r) (fun r y => []) := by
 unfold synodref_Num.f
 refine fn_intro 4 Tryz.func12 rfl Tryz.ntmps12 rfl ?_
 refine sr ?_
 refine va rfl rfl (nx ?_)
 refine vm rfl rfl ?_
 refine va rfl rfl (simL_nil (nrm_then (sim_rtn ?_)))
 exact rtn_fn () rfl rfl rfl (.sel 0 rfl (.nil _))

def synodlaw6_first.f (k : Nat)  : Option (Bool) := (disk_New.f).bind fun s1v => ((snap_Load.f k s1v.1 s1v.2.1 s1v.2.2.1 s1v.2.2.2).bind fun s4v => ((snap_Save.f k s1v.1 s1v.2.1 s1v.2.2.1 s1v.2.2.2 (5 : Int) (2 : Int) ([97, 98] : List UInt8)).bind fun s14v => ((snap_Load.f k s14v.2.1 s14v.2.2.1 s14v.2.2.2.1 s14v.2.2.2.2).bind fun s17v => ((snap_Save.f k s14v.2.1 s14v.2.2.1 s14v.2.2.2.1 s14v.2.2.2.2 (0 : Int) (0 : Int) ([] : List UInt8)).bind fun s21v => ((snap_List.f k s21v.2.1 s21v.2.2.1 s21v.2.2.2.1 s21v.2.2.2.2).bind fun s24v => ((if s4v.2.2.2.1 = (0 : Int) then ((synodref_Num.f s4v.2.2.2.2).bind fun s29v => (some (decide (s29v = (8 : Int))))) else (some false)).bind fun s27v => ((if s27v = true then ((synodref_Num.f s14v.1).bind fun s36v => (some (decide (s36v = (0 : Int))))) else (some false)).bind fun s34v => ((if ((((s34v && (decide (s17v.1 = (5 : Int)))) && (decide (s17v.2.1 = (2 : Int)))) && (decide (s17v.2.2.1 = ([97, 98] : List UInt8)))) && (decide (s17v.2.2.2.1 = (0 : Int)))) = true then ((synodref_Num.f s17v.2.2.2.2).bind fun s43v => (some (decide (s43v = (0 : Int))))) else (some false)).bind fun s41v => ((if s41v = true then ((synodref_Num.f s21v.1).bind fun s50v => (some (decide (s50v = (4 : Int))))) else (some false)).bind fun s48v => (some (s48v && (decide ((s24v.length : Int) = (1 : Int))))))))))))))
theorem synodlaw6_first.calls (W : World) (F : HA) (k : Nat)  (hgl : Glb Tryz.prog F) :
    Fn Tryz.prog W 8 [] [] F (synodlaw6_first.f k ) (fun (r : Bool) (y : Unit) => .bool r) (fun r y => []) := by
 unfold synodlaw6_first.f
 refine fn_intro 81 Tryz.func8 rfl Tryz.ntmps8 rfl ?_
 refine sr ?_
 refine va rfl rfl (nx ?_)
 refine simL_bind (fun s1v hs2v => ?_)
 refine simL_eff (re_call (vs := []) (cap := []) (A := []) (rst := [F]) rfl rfl rfl rfl rfl rfl Tryz.call9 (.sel 0 rfl (.nil _)) (disk_New.calls _ _  ) hs2v) rfl rfl rfl ?_
 intro y3v
 refine va rfl rfl (nx ?_)
 refine vm rfl rfl ?_
 refine simL_bind (fun s4v hs5v => ?_)
 refine simL_eff (re_call (vs := [.pointer (some ⟨y3v.1, 0, none⟩)]) (cap := []) (A := [obj y3v.1 76 [.map (some y3v.2.1), str s1v.2.1, .int .i64 s1v.2.2.1, .bool s1v.2.2.2], mapF (mapO y3v.2.1 enc9 encP y3v.2.2) FA89 y3v.2.2 s1v.1]) (rst := [F]) rfl rfl rfl rfl rfl rfl Tryz.call15 (.sel 0 rfl (.sel 0 rfl (.sel 0 rfl (.nil _)))) (snap_Load.calls _ _ k y3v.1 y3v.2.1 y3v.2.2 s1v.1 s1v.2.1 s1v.2.2.1 s1v.2.2.2 (hgl.lend 0 rfl)) hs5v) rfl rfl rfl ?_
 intro y6v
 refine vm rfl rfl ?_
 refine vq (q_ext rfl rfl rfl) rfl ?_
 refine vq (q_ext rfl rfl rfl) rfl ?_
 refine vq (q_ext rfl rfl rfl) rfl ?_
 refine simL_eff (re_alloc rfl Tryz.zeroValue27 rfl) rfl rfl rfl ?_
 intro b7v
 refine simL_do (re_store 0 rfl rfl rfl Tryz.sizeOf27 rfl rfl (one_of (by rfl)) rfl rfl) rfl rfl ?_
 intro _
 refine va rfl rfl ?_
 refine va rfl rfl (nx ?_)
 refine vm rfl rfl ?_
 refine simL_eff (re_litb (cs := [.int .u8 97, .int .u8 98]) ([97, 98] : List UInt8) rfl rfl Tryz.underlying25 elt5 rfl (by kernel_rfl) rfl rfl rfl) rfl rfl rfl ?_
 intro b8v
 refine simL_eff (re_mark 0 rfl rfl Tryz.underlying25 Tryz.underlying5 rfl rfl) rfl rfl rfl ?_
 intro _
 refine vq (q_build (v := .agg #[.int .i64 5, .int .i64 2, .slice (some ⟨b8v, 0, none⟩) (([97, 98] : List UInt8).length) 2]) rfl rfl (fun _ => by kernel_rfl)) rfl ?_
 refine simL_bind (fun s14v hs15v => ?_)
 refine simL_lend 0 rfl (fun hq10v hq11v hq12v hq13v => ?_)
 refine simL_eff (re_call (vs := [.pointer (some ⟨y3v.1, 0, none⟩), .agg #[.int .i64 5, .int .i64 2, .slice (some ⟨b8v, 0, none⟩) (([97, 98] : List UInt8).length) 2]]) (cap := []) (A := [obj y3v.1 76 [.map (some y3v.2.1), str s1v.2.1, .int .i64 s1v.2.2.1, .bool s1v.2.2.2], mapF (mapO y3v.2.1 enc9 encP y3v.2.2) FA89 y3v.2.2 s1v.1]) (rst := [Row 5 1 (some ⟨b8v, 0, none⟩) ([97, 98] : List UInt8).length 2 (encB ([97, 98] : List UInt8)), obj b7v 27 [.int .i64 s4v.1, .int .i64 s4v.2.1, .slice y6v.1 s4v.2.2.1.length y6v.2], Row 5 1 y6v.1 s4v.2.2.1.length y6v.2 (encB s4v.2.2.1), F]) rfl rfl rfl rfl rfl rfl Tryz.call10 (.sel 3 rfl (.sel 3 rfl (.sel 0 rfl (.sel 0 rfl (.sel 0 rfl (.sel 0 rfl (.nil _))))))) (snap_Save.calls _ _ k y3v.1 y3v.2.1 y3v.2.2 s1v.1 s1v.2.1 s1v.2.2.1 s1v.2.2.2 (5 : Int) (2 : Int) (some ⟨b8v, 0, none⟩) 2 ([97, 98] : List UInt8) (hq10v.lend 0 rfl) hq11v hq12v (hgl.lend 3 rfl)) hs15v) rfl rfl rfl ?_
 intro y16v
 refine va rfl rfl (nx ?_)
 refine vm rfl rfl ?_
 refine simL_bind (fun s17v hs18v => ?_)
 refine simL_eff (re_call (vs := [.pointer (some ⟨y3v.1, 0, none⟩)]) (cap := []) (A := [obj y3v.1 76 [.map (some y16v.1), str s14v.2.2.1, .int .i64 s14v.2.2.2.1, .bool s14v.2.2.2.2], mapF (mapO y16v.1 enc9 encP y16v.2) FA89 y16v.2 s14v.2.1]) (rst := [Row 5 1 (some ⟨b8v, 0, none⟩) ([97, 98] : List UInt8).length 2 (encB ([97, 98] : List UInt8)), obj b7v 27 [.int .i64 s4v.1, .int .i64 s4v.2.1, .slice y6v.1 s4v.2.2.1.length y6v.2], Row 5 1 y6v.1 s4v.2.2.1.length y6v.2 (encB s4v.2.2.1), F]) rfl rfl rfl rfl rfl rfl Tryz.call15 (.sel 0 rfl (.sel 0 rfl (.sel 0 rfl (.sel 0 rfl (.sel 0 rfl (.sel 0 rfl (.nil _))))))) (snap_Load.calls _ _ k y3v.1 y16v.1 y16v.2 s14v.2.1 s14v.2.2.1 s14v.2.2.2.1 s14v.2.2.2.2 (hgl.lend 3 rfl)) hs18v) rfl rfl rfl ?_
 intro y19v
 refine vm rfl rfl ?_
 refine vq (q_ext rfl rfl rfl) rfl ?_
 refine vq (q_ext rfl rfl rfl) rfl ?_
 refine vq (q_ext rfl rfl rfl) rfl ?_
 refine simL_eff (re_alloc rfl Tryz.zeroValue27 rfl) rfl rfl rfl ?_
 intro b20v
 refine simL_do (re_store 0 rfl rfl rfl Tryz.sizeOf27 rfl rfl (one_of (by rfl)) rfl rfl) rfl rfl ?_
 intro _
 refine va rfl rfl ?_
 refine va rfl rfl (nx ?_)
 refine vm rfl rfl ?_
 refine vq (q_build (v := .agg #[.int .i64 0, .int .i64 0, .slice none 0 0]) rfl rfl (fun _ => by kernel_rfl)) rfl ?_
 refine simL_bind (fun s21v hs22v => ?_)
 refine simL_eff (re_call (vs := [.pointer (some ⟨y3v.1, 0, none⟩), .agg #[.int .i64 0, .int .i64 0, .slice none 0 0]]) (cap := []) (A := [obj y3v.1 76 [.map (some y16v.1), str s14v.2.2.1, .int .i64 s14v.2.2.2.1, .bool s14v.2.2.2.2], mapF (mapO y16v.1 enc9 encP y16v.2) FA89 y16v.2 s14v.2.1]) (rst := [obj b20v 27 [.int .i64 s17v.1, .int .i64 s17v.2.1, .slice y19v.1 s17v.2.2.1.length y19v.2], Row 5 1 y19v.1 s17v.2.2.1.length y19v.2 (encB s17v.2.2.1), Row 5 1 (some ⟨b8v, 0, none⟩) ([97, 98] : List UInt8).length 2 (encB ([97, 98] : List UInt8)), obj b7v 27 [.int .i64 s4v.1, .int .i64 s4v.2.1, .slice y6v.1 s4v.2.2.1.length y6v.2], Row 5 1 y6v.1 s4v.2.2.1.length y6v.2 (encB s4v.2.2.1), F]) rfl rfl rfl rfl rfl rfl Tryz.call10 (.sel 2 rfl (.sel 2 rfl (.sel 0 rfl (.sel 0 rfl (.sel 0 rfl (.sel 0 rfl (.sel 0 rfl (.sel 0 rfl (.nil _))))))))) (snap_Save.calls _ _ k y3v.1 y16v.1 y16v.2 s14v.2.1 s14v.2.2.1 s14v.2.2.2.1 s14v.2.2.2.2 (0 : Int) (0 : Int) none 0 ([] : List UInt8) (Rd.nil _ _) (Nat.le_refl _) (Nat.zero_le _) (hgl.lend 5 rfl)) hs22v) rfl rfl rfl ?_
 intro y23v
 refine va rfl rfl (nx ?_)
 refine vm rfl rfl ?_
 refine simL_bind (fun s24v hs25v => ?_)
 refine simL_eff (re_call (vs := [.pointer (some ⟨y3v.1, 0, none⟩)]) (cap := []) (A := [obj y3v.1 76 [.map (some y23v.1), str s21v.2.2.1, .int .i64 s21v.2.2.2.1, .bool s21v.2.2.2.2], mapF (mapO y23v.1 enc9 encP y23v.2) FA89 y23v.2 s21v.2.1]) (rst := [obj b20v 27 [.int .i64 s17v.1, .int .i64 s17v.2.1, .slice y19v.1 s17v.2.2.1.length y19v.2], Row 5 1 y19v.1 s17v.2.2.1.length y19v.2 (encB s17v.2.2.1), Row 5 1 (some ⟨b8v, 0, none⟩) ([97, 98] : List UInt8).length 2 (encB ([97, 98] : List UInt8)), obj b7v 27 [.int .i64 s4v.1, .int .i64 s4v.2.1, .slice y6v.1 s4v.2.2.1.length y6v.2], Row 5 1 y6v.1 s4v.2.2.1.length y6v.2 (encB s4v.2.2.1), F]) rfl rfl rfl rfl rfl rfl Tryz.call14 (.sel 0 rfl (.sel 0 rfl (.sel 0 rfl (.sel 0 rfl (.sel 0 rfl (.sel 0 rfl (.sel 0 rfl (.sel 0 rfl (.nil _))))))))) (snap_List.calls _ _ k y3v.1 y23v.1 y23v.2 s21v.2.1 s21v.2.2.1 s21v.2.2.2.1 s21v.2.2.2.2 (hgl.lend 5 rfl)) hs25v) rfl rfl rfl ?_
 intro y26v
 refine va rfl rfl (nx ?_)
 refine vm rfl rfl ?_
 refine vq (q_eql rfl rfl rfl) rfl ?_
 refine vm rfl rfl ?_
 refine simL_cut' 4 (S := Bool) (Unit) (fun s y => [(5, .int .i64 s14v.1), (6, .pointer (some ⟨b20v, 0, none⟩)), (7, .int .i64 s17v.2.2.2.1), (8, .int .i64 s17v.2.2.2.2), (9, .int .i64 s21v.1), (10, .slice y26v.1 s24v.length y26v.2), (40, .bool s)]) (fun s y => [obj b20v 27 [.int .i64 s17v.1, .int .i64 s17v.2.1, .slice y19v.1 s17v.2.2.1.length y19v.2], RowV 3 1 (V3 tt) y26v.1 s24v y26v.2, Row 5 1 y19v.1 s17v.2.2.1.length y19v.2 (encB s17v.2.2.1), F]) ?_ ?_
 refine simL_casep (fun hb32v => ?_) (fun hb33v => ?_)
 rw [hb32v]
 refine simL_valg (q_move rfl rfl) rfl rfl rfl rfl rfl rfl ?_
 refine simL_bind (fun s29v hs30v => ?_)
 refine simL_effg (re_call (vs := [.int .i64 s4v.2.2.2.2]) (cap := []) (A := []) (rst := [RowV 3 1 (V3 tt) y26v.1 s24v y26v.2, obj y3v.1 76 [.map (some y23v.1), str s21v.2.2.1, .int .i64 s21v.2.2.2.1, .bool s21v.2.2.2.2], mapF (mapO y23v.1 enc9 encP y23v.2) FA89 y23v.2 s21v.2.1, obj b20v 27 [.int .i64 s17v.1, .int .i64 s17v.2.1, .slice y19v.1 s17v.2.2.1.length y19v.2], Row 5 1 y19v.1 s17v.2.2.1.length y19v.2 (encB s17v.2.2.1), Row 5 1 (some ⟨b8v, 0, none⟩) ([97, 98] : List UInt8).length 2 (encB ([97, 98] : List UInt8)), obj b7v 27 [.int .i64 s4v.1, .int .i64 s4v.2.1, .slice y6v.1 s4v.2.2.1.length y6v.2], Row 5 1 y6v.1 s4v.2.2.1.length y6v.2 (encB s4v.2.2.1), F]) rfl rfl rfl rfl rfl rfl Tryz.call12 (.sel 0 rfl (.sel 0 rfl (.sel 0 rfl (.sel 0 rfl (.sel 0 rfl (.sel 0 rfl (.sel 0 rfl (.sel 0 rfl (.sel 0 rfl (.nil _)))))))))) (synodref_Num.calls _ _ s4v.2.2.2.2 ) hs30v) rfl rfl rfl rfl rfl rfl ?_
 intro y31v
 refine simL_valg (q_eql rfl rfl rfl) rfl rfl rfl rfl rfl rfl ?_
 refine vq (q_pick rfl rfl rfl rfl rfl) rfl (simL_nil ?_)
 exact nrm_cut (s := decide (s29v = (8 : Int))) () ⟨rfl, rfl, rfl, rfl, rfl, rfl, rfl, trivial⟩ (.sel 3 rfl (.sel 0 rfl (.sel 2 rfl (.sel 5 rfl (.nil _)))))
 rw [hb33v]
 refine simL_skipd rfl rfl rfl rfl rfl rfl ?_
 refine simL_skipd rfl rfl rfl rfl rfl rfl ?_
 refine simL_skipd rfl rfl rfl rfl rfl rfl ?_
 refine vq (q_pick rfl rfl rfl rfl rfl) rfl (simL_nil ?_)
 exact nrm_cut (s := false) () ⟨rfl, rfl, rfl, rfl, rfl, rfl, rfl, trivial⟩ (.sel 3 rfl (.sel 0 rfl (.sel 2 rfl (.sel 5 rfl (.nil _)))))
 intro s27v y28v
 refine vm rfl rfl ?_
 refine simL_cut' 4 (S := Bool) (Unit) (fun s y => [(6, .pointer (some ⟨b20v, 0, none⟩)), (7, .int .i64 s17v.2.2.2.1), (8, .int .i64 s17v.2.2.2.2), (9, .int .i64 s21v.1), (10, .slice y26v.1 s24v.length y26v.2), (45, .bool s)]) (fun s y => [obj b20v 27 [.int .i64 s17v.1, .int .i64 s17v.2.1, .slice y19v.1 s17v.2.2.1.length y19v.2], RowV 3 1 (V3 tt) y26v.1 s24v y26v.2, Row 5 1 y19v.1 s17v.2.2.1.length y19v.2 (encB s17v.2.2.1), F]) ?_ ?_
 refine simL_caseb (fun hb39v => ?_) (fun hb40v => ?_)
 rw [hb39v]
 refine simL_valg (q_move rfl rfl) rfl rfl rfl rfl rfl rfl ?_
 refine simL_bind (fun s36v hs37v => ?_)
 refine simL_effg (re_call (vs := [.int .i64 s14v.1]) (cap := []) (A := []) (rst := [obj b20v 27 [.int .i64 s17v.1, .int .i64 s17v.2.1, .slice y19v.1 s17v.2.2.1.length y19v.2], RowV 3 1 (V3 tt) y26v.1 s24v y26v.2, Row 5 1 y19v.1 s17v.2.2.1.length y19v.2 (encB s17v.2.2.1), F]) rfl rfl rfl rfl rfl rfl Tryz.call12 (.sel 0 rfl (.sel 0 rfl (.sel 0 rfl (.sel 0 rfl (.nil _))))) (synodref_Num.calls _ _ s14v.1 ) hs37v) rfl rfl rfl rfl rfl rfl ?_
 intro y38v
 refine simL_valg (q_eql rfl rfl rfl) rfl rfl rfl rfl rfl rfl ?_
 refine vq (q_pick rfl rfl rfl rfl rfl) rfl (simL_nil ?_)
 exact nrm_cut (s := decide (s36v = (0 : Int))) () ⟨rfl, rfl, rfl, rfl, rfl, rfl, trivial⟩ (.sel 0 rfl (.sel 0 rfl (.sel 0 rfl (.sel 0 rfl (.nil _)))))
 rw [hb40v]
 refine simL_skipd rfl rfl rfl rfl rfl rfl ?_
 refine simL_skipd rfl rfl rfl rfl rfl rfl ?_
 refine simL_skipd rfl rfl rfl rfl rfl rfl ?_
 refine vq (q_pick rfl rfl rfl rfl rfl) rfl (simL_nil ?_)
 exact nrm_cut (s := false) () ⟨rfl, rfl, rfl, rfl, rfl, rfl, trivial⟩ (.sel 0 rfl (.sel 0 rfl (.sel 0 rfl (.sel 0 rfl (.nil _)))))
 intro s34v y35v
 refine vm rfl rfl ?_
 refine simL_valc (b := s34v) (fun hb69v => RQ.sub (E' := [(6, .pointer (some ⟨b20v, 0, none⟩))]) ⟨rfl, trivial⟩ (q_fa rfl rfl Tryz.underlying27 rfl rfl Tryz.sizeOf3 rfl)) rfl rfl rfl rfl rfl ?_
 refine simL_valc (b := s34v) (fun hb68v => RQ.sub (E' := [(47, .pointer (some ⟨b20v, 0, none⟩))]) ⟨lk_cv rfl hb68v, trivial⟩ (q_load rfl rfl Tryz.isAgg3 (.obj 0 rfl rfl))) rfl rfl rfl rfl rfl ?_
 refine simL_valc (b := s34v) (fun hb67v => RQ.sub (E' := [(48, .int .i64 s17v.1)]) ⟨lk_cv rfl hb67v, trivial⟩ (q_eql rfl rfl rfl)) rfl rfl rfl rfl rfl ?_
 refine vq (q_and rfl rfl rfl) rfl ?_
 refine vm rfl rfl ?_
 refine simL_valc (b := s34v && (decide (s17v.1 = (5 : Int)))) (fun hb66v => RQ.sub (E' := [(6, .pointer (some ⟨b20v, 0, none⟩))]) ⟨rfl, trivial⟩ (q_fa rfl rfl Tryz.underlying27 rfl rfl Tryz.sizeOf3 rfl)) rfl rfl rfl rfl rfl ?_
 refine simL_valc (b := s34v && (decide (s17v.1 = (5 : Int)))) (fun hb65v => RQ.sub (E' := [(52, .pointer (some ⟨b20v, 1, none⟩))]) ⟨lk_cv rfl hb65v, trivial⟩ (q_load rfl rfl Tryz.isAgg3 (.obj 0 rfl rfl))) rfl rfl rfl rfl rfl ?_
 refine simL_valc (b := s34v && (decide (s17v.1 = (5 : Int)))) (fun hb64v => RQ.sub (E' := [(53, .int .i64 s17v.2.1)]) ⟨lk_cv rfl hb64v, trivial⟩ (q_eql rfl rfl rfl)) rfl rfl rfl rfl rfl ?_
 refine vq (q_and rfl rfl rfl) rfl ?_
 refine vm rfl rfl ?_
 refine simL_valc (b := (s34v && (decide (s17v.1 = (5 : Int)))) && (decide (s17v.2.1 = (2 : Int)))) (fun hb63v => RQ.sub (E' := [(6, .pointer (some ⟨b20v, 0, none⟩))]) ⟨rfl, trivial⟩ (q_fa rfl rfl Tryz.underlying27 rfl rfl Tryz.sizeOf25 rfl)) rfl rfl rfl rfl rfl ?_
 refine simL_valc (b := (s34v && (decide (s17v.1 = (5 : Int)))) && (decide (s17v.2.1 = (2 : Int)))) (fun hb62v => RQ.sub (E' := [(57, .pointer (some ⟨b20v, 2, none⟩))]) ⟨lk_cv rfl hb62v, trivial⟩ (q_load rfl rfl Tryz.isAgg25 (.obj 0 rfl rfl))) rfl rfl rfl rfl rfl ?_
 refine simL_valc (b := (s34v && (decide (s17v.1 = (5 : Int)))) && (decide (s17v.2.1 = (2 : Int)))) (fun hb61v => RQ.sub (E' := [(58, .slice y19v.1 s17v.2.2.1.length y19v.2)]) ⟨lk_cv rfl hb61v, trivial⟩ (q_tostr rfl rfl Tryz.underlying25 Tryz.underlying5 Tryz.underlying9 (Rds.row 2 rfl) rfl)) rfl rfl rfl rfl rfl ?_
 refine simL_valc (b := (s34v && (decide (s17v.1 = (5 : Int)))) && (decide (s17v.2.1 = (2 : Int)))) (fun hb60v => RQ.sub (E' := [(59, str s17v.2.2.1)]) ⟨lk_cv rfl hb60v, trivial⟩ (q_eqs rfl rfl rfl)) rfl rfl rfl rfl rfl ?_
 refine vq (q_and rfl rfl rfl) rfl ?_
 refine vm rfl rfl ?_
 refine simL_valc (b := ((s34v && (decide (s17v.1 = (5 : Int)))) && (decide (s17v.2.1 = (2 : Int)))) && (decide (s17v.2.2.1 = ([97, 98] : List UInt8)))) (fun hb59v => RQ.sub (E' := [(7, .int .i64 s17v.2.2.2.1)]) ⟨rfl, trivial⟩ (q_move rfl rfl)) rfl rfl rfl rfl rfl ?_
 refine simL_valc (b := ((s34v && (decide (s17v.1 = (5 : Int)))) && (decide (s17v.2.1 = (2 : Int)))) && (decide (s17v.2.2.1 = ([97, 98] : List UInt8)))) (fun hb58v => RQ.sub (E' := [(63, .int .i64 s17v.2.2.2.1)]) ⟨lk_cv rfl hb58v, trivial⟩ (q_eql rfl rfl rfl)) rfl rfl rfl rfl rfl ?_
 refine vq (q_and rfl rfl rfl) rfl ?_
 refine vm rfl rfl ?_
 refine simL_cut' 4 (S := Bool) (Unit) (fun s y => [(9, .int .i64 s21v.1), (10, .slice y26v.1 s24v.length y26v.2), (70, .bool s)]) (fun s y => [RowV 3 1 (V3 tt) y26v.1 s24v y26v.2, F]) ?_ ?_
 refine simL_caseb (fun hb46v => ?_) (fun hb47v => ?_)
 rw [hb46v]
 refine simL_valg (q_move rfl rfl) rfl rfl rfl rfl rfl rfl ?_
 refine simL_bind (fun s43v hs44v => ?_)
 refine simL_effg (re_call (vs := [.int .i64 s17v.2.2.2.2]) (cap := []) (A := []) (rst := [obj b20v 27 [.int .i64 s17v.1, .int .i64 s17v.2.1, .slice y19v.1 s17v.2.2.1.length y19v.2], RowV 3 1 (V3 tt) y26v.1 s24v y26v.2, Row 5 1 y19v.1 s17v.2.2.1.length y19v.2 (encB s17v.2.2.1), F]) rfl rfl rfl rfl rfl rfl Tryz.call12 (.sel 0 rfl (.sel 0 rfl (.sel 0 rfl (.sel 0 rfl (.nil _))))) (synodref_Num.calls _ _ s17v.2.2.2.2 ) hs44v) rfl rfl rfl rfl rfl rfl ?_
 intro y45v
 refine simL_valg (q_eql rfl rfl rfl) rfl rfl rfl rfl rfl rfl ?_
 refine vq (q_pick rfl rfl rfl rfl rfl) rfl (simL_nil ?_)
 exact nrm_cut (s := decide (s43v = (0 : Int))) () ⟨rfl, rfl, rfl, trivial⟩ (.sel 1 rfl (.sel 2 rfl (.nil _)))
 rw [hb47v]
 refine simL_skipd rfl rfl rfl rfl rfl rfl ?_
 refine simL_skipd rfl rfl rfl rfl rfl rfl ?_
 refine simL_skipd rfl rfl rfl rfl rfl rfl ?_
 refine vq (q_pick rfl rfl rfl rfl rfl) rfl (simL_nil ?_)
 exact nrm_cut (s := false) () ⟨rfl, rfl, rfl, trivial⟩ (.sel 1 rfl (.sel 2 rfl (.nil _)))
 intro s41v y42v
 refine vm rfl rfl ?_
 refine simL_cut' 4 (S := Bool) (Unit) (fun s y => [(10, .slice y26v.1 s24v.length y26v.2), (75, .bool s)]) (fun s y => [RowV 3 1 (V3 tt) y26v.1 s24v y26v.2, F]) ?_ ?_
 refine simL_caseb (fun hb53v => ?_) (fun hb54v => ?_)
 rw [hb53v]
 refine simL_valg (q_move rfl rfl) rfl rfl rfl rfl rfl rfl ?_
 refine simL_bind (fun s50v hs51v => ?_)
 refine simL_effg (re_call (vs := [.int .i64 s21v.1]) (cap := []) (A := []) (rst := [RowV 3 1 (V3 tt) y26v.1 s24v y26v.2, F]) rfl rfl rfl rfl rfl rfl Tryz.call12 (.sel 0 rfl (.sel 0 rfl (.nil _))) (synodref_Num.calls _ _ s21v.1 ) hs51v) rfl rfl rfl rfl rfl rfl ?_
 intro y52v
 refine simL_valg (q_eql rfl rfl rfl) rfl rfl rfl rfl rfl rfl ?_
 refine vq (q_pick rfl rfl rfl rfl rfl) rfl (simL_nil ?_)
 exact nrm_cut (s := decide (s50v = (4 : Int))) () ⟨rfl, rfl, trivial⟩ (.sel 0 rfl (.sel 0 rfl (.nil _)))
 rw [hb54v]
 refine simL_skipd rfl rfl rfl rfl rfl rfl ?_
 refine simL_skipd rfl rfl rfl rfl rfl rfl ?_
 refine simL_skipd rfl rfl rfl rfl rfl rfl ?_
 refine vq (q_pick rfl rfl rfl rfl rfl) rfl (simL_nil ?_)
 exact nrm_cut (s := false) () ⟨rfl, rfl, trivial⟩ (.sel 0 rfl (.sel 0 rfl (.nil _)))
 intro s48v y49v
 refine vm rfl rfl ?_
 refine simL_valc (b := s48v) (fun hb57v => RQ.sub (E' := [(10, .slice y26v.1 s24v.length y26v.2)]) ⟨rfl, trivial⟩ (q_move rfl rfl)) rfl rfl rfl rfl rfl ?_
 refine simL_valc (b := s48v) (fun hb56v => RQ.sub (E' := [(77, .slice y26v.1 s24v.length y26v.2)]) ⟨lk_cv rfl hb56v, trivial⟩ (q_len rfl rfl rfl Tryz.underlying23)) rfl rfl rfl rfl rfl ?_
 refine simL_valc (b := s48v) (fun hb55v => RQ.sub (E' := [(78, .int .i64 (s24v.length : Int))]) ⟨lk_cv rfl hb55v, trivial⟩ (q_eql rfl rfl rfl)) rfl rfl rfl rfl rfl ?_
 refine vq (q_and rfl rfl rfl) rfl ?_
 refine va rfl rfl (simL_nil (nrm_then (sim_rtn ?_)))
 exact rtn_fn () rfl rfl rfl (.sel 1 rfl (.nil _))

def synodref6_Index.l0 (x0 : List UInt8) : Nat → Int → Int → Option ((Int) ⊕ (Int))
  | 0, _, _ => none
  | k + 1, z12v, z13v => if z13v < (24 : Int) then (if 0 ≤ z13v ∧ z13v < (x0.length : Int) then ((if ((x0.getD z13v.toNat 0).toNat : Int) < (48 : Int) then (some true) else (if 0 ≤ z13v ∧ z13v < (x0.length : Int) then (some (decide ((57 : Int) < ((x0.getD z13v.toNat 0).toNat : Int)))) else none)).bind fun s17v => (if (s17v || (decide ((461168601842738790 : Int) < z12v))) = true then (some (.inr 0)) else (if 0 ≤ z13v ∧ z13v < (x0.length : Int) then (synodref6_Index.l0 x0 k (IntKind.i64.wrap ((IntKind.i64.wrap (10 * z12v)) + (IntKind.i64.wrap (IntKind.u8.wrap (((x0.getD z13v.toNat 0).toNat : Int) - 48))))) (IntKind.i64.wrap (z13v + 1))) else none))) else none) else (some (.inl z12v))
def synodref6_Index.f (k : Nat) (x0 : List UInt8) : Option (Int) := (if (x0.length : Int) = (24 : Int) then (if 0 ≤ (0 : Int) ∧ (0 : Int) ≤ (5 : Int) ∧ (5 : Int) ≤ (x0.length : Int) then (some (!decide ((cut x0 (0 : Int) (5 : Int)) = ([115, 110, 97, 112, 45] : List UInt8)))) else none) else (some true)).bind fun s1v => (if s1v = true then (some 0) else (orR (synodref6_Index.l0 x0 k 0 5) fun s8v => (if (4611686018427387904 : Int) < s8v then (some 0) else (some s8v))))
theorem synodref6_Index.calls (W : World) (F : HA) (k : Nat) (x0 : List UInt8)  :
    Fn Tryz.prog W 25 [str x0] [] F (synodref6_Index.f k x0) (fun (r : Int) (y : Unit) => .int .i64 r) (fun r y => []) := by
 unfold synodref6_Index.f
 refine fn_intro 42 Tryz.func25 rfl Tryz.ntmps25 rfl ?_
 refine sr ?_
 refine va rfl rfl (simL_nil (nrm_then (sim_seq (sr ?_))))
 refine vm rfl rfl ?_
 refine vq (q_lens rfl rfl rfl Tryz.underlying9) rfl ?_
 refine vq (q_neq rfl rfl rfl) rfl ?_
 refine vm rfl rfl ?_
 refine simL_cut' 4 (S := Bool) (Unit) (fun s y => [(0, str x0), (12, .bool s)]) (fun s y => [F]) ?_ ?_
 refine simL_casen (fun hb4v => ?_) (fun hb5v => ?_)
 rw [hb4v]
 refine simL_skipd rfl rfl rfl rfl rfl rfl ?_
 refine simL_skipd rfl rfl rfl rfl rfl rfl ?_
 refine simL_skipd rfl rfl rfl rfl rfl rfl ?_
 refine vq (q_pick rfl rfl rfl rfl rfl) rfl (simL_nil ?_)
 exact nrm_cut (s := true) () ⟨rfl, rfl, trivial⟩ (.sel 0 rfl (.nil _))
 rw [hb5v]
 refine simL_valg (q_move rfl rfl) rfl rfl rfl rfl rfl rfl ?_
 refine simL_ask (fun hb3v => ?_)
 refine simL_valg (q_cutS (lo' := (0 : Int)) (hi' := (5 : Int)) rfl rfl rfl rfl Tryz.underlying9 (.inr ⟨_, rfl⟩) (.inl ⟨rfl, rfl⟩) hb3v) rfl rfl rfl rfl rfl rfl ?_
 refine simL_valg (q_nes rfl rfl rfl) rfl rfl rfl rfl rfl rfl ?_
 refine vq (q_pick rfl rfl rfl rfl rfl) rfl (simL_nil ?_)
 exact nrm_cut (s := !decide ((cut x0 (0 : Int) (5 : Int)) = ([115, 110, 97, 112, 45] : List UInt8))) () ⟨rfl, rfl, trivial⟩ (.sel 0 rfl (.nil _))
 intro s1v y2v
 refine simL_nil (nrm_then ?_)
 refine sim_condb rfl (fun h6v => ?_) (fun h7v => ?_)
 refine sr ?_
 refine va rfl rfl (simL_nil (nrm_then (sim_rtn ?_)))
 refine rtn_then ?_
 exact rtn_fn () rfl rfl rfl (.sel 0 rfl (.nil _))
 refine sim_skip ?_
 refine nrm_then (sr ?_)
 refine va rfl rfl (simL_nil (nrm_then ?_))
 refine sim_cutR (S := Int) (Unit) (fun s y => [(3, .int .i64 s)]) (fun s y => [F]) ?_ ?_
 refine sr ?_
 refine va rfl rfl (simL_nil (nrm_then ?_))
 refine sim_block ?_
 refine sim_loop (S := Int × Int) (Unit) (fun k s => synodref6_Index.l0 x0 k s.1 s.2) (fun s y => [(0, str x0), (3, .int .i64 s.1), (4, .int .i64 s.2)]) (fun s y => [F]) (fun _ => by rw [synodref6_Index.l0]) ?_ k (0, 5) () ⟨rfl, rfl, rfl, trivial⟩ (.sel 0 rfl (.nil _))
 intro k s10v y11v
 refine sim_eq (by rw [synodref6_Index.l0]) ?_
 refine sim_seq (sr ?_)
 refine vm rfl rfl ?_
 refine vq (q_lss rfl rfl rfl) rfl (simL_nil (nrm_then ?_))
 refine sim_cond rfl (fun h14v => ?_) (fun h15v => ?_)
 refine sim_skip ?_
 refine nrm_then (sim_seq ?_)
 refine sim_block ?_
 refine sim_seq (sr ?_)
 refine vm rfl rfl ?_
 refine vm rfl rfl ?_
 refine simL_ask (fun hi16v => ?_)
 refine vq (q_sidx rfl rfl rfl Tryz.underlying9 hi16v.1 hi16v.2) rfl ?_
 refine vq (q_lss rfl rfl rfl) rfl ?_
 refine vm rfl rfl ?_
 refine simL_cut' 5 (S := Bool) (Unit) (fun s y => [(0, str x0), (3, .int .i64 s10v.1), (4, .int .i64 s10v.2), (26, .bool s)]) (fun s y => [F]) ?_ ?_
 refine simL_casep (fun hb20v => ?_) (fun hb21v => ?_)
 rw [hb20v]
 refine simL_skipd rfl rfl rfl rfl rfl rfl ?_
 refine simL_skipd rfl rfl rfl rfl rfl rfl ?_
 refine simL_skipd rfl rfl rfl rfl rfl rfl ?_
 refine simL_skipd rfl rfl rfl rfl rfl rfl ?_
 refine vq (q_pick rfl rfl rfl rfl rfl) rfl (simL_nil ?_)
 exact nrm_cut (s := true) () ⟨rfl, rfl, rfl, rfl, trivial⟩ (.sel 0 rfl (.nil _))
 rw [hb21v]
 refine simL_valg (q_move rfl rfl) rfl rfl rfl rfl rfl rfl ?_
 refine simL_valg (q_move rfl rfl) rfl rfl rfl rfl rfl rfl ?_
 refine simL_ask (fun hi19v => ?_)
 refine simL_valg (q_sidx rfl rfl rfl Tryz.underlying9 hi19v.1 hi19v.2) rfl rfl rfl rfl rfl rfl ?_
 refine simL_valg (q_gtr rfl rfl rfl) rfl rfl rfl rfl rfl rfl ?_
 refine vq (q_pick rfl rfl rfl rfl rfl) rfl (simL_nil ?_)
 exact nrm_cut (s := decide ((57 : Int) < ((x0.getD s10v.2.toNat 0).toNat : Int))) () ⟨rfl, rfl, rfl, rfl, trivial⟩ (.sel 0 rfl (.nil _))
 intro s17v y18v
 refine vm rfl rfl ?_
 refine simL_valc (b := s17v) (fun hb26v => RQ.sub (E' := [(3, .int .i64 s10v.1)]) ⟨rfl, trivial⟩ (q_move rfl rfl)) rfl rfl rfl rfl rfl ?_
 refine simL_valc (b := s17v) (fun hb25v => RQ.sub (E' := [(28, .int .i64 s10v.1)]) ⟨lk_cv rfl hb25v, trivial⟩ (q_gtr rfl rfl rfl)) rfl rfl rfl rfl rfl ?_
 refine vq (q_or rfl rfl rfl) rfl (simL_nil (nrm_then ?_))
 refine sim_condb rfl (fun h22v => ?_) (fun h23v => ?_)
 refine sr ?_
 refine va rfl rfl (simL_nil (nrm_then (sim_rtn ?_)))
 refine rtn_then ?_
 refine rtn_block ?_
 refine rtn_then ?_
 refine rtn_loop ?_
 refine rtn_block ?_
 refine rtn_cutR ?_
 exact rtn_fn () rfl rfl rfl (.sel 0 rfl (.nil _))
 refine sim_skip ?_
 refine nrm_then (sim_region ?_)
 refine vm rfl rfl ?_
 refine vq (q_mul rfl rfl rfl) rfl ?_
 refine vm rfl rfl ?_
 refine vm rfl rfl ?_
 refine simL_ask (fun hi24v => ?_)
 refine vq (q_sidx rfl rfl rfl Tryz.underlying9 hi24v.1 hi24v.2) rfl ?_
 refine vq (q_sub rfl rfl rfl) rfl ?_
 refine vq (q_conv rfl rfl Tryz.underlying5 Tryz.underlying3) rfl ?_
 refine vq (q_add rfl rfl rfl) rfl ?_
 refine va rfl rfl (simL_nil (nrm_block (nrm_then (sim_region ?_))))
 refine vm rfl rfl ?_
 refine vq (q_add rfl rfl rfl) rfl ?_
 refine va rfl rfl (simL_nil ?_)
 exact nrm_again (s := (IntKind.i64.wrap ((IntKind.i64.wrap (10 * s10v.1)) + (IntKind.i64.wrap (IntKind.u8.wrap (((x0.getD s10v.2.toNat 0).toNat : Int) - 48)))), IntKind.i64.wrap (s10v.2 + 1))) () ⟨rfl, rfl, rfl, trivial⟩ (.sel 0 rfl (.nil _))
 refine sim_exi ?_
 refine exi_then ?_
 refine exi_loop ?_
 refine exi_here ?_
 exact nrm_cutR (s := s10v.1) () ⟨rfl, trivial⟩ (.sel 0 rfl (.nil _))
 intro s8v y9v
 refine sim_seq (sr ?_)
 refine vm rfl rfl ?_
 refine vq (q_gtr rfl rfl rfl) rfl (simL_nil (nrm_then ?_))
 refine sim_cond rfl (fun h27v => ?_) (fun h28v => ?_)
 refine sr ?_
 refine va rfl rfl (simL_nil (nrm_then (sim_rtn ?_)))
 refine rtn_then ?_
 exact rtn_fn () rfl rfl rfl (.sel 0 rfl (.nil _))
 refine sim_skip ?_
 refine nrm_then (sr ?_)
 refine vm rfl rfl ?_
 refine va rfl rfl (simL_nil (nrm_then (sim_rtn ?_)))
 exact rtn_fn () rfl rfl rfl (.sel 0 rfl (.nil _))

def synodref6_Name.l0 : Nat → Int → List UInt8 → Int → Option (List UInt8)
  | 0, _, _, _ => none
  | k + 1, z5v, z6v, z7v => if z7v < (19 : Int) then (if (runeS (IntKind.i32.wrap (IntKind.i64.wrap (48 + (Int.tmod z5v 10))))).length + z6v.length ≤ 9223372036854775807 then (synodref6_Name.l0 k (IntKind.i64.wrap (Int.tdiv z5v 10)) ((runeS (IntKind.i32.wrap (IntKind.i64.wrap (48 + (Int.tmod z5v 10))))) ++ z6v) (IntKind.i64.wrap (z7v + 1))) else none) else (some z6v)
def synodref6_Name.f (k : Nat) (x0 : Int) : Option (List UInt8) := (synodref6_Name.l0 k x0 ([] : List UInt8) 0).bind fun s1v => (if ([115, 110, 97, 112, 45] : List UInt8).length + s1v.length ≤ 9223372036854775807 then (some (([115, 110, 97, 112, 45] : List UInt8) ++ s1v)) else none)
theorem synodref6_Name.calls (W : World) (F : HA) (k : Nat) (x0 : Int)  :
    Fn Tryz.prog W 26 [.int .i64 x0] [] F (synodref6_Name.f k x0) (fun (r : List UInt8) (y : Unit) => str r) (fun r y => []) := by
 unfold synodref6_Name.f
 refine fn_intro 20 Tryz.func26 rfl Tryz.ntmps26 rfl ?_
 refine sr ?_
 refine va rfl rfl (nx ?_)
 refine va rfl rfl (simL_nil (nrm_then ?_))
 refine sim_cut (S := List UInt8) (Unit) (fun s y => [(3, str s)]) (fun s y => [F]) ?_ ?_
 refine sr ?_
 refine va rfl rfl (simL_nil (nrm_then ?_))
 refine sim_block ?_
 refine sim_loop (S := Int × List UInt8 × Int) (Unit) (fun k s => synodref6_Name.l0 k s.1 s.2.1 s.2.2) (fun s y => [(0, .int .i64 s.1), (3, str s.2.1), (4, .int .i64 s.2.2)]) (fun s y => [F]) (fun _ => by rw [synodref6_Name.l0]) ?_ k (x0, ([] : List UInt8), 0) () ⟨rfl, rfl, rfl, trivial⟩ (.sel 0 rfl (.nil _))
 intro k s3v y4v
 refine sim_eq (by rw [synodref6_Name.l0]) ?_
 refine sim_seq (sr ?_)
 refine vm rfl rfl ?_
 refine vq (q_lss rfl rfl rfl) rfl (simL_nil (nrm_then ?_))
 refine sim_cond rfl (fun h8v => ?_) (fun h9v => ?_)
 refine sim_skip ?_
 refine nrm_then (sim_seq ?_)
 refine sim_block ?_
 refine sr ?_
 refine vm rfl rfl ?_
 refine vq (q_rem rfl rfl rfl (by decide)) rfl ?_
 refine vq (q_add rfl rfl rfl) rfl ?_
 refine vq (q_conv rfl rfl Tryz.underlying3 Tryz.underlying21) rfl ?_
 refine vq (q_rune rfl rfl Tryz.underlying21 Tryz.underlying9) rfl ?_
 refine vm rfl rfl ?_
 refine simL_ask (fun hb11v => ?_)
 refine vq (q_cat rfl rfl rfl hb11v) rfl ?_
 refine va rfl rfl (ny ?_)
 refine vm rfl rfl ?_
 refine vq (q_quo rfl rfl rfl (by decide)) rfl ?_
 refine va rfl rfl (simL_nil (nrm_block (nrm_then (sim_region ?_))))
 refine vm rfl rfl ?_
 refine vq (q_add rfl rfl rfl) rfl ?_
 refine va rfl rfl (simL_nil ?_)
 exact nrm_again (s := (IntKind.i64.wrap (Int.tdiv s3v.1 10), (runeS (IntKind.i32.wrap (IntKind.i64.wrap (48 + (Int.tmod s3v.1 10))))) ++ s3v.2.1, IntKind.i64.wrap (s3v.2.2 + 1))) () ⟨rfl, rfl, rfl, trivial⟩ (.sel 0 rfl (.nil _))
 refine sim_exi ?_
 refine exi_then ?_
 refine exi_loop ?_
 refine exi_here ?_
 exact nrm_cut (s := s3v.2.1) () ⟨rfl, trivial⟩ (.sel 0 rfl (.nil _))
 intro s1v y2v
 refine sr ?_
 refine vm rfl rfl ?_
 refine simL_ask (fun hb13v => ?_)
 refine vq (q_cat rfl rfl rfl hb13v) rfl ?_
 refine va rfl rfl (simL_nil (nrm_then (sim_rtn ?_)))
 exact rtn_fn () rfl rfl rfl (.sel 0 rfl (.nil _))

def synodlaw6_SnapNames.f (k : Nat) (x0 : Int) (x1 : List UInt8) : Option (Bool) := (synodlaw6_first.f k).bind fun s1v => (if ((!s1v) || (decide ((1000 : Int) < (x1.length : Int)))) = true then (some s1v) else ((snap_Name.f x0).bind fun s6v => ((snap_Index.f x1).bind fun s9v => ((synodref6_Index.f k x1).bind fun s12v => (if ((decide (x0 < (1 : Int))) || (decide ((4611686018427387904 : Int) < x0))) = true then ((if ((decide (s9v.1 = s12v)) && (s9v.2 == (decide ((0 : Int) < s12v)))) = true then ((synodref_Num.f s6v.2).bind fun s19v => (some (decide (s19v = (1 : Int))))) else (some false)).bind fun s17v => (some (s17v && (decide (s6v.1 = ([] : List UInt8)))))) else ((snap_Index.f s6v.1).bind fun s26v => ((if ((decide (s9v.1 = s12v)) && (s9v.2 == (decide ((0 : Int) < s12v)))) = true then ((synodref_Num.f s6v.2).bind fun s31v => (some (decide (s31v = (0 : Int))))) else (some false)).bind fun s29v => ((if s29v = true then ((synodref6_Name.f k x0).bind fun s38v => (some (decide (s6v.1 = s38v)))) else (some false)).bind fun s36v => (some ((s36v && (decide (s26v.1 = x0))) && s26v.2))))))))))
theorem synodlaw6_SnapNames.calls (W : World) (F : HA) (k : Nat) (x0 : Int) (x1 : List UInt8) (hgl : Glb Tryz.prog F) :
    Fn Tryz.prog W 5 [.int .i64 x0, str x1] [] F (synodlaw6_SnapNames.f k x0 x1) (fun (r : Bool) (y : Unit) => .bool r) (fun r y => []) := by
 unfold synodlaw6_SnapNames.f
 refine fn_intro 85 Tryz.func5 rfl Tryz.ntmps5 rfl ?_
 refine sr ?_
 refine va rfl rfl (nx ?_)
 refine simL_bind (fun s1v hs2v => ?_)
 refine simL_eff (re_call (vs := []) (cap := []) (A := []) (rst := [F]) rfl rfl rfl rfl rfl rfl Tryz.call8 (.sel 0 rfl (.nil _)) (synodlaw6_first.calls _ _ k  (hgl.lend 0 rfl)) hs2v) rfl rfl rfl ?_
 intro y3v
 refine va rfl rfl (simL_nil (nrm_then (sim_seq (sr ?_))))
 refine vm rfl rfl ?_
 refine vq (q_not rfl rfl) rfl ?_
 refine vm rfl rfl ?_
 refine simL_valc (b := !s1v) (fun hb55v => RQ.sub (E' := [(1, str x1)]) ⟨rfl, trivial⟩ (q_move rfl rfl)) rfl rfl rfl rfl rfl ?_
 refine simL_valc (b := !s1v) (fun hb54v => RQ.sub (E' := [(18, str x1)]) ⟨lk_cv rfl hb54v, trivial⟩ (q_lens rfl rfl rfl Tryz.underlying9)) rfl rfl rfl rfl rfl ?_
 refine simL_valc (b := !s1v) (fun hb53v => RQ.sub (E' := [(19, .int .i64 (x1.length : Int))]) ⟨lk_cv rfl hb53v, trivial⟩ (q_gtr rfl rfl rfl)) rfl rfl rfl rfl rfl ?_
 refine vq (q_or rfl rfl rfl) rfl (simL_nil (nrm_then ?_))
 refine sim_condb rfl (fun h4v => ?_) (fun h5v => ?_)
 refine sr ?_
 refine vm rfl rfl ?_
 refine va rfl rfl (simL_nil (nrm_then (sim_rtn ?_)))
 refine rtn_then ?_
 exact rtn_fn () rfl rfl rfl (.sel 0 rfl (.nil _))
 refine sim_skip ?_
 refine nrm_then (sr ?_)
 refine vm rfl rfl ?_
 refine simL_bind (fun s6v hs7v => ?_)
 refine simL_eff (re_call (vs := [.int .i64 x0]) (cap := []) (A := []) (rst := [F]) rfl rfl rfl rfl rfl rfl Tryz.call11 (.sel 0 rfl (.nil _)) (snap_Name.calls _ _ x0 (hgl.lend 0 rfl)) hs7v) rfl rfl rfl ?_
 intro y8v
 refine vm rfl rfl ?_
 refine vq (q_ext rfl rfl rfl) rfl ?_
 refine vq (q_ext rfl rfl rfl) rfl ?_
 refine va rfl rfl ?_
 refine va rfl rfl (nx ?_)
 refine vm rfl rfl ?_
 refine simL_bind (fun s9v hs10v => ?_)
 refine simL_eff (re_call (vs := [str x1]) (cap := []) (A := []) (rst := [F]) rfl rfl rfl rfl rfl rfl Tryz.call24 (.sel 0 rfl (.nil _)) (snap_Index.calls _ _ x1 (hgl.lend 0 rfl)) hs10v) rfl rfl rfl ?_
 intro y11v
 refine vm rfl rfl ?_
 refine vq (q_ext rfl rfl rfl) rfl ?_
 refine vq (q_ext rfl rfl rfl) rfl ?_
 refine va rfl rfl ?_
 refine va rfl rfl (nx ?_)
 refine vm rfl rfl ?_
 refine simL_bind (fun s12v hs13v => ?_)
 refine simL_eff (re_call (vs := [str x1]) (cap := []) (A := []) (rst := [F]) rfl rfl rfl rfl rfl rfl Tryz.call25 (.sel 0 rfl (.nil _)) (synodref6_Index.calls _ _ k x1 ) hs13v) rfl rfl rfl ?_
 intro y14v
 refine va rfl rfl (nx ?_)
 refine vm rfl rfl ?_
 refine vm rfl rfl ?_
 refine vq (q_eql rfl rfl rfl) rfl ?_
 refine vm rfl rfl ?_
 refine simL_valc (b := decide (s9v.1 = s12v)) (fun hb52v => RQ.sub (E' := [(9, .bool s9v.2)]) ⟨rfl, trivial⟩ (q_move rfl rfl)) rfl rfl rfl rfl rfl ?_
 refine simL_valc (b := decide (s9v.1 = s12v)) (fun hb51v => RQ.sub (E' := [(10, .int .i64 s12v)]) ⟨rfl, trivial⟩ (q_move rfl rfl)) rfl rfl rfl rfl rfl ?_
 refine simL_valc (b := decide (s9v.1 = s12v)) (fun hb50v => RQ.sub (E' := [(40, .int .i64 s12v)]) ⟨lk_cv rfl hb50v, trivial⟩ (q_gtr rfl rfl rfl)) rfl rfl rfl rfl rfl ?_
 refine simL_valc (b := decide (s9v.1 = s12v)) (fun hb49v => RQ.sub (E' := [(39, .bool s9v.2), (41, .bool (decide ((0 : Int) < s12v)))]) ⟨lk_cv rfl hb49v, lk_cv rfl hb49v, trivial⟩ (q_eqb rfl rfl rfl Tryz.underlying4)) rfl rfl rfl rfl rfl ?_
 refine vq (q_and rfl rfl rfl) rfl ?_
 refine va rfl rfl (simL_nil (nrm_then (sim_seq (sr ?_))))
 refine vm rfl rfl ?_
 refine vq (q_lss rfl rfl rfl) rfl ?_
 refine vm rfl rfl ?_
 refine simL_valc (b := decide (x0 < (1 : Int))) (fun hb48v => RQ.sub (E' := [(0, .int .i64 x0)]) ⟨rfl, trivial⟩ (q_move rfl rfl)) rfl rfl rfl rfl rfl ?_
 refine simL_valc (b := decide (x0 < (1 : Int))) (fun hb47v => RQ.sub (E' := [(47, .int .i64 x0)]) ⟨lk_cv rfl hb47v, trivial⟩ (q_gtr rfl rfl rfl)) rfl rfl rfl rfl rfl ?_
 refine vq (q_or rfl rfl rfl) rfl (simL_nil (nrm_then ?_))
 refine sim_condb rfl (fun h15v => ?_) (fun h16v => ?_)
 refine sr ?_
 refine vm rfl rfl ?_
 refine vm rfl rfl ?_
 refine simL_cut' 4 (S := Bool) (Unit) (fun s y => [(6, str s6v.1), (55, .bool s)]) (fun s y => [F]) ?_ ?_
 refine simL_caseb (fun hb22v => ?_) (fun hb23v => ?_)
 rw [hb22v]
 refine simL_valg (q_move rfl rfl) rfl rfl rfl rfl rfl rfl ?_
 refine simL_bind (fun s19v hs20v => ?_)
 refine simL_effg (re_call (vs := [.int .i64 s6v.2]) (cap := []) (A := []) (rst := [F]) rfl rfl rfl rfl rfl rfl Tryz.call12 (.sel 0 rfl (.nil _)) (synodref_Num.calls _ _ s6v.2 ) hs20v) rfl rfl rfl rfl rfl rfl ?_
 intro y21v
 refine simL_valg (q_eql rfl rfl rfl) rfl rfl rfl rfl rfl rfl ?_
 refine vq (q_pick rfl rfl rfl rfl rfl) rfl (simL_nil ?_)
 exact nrm_cut (s := decide (s19v = (1 : Int))) () ⟨rfl, rfl, trivial⟩ (.sel 0 rfl (.nil _))
 rw [hb23v]
 refine simL_skipd rfl rfl rfl rfl rfl rfl ?_
 refine simL_skipd rfl rfl rfl rfl rfl rfl ?_
 refine simL_skipd rfl rfl rfl rfl rfl rfl ?_
 refine vq (q_pick rfl rfl rfl rfl rfl) rfl (simL_nil ?_)
 exact nrm_cut (s := false) () ⟨rfl, rfl, trivial⟩ (.sel 0 rfl (.nil _))
 intro s17v y18v
 refine vm rfl rfl ?_
 refine simL_valc (b := s17v) (fun hb25v => RQ.sub (E' := [(6, str s6v.1)]) ⟨rfl, trivial⟩ (q_move rfl rfl)) rfl rfl rfl rfl rfl ?_
 refine simL_valc (b := s17v) (fun hb24v => RQ.sub (E' := [(57, str s6v.1)]) ⟨lk_cv rfl hb24v, trivial⟩ (q_eqs rfl rfl rfl)) rfl rfl rfl rfl rfl ?_
 refine vq (q_and rfl rfl rfl) rfl ?_
 refine va rfl rfl (simL_nil (nrm_then (sim_rtn ?_)))
 refine rtn_then ?_
 exact rtn_fn () rfl rfl rfl (.sel 0 rfl (.nil _))
 refine sim_skip ?_
 refine nrm_then (sr ?_)
 refine vm rfl rfl ?_
 refine simL_bind (fun s26v hs27v => ?_)
 refine simL_eff (re_call (vs := [str s6v.1]) (cap := []) (A := []) (rst := [F]) rfl rfl rfl rfl rfl rfl Tryz.call24 (.sel 0 rfl (.nil _)) (snap_Index.calls _ _ s6v.1 (hgl.lend 0 rfl)) hs27v) rfl rfl rfl ?_
 intro y28v
 refine vm rfl rfl ?_
 refine vq (q_ext rfl rfl rfl) rfl ?_
 refine vq (q_ext rfl rfl rfl) rfl ?_
 refine va rfl rfl ?_
 refine va rfl rfl (nx ?_)
 refine vm rfl rfl ?_
 refine vm rfl rfl ?_
 refine simL_cut' 4 (S := Bool) (Unit) (fun s y => [(0, .int .i64 x0), (6, str s6v.1), (12, .int .i64 s26v.1), (13, .bool s26v.2), (70, .bool s)]) (fun s y => [F]) ?_ ?_
 refine simL_caseb (fun hb34v => ?_) (fun hb35v => ?_)
 rw [hb34v]
 refine simL_valg (q_move rfl rfl) rfl rfl rfl rfl rfl rfl ?_
 refine simL_bind (fun s31v hs32v => ?_)
 refine simL_effg (re_call (vs := [.int .i64 s6v.2]) (cap := []) (A := []) (rst := [F]) rfl rfl rfl rfl rfl rfl Tryz.call12 (.sel 0 rfl (.nil _)) (synodref_Num.calls _ _ s6v.2 ) hs32v) rfl rfl rfl rfl rfl rfl ?_
 intro y33v
 refine simL_valg (q_eql rfl rfl rfl) rfl rfl rfl rfl rfl rfl ?_
 refine vq (q_pick rfl rfl rfl rfl rfl) rfl (simL_nil ?_)
 exact nrm_cut (s := decide (s31v = (0 : Int))) () ⟨rfl, rfl, rfl, rfl, rfl, trivial⟩ (.sel 0 rfl (.nil _))
 rw [hb35v]
 refine simL_skipd rfl rfl rfl rfl rfl rfl ?_
 refine simL_skipd rfl rfl rfl rfl rfl rfl ?_
 refine simL_skipd rfl rfl rfl rfl rfl rfl ?_
 refine vq (q_pick rfl rfl rfl rfl rfl) rfl (simL_nil ?_)
 exact nrm_cut (s := false) () ⟨rfl, rfl, rfl, rfl, rfl, trivial⟩ (.sel 0 rfl (.nil _))
 intro s29v y30v
 refine vm rfl rfl ?_
 refine simL_cut' 5 (S := Bool) (Unit) (fun s y => [(0, .int .i64 x0), (12, .int .i64 s26v.1), (13, .bool s26v.2), (76, .bool s)]) (fun s y => [F]) ?_ ?_
 refine simL_caseb (fun hb41v => ?_) (fun hb42v => ?_)
 rw [hb41v]
 refine simL_valg (q_move rfl rfl) rfl rfl rfl rfl rfl rfl ?_
 refine simL_valg (q_move rfl rfl) rfl rfl rfl rfl rfl rfl ?_
 refine simL_bind (fun s38v hs39v => ?_)
 refine simL_effg (re_call (vs := [.int .i64 x0]) (cap := []) (A := []) (rst := [F]) rfl rfl rfl rfl rfl rfl Tryz.call26 (.sel 0 rfl (.nil _)) (synodref6_Name.calls _ _ k x0 ) hs39v) rfl rfl rfl rfl rfl rfl ?_
 intro y40v
 refine simL_valg (q_eqs rfl rfl rfl) rfl rfl rfl rfl rfl rfl ?_
 refine vq (q_pick rfl rfl rfl rfl rfl) rfl (simL_nil ?_)
 exact nrm_cut (s := decide (s6v.1 = s38v)) () ⟨rfl, rfl, rfl, rfl, trivial⟩ (.sel 0 rfl (.nil _))
 rw [hb42v]
 refine simL_skipd rfl rfl rfl rfl rfl rfl ?_
 refine simL_skipd rfl rfl rfl rfl rfl rfl ?_
 refine simL_skipd rfl rfl rfl rfl rfl rfl ?_
 refine simL_skipd rfl rfl rfl rfl rfl rfl ?_
 refine vq (q_pick rfl rfl rfl rfl rfl) rfl (simL_nil ?_)
 exact nrm_cut (s := false) () ⟨rfl, rfl, rfl, rfl, trivial⟩ (.sel 0 rfl (.nil _))
 intro s36v y37v
 refine vm rfl rfl ?_
 refine simL_valc (b := s36v) (fun hb46v => RQ.sub (E' := [(12, .int .i64 s26v.1)]) ⟨rfl, trivial⟩ (q_move rfl rfl)) rfl rfl rfl rfl rfl ?_
 refine simL_valc (b := s36v) (fun hb45v => RQ.sub (E' := [(0, .int .i64 x0)]) ⟨rfl, trivial⟩ (q_move rfl rfl)) rfl rfl rfl rfl rfl ?_
 refine simL_valc (b := s36v) (fun hb44v => RQ.sub (E' := [(78, .int .i64 s26v.1), (79, .int .i64 x0)]) ⟨lk_cv rfl hb44v, lk_cv rfl hb44v, trivial⟩ (q_eql rfl rfl rfl)) rfl rfl rfl rfl rfl ?_
 refine vq (q_and rfl rfl rfl) rfl ?_
 refine vm rfl rfl ?_
 refine simL_valc (b := s36v && (decide (s26v.1 = x0))) (fun hb43v => RQ.sub (E' := [(13, .bool s26v.2)]) ⟨rfl, trivial⟩ (q_move rfl rfl)) rfl rfl rfl rfl rfl ?_
 refine vq (q_and rfl rfl rfl) rfl ?_
 refine va rfl rfl (simL_nil (nrm_then (sim_rtn ?_)))
 exact rtn_fn () rfl rfl rfl (.sel 0 rfl (.nil _))
end Go.Proofs.YtjkjlggbikeliaaGreatDoor

namespace Go.Proofs.YtjkjlggbikeliaaGreatDoor
set_option linter.unusedVariables false
set_option linter.unusedSimpArgs false
open Go.RowKit

theorem w64 {n : Int} (h0 : -9223372036854775808 ≤ n) (h1 : n ≤ 9223372036854775807) : IntKind.i64.wrap n = n := by rw [IntKind.wrap_i64]; omega
theorem w8 {n : Int} (h0 : 0 ≤ n) (h1 : n < 256) : IntKind.u8.wrap n = n := by rw [IntKind.wrap_u8]; omega
end Go.Proofs.YtjkjlggbikeliaaGreatDoor

namespace Go.Proofs.YtjkjlggbikeliaaGreatDoor
set_option linter.unusedVariables false
set_option linter.unusedSimpArgs false
open Go.RowKit
theorem getD_at {α : Type} {l : List α} {i : Nat} {d : α} (h : i < l.length) : l.getD i d = l[i] := by
  rw [List.getD_eq_getElem?_getD, List.getElem?_eq_getElem h]; rfl
theorem getA_cons {α : Type} {l : List α} {i : Nat} {d : α} (h : i < l.length) : l.drop i = l.getD i d :: l.drop (i + 1) := by
  rw [getD_at h]
  exact List.drop_eq_getElem_cons h
theorem u8_all {p : UInt8 → Bool} (h : ((List.range 256).all fun n => p (UInt8.ofNat n)) = true) (c : UInt8) : p c = true := by
  have := List.all_eq_true.1 h c.toNat (List.mem_range.2 (UInt8.toNat_lt c))
  simpa using this
theorem wi1 {n : Nat} (h : n < 2 ^ 61) : IntKind.i64.wrap ((n : Int) + 1) = ((n + 1 : Nat) : Int) := by rw [w64 (by omega) (by omega)]; simp
def dg (c : UInt8) : Prop := 48 ≤ c.toNat ∧ c.toNat ≤ 57
def fold10 (a : Nat) (l : List UInt8) : Nat := l.foldl (fun a c => a * 10 + (c.toNat - 48)) a
instance (c : UInt8) : Decidable (dg c) := inferInstanceAs (Decidable (48 ≤ c.toNat ∧ c.toNat ≤ 57))
theorem fold10_cons (a : Nat) (c : UInt8) (l : List UInt8) : fold10 a (c :: l) = fold10 (a * 10 + (c.toNat - 48)) l := by simp only [fold10, List.foldl_cons]
theorem fold10_snoc (a : Nat) (c : UInt8) (l : List UInt8) : fold10 a (l ++ [c]) = fold10 a l * 10 + (c.toNat - 48) := by simp [fold10, List.foldl_append]
theorem fold10_ge : ∀ (l : List UInt8) (a : Nat), a ≤ fold10 a l
  | [], a => Nat.le_refl _
  | c :: l, a => by
    have := fold10_ge l (a * 10 + (c.toNat - 48))
    rw [fold10_cons]; omega
theorem u8_of {n : Nat} (h : n < 256) : (UInt8.ofNat n).toNat = n := by simp; omega
theorem dec_len : ∀ (k u : Nat), u < 10 ^ (k + 1) → (Lib.decDigits u).length ≤ k + 1
  | 0, u, h => by rw [Lib.decDigits, dif_pos (by simpa using h)]; simp
  | k + 1, u, h => by
    rw [Lib.decDigits]
    split
    · simp
    · have := dec_len k (u / 10) (by rw [Nat.pow_succ] at h; omega)
      simp; omega
theorem itoa_pos {n : Int} (h : 0 ≤ n) : Lib.itoa n = Lib.decDigits n.toNat := by unfold Lib.itoa; rw [if_neg (by omega)]
def pad : Nat → Nat → List UInt8
  | 0, _ => []
  | k + 1, n => pad k (n / 10) ++ [UInt8.ofNat (48 + n % 10)]
theorem pad_len : ∀ k n, (pad k n).length = k
  | 0, _ => rfl
  | k + 1, n => by rw [pad, List.length_append, pad_len k]; rfl
theorem pad_zero : ∀ k, pad k 0 = Lib.repeatL [48] k
  | 0 => rfl
  | k + 1 => by
    have e : ∀ k, Lib.repeatL [48] k ++ [48] = Lib.repeatL [48] (k + 1) := fun k => by
      induction k with
      | zero => rfl
      | succ k ih => rw [Lib.repeatL, List.append_assoc, ih]; rfl
    rw [pad, show (0 : Nat) / 10 = 0 from rfl, pad_zero k]
    exact e k
theorem pad_dec : ∀ (k n : Nat), n < 10 ^ (k + 1) → Lib.repeatL [48] (k + 1 - (Lib.decDigits n).length) ++ Lib.decDigits n = pad (k + 1) n
  | k, n, h => by
    by_cases h10 : n < 10
    · rw [Lib.decDigits, dif_pos h10, pad, show n / 10 = 0 by omega, show n % 10 = n by omega, pad_zero]
      rfl
    · rw [Lib.decDigits, dif_neg h10]
      cases k with
      | zero => exact absurd h (by simp; omega)
      | succ k =>
        have ih := pad_dec k (n / 10) (by rw [Nat.pow_succ] at h; omega)
        rw [pad, ← ih, List.length_append]
        simp only [List.length_cons, List.length_nil]
        rw [show k + 1 + 1 - ((Lib.decDigits (n / 10)).length + (0 + 1)) = k + 1 - (Lib.decDigits (n / 10)).length by omega]
        simp
theorem pad_dg : ∀ (k n : Nat) c, c ∈ pad k n → dg c
  | 0, _, c, h => by cases h
  | k + 1, n, c, h => by
    rw [pad] at h
    rcases List.mem_append.1 h with h | h
    · exact pad_dg k _ c h
    · have e : (UInt8.ofNat (48 + n % 10)).toNat = 48 + n % 10 := u8_of (by omega)
      rw [List.mem_singleton.1 h, dg, e]; omega
theorem pad_fold : ∀ (k n : Nat), n < 10 ^ k → fold10 0 (pad k n) = n
  | 0, n, h => by simp at h; subst h; rfl
  | k + 1, n, h => by
    have e : (UInt8.ofNat (48 + n % 10)).toNat = 48 + n % 10 := u8_of (by omega)
    rw [pad, fold10_snoc, pad_fold k (n / 10) (by rw [Nat.pow_succ] at h; omega), e]
    omega
theorem fold_lt : ∀ (l : List UInt8) (a : Nat), (∀ c, c ∈ l → dg c) → fold10 a l < (a + 1) * 10 ^ l.length
  | [], a, _ => by simp [fold10]
  | c :: l, a, h => by
    have hc := h c (by simp)
    have ih := fold_lt l (a * 10 + (c.toNat - 48)) (fun d hd => h d (by simp [hd]))
    rw [fold10_cons, List.length_cons, Nat.pow_succ]
    have h1 : a * 10 + (c.toNat - 48) + 1 ≤ (a + 1) * 10 := by have := hc.1; have := hc.2; omega
    calc _ < (a * 10 + (c.toNat - 48) + 1) * 10 ^ l.length := ih
      _ ≤ ((a + 1) * 10) * 10 ^ l.length := Nat.mul_le_mul_right _ h1
      _ = (a + 1) * (10 ^ l.length * 10) := by rw [Nat.mul_assoc, Nat.mul_comm 10]
theorem parseM_okU : ∀ (l : List UInt8) (a : Nat), (∀ c, c ∈ l → dg c) → fold10 a l ≤ 18446744073709551615 → Lib.parseUintM (2 ^ 64 - 1) a l = .ok (fold10 a l)
  | [], a, _, _ => rfl
  | c :: l, a, hd, hf => by
    have hc := hd c (by simp)
    have h1 := hc.1
    rw [fold10_cons] at hf ⊢
    have := fold10_ge l (a * 10 + (c.toNat - 48))
    rw [Lib.parseUintM, if_pos (show 48 ≤ c.toNat ∧ c.toNat ≤ 57 from hc), if_neg (by omega), if_neg (by omega)]
    exact parseM_okU l _ (fun x hx => hd x (List.mem_cons_of_mem _ hx)) hf
theorem parseU_ok {l : List UInt8} (hn : l ≠ []) (hd : ∀ c, c ∈ l → dg c) (hf : fold10 0 l ≤ 18446744073709551615) : parseU l = (((fold10 0 l : Nat) : Int), true) := by
  unfold parseU Lib.parseUintB
  rw [if_neg hn, parseM_okU l 0 hd hf]
abbrev digL : List UInt8 := [48, 49, 50, 51, 52, 53, 54, 55, 56, 57]
theorem dig_iff (c : UInt8) : digL.contains c = true ↔ dg c := by
  have := u8_all (p := fun c => digL.contains c == (decide (48 ≤ c.toNat) && decide (c.toNat ≤ 57))) (by decide +kernel) c
  rw [beq_iff_eq] at this
  rw [this]
  simp [dg]
theorem drop_all {p : UInt8 → Bool} : ∀ (l : List UInt8), l.dropWhile p = [] → ∀ c, c ∈ l → p c = true
  | [], _, c, h => by cases h
  | d :: l, h, c, hc => by
    cases hp : p d with
    | false => rw [List.dropWhile_cons_of_neg (by simp [hp])] at h; cases h
    | true =>
      rw [List.dropWhile_cons_of_pos (by simp [hp])] at h
      rcases List.mem_cons.1 hc with rfl | hc
      · exact hp
      · exact drop_all l h c hc
theorem drop_nil {p : UInt8 → Bool} : ∀ (l : List UInt8), (∀ c, c ∈ l → p c = true) → l.dropWhile p = []
  | [], _ => rfl
  | d :: l, h => by
    rw [List.dropWhile_cons_of_pos (by simp [h d (by simp)])]
    exact drop_nil l fun c hc => h c (by simp [hc])
theorem drop_head {p : UInt8 → Bool} : ∀ (l : List UInt8) (d : UInt8) (t : List UInt8), l.dropWhile p = d :: t → p d = false
  | [], _, _, h => by cases h
  | x :: l, d, t, h => by
    cases hp : p x with
    | false =>
      rw [List.dropWhile_cons_of_neg (by simp [hp])] at h
      rw [← (List.cons.inj h).1]
      exact hp
    | true =>
      rw [List.dropWhile_cons_of_pos (by simp [hp])] at h
      exact drop_head l d t h
theorem trim_iff (l : List UInt8) : Lib.trimS l digL = [] ↔ ∀ c, c ∈ l → dg c := by
  unfold Lib.trimS Lib.trimLeftS Lib.trimRightS
  constructor
  · intro h
    have h1 := drop_all _ h
    by_cases h2 : l.reverse.dropWhile (digL.contains ·) = []
    · exact fun c hc => (dig_iff c).1 (drop_all _ h2 c (by simpa using hc))
    · exfalso
      cases h3 : l.reverse.dropWhile (digL.contains ·) with
      | nil => exact h2 h3
      | cons d t =>
        have h4 := h1 d (by rw [h3]; simp)
        have h5 := drop_head _ _ _ h3
        rw [h4] at h5
        cases h5
  · intro h
    rw [drop_nil l.reverse (fun c hc => (dig_iff c).2 (h c (by simpa using hc)))]
    rfl
theorem rune_dig {n : Nat} (h : n < 10) : runeS (IntKind.i32.wrap (IntKind.i64.wrap (48 + (n : Int)))) = [UInt8.ofNat (48 + n)] := by
  have : ((List.range 10).all fun n => decide (runeS (IntKind.i32.wrap (IntKind.i64.wrap (48 + (n : Int)))) = [UInt8.ofNat (48 + n)])) = true := by decide +kernel
  exact of_decide_eq_true (List.all_eq_true.1 this n (List.mem_range.2 h))
end Go.Proofs.YtjkjlggbikeliaaGreatDoor

namespace Go.Proofs.YtjkjlggbikeliaaGreatDoor
set_option linter.unusedVariables false
set_option linter.unusedSimpArgs false
open Go.RowKit
abbrev snapW : List UInt8 := [115, 110, 97, 112, 45]
def nameB (n : Nat) : List UInt8 := snapW ++ pad 19 n
def idxB (s : List UInt8) : Nat :=
  if s.length = 24 ∧ s.take 5 = snapW ∧ (∀ c, c ∈ s.drop 5 → dg c) ∧ fold10 0 (s.drop 5) ≤ 4611686018427387904 then fold10 0 (s.drop 5) else 0
theorem name_f {n : Nat} (h0 : 1 ≤ n) (h1 : n ≤ 4611686018427387904) : snap_Name.f (n : Int) = some (nameB n, 0) := by
  have hlen := dec_len 18 n (by omega)
  have hp := pad_dec 18 n (by omega)
  have hl : (Lib.repeatL [48] (19 - (Lib.decDigits n).length)).length = 19 - (Lib.decDigits n).length := by rw [Lib.repeatL_length]; simp
  unfold snap_Name.f
  rw [if_neg (by simp; omega), strconv_Itoa.f, if_pos (by omega), Option.bind_some, itoa_pos (by omega), Int.toNat_natCast, w64 (by omega) (by omega), strings_Repeat.f,
    show (19 - ((Lib.decDigits n).length : Int)).toNat = 19 - (Lib.decDigits n).length by omega, if_pos ⟨by omega, by simp only [List.length_cons, List.length_nil]; omega, by omega⟩, Option.bind_some]
  rw [if_pos (by rw [hl]; simp only [List.length_cons, List.length_nil]; omega), if_pos (by rw [List.length_append, hl]; simp only [List.length_cons, List.length_nil]; omega), List.append_assoc, hp]
  rfl
theorem name_bad {n : Int} (h : n < 1 ∨ 4611686018427387904 < n) : snap_Name.f n = some ([], 1) := by
  unfold snap_Name.f
  rw [if_pos (by simpa using h)]
theorem nameD_l0 : ∀ (k i n : Nat) (z : List UInt8), 19 - i < k → i ≤ 19 → n ≤ 4611686018427387904 → z.length ≤ i → synodref6_Name.l0 k (n : Int) z (i : Int) = some (pad (19 - i) n ++ z)
  | 0, i, n, z, h, _, _, _ => by omega
  | k + 1, i, n, z, h, hi, hn, hz => by
    rw [synodref6_Name.l0]
    by_cases hlt : i < 19
    · have hr := rune_dig (n := n % 10) (by omega)
      have e1 : Int.tmod (n : Int) 10 = ((n % 10 : Nat) : Int) := by rw [Int.tmod_eq_emod_of_nonneg (by omega)]; rfl
      have e2 : Int.tdiv (n : Int) 10 = ((n / 10 : Nat) : Int) := by rw [Int.tdiv_eq_ediv_of_nonneg (by omega)]; rfl
      rw [if_pos (by omega), e1, e2, hr, if_pos (by simp only [List.length_cons, List.length_nil]; omega), w64 (n := ((n / 10 : Nat) : Int)) (by omega) (by omega), wi1 (by omega),
        nameD_l0 k (i + 1) (n / 10) _ (by omega) (by omega) (by omega) (by simp; omega), show 19 - i = (19 - (i + 1)) + 1 by omega, pad]
      simp
    · rw [if_neg (by omega), show 19 - i = 0 by omega]
      rfl
theorem nameD_f {n k : Nat} (h1 : n ≤ 4611686018427387904) (hk : 19 < k) : synodref6_Name.f k (n : Int) = some (nameB n) := by
  unfold synodref6_Name.f
  have l0 := nameD_l0 k 0 n [] (by omega) (by omega) h1 (by simp)
  rw [show ((0 : Nat) : Int) = (0 : Int) from rfl] at l0
  rw [l0, Option.bind_some, if_pos (by simp [pad_len])]
  simp [nameB]
theorem pre_iff (s p : List UInt8) : Lib.hasPrefix s p = true ↔ s.take p.length = p := by
  unfold Lib.hasPrefix
  rw [List.isPrefixOf_iff_prefix, List.prefix_iff_eq_take]
  exact ⟨fun h => h.symm, fun h => h.symm⟩
theorem index_f {s : List UInt8} (hs : s.length ≤ 2 ^ 40) : snap_Index.f s = some ((idxB s : Int), decide (0 < idxB s)) := by
  have hdig : ∀ b ∈ ([48, 49, 50, 51, 52, 53, 54, 55, 56, 57] : List UInt8), b.toNat < 128 := by decide
  unfold snap_Index.f
  rw [strings_CutPrefix.f, stringslite_CutPrefix.f, stringslite_HasPrefix.f, Option.bind_some]
  by_cases hp : s.take 5 = snapW
  · have hp' : Lib.hasPrefix s [115, 110, 97, 112, 45] = true := (pre_iff s _).2 hp
    have h5 : 5 ≤ s.length := by
      have := congrArg List.length hp
      simp at this; omega
    rw [hp', if_neg (by simp), if_pos (by simp only [List.length_cons, List.length_nil]; omega), Option.bind_some, Option.bind_some, cut_to]
    simp only [show ((([115, 110, 97, 112, 45] : List UInt8).length : Nat) : Int).toNat = 5 from rfl, Bool.not_true, Bool.false_or]
    by_cases hl : s.length = 24
    · have hld : (s.drop 5).length = 19 := by simp; omega
      rw [if_neg (by rw [hld]; simp), strings_Trim.f, if_pos ⟨by omega, by simp, hdig⟩, Option.bind_some, Option.bind_some]
      by_cases hd : ∀ c, c ∈ s.drop 5 → dg c
      · have hf := fold_lt (s.drop 5) 0 hd
        rw [hld] at hf
        have hne : s.drop 5 ≠ [] := fun e => by rw [e] at hld; cases hld
        rw [if_neg (by rw [(trim_iff (s.drop 5)).2 hd]; simp), strconv_ParseUint.f, if_pos ⟨rfl, rfl, by omega⟩, Option.bind_some, parseU_ok hne hd (by omega)]
        simp only [Bool.not_true, Bool.false_or]
        unfold idxB
        by_cases hb : fold10 0 (s.drop 5) ≤ 4611686018427387904
        · rw [if_pos (show s.length = 24 ∧ s.take 5 = snapW ∧ (∀ c, c ∈ s.drop 5 → dg c) ∧ fold10 0 (s.drop 5) ≤ 4611686018427387904 from ⟨hl, hp, hd, hb⟩)]
          by_cases h0 : 0 < fold10 0 (s.drop 5)
          · rw [if_neg (by simp; omega), w64 (by omega) (by omega), decide_eq_true h0]
          · rw [if_pos (by simp; omega), decide_eq_false h0, show fold10 0 (s.drop 5) = 0 by omega]
            rfl
        · rw [if_neg (c := s.length = 24 ∧ s.take 5 = snapW ∧ (∀ c, c ∈ s.drop 5 → dg c) ∧ fold10 0 (s.drop 5) ≤ 4611686018427387904) (fun h => hb h.2.2.2), if_pos (by simp; omega)]
          rfl
      · have ht : Lib.trimS (s.drop 5) [48, 49, 50, 51, 52, 53, 54, 55, 56, 57] ≠ [] := fun e => hd ((trim_iff _).1 e)
        rw [if_pos (by simpa using ht)]
        unfold idxB
        rw [if_neg (fun h => hd h.2.2.1)]
        rfl
    · rw [if_pos (by simp; omega), Option.bind_some, if_pos rfl]
      unfold idxB
      rw [if_neg (fun h => hl h.1)]
      rfl
  · have hp' : Lib.hasPrefix s [115, 110, 97, 112, 45] = false := by
      cases h : Lib.hasPrefix s [115, 110, 97, 112, 45] with
      | false => rfl
      | true => exact absurd ((pre_iff s _).1 h) hp
    rw [hp', if_pos (show (!false) = true from rfl), Option.bind_some, Option.bind_some]
    simp only [Bool.not_false, Bool.true_or, if_true, Option.bind_some]
    unfold idxB
    rw [if_neg (fun h => hp h.2.1)]
    rfl
theorem indexD_l0 {s : List UInt8} (hs : s.length = 24) : ∀ (k i n : Nat), 24 - i < k → i ≤ 24 → n ≤ 4611686018427387909 →
    orR (synodref6_Index.l0 s k (n : Int) (i : Int)) (fun v => if (4611686018427387904 : Int) < v then some 0 else some v) =
      some (if (∀ c, c ∈ s.drop i → dg c) ∧ fold10 n (s.drop i) ≤ 4611686018427387904 then ((fold10 n (s.drop i) : Nat) : Int) else 0)
  | 0, i, n, h, _, _ => by omega
  | k + 1, i, n, hk, hi, hn => by
    rw [synodref6_Index.l0]
    by_cases hlt : i < 24
    · rw [if_pos (by omega), if_pos (by omega), getA_cons (d := (0 : UInt8)) (by omega)]
      simp only [Int.toNat_natCast]
      obtain ⟨c, hc⟩ : ∃ c, s.getD i 0 = c := ⟨_, rfl⟩
      simp only [hc]
      have e1 : (if ((c.toNat : Nat) : Int) < (48 : Int) then (some true) else (if 0 ≤ (i : Int) ∧ (i : Int) < (s.length : Int) then (some (decide ((57 : Int) < ((c.toNat : Nat) : Int)))) else none)) = some (decide (¬ dg c)) := by
        unfold dg
        by_cases h1 : c.toNat < 48
        · rw [if_pos (by omega)]; congr 1; symm; exact decide_eq_true (by omega)
        · rw [if_neg (by omega), if_pos (by omega)]; congr 1; exact decide_eq_decide.2 (by omega)
      rw [e1, Option.bind_some]
      by_cases hd : dg c
      · by_cases hb : 461168601842738790 < n
        · rw [if_pos (by simp; right; omega)]
          simp only [orR]
          rw [if_neg]
          intro h
          have := fold10_ge (s.drop (i + 1)) (n * 10 + (c.toNat - 48))
          have h2 := h.2
          rw [fold10_cons] at h2
          omega
        · have d1 := hd.1
          have d2 := hd.2
          rw [if_neg (by simp [hd]; omega), if_pos (by omega)]
          have e2 : IntKind.i64.wrap (IntKind.i64.wrap (10 * (n : Int)) + IntKind.i64.wrap (IntKind.u8.wrap (((c.toNat : Nat) : Int) - 48))) = ((n * 10 + (c.toNat - 48) : Nat) : Int) := by
            rw [w8 (by omega) (by omega), w64 (n := 10 * (n : Int)) (by omega) (by omega), w64 (n := ((c.toNat : Nat) : Int) - 48) (by omega) (by omega), w64 (by omega) (by omega)]
            omega
          rw [e2, wi1 (by omega), indexD_l0 hs k (i + 1) _ (by omega) (by omega) (by omega), fold10_cons]
          have e3 : (∀ d, d ∈ c :: s.drop (i + 1) → dg d) ↔ (∀ d, d ∈ s.drop (i + 1) → dg d) := ⟨fun h d hd' => h d (by simp [hd']), fun h d hd' => by
            rcases List.mem_cons.1 hd' with rfl | hd'
            · exact hd
            · exact h d hd'⟩
          simp only [e3]
      · rw [if_pos (by simp [hd])]
        simp only [orR]
        rw [if_neg (fun h => hd (h.1 c (by simp)))]
    · have hi' : i = 24 := by omega
      rw [if_neg (by omega), List.drop_of_length_le (by omega)]
      simp only [orR]
      have ef : fold10 n [] = n := rfl
      by_cases hb : n ≤ 4611686018427387904
      · rw [if_neg (by omega), if_pos ⟨fun c h => (by cases h), by rw [ef]; exact hb⟩, ef]
      · rw [if_pos (by omega), if_neg (fun h => hb (by have := h.2; rw [ef] at this; exact this))]
theorem indexD_f {s : List UInt8} {k : Nat} (hs : s.length ≤ 2 ^ 40) (hk : 25 < k) : synodref6_Index.f k s = some (idxB s : Int) := by
  unfold synodref6_Index.f idxB
  by_cases hl : s.length = 24
  · rw [if_pos (by omega), if_pos (by omega), Option.bind_some]
    have ec : cut s (0 : Int) (5 : Int) = s.take 5 := by unfold cut; simp
    rw [ec]
    by_cases hp : s.take 5 = snapW
    · have l0 := indexD_l0 hl k 5 0 (by omega) (by omega) (by omega)
      rw [show ((5 : Nat) : Int) = (5 : Int) from rfl, show ((0 : Nat) : Int) = (0 : Int) from rfl] at l0
      rw [if_neg (by simp [hp]), l0]
      by_cases hd : (∀ c, c ∈ s.drop 5 → dg c) ∧ fold10 0 (s.drop 5) ≤ 4611686018427387904
      · rw [if_pos hd, if_pos ⟨hl, hp, hd⟩]
      · rw [if_neg hd, if_neg (fun h => hd h.2.2)]; rfl
    · rw [if_pos (by simp [hp]), if_neg (fun h => hp h.2.1)]; rfl
  · rw [if_neg (by omega), Option.bind_some, if_pos rfl, if_neg (fun h => hl h.1)]; rfl
theorem idx_name {n : Nat} (h : n ≤ 4611686018427387904) : idxB (nameB n) = n := by
  have e1 : (nameB n).length = 24 := by simp [nameB, pad_len]
  have e2 : (nameB n).take 5 = snapW := by simp [nameB]
  have e3 : (nameB n).drop 5 = pad 19 n := by simp [nameB]
  unfold idxB
  rw [e3, pad_fold 19 n (by omega), if_pos ⟨e1, e2, fun c hc => pad_dg 19 n c hc, h⟩]
theorem name_len (n : Nat) : (nameB n).length = 24 := by simp [nameB, pad_len]
end Go.Proofs.YtjkjlggbikeliaaGreatDoor

namespace Go.Proofs.YtjkjlggbikeliaaGreatDoor
set_option linter.unusedVariables false
set_option linter.unusedSimpArgs false
open Go.RowKit
theorem first_eq (m : Nat) : synodlaw6_first.f (m + 60) = some true := by kernel_rfl
theorem pure_SnapNames (n : Int) (hn : (Lit.int .i64 n).wf = true) (s : List UInt8) (hs : s.length ≤ reachBytes) : ∃ k, synodlaw6_SnapNames.f k n s = some true := by
  refine ⟨60 + 60, ?_⟩
  unfold synodlaw6_SnapNames.f
  rw [first_eq, Option.bind_some]
  by_cases hb : ((!true) || (decide ((1000 : Int) < (s.length : Int)))) = true
  · rw [if_pos hb]
  · rw [if_neg hb]
    simp only [Bool.not_true, Bool.false_or, decide_eq_true_eq] at hb
    by_cases hn : n < 1 ∨ 4611686018427387904 < n
    · rw [name_bad hn, Option.bind_some, index_f (by omega), Option.bind_some, indexD_f (by omega) (by omega), Option.bind_some, if_pos (by simpa using hn)]
      simp [synodref_Num.f]
    · obtain ⟨m, rfl⟩ : ∃ m : Nat, n = (m : Int) := ⟨n.toNat, by omega⟩
      rw [name_f (by omega) (by omega), Option.bind_some, index_f (by omega), Option.bind_some, indexD_f (by omega) (by omega), Option.bind_some, if_neg (by simpa using hn), index_f (by rw [name_len]; omega), Option.bind_some,
        nameD_f (by omega) (by omega), idx_name (by omega)]
      simp [synodref_Num.f]
      omega
end Go.Proofs.YtjkjlggbikeliaaGreatDoor

namespace Go.Proofs.YtjkjlggbikeliaaGreatDoor
set_option linter.unusedVariables false
set_option linter.unusedSimpArgs false
open Go.RowKit Go.ChangeShapes Go.WideShapes Go.ChangeAt

def heapF (W : World) : HA := fun h => ∀ i, i < W.heap.size → h i = W.heap[i]?
theorem sat_start (W : World) : Sat W ([] ++ [heapF W]) W := ⟨rfl, rfl, rfl, Nat.le_refl _, star_tt (fun _ _ => rfl)⟩
theorem below_of {W w : World} {l : List HA} (s : Sat W l w) (k : Nat) (hk : l[k]? = some (heapF W)) : Below W.heap.size W w := by
  obtain ⟨a, ha, hz⟩ := s.at hk
  refine ⟨s.os, s.tape, s.output, s.size, fun i hi => ?_⟩
  have h1 := ha i hi
  obtain ⟨o, ho⟩ : ∃ o, W.heap[i]? = some o := ⟨_, Array.getElem?_eq_getElem hi⟩
  rw [ho] at h1
  rw [hz i o h1, ho]
theorem row_of_fn {P : Program} {W : World} {f : FuncId} {args : List Value} {R Y : Type} {o : Option R} {val : R → Y → Value} {r : R}
    (h : Fn P W f args [] (heapF W) o val (fun _ _ => [])) (hs : o = some r) (hv : ∀ y, val r y = .bool true) :
    Calls P f args.toArray W fun e w' => e = .returned (.bool true) ∧ Below W.heap.size W w' := by
  refine (h r hs W (sat_start W)).mono ?_
  rintro e w' ⟨y, rfl, s⟩
  exact ⟨by rw [hv], below_of s 0 rfl⟩
theorem weights_of {H : Type} {P : Program} {ts : List TypeId} {ds : List (DataW H)} (h : (DataW.weightsEach P ts ds).all (· ≤ reachBytes) = true) {j : Nat} {t : TypeId} {d : DataW H} (ht : ts[j]? = some t) (hd : ds[j]? = some d) : ∀ n ∈ d.weights P t, n ≤ reachBytes := fun n hn => by
  have := List.all_eq_true.1 h n (DataW.weights_mem_each ht hd n hn)
  simpa using this
end Go.Proofs.YtjkjlggbikeliaaGreatDoor

namespace Go.Proofs.YtjkjlggbikeliaaGreatDoor
set_option linter.unusedVariables false
set_option linter.unusedSimpArgs false
open Go.RowKit Go.ChangeShapes Go.WideShapes Go.ChangeAt
section
variable {H : Type} {enc : TypeId × Value → H} {P : Program} {W : World} {held : Bool} {α β : Type}
def Opens (enc : TypeId × Value → H) (P : Program) (W : World) (held : Bool) (t : TypeId) (V : α → List Value → Prop) (Ok : α → Prop) : Prop :=
  ∀ fuel cs x, DataW.trod enc P W 0 (fun _ => true) held fuel t cs = some x → (∀ n ∈ x.1.weights P t, n ≤ reachBytes) → ∃ y, V y cs ∧ one cs ∧ cs.length = P.cellsOf t ∧ Ok y
theorem Opens.map {t : TypeId} {V : α → List Value → Prop} {V' : β → List Value → Prop} {Ok : α → Prop} {Ok' : β → Prop} (f : α → β) (h : Opens enc P W held t V Ok) (hV : ∀ x r, V x r → V' (f x) r) (hO : ∀ x, Ok x → Ok' (f x)) : Opens enc P W held t V' Ok' := fun fuel cs x h1 h2 =>
  let ⟨y, a, b, c, d⟩ := h fuel cs x h1 h2; ⟨f y, hV _ _ a, b, c, hO _ d⟩
theorem Opens.mono {t : TypeId} {V V' : α → List Value → Prop} {Ok Ok' : α → Prop} (h : Opens enc P W held t V Ok) (hV : ∀ x r, V x r → V' x r) (hO : ∀ x, Ok x → Ok' x) : Opens enc P W held t V' Ok' := fun fuel cs x h1 h2 =>
  let ⟨y, a, b, c, d⟩ := h fuel cs x h1 h2; ⟨y, hV _ _ a, b, c, hO _ d⟩
theorem opens_str {t : TypeId} (ht : P.underlying t = some .string) (hc : P.cellsOf t = 1) : Opens enc P W held t (fun x r => r = [str x]) (fun x => x.length ≤ reachBytes) := by
  intro fuel cs x h hw
  cases fuel with
  | zero => simp [DataW.trod] at h
  | succ n =>
    unfold DataW.trod at h
    rw [ht] at h
    split at h <;> simp_all
    rename_i s
    obtain ⟨h1, rfl⟩ := h
    refine ⟨s.data.toList, ?_, one_of rfl, ?_⟩
    · simp [str]
    · exact hw s.data.toList.length (by simp [DataW.weights])
/-! Structs: their fields, one behind the other. -/
end
end Go.Proofs.YtjkjlggbikeliaaGreatDoor

namespace Go.Proofs.YtjkjlggbikeliaaGreatDoor
set_option linter.unusedVariables false
set_option linter.unusedSimpArgs false
open Go.RowKit Go.ChangeShapes Go.WideShapes Go.ChangeAt
class Mu (α : Type) where
  mu : α → Nat
instance : Mu Int := ⟨fun _ => 1⟩
instance : Mu Bool := ⟨fun _ => 1⟩
instance : Mu UInt8 := ⟨fun _ => 1⟩
instance {α β : Type} [Mu α] [Mu β] : Mu (α × β) := ⟨fun x => Mu.mu x.1 + Mu.mu x.2⟩
instance {α : Type} [Mu α] : Mu (List α) := ⟨fun l => (l.map Mu.mu).sum + 1⟩
section
variable {H : Type} {enc : TypeId × Value → H} {P : Program} {W : World} {held : Bool} {α β : Type} [Mu α] [Mu β]
def OpensU (enc : TypeId × Value → H) (P : Program) (W : World) (held : Bool) (t : TypeId) (V : α → List Value → Prop) (Ok : α → Prop) : Prop :=
  ∀ fuel cs x, DataW.trod enc P W 0 (fun _ => true) held fuel t cs = some x → (∀ n ∈ x.1.weights P t, n ≤ reachBytes) → ∃ y, V y cs ∧ one cs ∧ cs.length = P.cellsOf t ∧ Ok y ∧ Mu.mu y ≤ Rows.uptoBulk x.1
theorem OpensU.mono {t : TypeId} {V V' : α → List Value → Prop} {Ok Ok' : α → Prop} (h : OpensU enc P W held t V Ok) (hV : ∀ x r, V x r → V' x r) (hO : ∀ x, Ok x → Ok' x) : OpensU enc P W held t V' Ok' := fun fuel cs x h1 h2 =>
  let ⟨y, a, b, c, d⟩ := h fuel cs x h1 h2; ⟨y, hV _ _ a, b, c, hO _ d.1, d.2⟩
end
end Go.Proofs.YtjkjlggbikeliaaGreatDoor

namespace Go.Proofs.YtjkjlggbikeliaaGreatDoor
set_option linter.unusedVariables false
set_option linter.unusedSimpArgs false
open Go.RowKit Go.ChangeShapes Go.WideShapes Go.ChangeAt
def VRead (P : Program) (w : World) (n : String) (d : DataW Unit) : Prop :=
  ∃ g t cs fuel p, P.globalNamed n = some g ∧ (P.globals[g]?).map (·.type) = some t ∧ w.var? P n = some cs ∧ DataW.trod (fun _ => ()) P w 0 (fun _ => true) false fuel t cs.toList = some (d, p)
theorem vread_of {P : Program} {w : World} : ∀ {l : List (String × DataW Unit)} {ps : List MemPlace}, DataW.LaidVars P w l ps → ∀ n d, (n, d) ∈ l → VRead P w n d
  | [], _, _, _, _, hm => by cases hm
  | (n', d') :: r, ps, h, n, d, hm => by
    obtain ⟨g, t, cs, fuel, p, q, h1, h2, h3, h4, h5, _⟩ := h
    rcases List.mem_cons.1 hm with e | e
    · cases e
      exact ⟨g, t, cs, fuel, p, h1, h2, h3, h4⟩
    · exact vread_of h5 n d e
theorem laid_vread {P : Program} {w : World} {l : List (String × DataW Unit)} (h : laidMet P l w) {n : String} {d : DataW Unit} (hm : (n, d) ∈ l) : VRead P w n d :=
  let ⟨_, hv, _⟩ := h
  vread_of hv n d hm
theorem tab_of {P : Program} {W : World} {name : String} {k : IntKind} {zs : List Int} {g : Nat} {t e : TypeId} {n : Nat} (hg : P.globalNamed name = some g) (hty : (P.globals[g]?).map (·.type) = some t)
    (ht : P.underlying t = some (.array n e)) (he : P.underlying e = some (.int k)) (hce : P.cellsOf e = 1) (hct : P.cellsOf t = n) (h : VRead P W name (Lib.tabData k zs)) : Lib.TabIs P W name k zs := by
  obtain ⟨g', t', cs, fuel, p, hg', ht', hvar, hd⟩ := h
  obtain rfl := Option.some.inj (hg.symm.trans hg')
  obtain rfl := Option.some.inj (hty.symm.trans ht')
  unfold Lib.TabIs
  rw [hvar, ← Lib.cells_of_tab ht he hce hct hd]
theorem iface_of {P : Program} {W : World} {name nm : String} {d : DataW Unit} {g : Nat} {t : TypeId} {ms : _} (hg : P.globalNamed name = some g) (hty : (P.globals[g]?).map (·.type) = some t)
    (ht : P.underlying t = some (.interface ms)) (h : VRead P W name (.iface nm d)) : ∃ u p, W.var? P name = some #[.iface u p] := by
  obtain ⟨g', t', cs, fuel, p, hg', ht', hvar, hd⟩ := h
  obtain rfl := Option.some.inj (hg.symm.trans hg')
  obtain rfl := Option.some.inj (hty.symm.trans ht')
  cases fuel with
  | zero => simp [DataW.trod] at hd
  | succ m =>
    unfold DataW.trod at hd
    rw [ht] at hd
    split at hd <;> simp_all
    rename_i e
    exact ⟨_, _, Array.toList_inj.1 (e.trans rfl)⟩
theorem var_mono {P : Program} {W w : World} {n : String} {cs : Array Value} (h : HoldsW (heapF W) w) (hv : W.var? P n = some cs) : w.var? P n = some cs := by
  obtain ⟨a, ha, e⟩ := h
  unfold World.var? at hv ⊢
  cases hg : P.globalNamed n with
  | none => rw [hg] at hv; cases hv
  | some g =>
    rw [hg] at hv
    simp only [Option.bind_some] at hv ⊢
    cases ho : W.heap[g]? with
    | none => rw [ho] at hv; cases hv
    | some o =>
      have hlt : g < W.heap.size := (Array.getElem?_eq_some_iff.1 ho).1
      have h1 : w.heap[g]? = some o := e g o ((ha g hlt).trans ho)
      rw [ho] at hv
      rw [h1]
      exact hv
theorem glb_of {P : Program} {W : World} (h1 : Lib.TabIs P W "internal/strconv.uint64pow10" .u64 Lib.pow10Tab) (h2 : ∃ u p, W.var? P "strconv.ErrSyntax" = some #[.iface u p]) (h3 : ∃ u p, W.var? P "strconv.ErrRange" = some #[.iface u p]) :
    Glb P (heapF W) :=
  ⟨fun w h => var_mono h h1, fun w h => let ⟨u, p, e⟩ := h2; ⟨u, p, var_mono h e⟩, fun w h => let ⟨u, p, e⟩ := h3; ⟨u, p, var_mono h e⟩⟩
theorem witness_laid {H : Type} {enc : TypeId × Value → H} {C : Checked} {os : Os} {f : FuncId} {fn : Func} {s : OpenSpec} {conds : List PathCond} {apart : Bool} {laid : List (String × DataW Unit)} (w0 : World) (args : Array Value) (hos : w0.os = os)
    (hsh : (w0.forCall (fun _ _ => 0) ⟨#[], args, []⟩).Shaped C.prog)
    (hok : Input.okWideB C.prog (w0.forCall (fun _ _ => 0) ⟨#[], args, []⟩) f ⟨#[], args, []⟩ = true)
    (hrow : s.preRow enc C.prog fn conds apart laid (w0.forCall (fun _ _ => 0) ⟨#[], args, []⟩).memory args) :
    ∃ (w : World) (tape : Tape) (i : Input), w.os = os ∧ (w.forCall tape i).Shaped C.prog ∧ i.vars = [] ∧ Input.okWide C.prog (w.forCall tape i) .any w.heap.size f i ∧
      s.preRow enc C.prog fn conds apart laid (w.forCall tape i).memory i.args ∧ ({} : Assume).holds C.prog (lone (Frame.enter C.prog f i.args .normal) [] (w.forCall tape i)) :=
  ⟨w0, fun _ _ => 0, ⟨#[], args, []⟩, hos, hsh, (Input.okWide_of_okWideB (base := 0) hok).1, (Input.okWide_of_okWideB hok).2, hrow, by
    simp only [Assume.holds]
    exact ⟨by simp, by simp, fun _ => Modest.zero, by simp, by simp⟩⟩
end Go.Proofs.YtjkjlggbikeliaaGreatDoor

namespace Go.Proofs.YtjkjlggbikeliaaGreatDoor.snapNames
open Go.RowKit Go.ChangeShapes Go.WideShapes Go.ChangeAt
open Go.ChangeMaps (open_string shut_string)
set_option linter.unusedVariables false
theorem own : ownKnob Tryz.prog.godebug = none := by kernel_rfl
theorem laidOut : laidOutB Tryz.prog = true := by kernel_rfl
theorem glb {W : World} (hL : laidMetH Tryz.prog Rows.snapNamesRow.laid W) : Glb Tryz.prog (heapF W) := by
  rw [MakeChecks.laidMetH_plain _ _ _ (by kernel_rfl)] at hL
  exact glb_of (tab_of (g := 2) (t := 228) (e := 111) (by kernel_rfl) (by kernel_rfl) Tryz.underlying228 Tryz.underlying111 (by kernel_rfl) (by kernel_rfl) (laid_vread hL (n := "internal/strconv.uint64pow10") (d := Rows.laid_internal_strconv_uint64pow10) (.tail _ (.tail _ (.head _))))) (iface_of (g := 0) (t := 113) (by kernel_rfl) (by kernel_rfl) Tryz.underlying113 (laid_vread hL (n := "strconv.ErrSyntax") (d := Rows.laid_strconv_ErrSyntax) (.tail _ (.tail _ (.tail _ (.tail _ (.tail _ (.head _)))))))) (iface_of (g := 1) (t := 113) (by kernel_rfl) (by kernel_rfl) Tryz.underlying113 (laid_vread hL (n := "strconv.ErrRange") (d := Rows.laid_strconv_ErrRange) (.tail _ (.tail _ (.tail _ (.tail _ (.head _)))))))
theorem laid_met (os : Os) (args : Array Value) : laidMetH Tryz.prog Rows.snapNamesRow.laid ((World.laidAll Tryz.prog os Rows.snapNamesRow.laid).forCall (fun _ _ => 0) ⟨#[], args, []⟩).memory := by
  rw [MakeChecks.laidMetH_plain _ _ _ (by kernel_rfl)]
  exact laidMet_laidAll args (by kernel_rfl) (by kernel_rfl)
set_option maxRecDepth 100000 in
theorem lifted (os : Os) (started : os.Started) (H : Type) (enc : TypeId × Value → H) (F : Stop.Interp) :
    ReturnsInHanded {} Tryz.checked os 5 .any ((OpenSpec.ofChange Rows.snapNamesSpec).preRow enc Tryz.prog Tryz.f5 Rows.snapNamesRow.domain false Rows.snapNamesRow.laid) (((OpenSpec.ofChange Rows.snapNamesSpec).at F).post enc Tryz.prog Tryz.f5 false true false false) := by
  refine returnsInHanded_of_row (C := Tryz.checked) (s := (OpenSpec.ofChange Rows.snapNamesSpec)) own started (by kernel_rfl) Tryz.func5
    (witness_laid (enc := enc) (C := Tryz.checked) (World.laidAll Tryz.prog os Rows.snapNamesRow.laid) #[.int .i64 0, .string ⟨#[]⟩] (World.laidAll_os _ _ _) (World.shaped_of_ZipB (by kernel_rfl) (by kernel_rfl)) (by kernel_rfl)
      (OpenSpec.preRow_of_cond 8 (x := ([.lit (.int .i64 0), .lit (.string [])], [], [])) (by kernel_rfl) (by kernel_rfl) (fun k hk => by cases hk) (by kernel_rfl) (laid_met os _))) ?_
  intro W base args ds gs before hval0 hW hcnd hk00 hsz0 hL _ _
  have hgl := glb hL
  have hsz : (DataW.weightsEach Tryz.prog (Tryz.f5.params.toList ++ Rows.snapNamesSpec.plain.varTypes Tryz.prog) (ds ++ gs)).all (· ≤ reachBytes) = true := hsz0
  have hval : ∀ (j : Nat) t v, Tryz.f5.params[j]? = some t → args[j]? = some v → Value.okWide Tryz.prog W .any base t v := hval0
  have hW' := hW
  obtain ⟨p, q, hA0, hV, rfl, hfz, hnd⟩ := hW
  have hA : DataW.TrodAll enc Tryz.prog W 0 (fun _ => true) true Tryz.f5.params.toList args.toList ds p := hA0
  rw [Tryz.params5] at hA hval hsz
  obtain ⟨v0, vs0, d0, ds0, p0, q0, hargs, rfl, rfl, h0, r0⟩ := trodAll_cons hA
  obtain ⟨v1, vs1, d1, ds1, p1, q1, rfl, rfl, rfl, h1, r1⟩ := trodAll_cons r0
  obtain ⟨rfl, rfl, rfl⟩ := trodAll_nil r1
  obtain rfl : args = #[v0, v1] := by cases args; simp_all
  obtain ⟨rfl, rfl⟩ := trodVars_none hV
  obtain ⟨a0, rfl, rfl, rfl, w0⟩ := open_int Tryz.underlying3 (hval 0 3 v0 rfl rfl) h0
  obtain ⟨ss1, rfl⟩ := okWide_string Tryz.underlying9 (hval 1 9 v1 rfl rfl)
  have k1 := h1
  have lt1 : ∀ x ∈ p1, x.block < W.heap.size := by obtain ⟨m, hm⟩ := k1; exact DataW.trod_lt m _ _ _ hm
  obtain ⟨fuel1, hf1⟩ := h1
  obtain ⟨z1_0, hcs1, _, _, ok1⟩ := (opens_str Tryz.underlying9 (by kernel_rfl)) _ _ _ hf1 (weights_of hsz (j := 1) (t := 9) rfl rfl)
  have e1 : Value.string ss1 = str z1_0 := by simpa [Value.cells] using hcs1
  unfold str at e1
  injection e1 with ea1
  subst ea1
  clear hA0 hval0 hsz0 hsz
  obtain ⟨k, hk⟩ := pure_SnapNames a0 w0 z1_0 ok1
  refine (row_of_fn (synodlaw6_SnapNames.calls W (heapF W) k a0 z1_0 hgl) hk (fun _ => rfl)).mono fun e W' ⟨he, bel⟩ => ?_
  subst he
  exact ⟨_, rfl, _, _, _, [], _, [], hW', trodAll_mk1 (shut_bool Tryz.underlying4 _), (trodAll_cons_mk (shut_int Tryz.underlying3 w0) (trodAll_cons_mk (Below.trod laidOut (by kernel_rfl) (of_decide_eq_true (by kernel_rfl)) k1 bel lt1) trodAll_mk0)), rfl, bel.frame _, fun h => by cases h⟩
theorem said : Rows.SnapNamesSaid :=
  OpenClaim.holds_of_cond 5 Tryz.f5 rfl rfl rfl rfl rfl rfl rfl ⟨rfl, rfl, rfl, rfl, rfl⟩ rfl rfl rfl rfl rfl (by kernel_rfl) Tryz.func5 (by kernel_rfl)
    (of_decide_eq_true (by kernel_rfl)) (by unfold Func.isWrapper; first | (rw [if_pos (by decide +kernel)]; kernel_rfl) | (rw [if_neg (by decide +kernel)]; exact ⟨rfl, rfl⟩))
    (fun os started H enc _ F => by rw [OpenClaim.pre_eq_preRow]; exact lifted os started H enc F)
theorem plain (f : FuncId) (fn : Func) (hf : Tryz.pinned.checked.prog.funcNamed "synod/synodlaw6.SnapNames" = some f) (hfn : Tryz.pinned.checked.prog.funcs[f]? = some fn) :
    true = Tryz.pinned.checked.prog.looks [] ∧ ∀ (j : Nat) t, fn.params[j]? = some t → Tryz.pinned.checked.prog.wantsStandIn t = false := by
  obtain rfl : f = 5 := Option.some.inj ((show Tryz.prog.funcNamed "synod/synodlaw6.SnapNames" = some 5 by kernel_rfl).symm.trans hf) |>.symm
  obtain rfl : fn = Tryz.f5 := (Option.some.inj (Tryz.func5.symm.trans hfn)).symm
  refine ⟨by kernel_rfl, fun j t ht => ?_⟩
  rw [Tryz.params5] at ht
  have hm : t ∈ [3, 9] := by simpa using Array.mem_of_getElem? ht
  have hall : ([3, 9].all fun u => !Tryz.prog.wantsStandIn u) = true := by kernel_rfl
  exact (show Tryz.prog.wantsStandIn t = false by simpa using List.all_eq_true.1 hall t hm)
theorem card : Rows.SnapNamesCardSaid :=
  Claim7.holds_tied_plain_at .later [] _ _ _ _ said (fun _ h => by cases h) (by kernel_rfl) (fun _ h => by cases h) snapNames_row_tie rfl ⟨rfl, rfl⟩ (by kernel_rfl) rfl plain (by kernel_rfl)
end Go.Proofs.YtjkjlggbikeliaaGreatDoor.snapNames
namespace Go.Proofs.YtjkjlggbikeliaaGreatDoor
/-- The card, under a short name, for the claim. -/
theorem snapNames_holds : Rows.SnapNamesCardSaid := snapNames.card
end Go.Proofs.YtjkjlggbikeliaaGreatDoor

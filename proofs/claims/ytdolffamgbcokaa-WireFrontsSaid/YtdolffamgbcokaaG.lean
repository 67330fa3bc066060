/- Printed by gen.py: pure functions and the proofs that the Go functions simulate them. Conditions: as each theorem says. -/
import Derived.Test.YtdolffamgbcokaaG1
namespace Go.Proofs.Ytdolffamgbcokaa
open Go.RowKit
set_option linter.unusedVariables false
set_option maxRecDepth 20000
def synodref1_Reader_Int.f (k : Nat) (x0_0 : List UInt8) (x0_1 : Int) (x0_2 : Int) : Option (Int × List UInt8 × Int × Int) := if x0_2 = (0 : Int) then ((synodref1_Int.f k x0_0 x0_1).bind fun s7v => (some (s7v.1, x0_0, IntKind.i64.wrap (x0_1 + s7v.2.1), s7v.2.2))) else (some (0, x0_0, x0_1, x0_2))
theorem synodref1_Reader_Int.calls (W : World) (F : HA) (k : Nat) (b0 : Nat) (a0_0 : Option Addr) (c0_0 : Nat) (x0_0 : List UInt8) (x0_1 : Int) (x0_2 : Int)  :
    Fn Try.prog W 49 [.pointer (some ⟨b0, 0, none⟩)] [obj b0 45 [.slice a0_0 x0_0.length c0_0, .int .i64 x0_1, .int .i64 x0_2], Row 5 1 a0_0 x0_0.length c0_0 (encB x0_0)] F (synodref1_Reader_Int.f k x0_0 x0_1 x0_2) (fun (r : Int × List UInt8 × Int × Int) (y : Option Addr × Nat) => .int .i64 r.1) (fun r y => [obj b0 45 [.slice y.1 r.2.1.length y.2, .int .i64 r.2.2.1, .int .i64 r.2.2.2], Row 5 1 y.1 r.2.1.length y.2 (encB r.2.1)]) := by
  unfold synodref1_Reader_Int.f
  refine fn_intro 38 Try.func49 rfl Try.ntmps49 rfl ?_
  refine sim_seq ?_
  refine sim_region ?_
  refine simL_val (q_asg rfl rfl) rfl rfl rfl ?_
  refine simL_nil ?_
  refine nrm_then ?_
  refine sim_seq ?_
  refine sim_seq ?_
  refine sim_region ?_
  refine simL_val (q_move rfl rfl) rfl rfl rfl ?_
  refine simL_val (q_nil rfl rfl) rfl rfl rfl ?_
  refine simL_val (q_fa rfl rfl Try.underlying45 rfl rfl Try.sizeOf3 rfl) rfl rfl rfl ?_
  refine simL_val (q_load rfl rfl Try.isAgg3 (.obj 0 rfl rfl)) rfl rfl rfl ?_
  refine simL_val (q_neq rfl rfl rfl) rfl rfl rfl ?_
  refine simL_nil ?_
  refine nrm_then ?_
  refine sim_condn rfl (fun h1v => ?_) (fun h2v => ?_)
  · refine sim_skip ?_
    refine nrm_then ?_
    refine sim_seq ?_
    refine sim_bind (fun s7v hs9v => ?_)
    refine sim_lend 1 rfl (fun hq3v hq4v hq5v hq6v => ?_)
    refine sim_draw (Γ := Unit) () [[], [0], [0, 1], [0, 1, 2], [], [4], [4, 5], [4, 5, 6], [0, 1, 2, 3, 4, 5, 6, 7], [0, 1, 2, 3, 4, 5, 6, 7, 8], [0, 1, 2, 3, 4, 5, 6, 7, 8, 9], [0, 1, 2, 3, 4, 5, 6, 7, 8, 9], [0, 1, 2, 3, 4, 5, 6, 7, 8, 9], [0, 1, 2, 3, 4, 5, 6, 7, 8, 9, 10], [0, 1, 2, 3, 4, 5, 6, 7, 8, 9, 10, 11, 13], [0, 1, 2, 3, 4, 5, 6, 7, 8, 9, 10, 11, 12, 13, 14]] [8] [0, 1, 2, 3, 4, 5, 6, 7, 9, 10, 11, 12, 13, 14, 15] (fun i => [[0], [0], [0], [0], [0], [0], [0], [0], [], [1], [1], [1], [1], [1], [1], [1]].getD i []) (fun i => [[], [], [], [], [], [], [], [], [0, 1, 2, 3, 4, 5, 6, 7], [], [], [], [], [], [], []].getD i []) (fun γ i => [.pointer (some ⟨b0, 0, none⟩), .pointer (some ⟨b0, 0, none⟩), .pointer (some ⟨b0, 0, none⟩), .slice a0_0 x0_0.length c0_0, .pointer (some ⟨b0, 0, none⟩), .pointer (some ⟨b0, 0, none⟩), .pointer (some ⟨b0, 1, none⟩), .int .i64 x0_1, .tuple #[.int .i64 s7v.1, .int .i64 s7v.2.1, .int .i64 s7v.2.2], .tuple #[.int .i64 s7v.1, .int .i64 s7v.2.1, .int .i64 s7v.2.2], .int .i64 s7v.1, .int .i64 s7v.2.1, .int .i64 s7v.2.2, .int .i64 s7v.1, .int .i64 s7v.2.1, .int .i64 s7v.2.2].getD i undef) (fun j γ => [[obj b0 45 [.slice a0_0 x0_0.length c0_0, .int .i64 x0_1, .int .i64 x0_2], Row 5 1 a0_0 x0_0.length c0_0 (encB x0_0), F], [obj b0 45 [.slice a0_0 x0_0.length c0_0, .int .i64 x0_1, .int .i64 x0_2], Row 5 1 a0_0 x0_0.length c0_0 (encB x0_0), F]].getD j []) (fun γ => [(0, .pointer (some ⟨b0, 0, none⟩)), (3, .int .i64 s7v.1), (4, .int .i64 s7v.2.1), (5, .int .i64 s7v.2.2)]) mixed (by decide) (by decide) (by decide) (by decide) (by decide) (by decide) (by decide) 38 rfl (by decide) (by decide) (by decide) (Ent.refl _) ?_ ?_ (fun _ => ⟨rfl, rfl, rfl, rfl, trivial⟩) ?_
    · exact (All.cons (fun γ => (All.cons (QOb.plain [(0, .pointer (some ⟨b0, 0, none⟩))] rfl rfl (.o rfl (by decide) .nil) (q_move rfl rfl) rfl) All.nil)) (All.cons (fun γ => (All.cons (QOb.plain [(12, .pointer (some ⟨b0, 0, none⟩))] rfl rfl (.w 0 rfl rfl rfl .nil) (q_nil rfl rfl) rfl) All.nil)) (All.cons (fun γ => (All.cons (QOb.plain [(13, .pointer (some ⟨b0, 0, none⟩))] rfl rfl (.w 1 rfl rfl rfl .nil) (q_fa rfl rfl Try.underlying45 rfl rfl Try.sizeOf23 rfl) rfl) All.nil)) (All.cons (fun γ => (All.cons (QOb.plain [(14, .pointer (some ⟨b0, 0, none⟩))] rfl rfl (.w 2 rfl rfl rfl .nil) (q_load rfl rfl Try.isAgg23 (.obj 0 rfl rfl)) rfl) All.nil)) (All.cons (fun γ => (All.cons (QOb.plain [(0, .pointer (some ⟨b0, 0, none⟩))] rfl rfl (.o rfl (by decide) .nil) (q_move rfl rfl) rfl) All.nil)) (All.cons (fun γ => (All.cons (QOb.plain [(16, .pointer (some ⟨b0, 0, none⟩))] rfl rfl (.w 4 rfl rfl rfl .nil) (q_nil rfl rfl) rfl) All.nil)) (All.cons (fun γ => (All.cons (QOb.plain [(17, .pointer (some ⟨b0, 0, none⟩))] rfl rfl (.w 5 rfl rfl rfl .nil) (q_fa rfl rfl Try.underlying45 rfl rfl Try.sizeOf3 rfl) rfl) All.nil)) (All.cons (fun γ => (All.cons (QOb.plain [(18, .pointer (some ⟨b0, 1, none⟩))] rfl rfl (.w 6 rfl rfl rfl .nil) (q_load rfl rfl Try.isAgg3 (.obj 0 rfl rfl)) rfl) All.nil)) (All.cons (fun γ => (All.cons (QOb.plain [(20, .tuple #[.int .i64 s7v.1, .int .i64 s7v.2.1, .int .i64 s7v.2.2])] rfl rfl (.w 8 rfl rfl rfl .nil) (q_move rfl rfl) rfl) All.nil)) (All.cons (fun γ => (All.cons (QOb.plain [(11, .tuple #[.int .i64 s7v.1, .int .i64 s7v.2.1, .int .i64 s7v.2.2])] rfl rfl (.w 9 rfl rfl rfl .nil) (q_ext rfl rfl rfl) rfl) All.nil)) (All.cons (fun γ => (All.cons (QOb.plain [(11, .tuple #[.int .i64 s7v.1, .int .i64 s7v.2.1, .int .i64 s7v.2.2])] rfl rfl (.w 9 rfl rfl rfl .nil) (q_ext rfl rfl rfl) rfl) All.nil)) (All.cons (fun γ => (All.cons (QOb.plain [(11, .tuple #[.int .i64 s7v.1, .int .i64 s7v.2.1, .int .i64 s7v.2.2])] rfl rfl (.w 9 rfl rfl rfl .nil) (q_ext rfl rfl rfl) rfl) All.nil)) (All.cons (fun γ => (All.cons (QOb.plain [(21, .int .i64 s7v.1)] rfl rfl (.w 10 rfl rfl rfl .nil) (q_asg rfl rfl) rfl) All.nil)) (All.cons (fun γ => (All.cons (QOb.plain [(22, .int .i64 s7v.2.1)] rfl rfl (.w 11 rfl rfl rfl .nil) (q_asg rfl rfl) rfl) All.nil)) (All.cons (fun γ => (All.cons (QOb.plain [(23, .int .i64 s7v.2.2)] rfl rfl (.w 12 rfl rfl rfl .nil) (q_asg rfl rfl) rfl) All.nil)) All.nil)))))))))))))))
    · exact (All.cons (fun γ => EOb.mk (Z := Unit) [(15, .slice a0_0 x0_0.length c0_0), (19, .int .i64 x0_1)] (fun z => ()) rfl rfl (.w 3 rfl rfl rfl (.w 7 rfl rfl rfl .nil)) (re_call (vs := [.slice a0_0 x0_0.length c0_0, .int .i64 x0_1]) (cap := []) (A := []) (rst := [obj b0 45 [.slice a0_0 x0_0.length c0_0, .int .i64 x0_1, .int .i64 x0_2], Row 5 1 a0_0 x0_0.length c0_0 (encB x0_0), F]) rfl rfl rfl rfl rfl rfl Try.call19 (.sel 0 rfl (.sel 0 rfl (.sel 0 rfl (.nil _)))) (synodref1_Int.calls _ _ k a0_0 c0_0 x0_0 x0_1 (hq3v.lend 1 rfl) hq4v hq5v) hs9v) (fun _ => ⟨rfl, rfl, rfl, rfl, rfl, rfl, rfl, rfl, trivial⟩) (fun _ => .inr rfl) (fun z => Ent.refl _)) All.nil)
    · intro g10v
      refine nrm_then ?_
      refine sim_seq ?_
      refine sim_region ?_
      refine simL_val (q_move rfl rfl) rfl rfl rfl ?_
      refine simL_val (q_move rfl rfl) rfl rfl rfl ?_
      refine simL_val (q_nil rfl rfl) rfl rfl rfl ?_
      refine simL_val (q_fa rfl rfl Try.underlying45 rfl rfl Try.sizeOf3 rfl) rfl rfl rfl ?_
      refine simL_do (re_store 0 rfl rfl rfl Try.sizeOf3 rfl rfl (one_of (by rfl)) rfl rfl) rfl rfl ?_
      intro _
      refine simL_nil ?_
      refine nrm_then ?_
      refine sim_seq ?_
      refine sim_region ?_
      refine simL_val (q_move rfl rfl) rfl rfl rfl ?_
      refine simL_val (q_move rfl rfl) rfl rfl rfl ?_
      refine simL_val (q_nil rfl rfl) rfl rfl rfl ?_
      refine simL_val (q_fa rfl rfl Try.underlying45 rfl rfl Try.sizeOf3 rfl) rfl rfl rfl ?_
      refine simL_val (q_load rfl rfl Try.isAgg3 (.obj 0 rfl rfl)) rfl rfl rfl ?_
      refine simL_val (q_move rfl rfl) rfl rfl rfl ?_
      refine simL_val (q_add rfl rfl rfl) rfl rfl rfl ?_
      refine simL_val (q_nil rfl rfl) rfl rfl rfl ?_
      refine simL_val (q_fa rfl rfl Try.underlying45 rfl rfl Try.sizeOf3 rfl) rfl rfl rfl ?_
      refine simL_do (re_store 0 rfl rfl rfl Try.sizeOf3 rfl rfl (one_of (by rfl)) rfl rfl) rfl rfl ?_
      intro _
      refine simL_nil ?_
      refine nrm_then ?_
      refine sim_seq ?_
      refine sim_region ?_
      refine simL_val (q_move rfl rfl) rfl rfl rfl ?_
      refine simL_val (q_asg rfl rfl) rfl rfl rfl ?_
      refine simL_nil ?_
      refine nrm_then ?_
      refine sim_rtn ?_
      exact rtn_fn (a0_0, c0_0) rfl rfl rfl (.sel 0 rfl (.sel 0 rfl (.sel 0 rfl (.nil _))))
  · refine sim_seq ?_
    refine sim_region ?_
    refine simL_val (q_asg rfl rfl) rfl rfl rfl ?_
    refine simL_nil ?_
    refine nrm_then ?_
    refine sim_rtn ?_
    refine rtn_then ?_
    exact rtn_fn (a0_0, c0_0) rfl rfl rfl (.sel 0 rfl (.sel 0 rfl (.sel 0 rfl (.nil _))))

def synodref1_Reader_Bool.f (k : Nat) (x0_0 : List UInt8) (x0_1 : Int) (x0_2 : Int) : Option (Bool × List UInt8 × Int × Int) := (synodref1_Reader_Int.f k x0_0 x0_1 x0_2).bind fun s1v => ((if ((decide (s1v.2.2.2 = (0 : Int))) && (decide ((1 : Int) < s1v.1))) = true then (some (x0_1, 4)) else (some (s1v.2.2.1, s1v.2.2.2))).bind fun s4v => (some ((decide (s4v.2 = (0 : Int))) && (decide (s1v.1 = (1 : Int))), s1v.2.1, s4v.1, s4v.2)))
theorem synodref1_Reader_Bool.calls (W : World) (F : HA) (k : Nat) (b0 : Nat) (a0_0 : Option Addr) (c0_0 : Nat) (x0_0 : List UInt8) (x0_1 : Int) (x0_2 : Int)  :
    Fn Try.prog W 50 [.pointer (some ⟨b0, 0, none⟩)] [obj b0 45 [.slice a0_0 x0_0.length c0_0, .int .i64 x0_1, .int .i64 x0_2], Row 5 1 a0_0 x0_0.length c0_0 (encB x0_0)] F (synodref1_Reader_Bool.f k x0_0 x0_1 x0_2) (fun (r : Bool × List UInt8 × Int × Int) (y : Option Addr × Nat) => .bool r.1) (fun r y => [obj b0 45 [.slice y.1 r.2.1.length y.2, .int .i64 r.2.2.1, .int .i64 r.2.2.2], Row 5 1 y.1 r.2.1.length y.2 (encB r.2.1)]) := by
  unfold synodref1_Reader_Bool.f
  refine fn_intro 36 Try.func50 rfl Try.ntmps50 rfl ?_
  refine sim_seq ?_
  refine sim_region ?_
  refine simL_val (q_asg rfl rfl) rfl rfl rfl ?_
  refine simL_nil ?_
  refine nrm_then ?_
  refine sim_seq ?_
  refine sim_region ?_
  refine simL_val (q_move rfl rfl) rfl rfl rfl ?_
  refine simL_val (q_nil rfl rfl) rfl rfl rfl ?_
  refine simL_val (q_fa rfl rfl Try.underlying45 rfl rfl Try.sizeOf3 rfl) rfl rfl rfl ?_
  refine simL_val (q_load rfl rfl Try.isAgg3 (.obj 0 rfl rfl)) rfl rfl rfl ?_
  refine simL_val (q_asg rfl rfl) rfl rfl rfl ?_
  refine simL_nil ?_
  refine nrm_then ?_
  refine sim_seq ?_
  refine sim_region ?_
  refine simL_val (q_move rfl rfl) rfl rfl rfl ?_
  refine simL_bind (fun s1v hs3v => ?_)
  refine simL_eff (re_call (vs := [.pointer (some ⟨b0, 0, none⟩)]) (cap := []) (A := [obj b0 45 [.slice a0_0 x0_0.length c0_0, .int .i64 x0_1, .int .i64 x0_2], Row 5 1 a0_0 x0_0.length c0_0 (encB x0_0)]) (rst := [F]) rfl rfl rfl rfl rfl rfl Try.call49 (.sel 0 rfl (.sel 0 rfl (.sel 0 rfl (.nil _)))) (synodref1_Reader_Int.calls _ _ k b0 a0_0 c0_0 x0_0 x0_1 x0_2 ) hs3v) rfl rfl rfl ?_
  intro y2v
  refine simL_val (q_asg rfl rfl) rfl rfl rfl ?_
  refine simL_nil ?_
  refine nrm_then ?_
  refine sim_cut (S := Int × Int) (Unit) (fun s y => [(0, .pointer (some ⟨b0, 0, none⟩)), (4, .int .i64 s1v.1)]) (fun s y => [obj b0 45 [.slice y2v.1 s1v.2.1.length y2v.2, .int .i64 s.1, .int .i64 s.2], Row 5 1 y2v.1 s1v.2.1.length y2v.2 (encB s1v.2.1), F]) ?_ ?_
  · refine sim_seq ?_
    refine sim_region ?_
    refine simL_val (q_move rfl rfl) rfl rfl rfl ?_
    refine simL_val (q_nil rfl rfl) rfl rfl rfl ?_
    refine simL_val (q_fa rfl rfl Try.underlying45 rfl rfl Try.sizeOf3 rfl) rfl rfl rfl ?_
    refine simL_val (q_load rfl rfl Try.isAgg3 (.obj 0 rfl rfl)) rfl rfl rfl ?_
    refine simL_val (q_eql rfl rfl rfl) rfl rfl rfl ?_
    refine simL_val (q_move rfl rfl) rfl rfl rfl ?_
    refine simL_valc (b := decide (s1v.2.2.2 = (0 : Int))) (fun hb9v => RQ.sub (E' := [(4, .int .i64 s1v.1)]) ⟨rfl, trivial⟩ (q_move rfl rfl)) rfl rfl rfl rfl rfl ?_
    refine simL_valc (b := decide (s1v.2.2.2 = (0 : Int))) (fun hb8v => RQ.sub (E' := [(17, .int .i64 s1v.1)]) ⟨lk_cv rfl hb8v, trivial⟩ (q_gtr rfl rfl rfl)) rfl rfl rfl rfl rfl ?_
    refine simL_val (q_and rfl rfl rfl) rfl rfl rfl ?_
    refine simL_nil ?_
    refine nrm_then ?_
    refine sim_condb rfl (fun h6v => ?_) (fun h7v => ?_)
    · refine sim_seq ?_
      refine sim_region ?_
      refine simL_val (q_move rfl rfl) rfl rfl rfl ?_
      refine simL_val (q_nil rfl rfl) rfl rfl rfl ?_
      refine simL_val (q_fa rfl rfl Try.underlying45 rfl rfl Try.sizeOf3 rfl) rfl rfl rfl ?_
      refine simL_do (re_store 0 rfl rfl rfl Try.sizeOf3 rfl rfl (one_of (by rfl)) rfl rfl) rfl rfl ?_
      intro _
      refine simL_nil ?_
      refine nrm_then ?_
      refine sim_region ?_
      refine simL_val (q_move rfl rfl) rfl rfl rfl ?_
      refine simL_val (q_move rfl rfl) rfl rfl rfl ?_
      refine simL_val (q_nil rfl rfl) rfl rfl rfl ?_
      refine simL_val (q_fa rfl rfl Try.underlying45 rfl rfl Try.sizeOf3 rfl) rfl rfl rfl ?_
      refine simL_do (re_store 0 rfl rfl rfl Try.sizeOf3 rfl rfl (one_of (by rfl)) rfl rfl) rfl rfl ?_
      intro _
      refine simL_nil ?_
      exact nrm_cut (s := (x0_1, 4)) () ⟨rfl, rfl, trivial⟩ (.sel 0 rfl (.sel 0 rfl (.sel 0 rfl (.nil _))))
    · refine sim_skip ?_
      exact nrm_cut (s := (s1v.2.2.1, s1v.2.2.2)) () ⟨rfl, rfl, trivial⟩ (.sel 0 rfl (.sel 0 rfl (.sel 0 rfl (.nil _))))
  · intro s4v y5v
    refine sim_seq ?_
    refine sim_region ?_
    refine simL_val (q_move rfl rfl) rfl rfl rfl ?_
    refine simL_val (q_nil rfl rfl) rfl rfl rfl ?_
    refine simL_val (q_fa rfl rfl Try.underlying45 rfl rfl Try.sizeOf3 rfl) rfl rfl rfl ?_
    refine simL_val (q_load rfl rfl Try.isAgg3 (.obj 0 rfl rfl)) rfl rfl rfl ?_
    refine simL_val (q_eql rfl rfl rfl) rfl rfl rfl ?_
    refine simL_val (q_move rfl rfl) rfl rfl rfl ?_
    refine simL_valc (b := decide (s4v.2 = (0 : Int))) (fun hb11v => RQ.sub (E' := [(4, .int .i64 s1v.1)]) ⟨rfl, trivial⟩ (q_move rfl rfl)) rfl rfl rfl rfl rfl ?_
    refine simL_valc (b := decide (s4v.2 = (0 : Int))) (fun hb10v => RQ.sub (E' := [(33, .int .i64 s1v.1)]) ⟨lk_cv rfl hb10v, trivial⟩ (q_eql rfl rfl rfl)) rfl rfl rfl rfl rfl ?_
    refine simL_val (q_and rfl rfl rfl) rfl rfl rfl ?_
    refine simL_val (q_asg rfl rfl) rfl rfl rfl ?_
    refine simL_nil ?_
    refine nrm_then ?_
    refine sim_rtn ?_
    exact rtn_fn (y2v.1, y2v.2) rfl rfl rfl (.sel 0 rfl (.sel 0 rfl (.sel 0 rfl (.nil _))))

def synodref1_Reader_Bytes.f (k : Nat) (x0_0 : List UInt8) (x0_1 : Int) (x0_2 : Int) (x1 : Int) : Option (List UInt8 × List UInt8 × Int × Int) := (synodref1_Reader_Int.f k x0_0 x0_1 x0_2).bind fun s1v => (if s1v.2.2.2 = (0 : Int) then ((if max x1 (0 : Int) < s1v.1 then (some 3) else (if IntKind.i64.wrap ((s1v.2.1.length : Int) - s1v.2.2.1) < s1v.1 then (some 2) else (some s1v.2.2.2))).bind fun s6v => (if s6v = (0 : Int) then (if 0 ≤ IntKind.i64.wrap ((IntKind.i64.wrap (s1v.2.2.1 + s1v.1)) - s1v.1) ∧ IntKind.i64.wrap ((IntKind.i64.wrap (s1v.2.2.1 + s1v.1)) - s1v.1) ≤ IntKind.i64.wrap (s1v.2.2.1 + s1v.1) ∧ IntKind.i64.wrap (s1v.2.2.1 + s1v.1) ≤ (s1v.2.1.length : Int) then ((synodref_Bytes.f (cut s1v.2.1 (IntKind.i64.wrap ((IntKind.i64.wrap (s1v.2.2.1 + s1v.1)) - s1v.1)) (IntKind.i64.wrap (s1v.2.2.1 + s1v.1)))).bind fun s26v => (some (s26v, s1v.2.1, IntKind.i64.wrap (s1v.2.2.1 + s1v.1), s6v))) else none) else (some (([] : List UInt8), s1v.2.1, x0_1, s6v)))) else (some (([] : List UInt8), s1v.2.1, s1v.2.2.1, s1v.2.2.2)))
theorem synodref1_Reader_Bytes.calls (W : World) (F : HA) (k : Nat) (b0 : Nat) (a0_0 : Option Addr) (c0_0 : Nat) (x0_0 : List UInt8) (x0_1 : Int) (x0_2 : Int) (x1 : Int)  :
    Fn Try.prog W 51 [.pointer (some ⟨b0, 0, none⟩), .int .i64 x1] [obj b0 45 [.slice a0_0 x0_0.length c0_0, .int .i64 x0_1, .int .i64 x0_2], Row 5 1 a0_0 x0_0.length c0_0 (encB x0_0)] F (synodref1_Reader_Bytes.f k x0_0 x0_1 x0_2 x1) (fun (r : List UInt8 × List UInt8 × Int × Int) (y : Option Addr × Nat × Option Addr × Nat) => .slice y.1 r.1.length y.2.1) (fun r y => [Row 5 1 y.1 r.1.length y.2.1 (encB r.1), obj b0 45 [.slice y.2.2.1 r.2.1.length y.2.2.2, .int .i64 r.2.2.1, .int .i64 r.2.2.2], Row 5 1 y.2.2.1 r.2.1.length y.2.2.2 (encB r.2.1)]) := by
  unfold synodref1_Reader_Bytes.f
  refine fn_intro 74 Try.func51 rfl Try.ntmps51 rfl ?_
  refine sim_seq ?_
  refine sim_region ?_
  refine simL_val (q_asg rfl rfl) rfl rfl rfl ?_
  refine simL_nil ?_
  refine nrm_then ?_
  refine sim_seq ?_
  refine sim_region ?_
  refine simL_val (q_move rfl rfl) rfl rfl rfl ?_
  refine simL_val (q_nil rfl rfl) rfl rfl rfl ?_
  refine simL_val (q_fa rfl rfl Try.underlying45 rfl rfl Try.sizeOf3 rfl) rfl rfl rfl ?_
  refine simL_val (q_load rfl rfl Try.isAgg3 (.obj 0 rfl rfl)) rfl rfl rfl ?_
  refine simL_val (q_asg rfl rfl) rfl rfl rfl ?_
  refine simL_nil ?_
  refine nrm_then ?_
  refine sim_seq ?_
  refine sim_region ?_
  refine simL_val (q_move rfl rfl) rfl rfl rfl ?_
  refine simL_bind (fun s1v hs3v => ?_)
  refine simL_eff (re_call (vs := [.pointer (some ⟨b0, 0, none⟩)]) (cap := []) (A := [obj b0 45 [.slice a0_0 x0_0.length c0_0, .int .i64 x0_1, .int .i64 x0_2], Row 5 1 a0_0 x0_0.length c0_0 (encB x0_0)]) (rst := [F]) rfl rfl rfl rfl rfl rfl Try.call49 (.sel 0 rfl (.sel 0 rfl (.sel 0 rfl (.nil _)))) (synodref1_Reader_Int.calls _ _ k b0 a0_0 c0_0 x0_0 x0_1 x0_2 ) hs3v) rfl rfl rfl ?_
  intro y2v
  refine simL_val (q_asg rfl rfl) rfl rfl rfl ?_
  refine simL_nil ?_
  refine nrm_then ?_
  refine sim_seq ?_
  refine sim_seq ?_
  refine sim_region ?_
  refine simL_val (q_move rfl rfl) rfl rfl rfl ?_
  refine simL_val (q_nil rfl rfl) rfl rfl rfl ?_
  refine simL_val (q_fa rfl rfl Try.underlying45 rfl rfl Try.sizeOf3 rfl) rfl rfl rfl ?_
  refine simL_val (q_load rfl rfl Try.isAgg3 (.obj 0 rfl rfl)) rfl rfl rfl ?_
  refine simL_val (q_neq rfl rfl rfl) rfl rfl rfl ?_
  refine simL_nil ?_
  refine nrm_then ?_
  refine sim_condn rfl (fun h4v => ?_) (fun h5v => ?_)
  · refine sim_skip ?_
    refine nrm_then ?_
    refine sim_cut (S := Int) (Unit) (fun s y => [(0, .pointer (some ⟨b0, 0, none⟩)), (5, .int .i64 x0_1), (6, .int .i64 s1v.1)]) (fun s y => [obj b0 45 [.slice y2v.1 s1v.2.1.length y2v.2, .int .i64 s1v.2.2.1, .int .i64 s], Row 5 1 y2v.1 s1v.2.1.length y2v.2 (encB s1v.2.1), F]) ?_ ?_
    · refine sim_seq ?_
      refine sim_region ?_
      refine simL_val (q_move rfl rfl) rfl rfl rfl ?_
      refine simL_val (q_move rfl rfl) rfl rfl rfl ?_
      refine simL_val (q_max rfl rfl rfl) rfl rfl rfl ?_
      refine simL_val (q_gtr rfl rfl rfl) rfl rfl rfl ?_
      refine simL_nil ?_
      refine nrm_then ?_
      refine sim_cond rfl (fun h8v => ?_) (fun h9v => ?_)
      · refine sim_region ?_
        refine simL_val (q_move rfl rfl) rfl rfl rfl ?_
        refine simL_val (q_nil rfl rfl) rfl rfl rfl ?_
        refine simL_val (q_fa rfl rfl Try.underlying45 rfl rfl Try.sizeOf3 rfl) rfl rfl rfl ?_
        refine simL_do (re_store 0 rfl rfl rfl Try.sizeOf3 rfl rfl (one_of (by rfl)) rfl rfl) rfl rfl ?_
        intro _
        refine simL_nil ?_
        exact nrm_cut (s := 3) () ⟨rfl, rfl, rfl, trivial⟩ (.sel 0 rfl (.sel 0 rfl (.sel 0 rfl (.nil _))))
      · refine sim_seq ?_
        refine sim_draw (Γ := Unit) () [[], [], [1], [1, 2], [1, 2, 3], [1, 2, 3, 4], [], [6], [6, 7], [6, 7, 8], [1, 2, 3, 4, 5, 6, 7, 8, 9], [0, 1, 2, 3, 4, 5, 6, 7, 8, 9, 10]] [] [0, 1, 2, 3, 4, 5, 6, 7, 8, 9, 10, 11] (fun i => [[0], [0], [0], [0], [0], [0], [0], [0], [0], [0], [0], [0]].getD i []) (fun i => [[], [], [], [], [], [], [], [], [], [], [], []].getD i []) (fun γ i => [.int .i64 s1v.1, .pointer (some ⟨b0, 0, none⟩), .pointer (some ⟨b0, 0, none⟩), .pointer (some ⟨b0, 0, none⟩), .slice y2v.1 s1v.2.1.length y2v.2, .int .i64 (s1v.2.1.length : Int), .pointer (some ⟨b0, 0, none⟩), .pointer (some ⟨b0, 0, none⟩), .pointer (some ⟨b0, 1, none⟩), .int .i64 s1v.2.2.1, .int .i64 (IntKind.i64.wrap ((s1v.2.1.length : Int) - s1v.2.2.1)), .bool (decide (IntKind.i64.wrap ((s1v.2.1.length : Int) - s1v.2.2.1) < s1v.1))].getD i undef) (fun j γ => [[obj b0 45 [.slice y2v.1 s1v.2.1.length y2v.2, .int .i64 s1v.2.2.1, .int .i64 s1v.2.2.2], Row 5 1 y2v.1 s1v.2.1.length y2v.2 (encB s1v.2.1), F]].getD j []) (fun γ => [(0, .pointer (some ⟨b0, 0, none⟩)), (5, .int .i64 x0_1), (6, .int .i64 s1v.1), (36, .bool (decide (IntKind.i64.wrap ((s1v.2.1.length : Int) - s1v.2.2.1) < s1v.1)))]) mixed (by decide) (by decide) (by decide) (by decide) (by decide) (by decide) (by decide) 74 rfl (by decide) (by decide) (by decide) (Ent.refl _) ?_ ?_ (fun _ => ⟨rfl, rfl, rfl, rfl, trivial⟩) ?_
        · exact (All.cons (fun γ => (All.cons (QOb.plain [(6, .int .i64 s1v.1)] rfl rfl (.o rfl (by decide) .nil) (q_move rfl rfl) rfl) All.nil)) (All.cons (fun γ => (All.cons (QOb.plain [(0, .pointer (some ⟨b0, 0, none⟩))] rfl rfl (.o rfl (by decide) .nil) (q_move rfl rfl) rfl) All.nil)) (All.cons (fun γ => (All.cons (QOb.plain [(26, .pointer (some ⟨b0, 0, none⟩))] rfl rfl (.w 1 rfl rfl rfl .nil) (q_nil rfl rfl) rfl) All.nil)) (All.cons (fun γ => (All.cons (QOb.plain [(27, .pointer (some ⟨b0, 0, none⟩))] rfl rfl (.w 2 rfl rfl rfl .nil) (q_fa rfl rfl Try.underlying45 rfl rfl Try.sizeOf23 rfl) rfl) All.nil)) (All.cons (fun γ => (All.cons (QOb.plain [(28, .pointer (some ⟨b0, 0, none⟩))] rfl rfl (.w 3 rfl rfl rfl .nil) (q_load rfl rfl Try.isAgg23 (.obj 0 rfl rfl)) rfl) All.nil)) (All.cons (fun γ => (All.cons (QOb.plain [(29, .slice y2v.1 s1v.2.1.length y2v.2)] rfl rfl (.w 4 rfl rfl rfl .nil) (q_len rfl rfl rfl Try.underlying23) rfl) All.nil)) (All.cons (fun γ => (All.cons (QOb.plain [(0, .pointer (some ⟨b0, 0, none⟩))] rfl rfl (.o rfl (by decide) .nil) (q_move rfl rfl) rfl) All.nil)) (All.cons (fun γ => (All.cons (QOb.plain [(31, .pointer (some ⟨b0, 0, none⟩))] rfl rfl (.w 6 rfl rfl rfl .nil) (q_nil rfl rfl) rfl) All.nil)) (All.cons (fun γ => (All.cons (QOb.plain [(32, .pointer (some ⟨b0, 0, none⟩))] rfl rfl (.w 7 rfl rfl rfl .nil) (q_fa rfl rfl Try.underlying45 rfl rfl Try.sizeOf3 rfl) rfl) All.nil)) (All.cons (fun γ => (All.cons (QOb.plain [(33, .pointer (some ⟨b0, 1, none⟩))] rfl rfl (.w 8 rfl rfl rfl .nil) (q_load rfl rfl Try.isAgg3 (.obj 0 rfl rfl)) rfl) All.nil)) (All.cons (fun γ => (All.cons (QOb.plain [(30, .int .i64 (s1v.2.1.length : Int)), (34, .int .i64 s1v.2.2.1)] rfl rfl (.w 5 rfl rfl rfl (.w 9 rfl rfl rfl .nil)) (q_sub rfl rfl rfl) rfl) All.nil)) (All.cons (fun γ => (All.cons (QOb.plain [(25, .int .i64 s1v.1), (35, .int .i64 (IntKind.i64.wrap ((s1v.2.1.length : Int) - s1v.2.2.1)))] rfl rfl (.w 0 rfl rfl rfl (.w 10 rfl rfl rfl .nil)) (q_gtr rfl rfl rfl) rfl) All.nil)) All.nil))))))))))))
        · exact All.nil
        · intro g10v
          refine nrm_then ?_
          refine sim_cond rfl (fun h11v => ?_) (fun h12v => ?_)
          · refine sim_region ?_
            refine simL_val (q_move rfl rfl) rfl rfl rfl ?_
            refine simL_val (q_nil rfl rfl) rfl rfl rfl ?_
            refine simL_val (q_fa rfl rfl Try.underlying45 rfl rfl Try.sizeOf3 rfl) rfl rfl rfl ?_
            refine simL_do (re_store 0 rfl rfl rfl Try.sizeOf3 rfl rfl (one_of (by rfl)) rfl rfl) rfl rfl ?_
            intro _
            refine simL_nil ?_
            exact nrm_cut (s := 2) () ⟨rfl, rfl, rfl, trivial⟩ (.sel 0 rfl (.sel 0 rfl (.sel 0 rfl (.nil _))))
          · refine sim_skip ?_
            exact nrm_cut (s := s1v.2.2.2) () ⟨rfl, rfl, rfl, trivial⟩ (.sel 0 rfl (.sel 0 rfl (.sel 0 rfl (.nil _))))
    · intro s6v y7v
      refine sim_seq ?_
      refine sim_seq ?_
      refine sim_region ?_
      refine simL_val (q_move rfl rfl) rfl rfl rfl ?_
      refine simL_val (q_nil rfl rfl) rfl rfl rfl ?_
      refine simL_val (q_fa rfl rfl Try.underlying45 rfl rfl Try.sizeOf3 rfl) rfl rfl rfl ?_
      refine simL_val (q_load rfl rfl Try.isAgg3 (.obj 0 rfl rfl)) rfl rfl rfl ?_
      refine simL_val (q_neq rfl rfl rfl) rfl rfl rfl ?_
      refine simL_nil ?_
      refine nrm_then ?_
      refine sim_condn rfl (fun h13v => ?_) (fun h14v => ?_)
      · refine sim_skip ?_
        refine nrm_then ?_
        refine sim_seq ?_
        refine sim_region ?_
        refine simL_val (q_move rfl rfl) rfl rfl rfl ?_
        refine simL_val (q_move rfl rfl) rfl rfl rfl ?_
        refine simL_val (q_nil rfl rfl) rfl rfl rfl ?_
        refine simL_val (q_fa rfl rfl Try.underlying45 rfl rfl Try.sizeOf3 rfl) rfl rfl rfl ?_
        refine simL_val (q_load rfl rfl Try.isAgg3 (.obj 0 rfl rfl)) rfl rfl rfl ?_
        refine simL_val (q_move rfl rfl) rfl rfl rfl ?_
        refine simL_val (q_add rfl rfl rfl) rfl rfl rfl ?_
        refine simL_val (q_nil rfl rfl) rfl rfl rfl ?_
        refine simL_val (q_fa rfl rfl Try.underlying45 rfl rfl Try.sizeOf3 rfl) rfl rfl rfl ?_
        refine simL_do (re_store 0 rfl rfl rfl Try.sizeOf3 rfl rfl (one_of (by rfl)) rfl rfl) rfl rfl ?_
        intro _
        refine simL_nil ?_
        refine nrm_then ?_
        refine sim_seq ?_
        refine sim_ask (fun hb15v => ?_)
        refine sim_lend 1 rfl (fun hq22v hq23v hq24v hq25v => ?_)
        obtain ⟨a16v, c17v, hS18v, hr19v, hc20v, hm21v⟩ := slice_pre (lo := IntKind.i64.wrap ((IntKind.i64.wrap (s1v.2.2.1 + s1v.1)) - s1v.1)) (hi := IntKind.i64.wrap (s1v.2.2.1 + s1v.1)) hq22v hq23v hb15v
        refine sim_bind (fun s26v hs28v => ?_)
        refine sim_draw (Γ := (Option Addr × Nat)) (none, 0) [[], [0], [0, 1], [0, 1, 2], [], [4], [4, 5], [4, 5, 6], [], [4, 5, 6, 7, 8], [], [10], [10, 11], [10, 11, 12], [0, 1, 2, 3, 4, 5, 6, 7, 8, 9, 10, 11, 12, 13], [0, 1, 2, 3, 4, 5, 6, 7, 8, 9, 10, 11, 12, 13, 14], [0, 1, 2, 3, 4, 5, 6, 7, 8, 9, 10, 11, 12, 13, 14, 15]] [15] [0, 1, 2, 3, 4, 5, 6, 7, 8, 9, 10, 11, 12, 13, 14, 16] (fun i => [[0], [0], [0], [0], [0], [0], [0], [0], [0], [0], [0], [0], [0], [0], [0], [], [1]].getD i []) (fun i => [[], [], [], [], [], [], [], [], [], [], [], [], [], [], [], [0, 1, 2, 3, 4, 5, 6, 7, 8, 9, 10, 11, 12, 13, 14], []].getD i []) (fun γ i => [.pointer (some ⟨b0, 0, none⟩), .pointer (some ⟨b0, 0, none⟩), .pointer (some ⟨b0, 0, none⟩), .slice y2v.1 s1v.2.1.length y2v.2, .pointer (some ⟨b0, 0, none⟩), .pointer (some ⟨b0, 0, none⟩), .pointer (some ⟨b0, 1, none⟩), .int .i64 (IntKind.i64.wrap (s1v.2.2.1 + s1v.1)), .int .i64 s1v.1, .int .i64 (IntKind.i64.wrap ((IntKind.i64.wrap (s1v.2.2.1 + s1v.1)) - s1v.1)), .pointer (some ⟨b0, 0, none⟩), .pointer (some ⟨b0, 0, none⟩), .pointer (some ⟨b0, 1, none⟩), .int .i64 (IntKind.i64.wrap (s1v.2.2.1 + s1v.1)), .slice a16v ((cut s1v.2.1 (IntKind.i64.wrap ((IntKind.i64.wrap (s1v.2.2.1 + s1v.1)) - s1v.1)) (IntKind.i64.wrap (s1v.2.2.1 + s1v.1))).length) c17v, .slice γ.1 s26v.length γ.2, .slice γ.1 s26v.length γ.2].getD i undef) (fun j γ => [[obj b0 45 [.slice y2v.1 s1v.2.1.length y2v.2, .int .i64 (IntKind.i64.wrap (s1v.2.2.1 + s1v.1)), .int .i64 s6v], Row 5 1 y2v.1 s1v.2.1.length y2v.2 (encB s1v.2.1), F], [Row 5 1 γ.1 s26v.length γ.2 (encB s26v), obj b0 45 [.slice y2v.1 s1v.2.1.length y2v.2, .int .i64 (IntKind.i64.wrap (s1v.2.2.1 + s1v.1)), .int .i64 s6v], Row 5 1 y2v.1 s1v.2.1.length y2v.2 (encB s1v.2.1), F]].getD j []) (fun γ => [(4, .slice γ.1 s26v.length γ.2)]) mixed (by decide) (by decide) (by decide) (by decide) (by decide) (by decide) (by decide) 74 rfl (by decide) (by decide) (by decide) (Ent.refl _) ?_ ?_ (fun _ => ⟨rfl, trivial⟩) ?_
        · exact (All.cons (fun γ => (All.cons (QOb.plain [(0, .pointer (some ⟨b0, 0, none⟩))] rfl rfl (.o rfl (by decide) .nil) (q_move rfl rfl) rfl) All.nil)) (All.cons (fun γ => (All.cons (QOb.plain [(58, .pointer (some ⟨b0, 0, none⟩))] rfl rfl (.w 0 rfl rfl rfl .nil) (q_nil rfl rfl) rfl) All.nil)) (All.cons (fun γ => (All.cons (QOb.plain [(59, .pointer (some ⟨b0, 0, none⟩))] rfl rfl (.w 1 rfl rfl rfl .nil) (q_fa rfl rfl Try.underlying45 rfl rfl Try.sizeOf23 rfl) rfl) All.nil)) (All.cons (fun γ => (All.cons (QOb.plain [(60, .pointer (some ⟨b0, 0, none⟩))] rfl rfl (.w 2 rfl rfl rfl .nil) (q_load rfl rfl Try.isAgg23 (.obj 0 rfl rfl)) rfl) All.nil)) (All.cons (fun γ => (All.cons (QOb.plain [(0, .pointer (some ⟨b0, 0, none⟩))] rfl rfl (.o rfl (by decide) .nil) (q_move rfl rfl) rfl) All.nil)) (All.cons (fun γ => (All.cons (QOb.plain [(62, .pointer (some ⟨b0, 0, none⟩))] rfl rfl (.w 4 rfl rfl rfl .nil) (q_nil rfl rfl) rfl) All.nil)) (All.cons (fun γ => (All.cons (QOb.plain [(63, .pointer (some ⟨b0, 0, none⟩))] rfl rfl (.w 5 rfl rfl rfl .nil) (q_fa rfl rfl Try.underlying45 rfl rfl Try.sizeOf3 rfl) rfl) All.nil)) (All.cons (fun γ => (All.cons (QOb.plain [(64, .pointer (some ⟨b0, 1, none⟩))] rfl rfl (.w 6 rfl rfl rfl .nil) (q_load rfl rfl Try.isAgg3 (.obj 0 rfl rfl)) rfl) All.nil)) (All.cons (fun γ => (All.cons (QOb.plain [(6, .int .i64 s1v.1)] rfl rfl (.o rfl (by decide) .nil) (q_move rfl rfl) rfl) All.nil)) (All.cons (fun γ => (All.cons (QOb.plain [(65, .int .i64 (IntKind.i64.wrap (s1v.2.2.1 + s1v.1))), (66, .int .i64 s1v.1)] rfl rfl (.w 7 rfl rfl rfl (.w 8 rfl rfl rfl .nil)) (q_sub rfl rfl rfl) rfl) All.nil)) (All.cons (fun γ => (All.cons (QOb.plain [(0, .pointer (some ⟨b0, 0, none⟩))] rfl rfl (.o rfl (by decide) .nil) (q_move rfl rfl) rfl) All.nil)) (All.cons (fun γ => (All.cons (QOb.plain [(68, .pointer (some ⟨b0, 0, none⟩))] rfl rfl (.w 10 rfl rfl rfl .nil) (q_nil rfl rfl) rfl) All.nil)) (All.cons (fun γ => (All.cons (QOb.plain [(69, .pointer (some ⟨b0, 0, none⟩))] rfl rfl (.w 11 rfl rfl rfl .nil) (q_fa rfl rfl Try.underlying45 rfl rfl Try.sizeOf3 rfl) rfl) All.nil)) (All.cons (fun γ => (All.cons (QOb.plain [(70, .pointer (some ⟨b0, 1, none⟩))] rfl rfl (.w 12 rfl rfl rfl .nil) (q_load rfl rfl Try.isAgg3 (.obj 0 rfl rfl)) rfl) All.nil)) (All.cons (fun γ => (All.cons (QOb.plain [(61, .slice y2v.1 s1v.2.1.length y2v.2), (67, .int .i64 (IntKind.i64.wrap ((IntKind.i64.wrap (s1v.2.2.1 + s1v.1)) - s1v.1))), (71, .int .i64 (IntKind.i64.wrap (s1v.2.2.1 + s1v.1)))] rfl rfl (.w 3 rfl rfl rfl (.w 9 rfl rfl rfl (.w 13 rfl rfl rfl .nil))) (q_sub_ro (lo' := IntKind.i64.wrap ((IntKind.i64.wrap (s1v.2.2.1 + s1v.1)) - s1v.1)) (hi' := IntKind.i64.wrap (s1v.2.2.1 + s1v.1)) rfl rfl rfl rfl Try.underlying23 Try.sizeOf5 (.inr ⟨_, rfl⟩) (.inr ⟨_, rfl⟩) hb15v hq23v hS18v) rfl) All.nil)) (All.cons (fun γ => (All.cons (QOb.plain [(73, .slice γ.1 s26v.length γ.2)] rfl rfl (.w 15 rfl rfl rfl .nil) (q_asg rfl rfl) rfl) All.nil)) All.nil))))))))))))))))
        · exact (All.cons (fun γ => EOb.mk (Z := Option Addr × Nat) [(72, .slice a16v ((cut s1v.2.1 (IntKind.i64.wrap ((IntKind.i64.wrap (s1v.2.2.1 + s1v.1)) - s1v.1)) (IntKind.i64.wrap (s1v.2.2.1 + s1v.1))).length) c17v)] (fun z => z) rfl rfl (.w 14 rfl rfl rfl .nil) (re_call (vs := [.slice a16v ((cut s1v.2.1 (IntKind.i64.wrap ((IntKind.i64.wrap (s1v.2.2.1 + s1v.1)) - s1v.1)) (IntKind.i64.wrap (s1v.2.2.1 + s1v.1))).length) c17v]) (cap := []) (A := []) (rst := [obj b0 45 [.slice y2v.1 s1v.2.1.length y2v.2, .int .i64 (IntKind.i64.wrap (s1v.2.2.1 + s1v.1)), .int .i64 s6v], Row 5 1 y2v.1 s1v.2.1.length y2v.2 (encB s1v.2.1), F]) rfl rfl rfl rfl rfl rfl Try.call21 (.sel 0 rfl (.sel 0 rfl (.sel 0 rfl (.nil _)))) (synodref_Bytes.calls _ _ a16v c17v (cut s1v.2.1 (IntKind.i64.wrap ((IntKind.i64.wrap (s1v.2.2.1 + s1v.1)) - s1v.1)) (IntKind.i64.wrap (s1v.2.2.1 + s1v.1))) (hr19v.lend 1 rfl) hc20v (Nat.le_trans hm21v hq24v)) hs28v) (fun _ => ⟨rfl, rfl, rfl, rfl, rfl, rfl, rfl, rfl, rfl, rfl, rfl, rfl, rfl, rfl, rfl, trivial⟩) (fun _ => .inr rfl) (fun z => Ent.refl _)) All.nil)
        · intro g29v
          refine nrm_then ?_
          refine sim_rtn ?_
          exact rtn_fn (g29v.1, g29v.2, y2v.1, y2v.2) rfl rfl rfl (.sel 0 rfl (.sel 0 rfl (.sel 0 rfl (.sel 0 rfl (.nil _)))))
      · refine sim_seq ?_
        refine sim_region ?_
        refine simL_val (q_move rfl rfl) rfl rfl rfl ?_
        refine simL_val (q_move rfl rfl) rfl rfl rfl ?_
        refine simL_val (q_nil rfl rfl) rfl rfl rfl ?_
        refine simL_val (q_fa rfl rfl Try.underlying45 rfl rfl Try.sizeOf3 rfl) rfl rfl rfl ?_
        refine simL_do (re_store 0 rfl rfl rfl Try.sizeOf3 rfl rfl (one_of (by rfl)) rfl rfl) rfl rfl ?_
        intro _
        refine simL_nil ?_
        refine nrm_then ?_
        refine sim_seq ?_
        refine sim_region ?_
        refine simL_val (q_asg rfl rfl) rfl rfl rfl ?_
        refine simL_nil ?_
        refine nrm_then ?_
        refine sim_rtn ?_
        refine rtn_then ?_
        exact rtn_fn (none, 0, y2v.1, y2v.2) rfl rfl rfl (.row_nil (.sel 0 rfl (.sel 0 rfl (.sel 0 rfl (.nil _)))))
  · refine sim_seq ?_
    refine sim_region ?_
    refine simL_val (q_asg rfl rfl) rfl rfl rfl ?_
    refine simL_nil ?_
    refine nrm_then ?_
    refine sim_rtn ?_
    refine rtn_then ?_
    exact rtn_fn (none, 0, y2v.1, y2v.2) rfl rfl rfl (.row_nil (.sel 0 rfl (.sel 0 rfl (.sel 0 rfl (.nil _)))))

def synodref1_Reader_Text.f (k : Nat) (x0_0 : List UInt8) (x0_1 : Int) (x0_2 : Int) (x1 : Int) : Option (List UInt8 × List UInt8 × Int × Int) := (synodref1_Reader_Bytes.f k x0_0 x0_1 x0_2 x1).bind fun s1v => (some (s1v.1, s1v.2.1, s1v.2.2.1, s1v.2.2.2))
theorem synodref1_Reader_Text.calls (W : World) (F : HA) (k : Nat) (b0 : Nat) (a0_0 : Option Addr) (c0_0 : Nat) (x0_0 : List UInt8) (x0_1 : Int) (x0_2 : Int) (x1 : Int)  :
    Fn Try.prog W 52 [.pointer (some ⟨b0, 0, none⟩), .int .i64 x1] [obj b0 45 [.slice a0_0 x0_0.length c0_0, .int .i64 x0_1, .int .i64 x0_2], Row 5 1 a0_0 x0_0.length c0_0 (encB x0_0)] F (synodref1_Reader_Text.f k x0_0 x0_1 x0_2 x1) (fun (r : List UInt8 × List UInt8 × Int × Int) (y : Option Addr × Nat) => str r.1) (fun r y => [obj b0 45 [.slice y.1 r.2.1.length y.2, .int .i64 r.2.2.1, .int .i64 r.2.2.2], Row 5 1 y.1 r.2.1.length y.2 (encB r.2.1)]) := by
  unfold synodref1_Reader_Text.f
  refine fn_intro 9 Try.func52 rfl Try.ntmps52 rfl ?_
  refine sim_seq ?_
  refine sim_region ?_
  refine simL_val (q_asg rfl rfl) rfl rfl rfl ?_
  refine simL_nil ?_
  refine nrm_then ?_
  refine sim_seq ?_
  refine sim_region ?_
  refine simL_val (q_move rfl rfl) rfl rfl rfl ?_
  refine simL_val (q_move rfl rfl) rfl rfl rfl ?_
  refine simL_bind (fun s1v hs3v => ?_)
  refine simL_eff (re_call (vs := [.pointer (some ⟨b0, 0, none⟩), .int .i64 x1]) (cap := []) (A := [obj b0 45 [.slice a0_0 x0_0.length c0_0, .int .i64 x0_1, .int .i64 x0_2], Row 5 1 a0_0 x0_0.length c0_0 (encB x0_0)]) (rst := [F]) rfl rfl rfl rfl rfl rfl Try.call51 (.sel 0 rfl (.sel 0 rfl (.sel 0 rfl (.nil _)))) (synodref1_Reader_Bytes.calls _ _ k b0 a0_0 c0_0 x0_0 x0_1 x0_2 x1 ) hs3v) rfl rfl rfl ?_
  intro y2v
  refine simL_val (q_tostr rfl rfl Try.underlying23 Try.underlying5 Try.underlying9 (Rds.row 0 rfl) rfl) rfl rfl rfl ?_
  refine simL_val (q_asg rfl rfl) rfl rfl rfl ?_
  refine simL_nil ?_
  refine nrm_then ?_
  refine sim_rtn ?_
  exact rtn_fn (y2v.2.2.1, y2v.2.2.2) rfl rfl rfl (.sel 1 rfl (.sel 1 rfl (.sel 1 rfl (.nil _))))

def synodlaw1_asked.l0 : Nat → List UInt8 → Int → Option (Unit)
  | 0, _, _ => none
  | k + 1, z41v, z42v => if z42v < (z41v.length : Int) then (if 0 ≤ z42v ∧ z42v < (z41v.length : Int) then (synodlaw1_asked.l0 k (z41v.set z42v.toNat 9) (IntKind.i64.wrap (z42v + 1))) else none) else (some ())
def synodlaw1_asked.f (k : Nat) (x0_0 : List UInt8) (x0_1 : Int) (x0_2 : Int) (x1_0 : List UInt8) (x1_1 : Int) (x1_2 : Int) (x2_0 : Int) (x2_1 : Int) : Option (Bool × List UInt8 × Int × Int × List UInt8 × Int × Int) := if x2_0 = (0 : Int) then ((wire_Reader_Int.f k x0_0 x0_1 x0_2).bind fun s4v => ((synodref1_Reader_Int.f k x1_0 x1_1 x1_2).bind fun s7v => (some (decide (s4v.1 = s7v.1), s4v.2.1, s4v.2.2.1, s4v.2.2.2, s7v.2.1, s7v.2.2.1, s7v.2.2.2)))) else (if x2_0 = (1 : Int) then ((wire_Reader_Bool.f k x0_0 x0_1 x0_2).bind fun s12v => ((synodref1_Reader_Bool.f k x1_0 x1_1 x1_2).bind fun s15v => (some (s12v.1 == s15v.1, s12v.2.1, s12v.2.2.1, s12v.2.2.2, s15v.2.1, s15v.2.2.1, s15v.2.2.2)))) else (if x2_0 = (2 : Int) then ((wire_Reader_Bytes.f k x0_0 x0_1 x0_2 x2_1).bind fun s20v => ((synodref1_Reader_Bytes.f k x1_0 x1_1 x1_2 x2_1).bind fun s23v => ((synodref_SameBytes.f k s20v.1 s23v.1).bind fun s34v => ((synodlaw1_asked.l0 k s20v.1 0).bind fun s37v => (some (s34v, s20v.2.1, s20v.2.2.1, s20v.2.2.2, s23v.2.1, s23v.2.2.1, s23v.2.2.2)))))) else (if x2_0 = (3 : Int) then ((wire_Reader_Text.f k x0_0 x0_1 x0_2 x2_1).bind fun s52v => ((synodref1_Reader_Text.f k x1_0 x1_1 x1_2 x2_1).bind fun s55v => (some (decide (s52v.1 = s55v.1), s52v.2.1, s52v.2.2.1, s52v.2.2.2, s55v.2.1, s55v.2.2.1, s55v.2.2.2)))) else (some (true, x0_0, x0_1, x0_2, x1_0, x1_1, x1_2)))))
theorem synodlaw1_asked.calls (W : World) (F : HA) (k : Nat) (b0 : Nat) (a0_0 : Option Addr) (c0_0 : Nat) (x0_0 : List UInt8) (x0_1 : Int) (x0_2 : Int) (b1 : Nat) (a1_0 : Option Addr) (c1_0 : Nat) (x1_0 : List UInt8) (x1_1 : Int) (x1_2 : Int) (x2_0 : Int) (x2_1 : Int)  :
    Fn Try.prog W 23 [.pointer (some ⟨b0, 0, none⟩), .pointer (some ⟨b1, 0, none⟩), .agg #[.int .i64 x2_0, .int .i64 x2_1]] [obj b0 78 [.slice a0_0 x0_0.length c0_0, .int .i64 x0_1, .int .i64 x0_2], Row 5 1 a0_0 x0_0.length c0_0 (encB x0_0), obj b1 45 [.slice a1_0 x1_0.length c1_0, .int .i64 x1_1, .int .i64 x1_2], Row 5 1 a1_0 x1_0.length c1_0 (encB x1_0)] F (synodlaw1_asked.f k x0_0 x0_1 x0_2 x1_0 x1_1 x1_2 x2_0 x2_1) (fun (r : Bool × List UInt8 × Int × Int × List UInt8 × Int × Int) (y : Option Addr × Nat × Option Addr × Nat) => .bool r.1) (fun r y => [obj b0 78 [.slice y.1 r.2.1.length y.2.1, .int .i64 r.2.2.1, .int .i64 r.2.2.2.1], Row 5 1 y.1 r.2.1.length y.2.1 (encB r.2.1), obj b1 45 [.slice y.2.2.1 r.2.2.2.2.1.length y.2.2.2, .int .i64 r.2.2.2.2.2.1, .int .i64 r.2.2.2.2.2.2], Row 5 1 y.2.2.1 r.2.2.2.2.1.length y.2.2.2 (encB r.2.2.2.2.1)]) := by
  unfold synodlaw1_asked.f
  refine fn_intro 59 Try.func23 rfl Try.ntmps23 rfl ?_
  refine sim_seq ?_
  refine sim_region ?_
  refine simL_eff (re_box rfl rfl rfl) rfl rfl rfl ?_
  intro b1v
  refine simL_val (q_asg rfl rfl) rfl rfl rfl ?_
  refine simL_nil ?_
  refine nrm_then ?_
  refine sim_seq ?_
  refine sim_seq ?_
  refine sim_region ?_
  refine simL_val (q_fa rfl rfl Try.underlying48 rfl rfl Try.sizeOf3 rfl) rfl rfl rfl ?_
  refine simL_val (q_load rfl rfl Try.isAgg3 (.obj 0 rfl rfl)) rfl rfl rfl ?_
  refine simL_nil ?_
  refine nrm_then ?_
  refine sim_block ?_
  refine sim_seq ?_
  refine sim_region ?_
  refine simL_val (q_eql rfl rfl rfl) rfl rfl rfl ?_
  refine simL_val (q_asg rfl rfl) rfl rfl rfl ?_
  refine simL_nil ?_
  refine nrm_then ?_
  refine sim_cond rfl (fun h2v => ?_) (fun h3v => ?_)
  · refine sim_seq ?_
    refine sim_region ?_
    refine simL_val (q_move rfl rfl) rfl rfl rfl ?_
    refine simL_bind (fun s4v hs6v => ?_)
    refine simL_eff (re_call (vs := [.pointer (some ⟨b0, 0, none⟩)]) (cap := []) (A := [obj b0 78 [.slice a0_0 x0_0.length c0_0, .int .i64 x0_1, .int .i64 x0_2], Row 5 1 a0_0 x0_0.length c0_0 (encB x0_0)]) (rst := [obj b1v 48 [.int .i64 x2_0, .int .i64 x2_1], obj b1 45 [.slice a1_0 x1_0.length c1_0, .int .i64 x1_1, .int .i64 x1_2], Row 5 1 a1_0 x1_0.length c1_0 (encB x1_0), F]) rfl rfl rfl rfl rfl rfl Try.call43 (.sel 1 rfl (.sel 1 rfl (.sel 0 rfl (.sel 0 rfl (.sel 0 rfl (.sel 0 rfl (.nil _))))))) (wire_Reader_Int.calls _ _ k b0 a0_0 c0_0 x0_0 x0_1 x0_2 ) hs6v) rfl rfl rfl ?_
    intro y5v
    refine simL_val (q_move rfl rfl) rfl rfl rfl ?_
    refine simL_bind (fun s7v hs9v => ?_)
    refine simL_eff (re_call (vs := [.pointer (some ⟨b1, 0, none⟩)]) (cap := []) (A := [obj b1 45 [.slice a1_0 x1_0.length c1_0, .int .i64 x1_1, .int .i64 x1_2], Row 5 1 a1_0 x1_0.length c1_0 (encB x1_0)]) (rst := [obj b0 78 [.slice y5v.1 s4v.2.1.length y5v.2, .int .i64 s4v.2.2.1, .int .i64 s4v.2.2.2], Row 5 1 y5v.1 s4v.2.1.length y5v.2 (encB s4v.2.1), obj b1v 48 [.int .i64 x2_0, .int .i64 x2_1], F]) rfl rfl rfl rfl rfl rfl Try.call49 (.sel 3 rfl (.sel 3 rfl (.sel 0 rfl (.sel 0 rfl (.sel 0 rfl (.sel 0 rfl (.nil _))))))) (synodref1_Reader_Int.calls _ _ k b1 a1_0 c1_0 x1_0 x1_1 x1_2 ) hs9v) rfl rfl rfl ?_
    intro y8v
    refine simL_val (q_eql rfl rfl rfl) rfl rfl rfl ?_
    refine simL_val (q_asg rfl rfl) rfl rfl rfl ?_
    refine simL_nil ?_
    refine nrm_then ?_
    refine sim_rtn ?_
    refine rtn_block ?_
    refine rtn_then ?_
    exact rtn_fn (y5v.1, y5v.2, y8v.1, y8v.2) rfl rfl rfl (.sel 2 rfl (.sel 2 rfl (.sel 0 rfl (.sel 0 rfl (.sel 1 rfl (.nil _))))))
  · refine sim_seq ?_
    refine sim_region ?_
    refine simL_val (q_eql rfl rfl rfl) rfl rfl rfl ?_
    refine simL_val (q_asg rfl rfl) rfl rfl rfl ?_
    refine simL_nil ?_
    refine nrm_then ?_
    refine sim_cond rfl (fun h10v => ?_) (fun h11v => ?_)
    · refine sim_seq ?_
      refine sim_region ?_
      refine simL_val (q_move rfl rfl) rfl rfl rfl ?_
      refine simL_bind (fun s12v hs14v => ?_)
      refine simL_eff (re_call (vs := [.pointer (some ⟨b0, 0, none⟩)]) (cap := []) (A := [obj b0 78 [.slice a0_0 x0_0.length c0_0, .int .i64 x0_1, .int .i64 x0_2], Row 5 1 a0_0 x0_0.length c0_0 (encB x0_0)]) (rst := [obj b1v 48 [.int .i64 x2_0, .int .i64 x2_1], obj b1 45 [.slice a1_0 x1_0.length c1_0, .int .i64 x1_1, .int .i64 x1_2], Row 5 1 a1_0 x1_0.length c1_0 (encB x1_0), F]) rfl rfl rfl rfl rfl rfl Try.call44 (.sel 1 rfl (.sel 1 rfl (.sel 0 rfl (.sel 0 rfl (.sel 0 rfl (.sel 0 rfl (.nil _))))))) (wire_Reader_Bool.calls _ _ k b0 a0_0 c0_0 x0_0 x0_1 x0_2 ) hs14v) rfl rfl rfl ?_
      intro y13v
      refine simL_val (q_move rfl rfl) rfl rfl rfl ?_
      refine simL_bind (fun s15v hs17v => ?_)
      refine simL_eff (re_call (vs := [.pointer (some ⟨b1, 0, none⟩)]) (cap := []) (A := [obj b1 45 [.slice a1_0 x1_0.length c1_0, .int .i64 x1_1, .int .i64 x1_2], Row 5 1 a1_0 x1_0.length c1_0 (encB x1_0)]) (rst := [obj b0 78 [.slice y13v.1 s12v.2.1.length y13v.2, .int .i64 s12v.2.2.1, .int .i64 s12v.2.2.2], Row 5 1 y13v.1 s12v.2.1.length y13v.2 (encB s12v.2.1), obj b1v 48 [.int .i64 x2_0, .int .i64 x2_1], F]) rfl rfl rfl rfl rfl rfl Try.call50 (.sel 3 rfl (.sel 3 rfl (.sel 0 rfl (.sel 0 rfl (.sel 0 rfl (.sel 0 rfl (.nil _))))))) (synodref1_Reader_Bool.calls _ _ k b1 a1_0 c1_0 x1_0 x1_1 x1_2 ) hs17v) rfl rfl rfl ?_
      intro y16v
      refine simL_val (q_eqb rfl rfl rfl Try.underlying4) rfl rfl rfl ?_
      refine simL_val (q_asg rfl rfl) rfl rfl rfl ?_
      refine simL_nil ?_
      refine nrm_then ?_
      refine sim_rtn ?_
      refine rtn_block ?_
      refine rtn_then ?_
      exact rtn_fn (y13v.1, y13v.2, y16v.1, y16v.2) rfl rfl rfl (.sel 2 rfl (.sel 2 rfl (.sel 0 rfl (.sel 0 rfl (.sel 1 rfl (.nil _))))))
    · refine sim_seq ?_
      refine sim_region ?_
      refine simL_val (q_eql rfl rfl rfl) rfl rfl rfl ?_
      refine simL_val (q_asg rfl rfl) rfl rfl rfl ?_
      refine simL_nil ?_
      refine nrm_then ?_
      refine sim_cond rfl (fun h18v => ?_) (fun h19v => ?_)
      · refine sim_seq ?_
        refine sim_region ?_
        refine simL_val (q_move rfl rfl) rfl rfl rfl ?_
        refine simL_val (q_fa rfl rfl Try.underlying48 rfl rfl Try.sizeOf3 rfl) rfl rfl rfl ?_
        refine simL_val (q_load rfl rfl Try.isAgg3 (.obj 0 rfl rfl)) rfl rfl rfl ?_
        refine simL_bind (fun s20v hs22v => ?_)
        refine simL_eff (re_call (vs := [.pointer (some ⟨b0, 0, none⟩), .int .i64 x2_1]) (cap := []) (A := [obj b0 78 [.slice a0_0 x0_0.length c0_0, .int .i64 x0_1, .int .i64 x0_2], Row 5 1 a0_0 x0_0.length c0_0 (encB x0_0)]) (rst := [obj b1v 48 [.int .i64 x2_0, .int .i64 x2_1], obj b1 45 [.slice a1_0 x1_0.length c1_0, .int .i64 x1_1, .int .i64 x1_2], Row 5 1 a1_0 x1_0.length c1_0 (encB x1_0), F]) rfl rfl rfl rfl rfl rfl Try.call45 (.sel 1 rfl (.sel 1 rfl (.sel 0 rfl (.sel 0 rfl (.sel 0 rfl (.sel 0 rfl (.nil _))))))) (wire_Reader_Bytes.calls _ _ k b0 a0_0 c0_0 x0_0 x0_1 x0_2 x2_1 ) hs22v) rfl rfl rfl ?_
        intro y21v
        refine simL_val (q_asg rfl rfl) rfl rfl rfl ?_
        refine simL_nil ?_
        refine nrm_then ?_
        refine sim_seq ?_
        refine sim_region ?_
        refine simL_val (q_move rfl rfl) rfl rfl rfl ?_
        refine simL_val (q_move rfl rfl) rfl rfl rfl ?_
        refine simL_val (q_fa rfl rfl Try.underlying48 rfl rfl Try.sizeOf3 rfl) rfl rfl rfl ?_
        refine simL_val (q_load rfl rfl Try.isAgg3 (.obj 3 rfl rfl)) rfl rfl rfl ?_
        refine simL_bind (fun s23v hs25v => ?_)
        refine simL_eff (re_call (vs := [.pointer (some ⟨b1, 0, none⟩), .int .i64 x2_1]) (cap := []) (A := [obj b1 45 [.slice a1_0 x1_0.length c1_0, .int .i64 x1_1, .int .i64 x1_2], Row 5 1 a1_0 x1_0.length c1_0 (encB x1_0)]) (rst := [Row 5 1 y21v.1 s20v.1.length y21v.2.1 (encB s20v.1), obj b0 78 [.slice y21v.2.2.1 s20v.2.1.length y21v.2.2.2, .int .i64 s20v.2.2.1, .int .i64 s20v.2.2.2], Row 5 1 y21v.2.2.1 s20v.2.1.length y21v.2.2.2 (encB s20v.2.1), obj b1v 48 [.int .i64 x2_0, .int .i64 x2_1], F]) rfl rfl rfl rfl rfl rfl Try.call51 (.sel 4 rfl (.sel 4 rfl (.sel 0 rfl (.sel 0 rfl (.sel 0 rfl (.sel 0 rfl (.sel 0 rfl (.nil _)))))))) (synodref1_Reader_Bytes.calls _ _ k b1 a1_0 c1_0 x1_0 x1_1 x1_2 x2_1 ) hs25v) rfl rfl rfl ?_
        intro y24v
        refine simL_bind (fun s34v hs36v => ?_)
        refine simL_lend 3 rfl (fun hq26v hq27v hq28v hq29v => ?_)
        refine simL_lend 0 rfl (fun hq30v hq31v hq32v hq33v => ?_)
        refine simL_eff (re_call (vs := [.slice y21v.1 s20v.1.length y21v.2.1, .slice y24v.1 s23v.1.length y24v.2.1]) (cap := []) (A := []) (rst := [Row 5 1 y24v.1 s23v.1.length y24v.2.1 (encB s23v.1), obj b1 45 [.slice y24v.2.2.1 s23v.2.1.length y24v.2.2.2, .int .i64 s23v.2.2.1, .int .i64 s23v.2.2.2], Row 5 1 y24v.2.2.1 s23v.2.1.length y24v.2.2.2 (encB s23v.2.1), Row 5 1 y21v.1 s20v.1.length y21v.2.1 (encB s20v.1), obj b0 78 [.slice y21v.2.2.1 s20v.2.1.length y21v.2.2.2, .int .i64 s20v.2.2.1, .int .i64 s20v.2.2.2], Row 5 1 y21v.2.2.1 s20v.2.1.length y21v.2.2.2 (encB s20v.2.1), obj b1v 48 [.int .i64 x2_0, .int .i64 x2_1], F]) rfl rfl rfl rfl rfl rfl Try.call13 (.sel 0 rfl (.sel 0 rfl (.sel 0 rfl (.sel 0 rfl (.sel 0 rfl (.sel 0 rfl (.sel 0 rfl (.sel 0 rfl (.nil _))))))))) (synodref_SameBytes.calls _ _ k y21v.1 y21v.2.1 s20v.1 y24v.1 y24v.2.1 s23v.1 (hq26v.lend 3 rfl) hq27v hq28v (hq30v.lend 0 rfl) hq31v hq32v) hs36v) rfl rfl rfl ?_
        intro y35v
        refine simL_val (q_asg rfl rfl) rfl rfl rfl ?_
        refine simL_nil ?_
        refine nrm_then ?_
        refine sim_cut (S := Unit) (Unit) (fun s y => [(8, .bool s34v)]) (fun s y => [obj b1 45 [.slice y24v.2.2.1 s23v.2.1.length y24v.2.2.2, .int .i64 s23v.2.2.1, .int .i64 s23v.2.2.2], obj b0 78 [.slice y21v.2.2.1 s20v.2.1.length y21v.2.2.2, .int .i64 s20v.2.2.1, .int .i64 s20v.2.2.2], Row 5 1 y24v.2.2.1 s23v.2.1.length y24v.2.2.2 (encB s23v.2.1), Row 5 1 y21v.2.2.1 s20v.2.1.length y21v.2.2.2 (encB s20v.2.1), F]) ?_ ?_
        · refine sim_seq ?_
          refine sim_region ?_
          refine simL_val (q_asg rfl rfl) rfl rfl rfl ?_
          refine simL_nil ?_
          refine nrm_then ?_
          refine sim_block ?_
          refine sim_loop (S := List UInt8 × Int) (Unit) (fun k s => synodlaw1_asked.l0 k s.1 s.2) (fun s y => [(7, .slice y21v.1 s.1.length y21v.2.1), (8, .bool s34v), (9, .int .i64 s.2)]) (fun s y => [obj b1 45 [.slice y24v.2.2.1 s23v.2.1.length y24v.2.2.2, .int .i64 s23v.2.2.1, .int .i64 s23v.2.2.2], obj b0 78 [.slice y21v.2.2.1 s20v.2.1.length y21v.2.2.2, .int .i64 s20v.2.2.1, .int .i64 s20v.2.2.2], Row 5 1 y21v.1 s.1.length y21v.2.1 (encB s.1), Row 5 1 y24v.2.2.1 s23v.2.1.length y24v.2.2.2 (encB s23v.2.1), Row 5 1 y21v.2.2.1 s20v.2.1.length y21v.2.2.2 (encB s20v.2.1), F]) (fun _ => by rw [synodlaw1_asked.l0]) ?_ k (s20v.1, 0) () ⟨rfl, rfl, rfl, trivial⟩ (.sel 1 rfl (.sel 3 rfl (.sel 2 rfl (.sel 1 rfl (.sel 1 rfl (.sel 2 rfl (.nil _)))))))
          intro k s39v y40v
          refine sim_eq (by rw [synodlaw1_asked.l0]) ?_
          refine sim_seq ?_
          refine sim_seq ?_
          refine sim_region ?_
          refine simL_val (q_move rfl rfl) rfl rfl rfl ?_
          refine simL_val (q_move rfl rfl) rfl rfl rfl ?_
          refine simL_val (q_len rfl rfl rfl Try.underlying23) rfl rfl rfl ?_
          refine simL_val (q_lss rfl rfl rfl) rfl rfl rfl ?_
          refine simL_nil ?_
          refine nrm_then ?_
          refine sim_cond rfl (fun h43v => ?_) (fun h44v => ?_)
          · refine sim_skip ?_
            refine nrm_then ?_
            refine sim_seq ?_
            refine sim_block ?_
            refine sim_region ?_
            refine simL_val (q_move rfl rfl) rfl rfl rfl ?_
            refine simL_val (q_move rfl rfl) rfl rfl rfl ?_
            refine simL_ask (fun hi45v => ?_)
            refine simL_row 2 rfl (encB_ne (j := s39v.2.toNat) (by omega)) (fun b46v b46vo ha47v => ?_)
            refine simL_val (q_idx1 rfl rfl rfl ha47v Try.underlying23 Try.sizeOf5 hi45v.1 hi45v.2) rfl rfl rfl ?_
            refine simL_do (re_storeb 9 2 rfl rfl rfl Try.sizeOf5 rfl ha47v hi45v.2 hi45v.1 rfl) rfl rfl ?_
            intro _
            refine simL_ren (.slice y21v.1 ((s39v.1.set s39v.2.toNat 9).length) y21v.2.1) (d := 7) rfl (slc_len (by simp)) ?_
            refine simL_ren (.slice y21v.1 ((s39v.1.set s39v.2.toNat 9).length) y21v.2.1) (d := 39) rfl (slc_len (by simp)) ?_
            refine simL_ren (.slice y21v.1 ((s39v.1.set s39v.2.toNat 9).length) y21v.2.1) (d := 44) rfl (slc_len (by simp)) ?_
            refine simL_nil ?_
            refine nrm_block ?_
            refine nrm_then ?_
            refine sim_region ?_
            refine simL_val (q_move rfl rfl) rfl rfl rfl ?_
            refine simL_val (q_add rfl rfl rfl) rfl rfl rfl ?_
            refine simL_val (q_asg rfl rfl) rfl rfl rfl ?_
            refine simL_nil ?_
            exact nrm_again (s := (s39v.1.set s39v.2.toNat 9, IntKind.i64.wrap (s39v.2 + 1))) () ⟨rfl, rfl, rfl, trivial⟩ (.sel 0 rfl (.sel 0 rfl (.sel 0 rfl (.sel 0 rfl (.sel 0 rfl (.sel 0 rfl (.nil _)))))))
          · refine sim_exi ?_
            refine exi_then ?_
            refine exi_loop ?_
            refine exi_here ?_
            exact nrm_cut (s := ()) () ⟨rfl, trivial⟩ (.sel 0 rfl (.sel 0 rfl (.sel 1 rfl (.sel 1 rfl (.sel 1 rfl (.nil _))))))
        · intro s37v y38v
          refine sim_seq ?_
          refine sim_region ?_
          refine simL_val (q_move rfl rfl) rfl rfl rfl ?_
          refine simL_val (q_asg rfl rfl) rfl rfl rfl ?_
          refine simL_nil ?_
          refine nrm_then ?_
          refine sim_rtn ?_
          refine rtn_block ?_
          refine rtn_then ?_
          exact rtn_fn (y21v.2.2.1, y21v.2.2.2, y24v.2.2.1, y24v.2.2.2) rfl rfl rfl (.sel 1 rfl (.sel 2 rfl (.sel 0 rfl (.sel 0 rfl (.sel 0 rfl (.nil _))))))
      · refine sim_seq ?_
        refine sim_region ?_
        refine simL_val (q_eql rfl rfl rfl) rfl rfl rfl ?_
        refine simL_val (q_asg rfl rfl) rfl rfl rfl ?_
        refine simL_nil ?_
        refine nrm_then ?_
        refine sim_cond rfl (fun h50v => ?_) (fun h51v => ?_)
        · refine sim_seq ?_
          refine sim_bind (fun s52v hs54v => ?_)
          refine sim_bind (fun s55v hs57v => ?_)
          refine sim_draw (Γ := (Option Addr × Nat) × (Option Addr × Nat)) ((none, 0), (none, 0)) [[], [], [1], [0, 1, 2], [], [], [5], [0, 1, 2, 3, 4, 5, 6], [0, 1, 2, 3, 4, 5, 6, 7], [0, 1, 2, 3, 4, 5, 6, 7, 8]] [3, 7] [0, 1, 2, 4, 5, 6, 8, 9] (fun i => [[0], [0], [0], [], [0, 1], [0, 1], [0, 1], [], [2], [2]].getD i []) (fun i => [[], [], [], [0, 1, 2, 4, 5, 6], [], [], [], [0, 1, 2, 3, 4, 5, 6], [], []].getD i []) (fun γ i => [.pointer (some ⟨b0, 0, none⟩), .pointer (some ⟨b1v, 1, none⟩), .int .i64 x2_1, str s52v.1, .pointer (some ⟨b1, 0, none⟩), .pointer (some ⟨b1v, 1, none⟩), .int .i64 x2_1, str s55v.1, .bool (decide (s52v.1 = s55v.1)), .bool (decide (s52v.1 = s55v.1))].getD i undef) (fun j γ => [[obj b1v 48 [.int .i64 x2_0, .int .i64 x2_1], obj b0 78 [.slice a0_0 x0_0.length c0_0, .int .i64 x0_1, .int .i64 x0_2], Row 5 1 a0_0 x0_0.length c0_0 (encB x0_0), obj b1 45 [.slice a1_0 x1_0.length c1_0, .int .i64 x1_1, .int .i64 x1_2], Row 5 1 a1_0 x1_0.length c1_0 (encB x1_0), F], [obj b0 78 [.slice γ.1.1 s52v.2.1.length γ.1.2, .int .i64 s52v.2.2.1, .int .i64 s52v.2.2.2], Row 5 1 γ.1.1 s52v.2.1.length γ.1.2 (encB s52v.2.1), obj b1v 48 [.int .i64 x2_0, .int .i64 x2_1], obj b1 45 [.slice a1_0 x1_0.length c1_0, .int .i64 x1_1, .int .i64 x1_2], Row 5 1 a1_0 x1_0.length c1_0 (encB x1_0), F], [obj b1 45 [.slice γ.2.1 s55v.2.1.length γ.2.2, .int .i64 s55v.2.2.1, .int .i64 s55v.2.2.2], Row 5 1 γ.2.1 s55v.2.1.length γ.2.2 (encB s55v.2.1), obj b0 78 [.slice γ.1.1 s52v.2.1.length γ.1.2, .int .i64 s52v.2.2.1, .int .i64 s52v.2.2.2], Row 5 1 γ.1.1 s52v.2.1.length γ.1.2 (encB s52v.2.1), obj b1v 48 [.int .i64 x2_0, .int .i64 x2_1], F]].getD j []) (fun γ => [(6, .bool (decide (s52v.1 = s55v.1)))]) mixed (by decide) (by decide) (by decide) (by decide) (by decide) (by decide) (by decide) 59 rfl (by decide) (by decide) (by decide) (Ent.refl _) ?_ ?_ (fun _ => ⟨rfl, trivial⟩) ?_
          · exact (All.cons (fun γ => (All.cons (QOb.plain [(0, .pointer (some ⟨b0, 0, none⟩))] rfl rfl (.o rfl (by decide) .nil) (q_move rfl rfl) rfl) All.nil)) (All.cons (fun γ => (All.cons (QOb.plain [(5, .pointer (some ⟨b1v, 0, none⟩))] rfl rfl (.o rfl (by decide) .nil) (q_fa rfl rfl Try.underlying48 rfl rfl Try.sizeOf3 rfl) rfl) All.nil)) (All.cons (fun γ => (All.cons (QOb.plain [(51, .pointer (some ⟨b1v, 1, none⟩))] rfl rfl (.w 1 rfl rfl rfl .nil) (q_load rfl rfl Try.isAgg3 (.obj 0 rfl rfl)) rfl) All.nil)) (All.cons (fun γ => (All.cons (QOb.plain [(1, .pointer (some ⟨b1, 0, none⟩))] rfl rfl (.o rfl (by decide) .nil) (q_move rfl rfl) rfl) (All.cons (QOb.plain [(1, .pointer (some ⟨b1, 0, none⟩))] rfl rfl (.o rfl (by decide) .nil) (q_move rfl rfl) rfl) All.nil))) (All.cons (fun γ => (All.cons (QOb.plain [(5, .pointer (some ⟨b1v, 0, none⟩))] rfl rfl (.o rfl (by decide) .nil) (q_fa rfl rfl Try.underlying48 rfl rfl Try.sizeOf3 rfl) rfl) (All.cons (QOb.plain [(5, .pointer (some ⟨b1v, 0, none⟩))] rfl rfl (.o rfl (by decide) .nil) (q_fa rfl rfl Try.underlying48 rfl rfl Try.sizeOf3 rfl) rfl) All.nil))) (All.cons (fun γ => (All.cons (QOb.plain [(55, .pointer (some ⟨b1v, 1, none⟩))] rfl rfl (.w 5 rfl rfl rfl .nil) (q_load rfl rfl Try.isAgg3 (.obj 0 rfl rfl)) rfl) (All.cons (QOb.plain [(55, .pointer (some ⟨b1v, 1, none⟩))] rfl rfl (.w 5 rfl rfl rfl .nil) (q_load rfl rfl Try.isAgg3 (.obj 2 rfl rfl)) rfl) All.nil))) (All.cons (fun γ => (All.cons (QOb.plain [(53, str s52v.1), (57, str s55v.1)] rfl rfl (.w 3 rfl rfl rfl (.w 7 rfl rfl rfl .nil)) (q_eqs rfl rfl rfl) rfl) All.nil)) (All.cons (fun γ => (All.cons (QOb.plain [(58, .bool (decide (s52v.1 = s55v.1)))] rfl rfl (.w 8 rfl rfl rfl .nil) (q_asg rfl rfl) rfl) All.nil)) All.nil))))))))
          · exact (All.cons (fun γ => EOb.mk (Z := Option Addr × Nat) [(50, .pointer (some ⟨b0, 0, none⟩)), (52, .int .i64 x2_1)] (fun z => (z, γ.2)) rfl rfl (.w 0 rfl rfl rfl (.w 2 rfl rfl rfl .nil)) (re_call (vs := [.pointer (some ⟨b0, 0, none⟩), .int .i64 x2_1]) (cap := []) (A := [obj b0 78 [.slice a0_0 x0_0.length c0_0, .int .i64 x0_1, .int .i64 x0_2], Row 5 1 a0_0 x0_0.length c0_0 (encB x0_0)]) (rst := [obj b1v 48 [.int .i64 x2_0, .int .i64 x2_1], obj b1 45 [.slice a1_0 x1_0.length c1_0, .int .i64 x1_1, .int .i64 x1_2], Row 5 1 a1_0 x1_0.length c1_0 (encB x1_0), F]) rfl rfl rfl rfl rfl rfl Try.call46 (.sel 1 rfl (.sel 1 rfl (.sel 0 rfl (.sel 0 rfl (.sel 0 rfl (.sel 0 rfl (.nil _))))))) (wire_Reader_Text.calls _ _ k b0 a0_0 c0_0 x0_0 x0_1 x0_2 x2_1 ) hs54v) (fun _ => ⟨rfl, rfl, rfl, rfl, rfl, rfl, trivial⟩) (fun _ => .inr rfl) (fun z => Ent.refl _)) (All.cons (fun γ => EOb.mk (Z := Option Addr × Nat) [(54, .pointer (some ⟨b1, 0, none⟩)), (56, .int .i64 x2_1)] (fun z => (γ.1, z)) rfl rfl (.w 4 rfl rfl rfl (.w 6 rfl rfl rfl .nil)) (re_call (vs := [.pointer (some ⟨b1, 0, none⟩), .int .i64 x2_1]) (cap := []) (A := [obj b1 45 [.slice a1_0 x1_0.length c1_0, .int .i64 x1_1, .int .i64 x1_2], Row 5 1 a1_0 x1_0.length c1_0 (encB x1_0)]) (rst := [obj b0 78 [.slice γ.1.1 s52v.2.1.length γ.1.2, .int .i64 s52v.2.2.1, .int .i64 s52v.2.2.2], Row 5 1 γ.1.1 s52v.2.1.length γ.1.2 (encB s52v.2.1), obj b1v 48 [.int .i64 x2_0, .int .i64 x2_1], F]) rfl rfl rfl rfl rfl rfl Try.call52 (.sel 3 rfl (.sel 3 rfl (.sel 0 rfl (.sel 0 rfl (.sel 0 rfl (.sel 0 rfl (.nil _))))))) (synodref1_Reader_Text.calls _ _ k b1 a1_0 c1_0 x1_0 x1_1 x1_2 x2_1 ) hs57v) (fun _ => ⟨rfl, rfl, rfl, rfl, rfl, rfl, rfl, trivial⟩) (fun _ => .inr rfl) (fun z => Ent.refl _)) All.nil))
          · intro g58v
            refine nrm_then ?_
            refine sim_rtn ?_
            refine rtn_block ?_
            refine rtn_then ?_
            exact rtn_fn (g58v.1.1, g58v.1.2, g58v.2.1, g58v.2.2) rfl rfl rfl (.sel 2 rfl (.sel 2 rfl (.sel 0 rfl (.sel 0 rfl (.sel 1 rfl (.nil _))))))
        · refine sim_skip ?_
          refine nrm_block ?_
          refine nrm_then ?_
          refine sim_seq ?_
          refine sim_region ?_
          refine simL_val (q_asg rfl rfl) rfl rfl rfl ?_
          refine simL_nil ?_
          refine nrm_then ?_
          refine sim_rtn ?_
          exact rtn_fn (a0_0, c0_0, a1_0, c1_0) rfl rfl rfl (.sel 1 rfl (.sel 1 rfl (.sel 1 rfl (.sel 1 rfl (.sel 1 rfl (.nil _))))))

def wire_Reader_At.f (x0_0 : List UInt8) (x0_1 : Int) (x0_2 : Int) : Option (Int) := some x0_1
theorem wire_Reader_At.calls (W : World) (F : HA) (b0 : Nat) (a0_0 : Option Addr) (c0_0 : Nat) (x0_0 : List UInt8) (x0_1 : Int) (x0_2 : Int)  :
    Fn Try.prog W 24 [.pointer (some ⟨b0, 0, none⟩)] [obj b0 78 [.slice a0_0 x0_0.length c0_0, .int .i64 x0_1, .int .i64 x0_2], Row 5 1 a0_0 x0_0.length c0_0 (encB x0_0)] F (wire_Reader_At.f x0_0 x0_1 x0_2) (fun (r : Int) (y : Unit) => .int .i64 r) (fun r y => [obj b0 78 [.slice a0_0 x0_0.length c0_0, .int .i64 x0_1, .int .i64 x0_2], Row 5 1 a0_0 x0_0.length c0_0 (encB x0_0)]) := by
  unfold wire_Reader_At.f
  refine fn_intro 7 Try.func24 rfl Try.ntmps24 rfl ?_
  refine sim_seq ?_
  refine sim_region ?_
  refine simL_val (q_asg rfl rfl) rfl rfl rfl ?_
  refine simL_nil ?_
  refine nrm_then ?_
  refine sim_seq ?_
  refine sim_region ?_
  refine simL_val (q_move rfl rfl) rfl rfl rfl ?_
  refine simL_val (q_nil rfl rfl) rfl rfl rfl ?_
  refine simL_val (q_fa rfl rfl Try.underlying78 rfl rfl Try.sizeOf3 rfl) rfl rfl rfl ?_
  refine simL_val (q_load rfl rfl Try.isAgg3 (.obj 0 rfl rfl)) rfl rfl rfl ?_
  refine simL_val (q_asg rfl rfl) rfl rfl rfl ?_
  refine simL_nil ?_
  refine nrm_then ?_
  refine sim_rtn ?_
  exact rtn_fn () rfl rfl rfl (.sel 0 rfl (.sel 0 rfl (.sel 0 rfl (.nil _))))

def synodref1_Reader_Left.f (x0_0 : List UInt8) (x0_1 : Int) (x0_2 : Int) : Option (Int) := some (IntKind.i64.wrap ((x0_0.length : Int) - x0_1))
theorem synodref1_Reader_Left.calls (W : World) (F : HA) (b0 : Nat) (a0_0 : Option Addr) (c0_0 : Nat) (x0_0 : List UInt8) (x0_1 : Int) (x0_2 : Int)  :
    Fn Try.prog W 26 [.pointer (some ⟨b0, 0, none⟩)] [obj b0 45 [.slice a0_0 x0_0.length c0_0, .int .i64 x0_1, .int .i64 x0_2], Row 5 1 a0_0 x0_0.length c0_0 (encB x0_0)] F (synodref1_Reader_Left.f x0_0 x0_1 x0_2) (fun (r : Int) (y : Unit) => .int .i64 r) (fun r y => [obj b0 45 [.slice a0_0 x0_0.length c0_0, .int .i64 x0_1, .int .i64 x0_2], Row 5 1 a0_0 x0_0.length c0_0 (encB x0_0)]) := by
  unfold synodref1_Reader_Left.f
  refine fn_intro 13 Try.func26 rfl Try.ntmps26 rfl ?_
  refine sim_seq ?_
  refine sim_region ?_
  refine simL_val (q_asg rfl rfl) rfl rfl rfl ?_
  refine simL_nil ?_
  refine nrm_then ?_
  refine sim_seq ?_
  refine sim_draw (Γ := Unit) () [[], [0], [0, 1], [0, 1, 2], [0, 1, 2, 3], [], [5], [5, 6], [5, 6, 7], [0, 1, 2, 3, 4, 5, 6, 7, 8], [0, 1, 2, 3, 4, 5, 6, 7, 8, 9]] [] [0, 1, 2, 3, 4, 5, 6, 7, 8, 9, 10] (fun i => [[0], [0], [0], [0], [0], [0], [0], [0], [0], [0], [0]].getD i []) (fun i => [[], [], [], [], [], [], [], [], [], [], []].getD i []) (fun γ i => [.pointer (some ⟨b0, 0, none⟩), .pointer (some ⟨b0, 0, none⟩), .pointer (some ⟨b0, 0, none⟩), .slice a0_0 x0_0.length c0_0, .int .i64 (x0_0.length : Int), .pointer (some ⟨b0, 0, none⟩), .pointer (some ⟨b0, 0, none⟩), .pointer (some ⟨b0, 1, none⟩), .int .i64 x0_1, .int .i64 (IntKind.i64.wrap ((x0_0.length : Int) - x0_1)), .int .i64 (IntKind.i64.wrap ((x0_0.length : Int) - x0_1))].getD i undef) (fun j γ => [[obj b0 45 [.slice a0_0 x0_0.length c0_0, .int .i64 x0_1, .int .i64 x0_2], Row 5 1 a0_0 x0_0.length c0_0 (encB x0_0), F]].getD j []) (fun γ => [(2, .int .i64 (IntKind.i64.wrap ((x0_0.length : Int) - x0_1)))]) mixed (by decide) (by decide) (by decide) (by decide) (by decide) (by decide) (by decide) 13 rfl (by decide) (by decide) (by decide) (Ent.refl _) ?_ ?_ (fun _ => ⟨rfl, trivial⟩) ?_
  · exact (All.cons (fun γ => (All.cons (QOb.plain [(0, .pointer (some ⟨b0, 0, none⟩))] rfl rfl (.o rfl (by decide) .nil) (q_move rfl rfl) rfl) All.nil)) (All.cons (fun γ => (All.cons (QOb.plain [(3, .pointer (some ⟨b0, 0, none⟩))] rfl rfl (.w 0 rfl rfl rfl .nil) (q_nil rfl rfl) rfl) All.nil)) (All.cons (fun γ => (All.cons (QOb.plain [(4, .pointer (some ⟨b0, 0, none⟩))] rfl rfl (.w 1 rfl rfl rfl .nil) (q_fa rfl rfl Try.underlying45 rfl rfl Try.sizeOf23 rfl) rfl) All.nil)) (All.cons (fun γ => (All.cons (QOb.plain [(5, .pointer (some ⟨b0, 0, none⟩))] rfl rfl (.w 2 rfl rfl rfl .nil) (q_load rfl rfl Try.isAgg23 (.obj 0 rfl rfl)) rfl) All.nil)) (All.cons (fun γ => (All.cons (QOb.plain [(6, .slice a0_0 x0_0.length c0_0)] rfl rfl (.w 3 rfl rfl rfl .nil) (q_len rfl rfl rfl Try.underlying23) rfl) All.nil)) (All.cons (fun γ => (All.cons (QOb.plain [(0, .pointer (some ⟨b0, 0, none⟩))] rfl rfl (.o rfl (by decide) .nil) (q_move rfl rfl) rfl) All.nil)) (All.cons (fun γ => (All.cons (QOb.plain [(8, .pointer (some ⟨b0, 0, none⟩))] rfl rfl (.w 5 rfl rfl rfl .nil) (q_nil rfl rfl) rfl) All.nil)) (All.cons (fun γ => (All.cons (QOb.plain [(9, .pointer (some ⟨b0, 0, none⟩))] rfl rfl (.w 6 rfl rfl rfl .nil) (q_fa rfl rfl Try.underlying45 rfl rfl Try.sizeOf3 rfl) rfl) All.nil)) (All.cons (fun γ => (All.cons (QOb.plain [(10, .pointer (some ⟨b0, 1, none⟩))] rfl rfl (.w 7 rfl rfl rfl .nil) (q_load rfl rfl Try.isAgg3 (.obj 0 rfl rfl)) rfl) All.nil)) (All.cons (fun γ => (All.cons (QOb.plain [(7, .int .i64 (x0_0.length : Int)), (11, .int .i64 x0_1)] rfl rfl (.w 4 rfl rfl rfl (.w 8 rfl rfl rfl .nil)) (q_sub rfl rfl rfl) rfl) All.nil)) (All.cons (fun γ => (All.cons (QOb.plain [(12, .int .i64 (IntKind.i64.wrap ((x0_0.length : Int) - x0_1)))] rfl rfl (.w 9 rfl rfl rfl .nil) (q_asg rfl rfl) rfl) All.nil)) All.nil)))))))))))
  · exact All.nil
  · intro g1v
    refine nrm_then ?_
    refine sim_rtn ?_
    exact rtn_fn () rfl rfl rfl (.sel 0 rfl (.sel 0 rfl (.sel 0 rfl (.nil _))))

def synodref1_Reader_Done.f (x0_0 : List UInt8) (x0_1 : Int) (x0_2 : Int) : Option (Int) := (if x0_2 = (0 : Int) then ((synodref1_Reader_Left.f x0_0 x0_1 x0_2).bind fun s3v => (some (decide ((0 : Int) < s3v)))) else (some false)).bind fun s1v => (if s1v = true then (some 3) else (some x0_2))
theorem synodref1_Reader_Done.calls (W : World) (F : HA) (b0 : Nat) (a0_0 : Option Addr) (c0_0 : Nat) (x0_0 : List UInt8) (x0_1 : Int) (x0_2 : Int)  :
    Fn Try.prog W 28 [.pointer (some ⟨b0, 0, none⟩)] [obj b0 45 [.slice a0_0 x0_0.length c0_0, .int .i64 x0_1, .int .i64 x0_2], Row 5 1 a0_0 x0_0.length c0_0 (encB x0_0)] F (synodref1_Reader_Done.f x0_0 x0_1 x0_2) (fun (r : Int) (y : Unit) => .int .i64 r) (fun r y => [obj b0 45 [.slice a0_0 x0_0.length c0_0, .int .i64 x0_1, .int .i64 x0_2], Row 5 1 a0_0 x0_0.length c0_0 (encB x0_0)]) := by
  unfold synodref1_Reader_Done.f
  refine fn_intro 17 Try.func28 rfl Try.ntmps28 rfl ?_
  refine sim_seq ?_
  refine sim_region ?_
  refine simL_val (q_asg rfl rfl) rfl rfl rfl ?_
  refine simL_nil ?_
  refine nrm_then ?_
  refine sim_seq ?_
  refine sim_seq ?_
  refine sim_region ?_
  refine simL_val (q_move rfl rfl) rfl rfl rfl ?_
  refine simL_val (q_nil rfl rfl) rfl rfl rfl ?_
  refine simL_val (q_fa rfl rfl Try.underlying45 rfl rfl Try.sizeOf3 rfl) rfl rfl rfl ?_
  refine simL_val (q_load rfl rfl Try.isAgg3 (.obj 0 rfl rfl)) rfl rfl rfl ?_
  refine simL_val (q_eql rfl rfl rfl) rfl rfl rfl ?_
  refine simL_val (q_move rfl rfl) rfl rfl rfl ?_
  refine simL_cut' 4 (S := Bool) (Unit) (fun s y => [(0, .pointer (some ⟨b0, 0, none⟩)), (12, .bool s)]) (fun s y => [obj b0 45 [.slice a0_0 x0_0.length c0_0, .int .i64 x0_1, .int .i64 x0_2], Row 5 1 a0_0 x0_0.length c0_0 (encB x0_0), F]) ?_ ?_
  · refine simL_casep (fun hb6v => ?_) (fun hb7v => ?_)
    · rw [hb6v]
      refine simL_valg (q_move rfl rfl) rfl rfl rfl rfl rfl rfl ?_
      refine simL_bind (fun s3v hs5v => ?_)
      refine simL_effg (re_call (vs := [.pointer (some ⟨b0, 0, none⟩)]) (cap := []) (A := [obj b0 45 [.slice a0_0 x0_0.length c0_0, .int .i64 x0_1, .int .i64 x0_2], Row 5 1 a0_0 x0_0.length c0_0 (encB x0_0)]) (rst := [F]) rfl rfl rfl rfl rfl rfl Try.call26 (.sel 0 rfl (.sel 0 rfl (.sel 0 rfl (.nil _)))) (synodref1_Reader_Left.calls _ _ b0 a0_0 c0_0 x0_0 x0_1 x0_2 ) hs5v) rfl rfl rfl rfl rfl rfl ?_
      intro y4v
      refine simL_valg (q_gtr rfl rfl rfl) rfl rfl rfl rfl rfl rfl ?_
      refine simL_val (q_pick rfl rfl rfl rfl rfl) rfl rfl rfl ?_
      refine simL_nil ?_
      exact nrm_cut (s := decide ((0 : Int) < s3v)) () ⟨rfl, rfl, trivial⟩ (.sel 0 rfl (.sel 0 rfl (.sel 0 rfl (.nil _))))
    · rw [hb7v]
      refine simL_skipd rfl rfl rfl rfl rfl rfl ?_
      refine simL_skipd rfl rfl rfl rfl rfl rfl ?_
      refine simL_skipd rfl rfl rfl rfl rfl rfl ?_
      refine simL_val (q_pick rfl rfl rfl rfl rfl) rfl rfl rfl ?_
      refine simL_nil ?_
      exact nrm_cut (s := false) () ⟨rfl, rfl, trivial⟩ (.sel 0 rfl (.sel 0 rfl (.sel 0 rfl (.nil _))))
  · intro s1v y2v
    refine simL_nil ?_
    refine nrm_then ?_
    refine sim_condb rfl (fun h8v => ?_) (fun h9v => ?_)
    · refine sim_seq ?_
      refine sim_region ?_
      refine simL_val (q_asg rfl rfl) rfl rfl rfl ?_
      refine simL_nil ?_
      refine nrm_then ?_
      refine sim_rtn ?_
      refine rtn_then ?_
      exact rtn_fn () rfl rfl rfl (.sel 0 rfl (.sel 0 rfl (.sel 0 rfl (.nil _))))
    · refine sim_skip ?_
      refine nrm_then ?_
      refine sim_seq ?_
      refine sim_region ?_
      refine simL_val (q_move rfl rfl) rfl rfl rfl ?_
      refine simL_val (q_nil rfl rfl) rfl rfl rfl ?_
      refine simL_val (q_fa rfl rfl Try.underlying45 rfl rfl Try.sizeOf3 rfl) rfl rfl rfl ?_
      refine simL_val (q_load rfl rfl Try.isAgg3 (.obj 0 rfl rfl)) rfl rfl rfl ?_
      refine simL_val (q_asg rfl rfl) rfl rfl rfl ?_
      refine simL_nil ?_
      refine nrm_then ?_
      refine sim_rtn ?_
      exact rtn_fn () rfl rfl rfl (.sel 0 rfl (.sel 0 rfl (.sel 0 rfl (.nil _))))

def wire_NewWriter.f  : Option (List UInt8 × Int) := some (([] : List UInt8), 0)
theorem wire_NewWriter.calls (W : World) (F : HA)   :
    Fn Try.prog W 31 [] [] F (wire_NewWriter.f ) (fun (r : List UInt8 × Int) (y : Nat × Option Addr × Nat) => .pointer (some ⟨y.1, 0, none⟩)) (fun r y => [obj y.1 80 [.slice y.2.1 r.1.length y.2.2, .int .i64 r.2], Row 5 1 y.2.1 r.1.length y.2.2 (encB r.1)]) := by
  unfold wire_NewWriter.f
  refine fn_intro 3 Try.func31 rfl Try.ntmps31 rfl ?_
  refine sim_seq ?_
  refine sim_region ?_
  refine simL_val (q_asg rfl rfl) rfl rfl rfl ?_
  refine simL_nil ?_
  refine nrm_then ?_
  refine sim_seq ?_
  refine sim_region ?_
  refine simL_val (q_build (v := .agg #[.slice none 0 0, .int .i64 0]) rfl rfl (fun _ => by kernel_rfl)) rfl rfl rfl ?_
  refine simL_eff (re_box rfl rfl rfl) rfl rfl rfl ?_
  intro b1v
  refine simL_val (q_asg rfl rfl) rfl rfl rfl ?_
  refine simL_nil ?_
  refine nrm_then ?_
  refine sim_rtn ?_
  exact rtn_fn (b1v, none, 0) rfl rfl rfl (.sel 0 rfl (.row_nil (.sel 0 rfl (.nil _))))

def wire_Writer_Int.f (k : Nat) (x0_0 : List UInt8) (x0_1 : Int) (x1 : Int) : Option (List UInt8 × Int) := if x0_1 = (0 : Int) then ((wire_Size.f k x1).bind fun s4v => (if s4v = (0 : Int) then (some (x0_0, 1)) else ((wire_sevens.f x1).bind fun s9v => ((wire_sevens_1.f k (fun (s13v : List UInt8) (x12v : Int) => if 0 ≤ x12v ∧ x12v < 256 then (if (s13v.length + ([(byte x12v)] : List UInt8).length) * 1 ≤ 140737488355328 then (some (s13v ++ ([(byte x12v)] : List UInt8))) else none) else none) x0_0 s9v).bind fun s20v => (some (s20v, x0_1)))))) else (some (x0_0, x0_1))
theorem wire_Writer_Int.calls (W : World) (F : HA) (k : Nat) (b0 : Nat) (a0_0 : Option Addr) (c0_0 : Nat) (x0_0 : List UInt8) (x0_1 : Int) (x1 : Int)  :
    Fn Try.prog W 32 [.pointer (some ⟨b0, 0, none⟩), .int .i64 x1] [obj b0 80 [.slice a0_0 x0_0.length c0_0, .int .i64 x0_1], Row 5 1 a0_0 x0_0.length c0_0 (encB x0_0)] F (wire_Writer_Int.f k x0_0 x0_1 x1) (fun (r : List UInt8 × Int) (y : Option Addr × Nat) => .tuple #[]) (fun r y => [obj b0 80 [.slice y.1 r.1.length y.2, .int .i64 r.2], Row 5 1 y.1 r.1.length y.2 (encB r.1)]) := by
  unfold wire_Writer_Int.f
  refine fn_introM 29 Try.func32 rfl Try.ntmps32 rfl ?_
  refine sim_seq ?_
  refine sim_region ?_
  refine simL_eff (re_box rfl rfl rfl) rfl rfl rfl ?_
  intro b1v
  refine simL_nil ?_
  refine nrm_then ?_
  refine sim_seq ?_
  refine sim_seq ?_
  refine sim_region ?_
  refine simL_val (q_load rfl rfl Try.isAgg56 (.obj 0 rfl rfl)) rfl rfl rfl ?_
  refine simL_val (q_nil rfl rfl) rfl rfl rfl ?_
  refine simL_val (q_fa rfl rfl Try.underlying80 rfl rfl Try.sizeOf24 rfl) rfl rfl rfl ?_
  refine simL_val (q_load rfl rfl Try.isAgg24 (.obj 1 rfl rfl)) rfl rfl rfl ?_
  refine simL_val (q_neq rfl rfl rfl) rfl rfl rfl ?_
  refine simL_nil ?_
  refine nrm_then ?_
  refine sim_condn rfl (fun h2v => ?_) (fun h3v => ?_)
  · refine sim_skip ?_
    refine nrm_then ?_
    refine sim_seq ?_
    refine sim_seq ?_
    refine sim_region ?_
    refine simL_val (q_move rfl rfl) rfl rfl rfl ?_
    refine simL_bind (fun s4v hs6v => ?_)
    refine simL_eff (re_call (vs := [.int .i64 x1]) (cap := []) (A := []) (rst := [obj b1v 56 [.pointer (some ⟨b0, 0, none⟩)], obj b0 80 [.slice a0_0 x0_0.length c0_0, .int .i64 x0_1], Row 5 1 a0_0 x0_0.length c0_0 (encB x0_0), F]) rfl rfl rfl rfl rfl rfl Try.call15 (.sel 0 rfl (.sel 0 rfl (.sel 0 rfl (.sel 0 rfl (.nil _))))) (wire_Size.calls _ _ k x1 ) hs6v) rfl rfl rfl ?_
    intro y5v
    refine simL_val (q_eql rfl rfl rfl) rfl rfl rfl ?_
    refine simL_nil ?_
    refine nrm_then ?_
    refine sim_cond rfl (fun h7v => ?_) (fun h8v => ?_)
    · refine sim_seq ?_
      refine sim_region ?_
      refine simL_val (q_load rfl rfl Try.isAgg56 (.obj 0 rfl rfl)) rfl rfl rfl ?_
      refine simL_val (q_nil rfl rfl) rfl rfl rfl ?_
      refine simL_val (q_fa rfl rfl Try.underlying80 rfl rfl Try.sizeOf24 rfl) rfl rfl rfl ?_
      refine simL_do (re_store 1 rfl rfl rfl Try.sizeOf24 rfl rfl (one_of (by rfl)) rfl rfl) rfl rfl ?_
      intro _
      refine simL_nil ?_
      refine nrm_then ?_
      refine sim_rtn ?_
      refine rtn_then ?_
      exact rtn_fnM [] (a0_0, c0_0) rfl rfl rfl (.sel 1 rfl (.sel 1 rfl (.sel 1 rfl (.nil _))))
    · refine sim_skip ?_
      refine nrm_then ?_
      refine sim_seq ?_
      refine sim_region ?_
      refine simL_val (q_move rfl rfl) rfl rfl rfl ?_
      refine simL_bind (fun s9v hs11v => ?_)
      refine simL_eff (re_call (vs := [.int .i64 x1]) (cap := []) (A := []) (rst := [obj b1v 56 [.pointer (some ⟨b0, 0, none⟩)], obj b0 80 [.slice a0_0 x0_0.length c0_0, .int .i64 x0_1], Row 5 1 a0_0 x0_0.length c0_0 (encB x0_0), F]) rfl rfl rfl rfl rfl rfl Try.call47 (.sel 0 rfl (.sel 0 rfl (.sel 0 rfl (.sel 0 rfl (.nil _))))) (wire_sevens.calls _ _ x1 ) hs11v) rfl rfl rfl ?_
      intro y10v
      refine simL_nil ?_
      refine nrm_then ?_
      refine sim_block ?_
      refine sim_range (S := List UInt8) (Y := Option Addr × Nat) (R' := List UInt8) (Y' := (Option Addr × Nat)) (ps := [18]) (Cap := [obj y10v 3 [.int .i64 s9v]]) (rst := []) (CapB := fun r y => [obj y10v 3 [.int .i64 s9v]]) (enc := fun (x : Int) => [.int .u8 x]) (oN := wire_sevens_1.f k (fun (s13v : List UInt8) (x12v : Int) => if 0 ≤ x12v ∧ x12v < 256 then (if (s13v.length + ([(byte x12v)] : List UInt8).length) * 1 ≤ 140737488355328 then (some (s13v ++ ([(byte x12v)] : List UInt8))) else none) else none) x0_0 s9v) (fun s y => [obj b1v 56 [.pointer (some ⟨b0, 0, none⟩)], obj b0 80 [.slice y.1 s.length y.2, .int .i64 x0_1], Row 5 1 y.1 s.length y.2 (encB s), F]) x0_0 (a0_0, c0_0) (fun s13v x12v y14v => [(2, .pointer (some ⟨b1v, 0, none⟩)), (4, .int .u8 x12v)]) (fun r => r) (fun r y => y) rfl rfl Try.call55 (fun l A hY X => wire_sevens_1.calls _ _ k _ _ l _ A _ _ y10v s9v hY) rfl (fun _ => rfl) (.sel 1 rfl (.sel 1 rfl (.sel 1 rfl (.sel 1 rfl (.sel 0 rfl (.nil _)))))) ?_ ?_ ?_
      · intro l s13v x12v y14v Fr
        refine sim_ent (H' := [obj b1v 56 [.pointer (some ⟨b0, 0, none⟩)], obj b0 80 [.slice y14v.1 s13v.length y14v.2, .int .i64 x0_1], Row 5 1 y14v.1 s13v.length y14v.2 (encB s13v), F, Fr]) (Ent.refl _) ?_
        refine sim_region ?_
        refine simL_val (q_asg rfl rfl) rfl rfl rfl ?_
        refine simL_nil ?_
        exact nrm_cut () ⟨rfl, rfl, trivial⟩ (Ent.refl _)
      · intro l s13v x12v y14v Fr
        refine sim_ent (H' := [obj b1v 56 [.pointer (some ⟨b0, 0, none⟩)], obj b0 80 [.slice y14v.1 s13v.length y14v.2, .int .i64 x0_1], Row 5 1 y14v.1 s13v.length y14v.2 (encB s13v), F, Fr]) (Ent.refl _) ?_
        refine sim_block ?_
        refine sim_ask (fun hb16v => ?_)
        refine sim_ask (fun hb18v => ?_)
        refine sim_draw (Γ := Nat × (Option Addr × Nat)) (0, (none, 0)) [[], [], [1], [1, 2], [1, 2, 3], [], [5], [1, 2, 3, 4, 5, 6], [0, 1, 2, 3, 4, 5, 6, 7], [0, 1, 2, 3, 4, 5, 6, 7, 8], [0, 1, 2, 3, 4, 5, 6, 7, 8, 9]] [6, 7, 10] [0, 1, 2, 3, 4, 5, 8, 9] (fun i => [[0, 1, 2], [0, 1], [0, 1], [0, 1], [0, 1], [0], [], [], [2], [2], []].getD i []) (fun i => [[], [], [], [], [], [], [0, 1, 2, 3, 4, 5], [0, 1, 2, 3, 4, 5, 6], [], [], [0, 1, 2, 3, 4, 5, 6, 7, 8, 9]].getD i []) (fun γ i => [.pointer (some ⟨b0, 0, none⟩), .pointer (some ⟨b0, 0, none⟩), .pointer (some ⟨b0, 0, none⟩), .pointer (some ⟨b0, 0, none⟩), .slice y14v.1 s13v.length y14v.2, .int .u8 x12v, .slice (some ⟨γ.1, 0, none⟩) (([(byte x12v)] : List UInt8).length) 1, .slice γ.2.1 ((s13v ++ ([(byte x12v)] : List UInt8)).length) γ.2.2, .pointer (some ⟨b0, 0, none⟩), .pointer (some ⟨b0, 0, none⟩), undef].getD i undef) (fun j γ => [[obj b1v 56 [.pointer (some ⟨b0, 0, none⟩)], obj b0 80 [.slice y14v.1 s13v.length y14v.2, .int .i64 x0_1], Row 5 1 y14v.1 s13v.length y14v.2 (encB s13v), F, Fr], [Row 5 1 (some ⟨γ.1, 0, none⟩) ([(byte x12v)] : List UInt8).length 1 (encB ([(byte x12v)] : List UInt8)), obj b1v 56 [.pointer (some ⟨b0, 0, none⟩)], obj b0 80 [.slice y14v.1 s13v.length y14v.2, .int .i64 x0_1], Row 5 1 y14v.1 s13v.length y14v.2 (encB s13v), F, Fr], [Row 5 1 (some ⟨γ.1, 0, none⟩) ([(byte x12v)] : List UInt8).length 1 (encB ([(byte x12v)] : List UInt8)), obj b1v 56 [.pointer (some ⟨b0, 0, none⟩)], obj b0 80 [.slice y14v.1 s13v.length y14v.2, .int .i64 x0_1], Row 5 1 γ.2.1 (s13v ++ ([(byte x12v)] : List UInt8)).length γ.2.2 (encB (s13v ++ ([(byte x12v)] : List UInt8))), F, Fr], [Row 5 1 (some ⟨γ.1, 0, none⟩) ([(byte x12v)] : List UInt8).length 1 (encB ([(byte x12v)] : List UInt8)), obj b1v 56 [.pointer (some ⟨b0, 0, none⟩)], obj b0 80 [.slice γ.2.1 ((s13v ++ ([(byte x12v)] : List UInt8)).length) γ.2.2, .int .i64 x0_1], Row 5 1 γ.2.1 (s13v ++ ([(byte x12v)] : List UInt8)).length γ.2.2 (encB (s13v ++ ([(byte x12v)] : List UInt8))), F, Fr]].getD j []) (fun γ => []) mixed (by decide) (by decide) (by decide) (by decide) (by decide) (by decide) (by decide) 29 rfl (by decide) (by decide) (by decide) (Ent.refl _) ?_ ?_ (fun _ => trivial) ?_
        · exact (All.cons (fun γ => (All.cons (QOb.plain [(2, .pointer (some ⟨b1v, 0, none⟩))] rfl rfl (.o rfl (by decide) .nil) (q_load rfl rfl Try.isAgg56 (.obj 0 rfl rfl)) rfl) (All.cons (QOb.plain [(2, .pointer (some ⟨b1v, 0, none⟩))] rfl rfl (.o rfl (by decide) .nil) (q_load rfl rfl Try.isAgg56 (.obj 1 rfl rfl)) rfl) (All.cons (QOb.plain [(2, .pointer (some ⟨b1v, 0, none⟩))] rfl rfl (.o rfl (by decide) .nil) (q_load rfl rfl Try.isAgg56 (.obj 1 rfl rfl)) rfl) All.nil)))) (All.cons (fun γ => (All.cons (QOb.plain [(2, .pointer (some ⟨b1v, 0, none⟩))] rfl rfl (.o rfl (by decide) .nil) (q_load rfl rfl Try.isAgg56 (.obj 0 rfl rfl)) rfl) (All.cons (QOb.plain [(2, .pointer (some ⟨b1v, 0, none⟩))] rfl rfl (.o rfl (by decide) .nil) (q_load rfl rfl Try.isAgg56 (.obj 1 rfl rfl)) rfl) All.nil))) (All.cons (fun γ => (All.cons (QOb.plain [(20, .pointer (some ⟨b0, 0, none⟩))] rfl rfl (.w 1 rfl rfl rfl .nil) (q_nil rfl rfl) rfl) (All.cons (QOb.plain [(20, .pointer (some ⟨b0, 0, none⟩))] rfl rfl (.w 1 rfl rfl rfl .nil) (q_nil rfl rfl) rfl) All.nil))) (All.cons (fun γ => (All.cons (QOb.plain [(21, .pointer (some ⟨b0, 0, none⟩))] rfl rfl (.w 2 rfl rfl rfl .nil) (q_fa rfl rfl Try.underlying80 rfl rfl Try.sizeOf23 rfl) rfl) (All.cons (QOb.plain [(21, .pointer (some ⟨b0, 0, none⟩))] rfl rfl (.w 2 rfl rfl rfl .nil) (q_fa rfl rfl Try.underlying80 rfl rfl Try.sizeOf23 rfl) rfl) All.nil))) (All.cons (fun γ => (All.cons (QOb.plain [(22, .pointer (some ⟨b0, 0, none⟩))] rfl rfl (.w 3 rfl rfl rfl .nil) (q_load rfl rfl Try.isAgg23 (.obj 1 rfl rfl)) rfl) (All.cons (QOb.plain [(22, .pointer (some ⟨b0, 0, none⟩))] rfl rfl (.w 3 rfl rfl rfl .nil) (q_load rfl rfl Try.isAgg23 (.obj 2 rfl rfl)) rfl) All.nil))) (All.cons (fun γ => (All.cons (QOb.plain [(4, .int .u8 x12v)] rfl rfl (.o rfl (by decide) .nil) (q_move rfl rfl) rfl) All.nil)) (All.cons (fun γ => (All.cons (QOb.plain [(19, .pointer (some ⟨b0, 0, none⟩))] rfl rfl (.w 0 rfl rfl rfl .nil) (q_nil rfl rfl) rfl) All.nil)) (All.cons (fun γ => (All.cons (QOb.plain [(27, .pointer (some ⟨b0, 0, none⟩))] rfl rfl (.w 8 rfl rfl rfl .nil) (q_fa rfl rfl Try.underlying80 rfl rfl Try.sizeOf23 rfl) rfl) All.nil)) All.nil))))))))
        · exact (All.cons (fun γ => EOb.mk (Z := Nat) [(24, .int .u8 x12v)] (fun z => (z, γ.2)) rfl rfl (.w 5 rfl rfl rfl .nil) (re_litb (cs := [.int .u8 x12v]) ([(byte x12v)] : List UInt8) rfl rfl Try.underlying23 elt5 rfl (by kernel_rfl) rfl rfl (byte_lit1 hb16v)) (fun _ => ⟨rfl, rfl, rfl, rfl, rfl, rfl, trivial⟩) (fun _ => .inr rfl) (fun z => Ent.refl _)) (All.cons (fun γ => EOb.mk (Z := Option Addr × Nat) [(23, .slice y14v.1 s13v.length y14v.2), (25, .slice (some ⟨γ.1, 0, none⟩) (([(byte x12v)] : List UInt8).length) 1)] (fun z => (γ.1, z)) rfl rfl (.w 4 rfl rfl rfl (.w 6 rfl rfl rfl .nil)) (re_appendb 3 rfl rfl rfl Try.underlying23 elt5 rfl (Rds.row 0 rfl) hb18v) (fun _ => ⟨rfl, rfl, rfl, rfl, rfl, rfl, rfl, trivial⟩) (fun _ => .inr rfl) (fun z => Ent.refl _)) (All.cons (fun γ => EOb.mk (Z := Unit) [(26, .slice γ.2.1 ((s13v ++ ([(byte x12v)] : List UInt8)).length) γ.2.2), (28, .pointer (some ⟨b0, 0, none⟩))] (fun z => (γ.1, γ.2)) rfl rfl (.w 7 rfl rfl rfl (.w 9 rfl rfl rfl .nil)) (re_store 2 rfl rfl rfl Try.sizeOf23 rfl rfl (one_of (by rfl)) rfl rfl) (fun _ => ⟨rfl, rfl, rfl, rfl, rfl, rfl, rfl, rfl, rfl, rfl, trivial⟩) (fun _ => .inl rfl) (fun z => Ent.refl _)) All.nil)))
        · intro g19v
          refine nrm_block ?_
          exact nrm_cut (s := s13v ++ ([(byte x12v)] : List UInt8)) (g19v.2.1, g19v.2.2) trivial (.sel 1 rfl (.sel 1 rfl (.sel 1 rfl (.sel 1 rfl (.sel 1 rfl (.nil _))))))
      · intro D22v s20v y21v
        refine nrm_ent (H' := [shutD D22v, obj b1v 56 [.pointer (some ⟨b0, 0, none⟩)], obj b0 80 [.slice y21v.1 s20v.length y21v.2, .int .i64 x0_1], Row 5 1 y21v.1 s20v.length y21v.2 (encB s20v), F, obj y10v 3 [.int .i64 s9v]]) (Ent.refl _) ?_
        refine nrm_block ?_
        exact nrm_fnM [D22v] (y21v.1, y21v.2) rfl rfl rfl (.sel 0 rfl (.sel 1 rfl (.sel 1 rfl (.sel 1 rfl (.nil _)))))
  · refine sim_rtn ?_
    refine rtn_then ?_
    exact rtn_fnM [] (a0_0, c0_0) rfl rfl rfl (.sel 1 rfl (.sel 1 rfl (.sel 1 rfl (.nil _))))

def synodref1_Writer_Int.f (k : Nat) (x0_0 : List UInt8) (x0_1 : Int) (x1 : Int) : Option (List UInt8 × Int) := if x0_1 = (0 : Int) then ((synodref1_PutInt.f k x1).bind fun s3v => (if (x0_0.length + s3v.1.length) * 1 ≤ 140737488355328 then (some (x0_0 ++ s3v.1, s3v.2)) else none)) else (some (x0_0, x0_1))
theorem synodref1_Writer_Int.calls (W : World) (F : HA) (k : Nat) (b0 : Nat) (a0_0 : Option Addr) (c0_0 : Nat) (x0_0 : List UInt8) (x0_1 : Int) (x1 : Int)  :
    Fn Try.prog W 33 [.pointer (some ⟨b0, 0, none⟩), .int .i64 x1] [obj b0 60 [.slice a0_0 x0_0.length c0_0, .int .i64 x0_1], Row 5 1 a0_0 x0_0.length c0_0 (encB x0_0)] F (synodref1_Writer_Int.f k x0_0 x0_1 x1) (fun (r : List UInt8 × Int) (y : Option Addr × Nat) => .tuple #[]) (fun r y => [obj b0 60 [.slice y.1 r.1.length y.2, .int .i64 r.2], Row 5 1 y.1 r.1.length y.2 (encB r.1)]) := by
  unfold synodref1_Writer_Int.f
  refine fn_intro 29 Try.func33 rfl Try.ntmps33 rfl ?_
  refine sim_seq ?_
  refine sim_seq ?_
  refine sim_region ?_
  refine simL_val (q_move rfl rfl) rfl rfl rfl ?_
  refine simL_val (q_nil rfl rfl) rfl rfl rfl ?_
  refine simL_val (q_fa rfl rfl Try.underlying60 rfl rfl Try.sizeOf3 rfl) rfl rfl rfl ?_
  refine simL_val (q_load rfl rfl Try.isAgg3 (.obj 0 rfl rfl)) rfl rfl rfl ?_
  refine simL_val (q_neq rfl rfl rfl) rfl rfl rfl ?_
  refine simL_nil ?_
  refine nrm_then ?_
  refine sim_condn rfl (fun h1v => ?_) (fun h2v => ?_)
  · refine sim_skip ?_
    refine nrm_then ?_
    refine sim_seq ?_
    refine sim_region ?_
    refine simL_val (q_move rfl rfl) rfl rfl rfl ?_
    refine simL_bind (fun s3v hs5v => ?_)
    refine simL_eff (re_call (vs := [.int .i64 x1]) (cap := []) (A := []) (rst := [obj b0 60 [.slice a0_0 x0_0.length c0_0, .int .i64 x0_1], Row 5 1 a0_0 x0_0.length c0_0 (encB x0_0), F]) rfl rfl rfl rfl rfl rfl Try.call12 (.sel 0 rfl (.sel 0 rfl (.sel 0 rfl (.nil _)))) (synodref1_PutInt.calls _ _ k x1 ) hs5v) rfl rfl rfl ?_
    intro y4v
    refine simL_val (q_move rfl rfl) rfl rfl rfl ?_
    refine simL_val (q_ext rfl rfl rfl) rfl rfl rfl ?_
    refine simL_val (q_ext rfl rfl rfl) rfl rfl rfl ?_
    refine simL_val (q_asg rfl rfl) rfl rfl rfl ?_
    refine simL_val (q_asg rfl rfl) rfl rfl rfl ?_
    refine simL_nil ?_
    refine nrm_then ?_
    refine sim_seq ?_
    refine sim_region ?_
    refine simL_val (q_move rfl rfl) rfl rfl rfl ?_
    refine simL_val (q_move rfl rfl) rfl rfl rfl ?_
    refine simL_val (q_nil rfl rfl) rfl rfl rfl ?_
    refine simL_val (q_fa rfl rfl Try.underlying60 rfl rfl Try.sizeOf3 rfl) rfl rfl rfl ?_
    refine simL_do (re_store 1 rfl rfl rfl Try.sizeOf3 rfl rfl (one_of (by rfl)) rfl rfl) rfl rfl ?_
    intro _
    refine simL_nil ?_
    refine nrm_then ?_
    refine sim_region ?_
    refine simL_val (q_move rfl rfl) rfl rfl rfl ?_
    refine simL_val (q_move rfl rfl) rfl rfl rfl ?_
    refine simL_val (q_nil rfl rfl) rfl rfl rfl ?_
    refine simL_val (q_fa rfl rfl Try.underlying60 rfl rfl Try.sizeOf23 rfl) rfl rfl rfl ?_
    refine simL_val (q_load rfl rfl Try.isAgg23 (.obj 1 rfl rfl)) rfl rfl rfl ?_
    refine simL_val (q_move rfl rfl) rfl rfl rfl ?_
    refine simL_ask (fun hb7v => ?_)
    refine simL_eff (re_appendb 2 rfl rfl rfl Try.underlying23 elt5 rfl (Rds.row 0 rfl) hb7v) rfl rfl rfl ?_
    intro y6v
    refine simL_val (q_nil rfl rfl) rfl rfl rfl ?_
    refine simL_val (q_fa rfl rfl Try.underlying60 rfl rfl Try.sizeOf23 rfl) rfl rfl rfl ?_
    refine simL_do (re_store 1 rfl rfl rfl Try.sizeOf23 rfl rfl (one_of (by rfl)) rfl rfl) rfl rfl ?_
    intro _
    refine simL_nil ?_
    exact nrm_fn (y6v.1, y6v.2) rfl rfl rfl (.sel 1 rfl (.sel 1 rfl (.sel 1 rfl (.nil _))))
  · refine sim_rtn ?_
    refine rtn_then ?_
    exact rtn_fn (a0_0, c0_0) rfl rfl rfl (.sel 0 rfl (.sel 0 rfl (.sel 0 rfl (.nil _))))

def wire_Writer_Bool.f (k : Nat) (x0_0 : List UInt8) (x0_1 : Int) (x1 : Bool) : Option (List UInt8 × Int) := if x1 = true then ((wire_Writer_Int.f k x0_0 x0_1 (1 : Int)).bind fun s3v => (some (s3v.1, s3v.2))) else ((wire_Writer_Int.f k x0_0 x0_1 (0 : Int)).bind fun s6v => (some (s6v.1, s6v.2)))
theorem wire_Writer_Bool.calls (W : World) (F : HA) (k : Nat) (b0 : Nat) (a0_0 : Option Addr) (c0_0 : Nat) (x0_0 : List UInt8) (x0_1 : Int) (x1 : Bool)  :
    Fn Try.prog W 34 [.pointer (some ⟨b0, 0, none⟩), .bool x1] [obj b0 80 [.slice a0_0 x0_0.length c0_0, .int .i64 x0_1], Row 5 1 a0_0 x0_0.length c0_0 (encB x0_0)] F (wire_Writer_Bool.f k x0_0 x0_1 x1) (fun (r : List UInt8 × Int) (y : Option Addr × Nat) => .tuple #[]) (fun r y => [obj b0 80 [.slice y.1 r.1.length y.2, .int .i64 r.2], Row 5 1 y.1 r.1.length y.2 (encB r.1)]) := by
  unfold wire_Writer_Bool.f
  refine fn_intro 9 Try.func34 rfl Try.ntmps34 rfl ?_
  refine sim_seq ?_
  refine sim_region ?_
  refine simL_val (q_move rfl rfl) rfl rfl rfl ?_
  refine simL_nil ?_
  refine nrm_then ?_
  refine sim_condb rfl (fun h1v => ?_) (fun h2v => ?_)
  · refine sim_region ?_
    refine simL_val (q_move rfl rfl) rfl rfl rfl ?_
    refine simL_bind (fun s3v hs5v => ?_)
    refine simL_eff (re_call (vs := [.pointer (some ⟨b0, 0, none⟩), .int .i64 1]) (cap := []) (A := [obj b0 80 [.slice a0_0 x0_0.length c0_0, .int .i64 x0_1], Row 5 1 a0_0 x0_0.length c0_0 (encB x0_0)]) (rst := [F]) rfl rfl rfl rfl rfl rfl Try.call32 (.sel 0 rfl (.sel 0 rfl (.sel 0 rfl (.nil _)))) (wire_Writer_Int.calls _ _ k b0 a0_0 c0_0 x0_0 x0_1 (1 : Int) ) hs5v) rfl rfl rfl ?_
    intro y4v
    refine simL_nil ?_
    exact nrm_fn (y4v.1, y4v.2) rfl rfl rfl (.sel 0 rfl (.sel 0 rfl (.sel 0 rfl (.nil _))))
  · refine sim_region ?_
    refine simL_val (q_move rfl rfl) rfl rfl rfl ?_
    refine simL_bind (fun s6v hs8v => ?_)
    refine simL_eff (re_call (vs := [.pointer (some ⟨b0, 0, none⟩), .int .i64 0]) (cap := []) (A := [obj b0 80 [.slice a0_0 x0_0.length c0_0, .int .i64 x0_1], Row 5 1 a0_0 x0_0.length c0_0 (encB x0_0)]) (rst := [F]) rfl rfl rfl rfl rfl rfl Try.call32 (.sel 0 rfl (.sel 0 rfl (.sel 0 rfl (.nil _)))) (wire_Writer_Int.calls _ _ k b0 a0_0 c0_0 x0_0 x0_1 (0 : Int) ) hs8v) rfl rfl rfl ?_
    intro y7v
    refine simL_nil ?_
    exact nrm_fn (y7v.1, y7v.2) rfl rfl rfl (.sel 0 rfl (.sel 0 rfl (.sel 0 rfl (.nil _))))

def synodref1_Writer_Bool.f (k : Nat) (x0_0 : List UInt8) (x0_1 : Int) (x1 : Bool) : Option (List UInt8 × Int) := if x1 = true then ((synodref1_Writer_Int.f k x0_0 x0_1 (1 : Int)).bind fun s3v => (some (s3v.1, s3v.2))) else ((synodref1_Writer_Int.f k x0_0 x0_1 (0 : Int)).bind fun s6v => (some (s6v.1, s6v.2)))
theorem synodref1_Writer_Bool.calls (W : World) (F : HA) (k : Nat) (b0 : Nat) (a0_0 : Option Addr) (c0_0 : Nat) (x0_0 : List UInt8) (x0_1 : Int) (x1 : Bool)  :
    Fn Try.prog W 35 [.pointer (some ⟨b0, 0, none⟩), .bool x1] [obj b0 60 [.slice a0_0 x0_0.length c0_0, .int .i64 x0_1], Row 5 1 a0_0 x0_0.length c0_0 (encB x0_0)] F (synodref1_Writer_Bool.f k x0_0 x0_1 x1) (fun (r : List UInt8 × Int) (y : Option Addr × Nat) => .tuple #[]) (fun r y => [obj b0 60 [.slice y.1 r.1.length y.2, .int .i64 r.2], Row 5 1 y.1 r.1.length y.2 (encB r.1)]) := by
  unfold synodref1_Writer_Bool.f
  refine fn_intro 9 Try.func35 rfl Try.ntmps35 rfl ?_
  refine sim_seq ?_
  refine sim_region ?_
  refine simL_val (q_move rfl rfl) rfl rfl rfl ?_
  refine simL_nil ?_
  refine nrm_then ?_
  refine sim_condb rfl (fun h1v => ?_) (fun h2v => ?_)
  · refine sim_region ?_
    refine simL_val (q_move rfl rfl) rfl rfl rfl ?_
    refine simL_bind (fun s3v hs5v => ?_)
    refine simL_eff (re_call (vs := [.pointer (some ⟨b0, 0, none⟩), .int .i64 1]) (cap := []) (A := [obj b0 60 [.slice a0_0 x0_0.length c0_0, .int .i64 x0_1], Row 5 1 a0_0 x0_0.length c0_0 (encB x0_0)]) (rst := [F]) rfl rfl rfl rfl rfl rfl Try.call33 (.sel 0 rfl (.sel 0 rfl (.sel 0 rfl (.nil _)))) (synodref1_Writer_Int.calls _ _ k b0 a0_0 c0_0 x0_0 x0_1 (1 : Int) ) hs5v) rfl rfl rfl ?_
    intro y4v
    refine simL_nil ?_
    exact nrm_fn (y4v.1, y4v.2) rfl rfl rfl (.sel 0 rfl (.sel 0 rfl (.sel 0 rfl (.nil _))))
  · refine sim_region ?_
    refine simL_val (q_move rfl rfl) rfl rfl rfl ?_
    refine simL_bind (fun s6v hs8v => ?_)
    refine simL_eff (re_call (vs := [.pointer (some ⟨b0, 0, none⟩), .int .i64 0]) (cap := []) (A := [obj b0 60 [.slice a0_0 x0_0.length c0_0, .int .i64 x0_1], Row 5 1 a0_0 x0_0.length c0_0 (encB x0_0)]) (rst := [F]) rfl rfl rfl rfl rfl rfl Try.call33 (.sel 0 rfl (.sel 0 rfl (.sel 0 rfl (.nil _)))) (synodref1_Writer_Int.calls _ _ k b0 a0_0 c0_0 x0_0 x0_1 (0 : Int) ) hs8v) rfl rfl rfl ?_
    intro y7v
    refine simL_nil ?_
    exact nrm_fn (y7v.1, y7v.2) rfl rfl rfl (.sel 0 rfl (.sel 0 rfl (.sel 0 rfl (.nil _))))

def wire_Writer_Bytes.f (k : Nat) (x0_0 : List UInt8) (x0_1 : Int) (x1 : List UInt8) (x2 : Int) : Option (List UInt8 × Int) := (if ((decide (x0_1 = (0 : Int))) && (decide (max x2 (0 : Int) < (x1.length : Int)))) = true then (some 3) else (some x0_1)).bind fun s1v => (if s1v = (0 : Int) then ((wire_Writer_Int.f k x0_0 s1v (x1.length : Int)).bind fun s12v => (if (s12v.1.length + x1.length) * 1 ≤ 140737488355328 then (some (s12v.1 ++ x1, s12v.2)) else none)) else (some (x0_0, s1v)))
theorem wire_Writer_Bytes.calls (W : World) (F : HA) (k : Nat) (b0 : Nat) (a0_0 : Option Addr) (c0_0 : Nat) (x0_0 : List UInt8) (x0_1 : Int) (a1 : Option Addr) (c1 : Nat) (x1 : List UInt8) (x2 : Int) (h1 : Rd F a1 (encB x1)) (hc1 : x1.length ≤ c1) (hm1 : c1 ≤ maxLen) :
    Fn Try.prog W 36 [.pointer (some ⟨b0, 0, none⟩), .slice a1 x1.length c1, .int .i64 x2] [obj b0 80 [.slice a0_0 x0_0.length c0_0, .int .i64 x0_1], Row 5 1 a0_0 x0_0.length c0_0 (encB x0_0)] F (wire_Writer_Bytes.f k x0_0 x0_1 x1 x2) (fun (r : List UInt8 × Int) (y : Option Addr × Nat) => .tuple #[]) (fun r y => [obj b0 80 [.slice y.1 r.1.length y.2, .int .i64 r.2], Row 5 1 y.1 r.1.length y.2 (encB r.1)]) := by
  unfold wire_Writer_Bytes.f
  refine fn_intro 39 Try.func36 rfl Try.ntmps36 rfl ?_
  refine sim_cut (S := Int) (Unit) (fun s y => [(0, .pointer (some ⟨b0, 0, none⟩)), (1, .slice a1 x1.length c1)]) (fun s y => [obj b0 80 [.slice a0_0 x0_0.length c0_0, .int .i64 s], Row 5 1 a0_0 x0_0.length c0_0 (encB x0_0), F]) ?_ ?_
  · refine sim_seq ?_
    refine sim_region ?_
    refine simL_val (q_move rfl rfl) rfl rfl rfl ?_
    refine simL_val (q_nil rfl rfl) rfl rfl rfl ?_
    refine simL_val (q_fa rfl rfl Try.underlying80 rfl rfl Try.sizeOf24 rfl) rfl rfl rfl ?_
    refine simL_val (q_load rfl rfl Try.isAgg24 (.obj 0 rfl rfl)) rfl rfl rfl ?_
    refine simL_val (q_eql rfl rfl rfl) rfl rfl rfl ?_
    refine simL_val (q_move rfl rfl) rfl rfl rfl ?_
    refine simL_valc (b := decide (x0_1 = (0 : Int))) (fun hb9v => RQ.sub (E' := [(1, .slice a1 x1.length c1)]) ⟨rfl, trivial⟩ (q_move rfl rfl)) rfl rfl rfl rfl rfl ?_
    refine simL_valc (b := decide (x0_1 = (0 : Int))) (fun hb8v => RQ.sub (E' := [(12, .slice a1 x1.length c1)]) ⟨lk_cv rfl hb8v, trivial⟩ (q_len rfl rfl rfl Try.underlying23)) rfl rfl rfl rfl rfl ?_
    refine simL_valc (b := decide (x0_1 = (0 : Int))) (fun hb7v => RQ.sub (E' := [(2, .int .i64 x2)]) ⟨rfl, trivial⟩ (q_move rfl rfl)) rfl rfl rfl rfl rfl ?_
    refine simL_valc (b := decide (x0_1 = (0 : Int))) (fun hb6v => RQ.sub (E' := [(14, .int .i64 x2)]) ⟨lk_cv rfl hb6v, trivial⟩ (q_max rfl rfl rfl)) rfl rfl rfl rfl rfl ?_
    refine simL_valc (b := decide (x0_1 = (0 : Int))) (fun hb5v => RQ.sub (E' := [(13, .int .i64 (x1.length : Int)), (15, .int .i64 (max x2 (0 : Int)))]) ⟨lk_cv rfl hb5v, lk_cv rfl hb5v, trivial⟩ (q_gtr rfl rfl rfl)) rfl rfl rfl rfl rfl ?_
    refine simL_val (q_and rfl rfl rfl) rfl rfl rfl ?_
    refine simL_nil ?_
    refine nrm_then ?_
    refine sim_condb rfl (fun h3v => ?_) (fun h4v => ?_)
    · refine sim_region ?_
      refine simL_val (q_move rfl rfl) rfl rfl rfl ?_
      refine simL_val (q_nil rfl rfl) rfl rfl rfl ?_
      refine simL_val (q_fa rfl rfl Try.underlying80 rfl rfl Try.sizeOf24 rfl) rfl rfl rfl ?_
      refine simL_do (re_store 0 rfl rfl rfl Try.sizeOf24 rfl rfl (one_of (by rfl)) rfl rfl) rfl rfl ?_
      intro _
      refine simL_nil ?_
      exact nrm_cut (s := 3) () ⟨rfl, rfl, trivial⟩ (.sel 0 rfl (.sel 0 rfl (.sel 0 rfl (.nil _))))
    · refine sim_skip ?_
      exact nrm_cut (s := x0_1) () ⟨rfl, rfl, trivial⟩ (.sel 0 rfl (.sel 0 rfl (.sel 0 rfl (.nil _))))
  · intro s1v y2v
    refine sim_seq ?_
    refine sim_seq ?_
    refine sim_region ?_
    refine simL_val (q_move rfl rfl) rfl rfl rfl ?_
    refine simL_val (q_nil rfl rfl) rfl rfl rfl ?_
    refine simL_val (q_fa rfl rfl Try.underlying80 rfl rfl Try.sizeOf24 rfl) rfl rfl rfl ?_
    refine simL_val (q_load rfl rfl Try.isAgg24 (.obj 0 rfl rfl)) rfl rfl rfl ?_
    refine simL_val (q_neq rfl rfl rfl) rfl rfl rfl ?_
    refine simL_nil ?_
    refine nrm_then ?_
    refine sim_condn rfl (fun h10v => ?_) (fun h11v => ?_)
    · refine sim_skip ?_
      refine nrm_then ?_
      refine sim_seq ?_
      refine sim_region ?_
      refine simL_val (q_move rfl rfl) rfl rfl rfl ?_
      refine simL_val (q_move rfl rfl) rfl rfl rfl ?_
      refine simL_val (q_len rfl rfl rfl Try.underlying23) rfl rfl rfl ?_
      refine simL_bind (fun s12v hs14v => ?_)
      refine simL_eff (re_call (vs := [.pointer (some ⟨b0, 0, none⟩), .int .i64 (x1.length : Int)]) (cap := []) (A := [obj b0 80 [.slice a0_0 x0_0.length c0_0, .int .i64 s1v], Row 5 1 a0_0 x0_0.length c0_0 (encB x0_0)]) (rst := [F]) rfl rfl rfl rfl rfl rfl Try.call32 (.sel 0 rfl (.sel 0 rfl (.sel 0 rfl (.nil _)))) (wire_Writer_Int.calls _ _ k b0 a0_0 c0_0 x0_0 s1v (x1.length : Int) ) hs14v) rfl rfl rfl ?_
      intro y13v
      refine simL_nil ?_
      refine nrm_then ?_
      refine sim_region ?_
      refine simL_val (q_move rfl rfl) rfl rfl rfl ?_
      refine simL_val (q_move rfl rfl) rfl rfl rfl ?_
      refine simL_val (q_nil rfl rfl) rfl rfl rfl ?_
      refine simL_val (q_fa rfl rfl Try.underlying80 rfl rfl Try.sizeOf23 rfl) rfl rfl rfl ?_
      refine simL_val (q_load rfl rfl Try.isAgg23 (.obj 0 rfl rfl)) rfl rfl rfl ?_
      refine simL_val (q_move rfl rfl) rfl rfl rfl ?_
      refine simL_ask (fun hb16v => ?_)
      refine simL_eff (re_appendb 1 rfl rfl rfl Try.underlying23 elt5 rfl (h1.rds 1 rfl) hb16v) rfl rfl rfl ?_
      intro y15v
      refine simL_val (q_nil rfl rfl) rfl rfl rfl ?_
      refine simL_val (q_fa rfl rfl Try.underlying80 rfl rfl Try.sizeOf23 rfl) rfl rfl rfl ?_
      refine simL_do (re_store 0 rfl rfl rfl Try.sizeOf23 rfl rfl (one_of (by rfl)) rfl rfl) rfl rfl ?_
      intro _
      refine simL_nil ?_
      exact nrm_fn (y15v.1, y15v.2) rfl rfl rfl (.sel 0 rfl (.sel 0 rfl (.sel 0 rfl (.nil _))))
    · refine sim_rtn ?_
      refine rtn_then ?_
      exact rtn_fn (a0_0, c0_0) rfl rfl rfl (.sel 0 rfl (.sel 0 rfl (.sel 0 rfl (.nil _))))

def synodref1_Writer_Bytes.f (k : Nat) (x0_0 : List UInt8) (x0_1 : Int) (x1 : List UInt8) (x2 : Int) : Option (List UInt8 × Int) := if x0_1 = (0 : Int) then (if max x2 (0 : Int) < (x1.length : Int) then (some (x0_0, 3)) else ((synodref1_Writer_Int.f k x0_0 x0_1 (x1.length : Int)).bind fun s5v => (if (s5v.1.length + x1.length) * 1 ≤ 140737488355328 then (some (s5v.1 ++ x1, s5v.2)) else none))) else (some (x0_0, x0_1))
theorem synodref1_Writer_Bytes.calls (W : World) (F : HA) (k : Nat) (b0 : Nat) (a0_0 : Option Addr) (c0_0 : Nat) (x0_0 : List UInt8) (x0_1 : Int) (a1 : Option Addr) (c1 : Nat) (x1 : List UInt8) (x2 : Int) (h1 : Rd F a1 (encB x1)) (hc1 : x1.length ≤ c1) (hm1 : c1 ≤ maxLen) :
    Fn Try.prog W 37 [.pointer (some ⟨b0, 0, none⟩), .slice a1 x1.length c1, .int .i64 x2] [obj b0 60 [.slice a0_0 x0_0.length c0_0, .int .i64 x0_1], Row 5 1 a0_0 x0_0.length c0_0 (encB x0_0)] F (synodref1_Writer_Bytes.f k x0_0 x0_1 x1 x2) (fun (r : List UInt8 × Int) (y : Option Addr × Nat) => .tuple #[]) (fun r y => [obj b0 60 [.slice y.1 r.1.length y.2, .int .i64 r.2], Row 5 1 y.1 r.1.length y.2 (encB r.1)]) := by
  unfold synodref1_Writer_Bytes.f
  refine fn_intro 32 Try.func37 rfl Try.ntmps37 rfl ?_
  refine sim_seq ?_
  refine sim_seq ?_
  refine sim_region ?_
  refine simL_val (q_move rfl rfl) rfl rfl rfl ?_
  refine simL_val (q_nil rfl rfl) rfl rfl rfl ?_
  refine simL_val (q_fa rfl rfl Try.underlying60 rfl rfl Try.sizeOf3 rfl) rfl rfl rfl ?_
  refine simL_val (q_load rfl rfl Try.isAgg3 (.obj 0 rfl rfl)) rfl rfl rfl ?_
  refine simL_val (q_neq rfl rfl rfl) rfl rfl rfl ?_
  refine simL_nil ?_
  refine nrm_then ?_
  refine sim_condn rfl (fun h1v => ?_) (fun h2v => ?_)
  · refine sim_skip ?_
    refine nrm_then ?_
    refine sim_seq ?_
    refine sim_seq ?_
    refine sim_region ?_
    refine simL_val (q_move rfl rfl) rfl rfl rfl ?_
    refine simL_val (q_len rfl rfl rfl Try.underlying23) rfl rfl rfl ?_
    refine simL_val (q_move rfl rfl) rfl rfl rfl ?_
    refine simL_val (q_max rfl rfl rfl) rfl rfl rfl ?_
    refine simL_val (q_gtr rfl rfl rfl) rfl rfl rfl ?_
    refine simL_nil ?_
    refine nrm_then ?_
    refine sim_cond rfl (fun h3v => ?_) (fun h4v => ?_)
    · refine sim_seq ?_
      refine sim_region ?_
      refine simL_val (q_move rfl rfl) rfl rfl rfl ?_
      refine simL_val (q_nil rfl rfl) rfl rfl rfl ?_
      refine simL_val (q_fa rfl rfl Try.underlying60 rfl rfl Try.sizeOf3 rfl) rfl rfl rfl ?_
      refine simL_do (re_store 0 rfl rfl rfl Try.sizeOf3 rfl rfl (one_of (by rfl)) rfl rfl) rfl rfl ?_
      intro _
      refine simL_nil ?_
      refine nrm_then ?_
      refine sim_rtn ?_
      refine rtn_then ?_
      exact rtn_fn (a0_0, c0_0) rfl rfl rfl (.sel 0 rfl (.sel 0 rfl (.sel 0 rfl (.nil _))))
    · refine sim_skip ?_
      refine nrm_then ?_
      refine sim_seq ?_
      refine sim_region ?_
      refine simL_val (q_move rfl rfl) rfl rfl rfl ?_
      refine simL_val (q_move rfl rfl) rfl rfl rfl ?_
      refine simL_val (q_len rfl rfl rfl Try.underlying23) rfl rfl rfl ?_
      refine simL_bind (fun s5v hs7v => ?_)
      refine simL_eff (re_call (vs := [.pointer (some ⟨b0, 0, none⟩), .int .i64 (x1.length : Int)]) (cap := []) (A := [obj b0 60 [.slice a0_0 x0_0.length c0_0, .int .i64 x0_1], Row 5 1 a0_0 x0_0.length c0_0 (encB x0_0)]) (rst := [F]) rfl rfl rfl rfl rfl rfl Try.call33 (.sel 0 rfl (.sel 0 rfl (.sel 0 rfl (.nil _)))) (synodref1_Writer_Int.calls _ _ k b0 a0_0 c0_0 x0_0 x0_1 (x1.length : Int) ) hs7v) rfl rfl rfl ?_
      intro y6v
      refine simL_nil ?_
      refine nrm_then ?_
      refine sim_region ?_
      refine simL_val (q_move rfl rfl) rfl rfl rfl ?_
      refine simL_val (q_move rfl rfl) rfl rfl rfl ?_
      refine simL_val (q_nil rfl rfl) rfl rfl rfl ?_
      refine simL_val (q_fa rfl rfl Try.underlying60 rfl rfl Try.sizeOf23 rfl) rfl rfl rfl ?_
      refine simL_val (q_load rfl rfl Try.isAgg23 (.obj 0 rfl rfl)) rfl rfl rfl ?_
      refine simL_val (q_move rfl rfl) rfl rfl rfl ?_
      refine simL_ask (fun hb9v => ?_)
      refine simL_eff (re_appendb 1 rfl rfl rfl Try.underlying23 elt5 rfl (h1.rds 1 rfl) hb9v) rfl rfl rfl ?_
      intro y8v
      refine simL_val (q_nil rfl rfl) rfl rfl rfl ?_
      refine simL_val (q_fa rfl rfl Try.underlying60 rfl rfl Try.sizeOf23 rfl) rfl rfl rfl ?_
      refine simL_do (re_store 0 rfl rfl rfl Try.sizeOf23 rfl rfl (one_of (by rfl)) rfl rfl) rfl rfl ?_
      intro _
      refine simL_nil ?_
      exact nrm_fn (y8v.1, y8v.2) rfl rfl rfl (.sel 0 rfl (.sel 0 rfl (.sel 0 rfl (.nil _))))
  · refine sim_rtn ?_
    refine rtn_then ?_
    exact rtn_fn (a0_0, c0_0) rfl rfl rfl (.sel 0 rfl (.sel 0 rfl (.sel 0 rfl (.nil _))))

def wire_Writer_Text.f (k : Nat) (x0_0 : List UInt8) (x0_1 : Int) (x1 : List UInt8) (x2 : Int) : Option (List UInt8 × Int) := if x1.length ≤ 140737488355328 then ((wire_Writer_Bytes.f k x0_0 x0_1 x1 x2).bind fun s7v => (some (s7v.1, s7v.2))) else none
theorem wire_Writer_Text.calls (W : World) (F : HA) (k : Nat) (b0 : Nat) (a0_0 : Option Addr) (c0_0 : Nat) (x0_0 : List UInt8) (x0_1 : Int) (x1 : List UInt8) (x2 : Int)  :
    Fn Try.prog W 38 [.pointer (some ⟨b0, 0, none⟩), str x1, .int .i64 x2] [obj b0 80 [.slice a0_0 x0_0.length c0_0, .int .i64 x0_1], Row 5 1 a0_0 x0_0.length c0_0 (encB x0_0)] F (wire_Writer_Text.f k x0_0 x0_1 x1 x2) (fun (r : List UInt8 × Int) (y : Option Addr × Nat) => .tuple #[]) (fun r y => [obj b0 80 [.slice y.1 r.1.length y.2, .int .i64 r.2], Row 5 1 y.1 r.1.length y.2 (encB r.1)]) := by
  unfold wire_Writer_Text.f
  refine fn_intro 11 Try.func38 rfl Try.ntmps38 rfl ?_
  refine sim_region ?_
  refine simL_val (q_move rfl rfl) rfl rfl rfl ?_
  refine simL_val (q_move rfl rfl) rfl rfl rfl ?_
  refine simL_ask (fun hb2v => ?_)
  refine simL_eff (re_tobytes rfl rfl Try.underlying9 Try.underlying23 Try.underlying5 hb2v) rfl rfl rfl ?_
  intro y1v
  refine simL_val (q_move rfl rfl) rfl rfl rfl ?_
  refine simL_bind (fun s7v hs9v => ?_)
  refine simL_lend 0 rfl (fun hq3v hq4v hq5v hq6v => ?_)
  refine simL_eff (re_call (vs := [.pointer (some ⟨b0, 0, none⟩), .slice (some ⟨y1v.1, 0, none⟩) x1.length y1v.2, .int .i64 x2]) (cap := []) (A := [obj b0 80 [.slice a0_0 x0_0.length c0_0, .int .i64 x0_1], Row 5 1 a0_0 x0_0.length c0_0 (encB x0_0)]) (rst := [Row 5 1 (some ⟨y1v.1, 0, none⟩) x1.length y1v.2 (encB x1), F]) rfl rfl rfl rfl rfl rfl Try.call36 (.sel 1 rfl (.sel 1 rfl (.sel 0 rfl (.sel 0 rfl (.nil _))))) (wire_Writer_Bytes.calls _ _ k b0 a0_0 c0_0 x0_0 x0_1 (some ⟨y1v.1, 0, none⟩) y1v.2 x1 x2 (hq3v.lend 0 rfl) hq4v hq5v) hs9v) rfl rfl rfl ?_
  intro y8v
  refine simL_nil ?_
  exact nrm_fn (y8v.1, y8v.2) rfl rfl rfl (.sel 0 rfl (.sel 0 rfl (.sel 1 rfl (.nil _))))

def synodref1_Writer_Text.f (k : Nat) (x0_0 : List UInt8) (x0_1 : Int) (x1 : List UInt8) (x2 : Int) : Option (List UInt8 × Int) := if x1.length ≤ 140737488355328 then ((synodref1_Writer_Bytes.f k x0_0 x0_1 x1 x2).bind fun s7v => (some (s7v.1, s7v.2))) else none
theorem synodref1_Writer_Text.calls (W : World) (F : HA) (k : Nat) (b0 : Nat) (a0_0 : Option Addr) (c0_0 : Nat) (x0_0 : List UInt8) (x0_1 : Int) (x1 : List UInt8) (x2 : Int)  :
    Fn Try.prog W 39 [.pointer (some ⟨b0, 0, none⟩), str x1, .int .i64 x2] [obj b0 60 [.slice a0_0 x0_0.length c0_0, .int .i64 x0_1], Row 5 1 a0_0 x0_0.length c0_0 (encB x0_0)] F (synodref1_Writer_Text.f k x0_0 x0_1 x1 x2) (fun (r : List UInt8 × Int) (y : Option Addr × Nat) => .tuple #[]) (fun r y => [obj b0 60 [.slice y.1 r.1.length y.2, .int .i64 r.2], Row 5 1 y.1 r.1.length y.2 (encB r.1)]) := by
  unfold synodref1_Writer_Text.f
  refine fn_intro 11 Try.func39 rfl Try.ntmps39 rfl ?_
  refine sim_region ?_
  refine simL_val (q_move rfl rfl) rfl rfl rfl ?_
  refine simL_val (q_move rfl rfl) rfl rfl rfl ?_
  refine simL_ask (fun hb2v => ?_)
  refine simL_eff (re_tobytes rfl rfl Try.underlying9 Try.underlying23 Try.underlying5 hb2v) rfl rfl rfl ?_
  intro y1v
  refine simL_val (q_move rfl rfl) rfl rfl rfl ?_
  refine simL_bind (fun s7v hs9v => ?_)
  refine simL_lend 0 rfl (fun hq3v hq4v hq5v hq6v => ?_)
  refine simL_eff (re_call (vs := [.pointer (some ⟨b0, 0, none⟩), .slice (some ⟨y1v.1, 0, none⟩) x1.length y1v.2, .int .i64 x2]) (cap := []) (A := [obj b0 60 [.slice a0_0 x0_0.length c0_0, .int .i64 x0_1], Row 5 1 a0_0 x0_0.length c0_0 (encB x0_0)]) (rst := [Row 5 1 (some ⟨y1v.1, 0, none⟩) x1.length y1v.2 (encB x1), F]) rfl rfl rfl rfl rfl rfl Try.call37 (.sel 1 rfl (.sel 1 rfl (.sel 0 rfl (.sel 0 rfl (.nil _))))) (synodref1_Writer_Bytes.calls _ _ k b0 a0_0 c0_0 x0_0 x0_1 (some ⟨y1v.1, 0, none⟩) y1v.2 x1 x2 (hq3v.lend 0 rfl) hq4v hq5v) hs9v) rfl rfl rfl ?_
  intro y8v
  refine simL_nil ?_
  exact nrm_fn (y8v.1, y8v.2) rfl rfl rfl (.sel 0 rfl (.sel 0 rfl (.sel 1 rfl (.nil _))))

def wire_Writer_Done.f (x0_0 : List UInt8) (x0_1 : Int) : Option (List UInt8 × Int) := if x0_1 = (0 : Int) then ((wire_fresh.f x0_0).bind fun s7v => (some (s7v, 0))) else (some (([] : List UInt8), x0_1))
theorem wire_Writer_Done.calls (W : World) (F : HA) (b0 : Nat) (a0_0 : Option Addr) (c0_0 : Nat) (x0_0 : List UInt8) (x0_1 : Int)  :
    Fn Try.prog W 42 [.pointer (some ⟨b0, 0, none⟩)] [obj b0 80 [.slice a0_0 x0_0.length c0_0, .int .i64 x0_1], Row 5 1 a0_0 x0_0.length c0_0 (encB x0_0)] F (wire_Writer_Done.f x0_0 x0_1) (fun (r : List UInt8 × Int) (y : Option Addr × Nat) => .tuple #[.slice y.1 r.1.length y.2, .int .i64 r.2]) (fun r y => [Row 5 1 y.1 r.1.length y.2 (encB r.1), obj b0 80 [.slice a0_0 x0_0.length c0_0, .int .i64 x0_1], Row 5 1 a0_0 x0_0.length c0_0 (encB x0_0)]) := by
  unfold wire_Writer_Done.f
  refine fn_intro 18 Try.func42 rfl Try.ntmps42 rfl ?_
  refine sim_seq ?_
  refine sim_region ?_
  refine simL_val (q_asg rfl rfl) rfl rfl rfl ?_
  refine simL_val (q_asg rfl rfl) rfl rfl rfl ?_
  refine simL_nil ?_
  refine nrm_then ?_
  refine sim_seq ?_
  refine sim_seq ?_
  refine sim_region ?_
  refine simL_val (q_move rfl rfl) rfl rfl rfl ?_
  refine simL_val (q_nil rfl rfl) rfl rfl rfl ?_
  refine simL_val (q_fa rfl rfl Try.underlying80 rfl rfl Try.sizeOf24 rfl) rfl rfl rfl ?_
  refine simL_val (q_load rfl rfl Try.isAgg24 (.obj 0 rfl rfl)) rfl rfl rfl ?_
  refine simL_val (q_neq rfl rfl rfl) rfl rfl rfl ?_
  refine simL_nil ?_
  refine nrm_then ?_
  refine sim_condn rfl (fun h1v => ?_) (fun h2v => ?_)
  · refine sim_skip ?_
    refine nrm_then ?_
    refine sim_seq ?_
    refine sim_region ?_
    refine simL_val (q_move rfl rfl) rfl rfl rfl ?_
    refine simL_val (q_nil rfl rfl) rfl rfl rfl ?_
    refine simL_val (q_fa rfl rfl Try.underlying80 rfl rfl Try.sizeOf23 rfl) rfl rfl rfl ?_
    refine simL_val (q_load rfl rfl Try.isAgg23 (.obj 0 rfl rfl)) rfl rfl rfl ?_
    refine simL_bind (fun s7v hs9v => ?_)
    refine simL_lend 1 rfl (fun hq3v hq4v hq5v hq6v => ?_)
    refine simL_eff (re_call (vs := [.slice a0_0 x0_0.length c0_0]) (cap := []) (A := []) (rst := [obj b0 80 [.slice a0_0 x0_0.length c0_0, .int .i64 x0_1], Row 5 1 a0_0 x0_0.length c0_0 (encB x0_0), F]) rfl rfl rfl rfl rfl rfl Try.call48 (.sel 0 rfl (.sel 0 rfl (.sel 0 rfl (.nil _)))) (wire_fresh.calls _ _ a0_0 c0_0 x0_0 (hq3v.lend 1 rfl) hq4v hq5v) hs9v) rfl rfl rfl ?_
    intro y8v
    refine simL_val (q_asg rfl rfl) rfl rfl rfl ?_
    refine simL_val (q_asg rfl rfl) rfl rfl rfl ?_
    refine simL_nil ?_
    refine nrm_then ?_
    refine sim_rtn ?_
    exact rtn_fn (y8v.1, y8v.2) rfl rfl rfl (.sel 0 rfl (.sel 0 rfl (.sel 0 rfl (.sel 0 rfl (.nil _)))))
  · refine sim_seq ?_
    refine sim_draw (Γ := Unit) () [[], [0], [0, 1], [0, 1, 2], [], [0, 1, 2, 3, 4]] [] [0, 1, 2, 3, 4, 5] (fun i => [[0], [0], [0], [0], [0], [0]].getD i []) (fun i => [[], [], [], [], [], []].getD i []) (fun γ i => [.pointer (some ⟨b0, 0, none⟩), .pointer (some ⟨b0, 0, none⟩), .pointer (some ⟨b0, 1, none⟩), .int .i64 x0_1, .slice none 0 0, .int .i64 x0_1].getD i undef) (fun j γ => [[obj b0 80 [.slice a0_0 x0_0.length c0_0, .int .i64 x0_1], Row 5 1 a0_0 x0_0.length c0_0 (encB x0_0), F]].getD j []) (fun γ => [(2, .slice none 0 0), (3, .int .i64 x0_1)]) mixed (by decide) (by decide) (by decide) (by decide) (by decide) (by decide) (by decide) 18 rfl (by decide) (by decide) (by decide) (Ent.refl _) ?_ ?_ (fun _ => ⟨rfl, rfl, trivial⟩) ?_
    · exact (All.cons (fun γ => (All.cons (QOb.plain [(0, .pointer (some ⟨b0, 0, none⟩))] rfl rfl (.o rfl (by decide) .nil) (q_move rfl rfl) rfl) All.nil)) (All.cons (fun γ => (All.cons (QOb.plain [(9, .pointer (some ⟨b0, 0, none⟩))] rfl rfl (.w 0 rfl rfl rfl .nil) (q_nil rfl rfl) rfl) All.nil)) (All.cons (fun γ => (All.cons (QOb.plain [(10, .pointer (some ⟨b0, 0, none⟩))] rfl rfl (.w 1 rfl rfl rfl .nil) (q_fa rfl rfl Try.underlying80 rfl rfl Try.sizeOf24 rfl) rfl) All.nil)) (All.cons (fun γ => (All.cons (QOb.plain [(11, .pointer (some ⟨b0, 1, none⟩))] rfl rfl (.w 2 rfl rfl rfl .nil) (q_load rfl rfl Try.isAgg24 (.obj 0 rfl rfl)) rfl) All.nil)) (All.cons (fun γ => (All.cons (QOb.plain [] rfl rfl .nil (q_asg rfl rfl) rfl) All.nil)) (All.cons (fun γ => (All.cons (QOb.plain [(12, .int .i64 x0_1)] rfl rfl (.w 3 rfl rfl rfl .nil) (q_asg rfl rfl) rfl) All.nil)) All.nil))))))
    · exact All.nil
    · intro g10v
      refine nrm_then ?_
      refine sim_rtn ?_
      refine rtn_then ?_
      exact rtn_fn (none, 0) rfl rfl rfl (.row_nil (.sel 0 rfl (.sel 0 rfl (.sel 0 rfl (.nil _)))))

def synodref1_Writer_Done.f (x0_0 : List UInt8) (x0_1 : Int) : Option (List UInt8 × Int) := if x0_1 = (0 : Int) then (some (x0_0, 0)) else (some (([] : List UInt8), x0_1))
theorem synodref1_Writer_Done.calls (W : World) (F : HA) (b0 : Nat) (a0_0 : Option Addr) (c0_0 : Nat) (x0_0 : List UInt8) (x0_1 : Int)  :
    Fn Try.prog W 53 [.pointer (some ⟨b0, 0, none⟩)] [obj b0 60 [.slice a0_0 x0_0.length c0_0, .int .i64 x0_1], Row 5 1 a0_0 x0_0.length c0_0 (encB x0_0)] F (synodref1_Writer_Done.f x0_0 x0_1) (fun (r : List UInt8 × Int) (y : Option Addr × Nat) => .tuple #[.slice y.1 r.1.length y.2, .int .i64 r.2]) (fun r y => [pr (Rd (Row 5 1 a0_0 x0_0.length c0_0 (encB x0_0)) y.1 (encB r.1) ∧ r.1.length ≤ y.2 ∧ y.2 ≤ maxLen), obj b0 60 [.slice a0_0 x0_0.length c0_0, .int .i64 x0_1], Row 5 1 a0_0 x0_0.length c0_0 (encB x0_0)]) := by
  unfold synodref1_Writer_Done.f
  refine fn_intro 17 Try.func53 rfl Try.ntmps53 rfl ?_
  refine sim_seq ?_
  refine sim_region ?_
  refine simL_val (q_asg rfl rfl) rfl rfl rfl ?_
  refine simL_val (q_asg rfl rfl) rfl rfl rfl ?_
  refine simL_nil ?_
  refine nrm_then ?_
  refine sim_seq ?_
  refine sim_seq ?_
  refine sim_region ?_
  refine simL_val (q_move rfl rfl) rfl rfl rfl ?_
  refine simL_val (q_nil rfl rfl) rfl rfl rfl ?_
  refine simL_val (q_fa rfl rfl Try.underlying60 rfl rfl Try.sizeOf3 rfl) rfl rfl rfl ?_
  refine simL_val (q_load rfl rfl Try.isAgg3 (.obj 0 rfl rfl)) rfl rfl rfl ?_
  refine simL_val (q_neq rfl rfl rfl) rfl rfl rfl ?_
  refine simL_nil ?_
  refine nrm_then ?_
  refine sim_condn rfl (fun h1v => ?_) (fun h2v => ?_)
  · refine sim_skip ?_
    refine nrm_then ?_
    refine sim_seq ?_
    refine sim_region ?_
    refine simL_val (q_move rfl rfl) rfl rfl rfl ?_
    refine simL_val (q_nil rfl rfl) rfl rfl rfl ?_
    refine simL_val (q_fa rfl rfl Try.underlying60 rfl rfl Try.sizeOf23 rfl) rfl rfl rfl ?_
    refine simL_val (q_load rfl rfl Try.isAgg23 (.obj 0 rfl rfl)) rfl rfl rfl ?_
    refine simL_val (q_asg rfl rfl) rfl rfl rfl ?_
    refine simL_val (q_asg rfl rfl) rfl rfl rfl ?_
    refine simL_nil ?_
    refine nrm_then ?_
    refine sim_rtn ?_
    refine rtn_lend 1 rfl (fun hq3v hq4v hq5v hq6v => ?_)
    exact rtn_fn (a0_0, c0_0) rfl rfl rfl (.pr_in ⟨hq3v, hq4v, hq5v⟩ (.sel 0 rfl (.sel 0 rfl (.sel 0 rfl (.nil _)))))
  · refine sim_seq ?_
    refine sim_draw (Γ := Unit) () [[], [0], [0, 1], [0, 1, 2], [], [0, 1, 2, 3, 4]] [] [0, 1, 2, 3, 4, 5] (fun i => [[0], [0], [0], [0], [0], [0]].getD i []) (fun i => [[], [], [], [], [], []].getD i []) (fun γ i => [.pointer (some ⟨b0, 0, none⟩), .pointer (some ⟨b0, 0, none⟩), .pointer (some ⟨b0, 1, none⟩), .int .i64 x0_1, .slice none 0 0, .int .i64 x0_1].getD i undef) (fun j γ => [[obj b0 60 [.slice a0_0 x0_0.length c0_0, .int .i64 x0_1], Row 5 1 a0_0 x0_0.length c0_0 (encB x0_0), F]].getD j []) (fun γ => [(2, .slice none 0 0), (3, .int .i64 x0_1)]) mixed (by decide) (by decide) (by decide) (by decide) (by decide) (by decide) (by decide) 17 rfl (by decide) (by decide) (by decide) (Ent.refl _) ?_ ?_ (fun _ => ⟨rfl, rfl, trivial⟩) ?_
    · exact (All.cons (fun γ => (All.cons (QOb.plain [(0, .pointer (some ⟨b0, 0, none⟩))] rfl rfl (.o rfl (by decide) .nil) (q_move rfl rfl) rfl) All.nil)) (All.cons (fun γ => (All.cons (QOb.plain [(9, .pointer (some ⟨b0, 0, none⟩))] rfl rfl (.w 0 rfl rfl rfl .nil) (q_nil rfl rfl) rfl) All.nil)) (All.cons (fun γ => (All.cons (QOb.plain [(10, .pointer (some ⟨b0, 0, none⟩))] rfl rfl (.w 1 rfl rfl rfl .nil) (q_fa rfl rfl Try.underlying60 rfl rfl Try.sizeOf3 rfl) rfl) All.nil)) (All.cons (fun γ => (All.cons (QOb.plain [(11, .pointer (some ⟨b0, 1, none⟩))] rfl rfl (.w 2 rfl rfl rfl .nil) (q_load rfl rfl Try.isAgg3 (.obj 0 rfl rfl)) rfl) All.nil)) (All.cons (fun γ => (All.cons (QOb.plain [] rfl rfl .nil (q_asg rfl rfl) rfl) All.nil)) (All.cons (fun γ => (All.cons (QOb.plain [(12, .int .i64 x0_1)] rfl rfl (.w 3 rfl rfl rfl .nil) (q_asg rfl rfl) rfl) All.nil)) All.nil))))))
    · exact All.nil
    · intro g7v
      refine nrm_then ?_
      refine sim_rtn ?_
      refine rtn_then ?_
      exact rtn_fn (none, 0) rfl rfl rfl (.pr_in ⟨Rd.nil _ _, Nat.le_refl _, Nat.zero_le _⟩ (.sel 0 rfl (.sel 0 rfl (.sel 0 rfl (.nil _)))))

def synodlaw1_done.l0 : Nat → List UInt8 → Int → Option (List UInt8)
  | 0, _, _ => none
  | k + 1, z19v, z20v => if z20v < (z19v.length : Int) then (if 0 ≤ z20v ∧ z20v < (z19v.length : Int) then (synodlaw1_done.l0 k (z19v.set z20v.toNat 170) (IntKind.i64.wrap (z20v + 1))) else none) else (some z19v)
def synodlaw1_done.f (k : Nat) (x0_0 : List UInt8) (x0_1 : Int) (x1_0 : List UInt8) (x1_1 : Int) : Option (Bool) := (wire_Writer_Done.f x0_0 x0_1).bind fun s1v => ((synodref1_Writer_Done.f x1_0 x1_1).bind fun s4v => ((synodref_SameBytes.f k s1v.1 s4v.1).bind fun s12v => ((synodlaw1_done.l0 k s1v.1 0).bind fun s15v => (if (s15v.length + ([170] : List UInt8).length) * 1 ≤ 140737488355328 then ((if s12v = true then ((synodref_Num.f s1v.2).bind fun s34v => (some (decide (s34v = s4v.2)))) else (some false)).bind fun s32v => (some (s32v && (decide (((s15v ++ ([170] : List UInt8)).length : Int) = IntKind.i64.wrap ((s4v.1.length : Int) + 1)))))) else none))))
theorem synodlaw1_done.calls (W : World) (F : HA) (k : Nat) (b0 : Nat) (a0_0 : Option Addr) (c0_0 : Nat) (x0_0 : List UInt8) (x0_1 : Int) (b1 : Nat) (a1_0 : Option Addr) (c1_0 : Nat) (x1_0 : List UInt8) (x1_1 : Int)  :
    Fn Try.prog W 40 [.pointer (some ⟨b0, 0, none⟩), .pointer (some ⟨b1, 0, none⟩)] [obj b0 80 [.slice a0_0 x0_0.length c0_0, .int .i64 x0_1], Row 5 1 a0_0 x0_0.length c0_0 (encB x0_0), obj b1 60 [.slice a1_0 x1_0.length c1_0, .int .i64 x1_1], Row 5 1 a1_0 x1_0.length c1_0 (encB x1_0)] F (synodlaw1_done.f k x0_0 x0_1 x1_0 x1_1) (fun (r : Bool) (y : Unit) => .bool r) (fun r y => [obj b0 80 [.slice a0_0 x0_0.length c0_0, .int .i64 x0_1], Row 5 1 a0_0 x0_0.length c0_0 (encB x0_0), obj b1 60 [.slice a1_0 x1_0.length c1_0, .int .i64 x1_1], Row 5 1 a1_0 x1_0.length c1_0 (encB x1_0)]) := by
  unfold synodlaw1_done.f
  refine fn_intro 51 Try.func40 rfl Try.ntmps40 rfl ?_
  refine sim_seq ?_
  refine sim_region ?_
  refine simL_val (q_asg rfl rfl) rfl rfl rfl ?_
  refine simL_nil ?_
  refine nrm_then ?_
  refine sim_seq ?_
  refine sim_region ?_
  refine simL_val (q_move rfl rfl) rfl rfl rfl ?_
  refine simL_bind (fun s1v hs3v => ?_)
  refine simL_eff (re_call (vs := [.pointer (some ⟨b0, 0, none⟩)]) (cap := []) (A := [obj b0 80 [.slice a0_0 x0_0.length c0_0, .int .i64 x0_1], Row 5 1 a0_0 x0_0.length c0_0 (encB x0_0)]) (rst := [obj b1 60 [.slice a1_0 x1_0.length c1_0, .int .i64 x1_1], Row 5 1 a1_0 x1_0.length c1_0 (encB x1_0), F]) rfl rfl rfl rfl rfl rfl Try.call42 (.sel 0 rfl (.sel 0 rfl (.sel 0 rfl (.sel 0 rfl (.sel 0 rfl (.nil _)))))) (wire_Writer_Done.calls _ _ b0 a0_0 c0_0 x0_0 x0_1 ) hs3v) rfl rfl rfl ?_
  intro y2v
  refine simL_val (q_move rfl rfl) rfl rfl rfl ?_
  refine simL_val (q_ext rfl rfl rfl) rfl rfl rfl ?_
  refine simL_val (q_ext rfl rfl rfl) rfl rfl rfl ?_
  refine simL_val (q_asg rfl rfl) rfl rfl rfl ?_
  refine simL_val (q_asg rfl rfl) rfl rfl rfl ?_
  refine simL_nil ?_
  refine nrm_then ?_
  refine sim_seq ?_
  refine sim_region ?_
  refine simL_val (q_move rfl rfl) rfl rfl rfl ?_
  refine simL_bind (fun s4v hs6v => ?_)
  refine simL_eff (re_call (vs := [.pointer (some ⟨b1, 0, none⟩)]) (cap := []) (A := [obj b1 60 [.slice a1_0 x1_0.length c1_0, .int .i64 x1_1], Row 5 1 a1_0 x1_0.length c1_0 (encB x1_0)]) (rst := [Row 5 1 y2v.1 s1v.1.length y2v.2 (encB s1v.1), obj b0 80 [.slice a0_0 x0_0.length c0_0, .int .i64 x0_1], Row 5 1 a0_0 x0_0.length c0_0 (encB x0_0), F]) rfl rfl rfl rfl rfl rfl Try.call53 (.sel 3 rfl (.sel 3 rfl (.sel 0 rfl (.sel 0 rfl (.sel 0 rfl (.sel 0 rfl (.nil _))))))) (synodref1_Writer_Done.calls _ _ b1 a1_0 c1_0 x1_0 x1_1 ) hs6v) rfl rfl rfl ?_
  intro y5v
  refine simL_pr (fun hp7v => ?_)
  refine simL_val (q_move rfl rfl) rfl rfl rfl ?_
  refine simL_val (q_ext rfl rfl rfl) rfl rfl rfl ?_
  refine simL_val (q_ext rfl rfl rfl) rfl rfl rfl ?_
  refine simL_val (q_asg rfl rfl) rfl rfl rfl ?_
  refine simL_val (q_asg rfl rfl) rfl rfl rfl ?_
  refine simL_nil ?_
  refine nrm_then ?_
  refine sim_seq ?_
  refine sim_region ?_
  refine simL_val (q_move rfl rfl) rfl rfl rfl ?_
  refine simL_val (q_move rfl rfl) rfl rfl rfl ?_
  refine simL_bind (fun s12v hs14v => ?_)
  refine simL_lend 2 rfl (fun hq8v hq9v hq10v hq11v => ?_)
  refine simL_eff (re_call (vs := [.slice y2v.1 s1v.1.length y2v.2, .slice y5v.1 s4v.1.length y5v.2]) (cap := []) (A := []) (rst := [obj b1 60 [.slice a1_0 x1_0.length c1_0, .int .i64 x1_1], Row 5 1 a1_0 x1_0.length c1_0 (encB x1_0), Row 5 1 y2v.1 s1v.1.length y2v.2 (encB s1v.1), obj b0 80 [.slice a0_0 x0_0.length c0_0, .int .i64 x0_1], Row 5 1 a0_0 x0_0.length c0_0 (encB x0_0), F]) rfl rfl rfl rfl rfl rfl Try.call13 (.sel 0 rfl (.sel 0 rfl (.sel 0 rfl (.sel 0 rfl (.sel 0 rfl (.sel 0 rfl (.nil _))))))) (synodref_SameBytes.calls _ _ k y2v.1 y2v.2 s1v.1 y5v.1 y5v.2 s4v.1 (hq8v.lend 2 rfl) hq9v hq10v (hp7v.1.lend 1 rfl) hp7v.2.1 hp7v.2.2) hs14v) rfl rfl rfl ?_
  intro y13v
  refine simL_val (q_asg rfl rfl) rfl rfl rfl ?_
  refine simL_nil ?_
  refine nrm_then ?_
  refine sim_cut (S := List UInt8) (Unit) (fun s y => [(5, .slice y2v.1 s.length y2v.2), (6, .int .i64 s1v.2), (7, .slice y5v.1 s4v.1.length y5v.2), (8, .int .i64 s4v.2), (9, .bool s12v)]) (fun s y => [obj b1 60 [.slice a1_0 x1_0.length c1_0, .int .i64 x1_1], obj b0 80 [.slice a0_0 x0_0.length c0_0, .int .i64 x0_1], Row 5 1 y2v.1 s.length y2v.2 (encB s), Row 5 1 a1_0 x1_0.length c1_0 (encB x1_0), Row 5 1 a0_0 x0_0.length c0_0 (encB x0_0), F]) ?_ ?_
  · refine sim_seq ?_
    refine sim_region ?_
    refine simL_val (q_asg rfl rfl) rfl rfl rfl ?_
    refine simL_nil ?_
    refine nrm_then ?_
    refine sim_block ?_
    refine sim_loop (S := List UInt8 × Int) (Unit) (fun k s => synodlaw1_done.l0 k s.1 s.2) (fun s y => [(5, .slice y2v.1 s.1.length y2v.2), (6, .int .i64 s1v.2), (7, .slice y5v.1 s4v.1.length y5v.2), (8, .int .i64 s4v.2), (9, .bool s12v), (10, .int .i64 s.2)]) (fun s y => [obj b1 60 [.slice a1_0 x1_0.length c1_0, .int .i64 x1_1], obj b0 80 [.slice a0_0 x0_0.length c0_0, .int .i64 x0_1], Row 5 1 y2v.1 s.1.length y2v.2 (encB s.1), Row 5 1 a1_0 x1_0.length c1_0 (encB x1_0), Row 5 1 a0_0 x0_0.length c0_0 (encB x0_0), F]) (fun _ => by rw [synodlaw1_done.l0]) ?_ k (s1v.1, 0) () ⟨rfl, rfl, rfl, rfl, rfl, rfl, trivial⟩ (.sel 0 rfl (.sel 2 rfl (.sel 1 rfl (.sel 0 rfl (.sel 0 rfl (.sel 0 rfl (.nil _)))))))
    intro k s17v y18v
    refine sim_eq (by rw [synodlaw1_done.l0]) ?_
    refine sim_seq ?_
    refine sim_seq ?_
    refine sim_region ?_
    refine simL_val (q_move rfl rfl) rfl rfl rfl ?_
    refine simL_val (q_move rfl rfl) rfl rfl rfl ?_
    refine simL_val (q_len rfl rfl rfl Try.underlying23) rfl rfl rfl ?_
    refine simL_val (q_lss rfl rfl rfl) rfl rfl rfl ?_
    refine simL_nil ?_
    refine nrm_then ?_
    refine sim_cond rfl (fun h21v => ?_) (fun h22v => ?_)
    · refine sim_skip ?_
      refine nrm_then ?_
      refine sim_seq ?_
      refine sim_block ?_
      refine sim_region ?_
      refine simL_val (q_move rfl rfl) rfl rfl rfl ?_
      refine simL_val (q_move rfl rfl) rfl rfl rfl ?_
      refine simL_ask (fun hi23v => ?_)
      refine simL_row 2 rfl (encB_ne (j := s17v.2.toNat) (by omega)) (fun b24v b24vo ha25v => ?_)
      refine simL_val (q_idx1 rfl rfl rfl ha25v Try.underlying23 Try.sizeOf5 hi23v.1 hi23v.2) rfl rfl rfl ?_
      refine simL_do (re_storeb 170 2 rfl rfl rfl Try.sizeOf5 rfl ha25v hi23v.2 hi23v.1 rfl) rfl rfl ?_
      intro _
      refine simL_ren (.slice y2v.1 ((s17v.1.set s17v.2.toNat 170).length) y2v.2) (d := 5) rfl (slc_len (by simp)) ?_
      refine simL_ren (.slice y2v.1 ((s17v.1.set s17v.2.toNat 170).length) y2v.2) (d := 25) rfl (slc_len (by simp)) ?_
      refine simL_ren (.slice y2v.1 ((s17v.1.set s17v.2.toNat 170).length) y2v.2) (d := 30) rfl (slc_len (by simp)) ?_
      refine simL_nil ?_
      refine nrm_block ?_
      refine nrm_then ?_
      refine sim_region ?_
      refine simL_val (q_move rfl rfl) rfl rfl rfl ?_
      refine simL_val (q_add rfl rfl rfl) rfl rfl rfl ?_
      refine simL_val (q_asg rfl rfl) rfl rfl rfl ?_
      refine simL_nil ?_
      exact nrm_again (s := (s17v.1.set s17v.2.toNat 170, IntKind.i64.wrap (s17v.2 + 1))) () ⟨rfl, rfl, rfl, rfl, rfl, rfl, trivial⟩ (.sel 0 rfl (.sel 0 rfl (.sel 0 rfl (.sel 0 rfl (.sel 0 rfl (.sel 0 rfl (.nil _)))))))
    · refine sim_exi ?_
      refine exi_then ?_
      refine exi_loop ?_
      refine exi_here ?_
      exact nrm_cut (s := s17v.1) () ⟨rfl, rfl, rfl, rfl, rfl, trivial⟩ (.sel 0 rfl (.sel 0 rfl (.sel 0 rfl (.sel 0 rfl (.sel 0 rfl (.sel 0 rfl (.nil _)))))))
  · intro s15v y16v
    refine sim_seq ?_
    refine sim_region ?_
    refine simL_val (q_move rfl rfl) rfl rfl rfl ?_
    refine simL_eff (re_litb (cs := [.int .u8 170]) ([170] : List UInt8) rfl rfl Try.underlying23 elt5 rfl (by kernel_rfl) rfl rfl rfl) rfl rfl rfl ?_
    intro b28v
    refine simL_ask (fun hb31v => ?_)
    refine simL_eff (re_appendb 3 rfl rfl rfl Try.underlying23 elt5 rfl (Rds.row 0 rfl) hb31v) rfl rfl rfl ?_
    intro y30v
    refine simL_val (q_asg rfl rfl) rfl rfl rfl ?_
    refine simL_nil ?_
    refine nrm_then ?_
    refine sim_seq ?_
    refine sim_region ?_
    refine simL_val (q_move rfl rfl) rfl rfl rfl ?_
    refine simL_val (q_move rfl rfl) rfl rfl rfl ?_
    refine simL_cut' 5 (S := Bool) (Unit) (fun s y => [(5, .slice y30v.1 ((s15v ++ ([170] : List UInt8)).length) y30v.2), (7, .slice y5v.1 s4v.1.length y5v.2), (42, .bool s)]) (fun s y => [obj b1 60 [.slice a1_0 x1_0.length c1_0, .int .i64 x1_1], obj b0 80 [.slice a0_0 x0_0.length c0_0, .int .i64 x0_1], Row 5 1 y30v.1 (s15v ++ ([170] : List UInt8)).length y30v.2 (encB (s15v ++ ([170] : List UInt8))), Row 5 1 a1_0 x1_0.length c1_0 (encB x1_0), Row 5 1 a0_0 x0_0.length c0_0 (encB x0_0), F]) ?_ ?_
    · refine simL_caseb (fun hb37v => ?_) (fun hb38v => ?_)
      · rw [hb37v]
        refine simL_valg (q_move rfl rfl) rfl rfl rfl rfl rfl rfl ?_
        refine simL_bind (fun s34v hs36v => ?_)
        refine simL_effg (re_call (vs := [.int .i64 s1v.2]) (cap := []) (A := []) (rst := [Row 5 1 (some ⟨b28v, 0, none⟩) ([170] : List UInt8).length 1 (encB ([170] : List UInt8)), obj b1 60 [.slice a1_0 x1_0.length c1_0, .int .i64 x1_1], obj b0 80 [.slice a0_0 x0_0.length c0_0, .int .i64 x0_1], Row 5 1 y30v.1 (s15v ++ ([170] : List UInt8)).length y30v.2 (encB (s15v ++ ([170] : List UInt8))), Row 5 1 a1_0 x1_0.length c1_0 (encB x1_0), Row 5 1 a0_0 x0_0.length c0_0 (encB x0_0), F]) rfl rfl rfl rfl rfl rfl Try.call14 (.sel 0 rfl (.sel 0 rfl (.sel 0 rfl (.sel 0 rfl (.sel 0 rfl (.sel 0 rfl (.sel 0 rfl (.nil _)))))))) (synodref_Num.calls _ _ s1v.2 ) hs36v) rfl rfl rfl rfl rfl rfl ?_
        intro y35v
        refine simL_valg (q_move rfl rfl) rfl rfl rfl rfl rfl rfl ?_
        refine simL_valg (q_eql rfl rfl rfl) rfl rfl rfl rfl rfl rfl ?_
        refine simL_val (q_pick rfl rfl rfl rfl rfl) rfl rfl rfl ?_
        refine simL_nil ?_
        exact nrm_cut (s := decide (s34v = s4v.2)) () ⟨rfl, rfl, rfl, trivial⟩ (.sel 1 rfl (.sel 1 rfl (.sel 1 rfl (.sel 1 rfl (.sel 1 rfl (.sel 1 rfl (.nil _)))))))
      · rw [hb38v]
        refine simL_skipd rfl rfl rfl rfl rfl rfl ?_
        refine simL_skipd rfl rfl rfl rfl rfl rfl ?_
        refine simL_skipd rfl rfl rfl rfl rfl rfl ?_
        refine simL_skipd rfl rfl rfl rfl rfl rfl ?_
        refine simL_val (q_pick rfl rfl rfl rfl rfl) rfl rfl rfl ?_
        refine simL_nil ?_
        exact nrm_cut (s := false) () ⟨rfl, rfl, rfl, trivial⟩ (.sel 1 rfl (.sel 1 rfl (.sel 1 rfl (.sel 1 rfl (.sel 1 rfl (.sel 1 rfl (.nil _)))))))
    · intro s32v y33v
      refine simL_val (q_move rfl rfl) rfl rfl rfl ?_
      refine simL_valc (b := s32v) (fun hb44v => RQ.sub (E' := [(5, .slice y30v.1 ((s15v ++ ([170] : List UInt8)).length) y30v.2)]) ⟨rfl, trivial⟩ (q_move rfl rfl)) rfl rfl rfl rfl rfl ?_
      refine simL_valc (b := s32v) (fun hb43v => RQ.sub (E' := [(44, .slice y30v.1 ((s15v ++ ([170] : List UInt8)).length) y30v.2)]) ⟨lk_cv rfl hb43v, trivial⟩ (q_len rfl rfl rfl Try.underlying23)) rfl rfl rfl rfl rfl ?_
      refine simL_valc (b := s32v) (fun hb42v => RQ.sub (E' := [(7, .slice y5v.1 s4v.1.length y5v.2)]) ⟨rfl, trivial⟩ (q_move rfl rfl)) rfl rfl rfl rfl rfl ?_
      refine simL_valc (b := s32v) (fun hb41v => RQ.sub (E' := [(46, .slice y5v.1 s4v.1.length y5v.2)]) ⟨lk_cv rfl hb41v, trivial⟩ (q_len rfl rfl rfl Try.underlying23)) rfl rfl rfl rfl rfl ?_
      refine simL_valc (b := s32v) (fun hb40v => RQ.sub (E' := [(47, .int .i64 (s4v.1.length : Int))]) ⟨lk_cv rfl hb40v, trivial⟩ (q_add rfl rfl rfl)) rfl rfl rfl rfl rfl ?_
      refine simL_valc (b := s32v) (fun hb39v => RQ.sub (E' := [(45, .int .i64 ((s15v ++ ([170] : List UInt8)).length : Int)), (48, .int .i64 (IntKind.i64.wrap ((s4v.1.length : Int) + 1)))]) ⟨lk_cv rfl hb39v, lk_cv rfl hb39v, trivial⟩ (q_eql rfl rfl rfl)) rfl rfl rfl rfl rfl ?_
      refine simL_val (q_and rfl rfl rfl) rfl rfl rfl ?_
      refine simL_val (q_asg rfl rfl) rfl rfl rfl ?_
      refine simL_nil ?_
      refine nrm_then ?_
      refine sim_rtn ?_
      exact rtn_fn () rfl rfl rfl (.sel 1 rfl (.sel 3 rfl (.sel 0 rfl (.sel 1 rfl (.sel 1 rfl (.nil _))))))

def synodlaw1_tell.f (k : Nat) (x0_0 : List UInt8) (x0_1 : Int) (x1_0 : Int) (x1_1 : Int) (x1_2 : Int) (x1_3 : Bool) (x1_4 : List UInt8) : Option (List UInt8 × Int) := if x1_0 = (0 : Int) then ((wire_Writer_Int.f k x0_0 x0_1 x1_1).bind fun s4v => (some (s4v.1, s4v.2))) else (if x1_0 = (1 : Int) then ((wire_Writer_Bool.f k x0_0 x0_1 x1_3).bind fun s9v => (some (s9v.1, s9v.2))) else (if x1_0 = (2 : Int) then ((wire_Writer_Bytes.f k x0_0 x0_1 x1_4 x1_2).bind fun s14v => (some (s14v.1, s14v.2))) else (if x1_0 = (3 : Int) then ((wire_Writer_Text.f k x0_0 x0_1 x1_4 x1_2).bind fun s19v => (some (s19v.1, s19v.2))) else (some (x0_0, x0_1)))))
theorem synodlaw1_tell.calls (W : World) (F : HA) (k : Nat) (b0 : Nat) (a0_0 : Option Addr) (c0_0 : Nat) (x0_0 : List UInt8) (x0_1 : Int) (x1_0 : Int) (x1_1 : Int) (x1_2 : Int) (x1_3 : Bool) (a1_4 : Option Addr) (c1_4 : Nat) (x1_4 : List UInt8) (h1_4 : Rd F a1_4 (encB x1_4)) (hc1_4 : x1_4.length ≤ c1_4) (hm1_4 : c1_4 ≤ maxLen) :
    Fn Try.prog W 41 [.pointer (some ⟨b0, 0, none⟩), .agg #[.int .i64 x1_0, .int .i64 x1_1, .int .i64 x1_2, .bool x1_3, .slice a1_4 x1_4.length c1_4]] [obj b0 80 [.slice a0_0 x0_0.length c0_0, .int .i64 x0_1], Row 5 1 a0_0 x0_0.length c0_0 (encB x0_0)] F (synodlaw1_tell.f k x0_0 x0_1 x1_0 x1_1 x1_2 x1_3 x1_4) (fun (r : List UInt8 × Int) (y : Option Addr × Nat) => .tuple #[]) (fun r y => [obj b0 80 [.slice y.1 r.1.length y.2, .int .i64 r.2], Row 5 1 y.1 r.1.length y.2 (encB r.1)]) := by
  unfold synodlaw1_tell.f
  refine fn_intro 35 Try.func41 rfl Try.ntmps41 rfl ?_
  refine sim_seq ?_
  refine sim_region ?_
  refine simL_eff (re_box rfl rfl rfl) rfl rfl rfl ?_
  intro b1v
  refine simL_nil ?_
  refine nrm_then ?_
  refine sim_seq ?_
  refine sim_region ?_
  refine simL_val (q_fa rfl rfl Try.underlying62 rfl rfl Try.sizeOf3 rfl) rfl rfl rfl ?_
  refine simL_val (q_load rfl rfl Try.isAgg3 (.obj 0 rfl rfl)) rfl rfl rfl ?_
  refine simL_nil ?_
  refine nrm_then ?_
  refine sim_block ?_
  refine sim_seq ?_
  refine sim_region ?_
  refine simL_val (q_eql rfl rfl rfl) rfl rfl rfl ?_
  refine simL_val (q_asg rfl rfl) rfl rfl rfl ?_
  refine simL_nil ?_
  refine nrm_then ?_
  refine sim_cond rfl (fun h2v => ?_) (fun h3v => ?_)
  · refine sim_region ?_
    refine simL_val (q_move rfl rfl) rfl rfl rfl ?_
    refine simL_val (q_fa rfl rfl Try.underlying62 rfl rfl Try.sizeOf3 rfl) rfl rfl rfl ?_
    refine simL_val (q_load rfl rfl Try.isAgg3 (.obj 0 rfl rfl)) rfl rfl rfl ?_
    refine simL_bind (fun s4v hs6v => ?_)
    refine simL_eff (re_call (vs := [.pointer (some ⟨b0, 0, none⟩), .int .i64 x1_1]) (cap := []) (A := [obj b0 80 [.slice a0_0 x0_0.length c0_0, .int .i64 x0_1], Row 5 1 a0_0 x0_0.length c0_0 (encB x0_0)]) (rst := [obj b1v 62 [.int .i64 x1_0, .int .i64 x1_1, .int .i64 x1_2, .bool x1_3, .slice a1_4 x1_4.length c1_4], F]) rfl rfl rfl rfl rfl rfl Try.call32 (.sel 1 rfl (.sel 1 rfl (.sel 0 rfl (.sel 0 rfl (.nil _))))) (wire_Writer_Int.calls _ _ k b0 a0_0 c0_0 x0_0 x0_1 x1_1 ) hs6v) rfl rfl rfl ?_
    intro y5v
    refine simL_nil ?_
    refine nrm_block ?_
    exact nrm_fn (y5v.1, y5v.2) rfl rfl rfl (.sel 0 rfl (.sel 0 rfl (.sel 1 rfl (.nil _))))
  · refine sim_seq ?_
    refine sim_region ?_
    refine simL_val (q_eql rfl rfl rfl) rfl rfl rfl ?_
    refine simL_val (q_asg rfl rfl) rfl rfl rfl ?_
    refine simL_nil ?_
    refine nrm_then ?_
    refine sim_cond rfl (fun h7v => ?_) (fun h8v => ?_)
    · refine sim_region ?_
      refine simL_val (q_move rfl rfl) rfl rfl rfl ?_
      refine simL_val (q_fa rfl rfl Try.underlying62 rfl rfl Try.sizeOf4 rfl) rfl rfl rfl ?_
      refine simL_val (q_load rfl rfl Try.isAgg4 (.obj 0 rfl rfl)) rfl rfl rfl ?_
      refine simL_bind (fun s9v hs11v => ?_)
      refine simL_eff (re_call (vs := [.pointer (some ⟨b0, 0, none⟩), .bool x1_3]) (cap := []) (A := [obj b0 80 [.slice a0_0 x0_0.length c0_0, .int .i64 x0_1], Row 5 1 a0_0 x0_0.length c0_0 (encB x0_0)]) (rst := [obj b1v 62 [.int .i64 x1_0, .int .i64 x1_1, .int .i64 x1_2, .bool x1_3, .slice a1_4 x1_4.length c1_4], F]) rfl rfl rfl rfl rfl rfl Try.call34 (.sel 1 rfl (.sel 1 rfl (.sel 0 rfl (.sel 0 rfl (.nil _))))) (wire_Writer_Bool.calls _ _ k b0 a0_0 c0_0 x0_0 x0_1 x1_3 ) hs11v) rfl rfl rfl ?_
      intro y10v
      refine simL_nil ?_
      refine nrm_block ?_
      exact nrm_fn (y10v.1, y10v.2) rfl rfl rfl (.sel 0 rfl (.sel 0 rfl (.sel 1 rfl (.nil _))))
    · refine sim_seq ?_
      refine sim_region ?_
      refine simL_val (q_eql rfl rfl rfl) rfl rfl rfl ?_
      refine simL_val (q_asg rfl rfl) rfl rfl rfl ?_
      refine simL_nil ?_
      refine nrm_then ?_
      refine sim_cond rfl (fun h12v => ?_) (fun h13v => ?_)
      · refine sim_region ?_
        refine simL_val (q_move rfl rfl) rfl rfl rfl ?_
        refine simL_val (q_fa rfl rfl Try.underlying62 rfl rfl Try.sizeOf23 rfl) rfl rfl rfl ?_
        refine simL_val (q_load rfl rfl Try.isAgg23 (.obj 0 rfl rfl)) rfl rfl rfl ?_
        refine simL_val (q_fa rfl rfl Try.underlying62 rfl rfl Try.sizeOf3 rfl) rfl rfl rfl ?_
        refine simL_val (q_load rfl rfl Try.isAgg3 (.obj 0 rfl rfl)) rfl rfl rfl ?_
        refine simL_bind (fun s14v hs16v => ?_)
        refine simL_eff (re_call (vs := [.pointer (some ⟨b0, 0, none⟩), .slice a1_4 x1_4.length c1_4, .int .i64 x1_2]) (cap := []) (A := [obj b0 80 [.slice a0_0 x0_0.length c0_0, .int .i64 x0_1], Row 5 1 a0_0 x0_0.length c0_0 (encB x0_0)]) (rst := [obj b1v 62 [.int .i64 x1_0, .int .i64 x1_1, .int .i64 x1_2, .bool x1_3, .slice a1_4 x1_4.length c1_4], F]) rfl rfl rfl rfl rfl rfl Try.call36 (.sel 1 rfl (.sel 1 rfl (.sel 0 rfl (.sel 0 rfl (.nil _))))) (wire_Writer_Bytes.calls _ _ k b0 a0_0 c0_0 x0_0 x0_1 a1_4 c1_4 x1_4 x1_2 (h1_4.lend 1 rfl) hc1_4 hm1_4) hs16v) rfl rfl rfl ?_
        intro y15v
        refine simL_nil ?_
        refine nrm_block ?_
        exact nrm_fn (y15v.1, y15v.2) rfl rfl rfl (.sel 0 rfl (.sel 0 rfl (.sel 1 rfl (.nil _))))
      · refine sim_seq ?_
        refine sim_region ?_
        refine simL_val (q_eql rfl rfl rfl) rfl rfl rfl ?_
        refine simL_val (q_asg rfl rfl) rfl rfl rfl ?_
        refine simL_nil ?_
        refine nrm_then ?_
        refine sim_cond rfl (fun h17v => ?_) (fun h18v => ?_)
        · refine sim_region ?_
          refine simL_val (q_move rfl rfl) rfl rfl rfl ?_
          refine simL_val (q_fa rfl rfl Try.underlying62 rfl rfl Try.sizeOf23 rfl) rfl rfl rfl ?_
          refine simL_val (q_load rfl rfl Try.isAgg23 (.obj 0 rfl rfl)) rfl rfl rfl ?_
          refine simL_val (q_tostr rfl rfl Try.underlying23 Try.underlying5 Try.underlying9 (h1_4.rds 3 rfl) rfl) rfl rfl rfl ?_
          refine simL_val (q_fa rfl rfl Try.underlying62 rfl rfl Try.sizeOf3 rfl) rfl rfl rfl ?_
          refine simL_val (q_load rfl rfl Try.isAgg3 (.obj 0 rfl rfl)) rfl rfl rfl ?_
          refine simL_bind (fun s19v hs21v => ?_)
          refine simL_eff (re_call (vs := [.pointer (some ⟨b0, 0, none⟩), str x1_4, .int .i64 x1_2]) (cap := []) (A := [obj b0 80 [.slice a0_0 x0_0.length c0_0, .int .i64 x0_1], Row 5 1 a0_0 x0_0.length c0_0 (encB x0_0)]) (rst := [obj b1v 62 [.int .i64 x1_0, .int .i64 x1_1, .int .i64 x1_2, .bool x1_3, .slice a1_4 x1_4.length c1_4], F]) rfl rfl rfl rfl rfl rfl Try.call38 (.sel 1 rfl (.sel 1 rfl (.sel 0 rfl (.sel 0 rfl (.nil _))))) (wire_Writer_Text.calls _ _ k b0 a0_0 c0_0 x0_0 x0_1 x1_4 x1_2 ) hs21v) rfl rfl rfl ?_
          intro y20v
          refine simL_nil ?_
          refine nrm_block ?_
          exact nrm_fn (y20v.1, y20v.2) rfl rfl rfl (.sel 0 rfl (.sel 0 rfl (.sel 1 rfl (.nil _))))
        · refine sim_skip ?_
          refine nrm_block ?_
          exact nrm_fn (a0_0, c0_0) rfl rfl rfl (.sel 1 rfl (.sel 1 rfl (.sel 1 rfl (.nil _))))
end Go.Proofs.Ytdolffamgbcokaa

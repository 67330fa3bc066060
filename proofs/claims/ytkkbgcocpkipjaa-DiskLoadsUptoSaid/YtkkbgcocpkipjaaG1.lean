/- Printed by gen.py: pure functions and the proofs that the Go functions simulate them. Conditions: as each theorem says. -/
import Derived.Test.YtkkbgcocpkipjaaSh
import Derived.Test.YtkkbgcocpkipjaaSl25
import Derived.Test.YtkkbgcocpkipjaaProg
namespace Go.Proofs.Ytkkbgcocpkipjaa
open Go.RowKit
set_option linter.unusedVariables false
set_option linter.unusedSimpArgs false
set_option maxRecDepth 20000
set_option maxHeartbeats 20000000
theorem elt5 : Elt Try.prog 5 1 1 [.int .u8 0] := .of (.int .u8 0) (by kernel_rfl) rfl rfl rfl rfl
abbrev Ty36 : Type := List UInt8 × List UInt8 × Int
abbrev dz36 : Ty36 := (([] : List UInt8), ([] : List UInt8), (0 : Int))
abbrev Ty52 : Type := Int × Int × List UInt8 × List UInt8 × List UInt8
abbrev dz52 : Ty52 := ((0 : Int), (0 : Int), ([] : List UInt8), ([] : List UInt8), ([] : List UInt8))
abbrev enc9 (x : List UInt8) : Value := str x
theorem key9 : KeyT Try.prog 9 enc9 := keyT_str Try.underlying9
abbrev FA68 (p : Nat) (x : List UInt8 × Int) (y : Option Addr × Nat) : List HA := [obj p 68 [.slice y.1 x.1.length y.2, .int .i64 x.2], Row 5 1 y.1 x.1.length y.2 (encB x.1)]
theorem elt9 : Elt Try.prog 9 1 16 [str ([] : List UInt8)] := .of (str ([] : List UInt8)) (by kernel_rfl) rfl rfl rfl rfl
theorem elt36 : Elt Try.prog 36 3 48 [str ([] : List UInt8), .slice none 0 0, .int .i64 0] := .of (.agg #[str ([] : List UInt8), .slice none 0 0, .int .i64 0]) (by kernel_rfl) rfl rfl rfl rfl
theorem elt52 : Elt Try.prog 52 5 72 [.int .i64 0, .int .i64 0, str ([] : List UInt8), str ([] : List UInt8), .slice none 0 0] := .of (.agg #[.int .i64 0, .int .i64 0, str ([] : List UInt8), str ([] : List UInt8), .slice none 0 0]) (by kernel_rfl) rfl rfl rfl rfl
def V9 (_ : HA) (x : List UInt8) (r : List Value) : Prop := r = [str x]
theorem V9.up {G F : HA} (_ : Up G F) : ∀ x r, V9 G x r → V9 F x r := fun _ _ h => h
def Ok9 (x : List UInt8) : Prop := x.length ≤ 140737488351232
def V36 (F : HA) (x : List UInt8 × List UInt8 × Int) (r : List Value) : Prop := ∃ (a1 : Option Addr) (c1 : Nat), r = [str x.1, .slice a1 x.2.1.length c1, .int .i64 x.2.2] ∧ (Rd F a1 (encB x.2.1) ∧ x.2.1.length ≤ c1 ∧ c1 ≤ maxLen)
theorem V36.up {G F : HA} (u : Up G F) : ∀ x r, V36 G x r → V36 F x r := by
  rintro x r ⟨a1, c1, e, ⟨h1, k1, m1⟩⟩
  exact ⟨a1, c1, e, ⟨h1.up u, k1, m1⟩⟩
def Ok36 (x : List UInt8 × List UInt8 × Int) : Prop := x.1.length ≤ 140737488351232 ∧ x.2.1.length ≤ 140737488351232 ∧ okI .i64 x.2.2
def V36w (F : HA) (x : List UInt8 × List UInt8 × Int) (r : List Value) : Prop := ∃ (a : Option Addr) (c : Nat), r = [str x.1, .slice a x.2.1.length c, .int .i64 x.2.2] ∧ (RdW 5 F a c (encB x.2.1) ∧ x.2.1.length ≤ c ∧ c ≤ maxLen)
def V36s (F : HA) (x : List UInt8 × List UInt8 × Int) (r : List Value) : Prop := ∃ (a : Option Addr) (c : Nat), r = [str x.1, .slice a x.2.1.length c, .int .i64 x.2.2] ∧ (Wrt 5 F a c ∧ x.2.1.length ≤ c ∧ c ≤ maxLen)
theorem V36w.up {G F : HA} (u : UpC G F) : ∀ x r, V36w G x r → V36w F x r := fun x r ⟨a, c, e, h, k, m⟩ => ⟨a, c, e, h.up u, k, m⟩
theorem V36s.up {G F : HA} (u : UpW G F) : ∀ x r, V36s G x r → V36s F x r := fun x r ⟨a, c, e, h, k, m⟩ => ⟨a, c, e, h.up u, k, m⟩
theorem V36w.rd {F : HA} : ∀ x r, V36w F x r → V36 F x r := fun x r ⟨a, c, e, h, k, m⟩ => ⟨a, c, e, h.rd, k, m⟩
theorem V36w.shp {F : HA} : ∀ x r, V36w F x r → V36s (Shp F) x r := fun x r ⟨a, c, e, h, k, m⟩ => ⟨a, c, e, h.cap.shp, k, m⟩
def V52 (F : HA) (x : Int × Int × List UInt8 × List UInt8 × List UInt8) (r : List Value) : Prop := ∃ (a4 : Option Addr) (c4 : Nat), r = [.int .i64 x.1, .int .i64 x.2.1, str x.2.2.1, str x.2.2.2.1, .slice a4 x.2.2.2.2.length c4] ∧ (Rd F a4 (encB x.2.2.2.2) ∧ x.2.2.2.2.length ≤ c4 ∧ c4 ≤ maxLen)
theorem V52.up {G F : HA} (u : Up G F) : ∀ x r, V52 G x r → V52 F x r := by
  rintro x r ⟨a4, c4, e, ⟨h4, k4, m4⟩⟩
  exact ⟨a4, c4, e, ⟨h4.up u, k4, m4⟩⟩
def Ok52 (x : Int × Int × List UInt8 × List UInt8 × List UInt8) : Prop := okI .i64 x.1 ∧ okI .i64 x.2.1 ∧ x.2.2.1.length ≤ 140737488351232 ∧ x.2.2.2.1.length ≤ 140737488351232 ∧ x.2.2.2.2.length ≤ 140737488351232
theorem mixed : Try.prog.follows .mixedOrders = true := by kernel_rfl
def disk_New.f  : Option ((List ((List UInt8) × (List UInt8 × Int))) × List UInt8 × Int × Bool) := some (([] : List ((List UInt8) × (List UInt8 × Int))), ([] : List UInt8), 0, false)
theorem disk_New.calls (W : World) (F : HA)   :
    Fn Try.prog W 10 [] [] F (disk_New.f ) (fun (r : (List ((List UInt8) × (List UInt8 × Int))) × List UInt8 × Int × Bool) (y : Nat × Nat × Kps) => .pointer (some ⟨y.1, 0, none⟩)) (fun r y => [obj y.1 64 [.map (some y.2.1), str r.2.1, .int .i64 r.2.2.1, .bool r.2.2.2], mapF (mapO y.2.1 enc9 encP y.2.2) FA68 y.2.2 r.1]) := by
 unfold disk_New.f
 refine fn_intro 4 Try.func10 rfl Try.ntmps10 rfl ?_
 refine sr ?_
 refine va rfl rfl (nx ?_)
 refine simL_eff (re_mkmapF (ek := enc9) (fp := FA68) rfl) rfl rfl rfl ?_
 intro b1v
 refine vq (q_build (v := .agg #[.map (some b1v), str ([] : List UInt8), .int .i64 0, .bool false]) rfl rfl (fun _ => by kernel_rfl)) rfl ?_
 refine simL_eff (re_box rfl rfl rfl) rfl rfl rfl ?_
 intro b2v
 refine va rfl rfl (simL_nil (nrm_then (sim_rtn ?_)))
 exact rtn_fn (b2v, b1v, ([] : Kps)) rfl rfl rfl (.sel 0 rfl (.sel 0 rfl (.sel 0 rfl (.nil _))))

def disk_named.l0 (x0 : List UInt8) : Nat → Int → Option ((Unit) ⊕ (Bool))
  | 0, _ => none
  | k + 1, z5v => if z5v < (x0.length : Int) then (if 0 ≤ z5v ∧ z5v < (x0.length : Int) then ((if ((decide (((x0.getD z5v.toNat 0).toNat : Int) < (97 : Int))) || (decide ((122 : Int) < ((x0.getD z5v.toNat 0).toNat : Int)))) = true then (some ((decide (((x0.getD z5v.toNat 0).toNat : Int) < (48 : Int))) || (decide ((57 : Int) < ((x0.getD z5v.toNat 0).toNat : Int))))) else (some false)).bind fun s9v => (if ((s9v && (!decide (((x0.getD z5v.toNat 0).toNat : Int) = (45 : Int)))) && (!decide (((x0.getD z5v.toNat 0).toNat : Int) = (46 : Int)))) = true then (some (.inr false)) else (disk_named.l0 x0 k (IntKind.i64.wrap (z5v + 1))))) else none) else (some (.inl ()))
def disk_named.f (k : Nat) (x0 : List UInt8) : Option (Bool) := orR (disk_named.l0 x0 k 0) fun s1v => (some ((decide ((0 : Int) < (x0.length : Int))) && (decide ((x0.length : Int) ≤ (32 : Int)))))
theorem disk_named.calls (W : World) (F : HA) (k : Nat) (x0 : List UInt8)  :
    Fn Try.prog W 33 [str x0] [] F (disk_named.f k x0) (fun (r : Bool) (y : Unit) => .bool r) (fun r y => []) := by
 unfold disk_named.f
 refine fn_intro 44 Try.func33 rfl Try.ntmps33 rfl ?_
 refine sr ?_
 refine va rfl rfl (simL_nil (nrm_then ?_))
 refine sim_cutR (S := Unit) (Unit) (fun s y => [(0, str x0)]) (fun s y => [F]) ?_ ?_
 refine sr ?_
 refine va rfl rfl (simL_nil (nrm_then ?_))
 refine sim_block ?_
 refine sim_loop (S := Int) (Unit) (fun k s => disk_named.l0 x0 k s) (fun s y => [(0, str x0), (3, .int .i64 s)]) (fun s y => [F]) (fun _ => by rw [disk_named.l0]) ?_ k 0 () ⟨rfl, rfl, trivial⟩ (.sel 0 rfl (.nil _))
 intro k s3v y4v
 refine sim_eq (by rw [disk_named.l0]) ?_
 refine sim_seq (sr ?_)
 refine vm rfl rfl ?_
 refine vm rfl rfl ?_
 refine vq (q_lens rfl rfl rfl Try.underlying9) rfl ?_
 refine vq (q_lss rfl rfl rfl) rfl (simL_nil (nrm_then ?_))
 refine sim_cond rfl (fun h6v => ?_) (fun h7v => ?_)
 refine sim_skip ?_
 refine nrm_then (sim_seq ?_)
 refine sim_block ?_
 refine sr ?_
 refine vm rfl rfl ?_
 refine vm rfl rfl ?_
 refine simL_ask (fun hi8v => ?_)
 refine vq (q_sidx rfl rfl rfl Try.underlying9 hi8v.1 hi8v.2) rfl ?_
 refine va rfl rfl (nx ?_)
 refine vm rfl rfl ?_
 refine vq (q_lss rfl rfl rfl) rfl ?_
 refine vm rfl rfl ?_
 refine simL_valc (b := decide (((x0.getD s3v.toNat 0).toNat : Int) < (97 : Int))) (fun hb22v => RQ.sub (E' := [(4, .int .u8 ((x0.getD s3v.toNat 0).toNat : Int))]) ⟨rfl, trivial⟩ (q_move rfl rfl)) rfl rfl rfl rfl rfl ?_
 refine simL_valc (b := decide (((x0.getD s3v.toNat 0).toNat : Int) < (97 : Int))) (fun hb21v => RQ.sub (E' := [(17, .int .u8 ((x0.getD s3v.toNat 0).toNat : Int))]) ⟨lk_cv rfl hb21v, trivial⟩ (q_gtr rfl rfl rfl)) rfl rfl rfl rfl rfl ?_
 refine vq (q_or rfl rfl rfl) rfl ?_
 refine vm rfl rfl ?_
 refine simL_cut' 7 (S := Bool) (Unit) (fun s y => [(0, str x0), (3, .int .i64 s3v), (4, .int .u8 ((x0.getD s3v.toNat 0).toNat : Int)), (27, .bool s)]) (fun s y => [F]) ?_ ?_
 refine simL_caseb (fun hb13v => ?_) (fun hb14v => ?_)
 rw [hb13v]
 refine simL_valg (q_move rfl rfl) rfl rfl rfl rfl rfl rfl ?_
 refine simL_valg (q_lss rfl rfl rfl) rfl rfl rfl rfl rfl rfl ?_
 refine simL_valg (q_move rfl rfl) rfl rfl rfl rfl rfl rfl ?_
 refine simL_valc (b := decide (((x0.getD s3v.toNat 0).toNat : Int) < (48 : Int))) (fun hb12v => RQ.sub (E' := [(4, .int .u8 ((x0.getD s3v.toNat 0).toNat : Int))]) ⟨rfl, trivial⟩ (q_move rfl rfl)) rfl rfl rfl rfl rfl ?_
 refine simL_valc (b := decide (((x0.getD s3v.toNat 0).toNat : Int) < (48 : Int))) (fun hb11v => RQ.sub (E' := [(24, .int .u8 ((x0.getD s3v.toNat 0).toNat : Int))]) ⟨lk_cv rfl hb11v, trivial⟩ (q_gtr rfl rfl rfl)) rfl rfl rfl rfl rfl ?_
 refine simL_valg (q_or rfl rfl rfl) rfl rfl rfl rfl rfl rfl ?_
 refine vq (q_pick rfl rfl rfl rfl rfl) rfl (simL_nil ?_)
 exact nrm_cut (s := (decide (((x0.getD s3v.toNat 0).toNat : Int) < (48 : Int))) || (decide ((57 : Int) < ((x0.getD s3v.toNat 0).toNat : Int)))) () ⟨rfl, rfl, rfl, rfl, trivial⟩ (.sel 0 rfl (.nil _))
 rw [hb14v]
 refine simL_skipd rfl rfl rfl rfl rfl rfl ?_
 refine simL_skipd rfl rfl rfl rfl rfl rfl ?_
 refine simL_skipd rfl rfl rfl rfl rfl rfl ?_
 refine simL_skipu rfl rfl rfl rfl rfl ?_
 refine simL_skipu rfl rfl rfl rfl rfl ?_
 refine simL_skipd rfl rfl rfl rfl rfl rfl ?_
 refine vq (q_pick rfl rfl rfl rfl rfl) rfl (simL_nil ?_)
 exact nrm_cut (s := false) () ⟨rfl, rfl, rfl, rfl, trivial⟩ (.sel 0 rfl (.nil _))
 intro s9v y10v
 refine vm rfl rfl ?_
 refine simL_valc (b := s9v) (fun hb20v => RQ.sub (E' := [(4, .int .u8 ((x0.getD s3v.toNat 0).toNat : Int))]) ⟨rfl, trivial⟩ (q_move rfl rfl)) rfl rfl rfl rfl rfl ?_
 refine simL_valc (b := s9v) (fun hb19v => RQ.sub (E' := [(29, .int .u8 ((x0.getD s3v.toNat 0).toNat : Int))]) ⟨lk_cv rfl hb19v, trivial⟩ (q_neq rfl rfl rfl)) rfl rfl rfl rfl rfl ?_
 refine vq (q_and rfl rfl rfl) rfl ?_
 refine vm rfl rfl ?_
 refine simL_valc (b := s9v && (!decide (((x0.getD s3v.toNat 0).toNat : Int) = (45 : Int)))) (fun hb18v => RQ.sub (E' := [(4, .int .u8 ((x0.getD s3v.toNat 0).toNat : Int))]) ⟨rfl, trivial⟩ (q_move rfl rfl)) rfl rfl rfl rfl rfl ?_
 refine simL_valc (b := s9v && (!decide (((x0.getD s3v.toNat 0).toNat : Int) = (45 : Int)))) (fun hb17v => RQ.sub (E' := [(33, .int .u8 ((x0.getD s3v.toNat 0).toNat : Int))]) ⟨lk_cv rfl hb17v, trivial⟩ (q_neq rfl rfl rfl)) rfl rfl rfl rfl rfl ?_
 refine vq (q_and rfl rfl rfl) rfl (simL_nil (nrm_then ?_))
 refine sim_condb rfl (fun h15v => ?_) (fun h16v => ?_)
 refine sr ?_
 refine va rfl rfl (simL_nil (nrm_then (sim_rtn ?_)))
 refine rtn_block ?_
 refine rtn_then ?_
 refine rtn_loop ?_
 refine rtn_block ?_
 refine rtn_cutR ?_
 exact rtn_fn () rfl rfl rfl (.sel 0 rfl (.nil _))
 refine sim_skip ?_
 refine nrm_block (nrm_then (sim_region ?_))
 refine vm rfl rfl ?_
 refine vq (q_add rfl rfl rfl) rfl ?_
 refine va rfl rfl (simL_nil ?_)
 exact nrm_again (s := IntKind.i64.wrap (s3v + 1)) () ⟨rfl, rfl, trivial⟩ (.sel 0 rfl (.nil _))
 refine sim_exi ?_
 refine exi_then ?_
 refine exi_loop ?_
 refine exi_here ?_
 exact nrm_cutR (s := ()) () ⟨rfl, trivial⟩ (.sel 0 rfl (.nil _))
 intro s1v y2v
 refine sr ?_
 refine vm rfl rfl ?_
 refine vq (q_lens rfl rfl rfl Try.underlying9) rfl ?_
 refine vq (q_gtr rfl rfl rfl) rfl ?_
 refine vm rfl rfl ?_
 refine simL_valc (b := decide ((0 : Int) < (x0.length : Int))) (fun hb25v => RQ.sub (E' := [(0, str x0)]) ⟨rfl, trivial⟩ (q_move rfl rfl)) rfl rfl rfl rfl rfl ?_
 refine simL_valc (b := decide ((0 : Int) < (x0.length : Int))) (fun hb24v => RQ.sub (E' := [(40, str x0)]) ⟨lk_cv rfl hb24v, trivial⟩ (q_lens rfl rfl rfl Try.underlying9)) rfl rfl rfl rfl rfl ?_
 refine simL_valc (b := decide ((0 : Int) < (x0.length : Int))) (fun hb23v => RQ.sub (E' := [(41, .int .i64 (x0.length : Int))]) ⟨lk_cv rfl hb23v, trivial⟩ (q_leq rfl rfl rfl)) rfl rfl rfl rfl rfl ?_
 refine vq (q_and rfl rfl rfl) rfl ?_
 refine va rfl rfl (simL_nil (nrm_then (sim_rtn ?_)))
 exact rtn_fn () rfl rfl rfl (.sel 0 rfl (.nil _))

def disk_Disk_Has.f (x0_0 : List ((List UInt8) × (List UInt8 × Int))) (x0_1 : List UInt8) (x0_2 : Int) (x0_3 : Bool) (x1 : List UInt8) : Option (Bool) := if (mget x0_0 x1).isSome = true then (some true) else (some false)
theorem disk_Disk_Has.calls (W : World) (F : HA) (b0 : Nat) (m0_0 : Nat) (q0_0 : Kps) (x0_0 : List ((List UInt8) × (List UInt8 × Int))) (x0_1 : List UInt8) (x0_2 : Int) (x0_3 : Bool) (x1 : List UInt8)  :
    Fn Try.prog W 34 [.pointer (some ⟨b0, 0, none⟩), str x1] [obj b0 64 [.map (some m0_0), str x0_1, .int .i64 x0_2, .bool x0_3], mapF (mapO m0_0 enc9 encP q0_0) FA68 q0_0 x0_0] F (disk_Disk_Has.f x0_0 x0_1 x0_2 x0_3 x1) (fun (r : Bool) (y : Unit) => .bool r) (fun r y => [obj b0 64 [.map (some m0_0), str x0_1, .int .i64 x0_2, .bool x0_3], mapF (mapO m0_0 enc9 encP q0_0) FA68 q0_0 x0_0]) := by
 unfold disk_Disk_Has.f
 refine fn_intro 12 Try.func34 rfl Try.ntmps34 rfl ?_
 refine sr ?_
 refine va rfl rfl (simL_nil (nrm_then (sim_seq ?_)))
 refine sim_if (fun hk1v => ?_) (fun hk1v => ?_)
 refine sim_region ?_
 refine vm rfl rfl ?_
 refine vn rfl rfl ?_
 refine vq (q_fa rfl rfl Try.underlying64 rfl rfl Try.sizeOf62 rfl) rfl ?_
 refine vq (q_load rfl rfl Try.isAgg62 (.obj 0 rfl rfl)) rfl ?_
 refine vm rfl rfl ?_
 refine vq ((q_mlookY (ek := enc9) x1 (tellsF 1 rfl) hk1v rfl rfl rfl Try.underlying62 key9 : RQ _ _ _ _ (.pointer (some ⟨(fptr q0_0 x1), 0, none⟩)))) rfl ?_
 refine vq (q_nep rfl rfl rfl Try.underlying66) rfl ?_
 refine va rfl rfl (simL_nil (nrm_then (sim_rtn ?_)))
 exact rtn_fn () rfl rfl rfl (.sel 0 rfl (.sel 0 rfl (.sel 0 rfl (.nil _))))
 refine sim_region ?_
 refine vm rfl rfl ?_
 refine vn rfl rfl ?_
 refine vq (q_fa rfl rfl Try.underlying64 rfl rfl Try.sizeOf62 rfl) rfl ?_
 refine vq (q_load rfl rfl Try.isAgg62 (.obj 0 rfl rfl)) rfl ?_
 refine vm rfl rfl ?_
 refine vq (q_mlookN (ek := enc9) x1 (tellsF 1 rfl) (isNone_of hk1v) rfl rfl rfl Try.underlying62 key9 Try.zeroValue66) rfl ?_
 refine vq (q_nenn rfl rfl rfl Try.underlying66) rfl ?_
 refine va rfl rfl (simL_nil (nrm_then (sim_rtn ?_)))
 exact rtn_fn () rfl rfl rfl (.sel 0 rfl (.sel 0 rfl (.sel 0 rfl (.nil _))))
def disk_Disk_Has.v (x0_0 : List ((List UInt8) × (List UInt8 × Int))) (x0_1 : List UInt8) (x0_2 : Int) (x0_3 : Bool) (x1 : List UInt8) : Bool := (disk_Disk_Has.f x0_0 x0_1 x0_2 x0_3 x1).getD false
theorem disk_Disk_Has.tot (x0_0 : List ((List UInt8) × (List UInt8 × Int))) (x0_1 : List UInt8) (x0_2 : Int) (x0_3 : Bool) (x1 : List UInt8) : disk_Disk_Has.f x0_0 x0_1 x0_2 x0_3 x1 = some (disk_Disk_Has.v x0_0 x0_1 x0_2 x0_3 x1) := by
  have h : ∃ r, disk_Disk_Has.f x0_0 x0_1 x0_2 x0_3 x1 = some r := by
    unfold disk_Disk_Has.f
    repeat' (first | exact ⟨_, rfl⟩ | split | simp only [Option.bind_some])
  obtain ⟨r, h⟩ := h
  unfold disk_Disk_Has.v
  rw [h]; rfl

def disk_Disk_fails.f (x0_0 : List ((List UInt8) × (List UInt8 × Int))) (x0_1 : List UInt8) (x0_2 : Int) (x0_3 : Bool) : Option (Bool × List UInt8 × Int × Bool) := if x0_2 = (0 : Int) then (some (false, x0_1, x0_2, x0_3)) else (some (decide (IntKind.i64.wrap (x0_2 - 1) = (0 : Int)), x0_1, IntKind.i64.wrap (x0_2 - 1), decide (IntKind.i64.wrap (x0_2 - 1) = (0 : Int))))
theorem disk_Disk_fails.calls (W : World) (F : HA) (b0 : Nat) (m0_0 : Nat) (q0_0 : Kps) (x0_0 : List ((List UInt8) × (List UInt8 × Int))) (x0_1 : List UInt8) (x0_2 : Int) (x0_3 : Bool)  :
    Fn Try.prog W 35 [.pointer (some ⟨b0, 0, none⟩)] [obj b0 64 [.map (some m0_0), str x0_1, .int .i64 x0_2, .bool x0_3], mapF (mapO m0_0 enc9 encP q0_0) FA68 q0_0 x0_0] F (disk_Disk_fails.f x0_0 x0_1 x0_2 x0_3) (fun (r : Bool × List UInt8 × Int × Bool) (y : Unit) => .bool r.1) (fun r y => [obj b0 64 [.map (some m0_0), str r.2.1, .int .i64 r.2.2.1, .bool r.2.2.2], mapF (mapO m0_0 enc9 encP q0_0) FA68 q0_0 x0_0]) := by
 unfold disk_Disk_fails.f
 refine fn_intro 27 Try.func35 rfl Try.ntmps35 rfl ?_
 refine sr ?_
 refine va rfl rfl (simL_nil (nrm_then (sim_seq (sr ?_))))
 refine vm rfl rfl ?_
 refine vn rfl rfl ?_
 refine vq (q_fa rfl rfl Try.underlying64 rfl rfl Try.sizeOf3 rfl) rfl ?_
 refine vq (q_load rfl rfl Try.isAgg3 (.obj 0 rfl rfl)) rfl ?_
 refine vq (q_eql rfl rfl rfl) rfl (simL_nil (nrm_then ?_))
 refine sim_cond rfl (fun h1v => ?_) (fun h2v => ?_)
 refine sr ?_
 refine va rfl rfl (simL_nil (nrm_then (sim_rtn ?_)))
 refine rtn_then ?_
 exact rtn_fn () rfl rfl rfl (.sel 0 rfl (.sel 0 rfl (.sel 0 rfl (.nil _))))
 refine sim_skip ?_
 refine nrm_then (sr ?_)
 refine vm rfl rfl ?_
 refine vn rfl rfl ?_
 refine vq (q_fa rfl rfl Try.underlying64 rfl rfl Try.sizeOf3 rfl) rfl ?_
 refine vq (q_load rfl rfl Try.isAgg3 (.obj 0 rfl rfl)) rfl ?_
 refine vq (q_sub rfl rfl rfl) rfl ?_
 refine vn rfl rfl ?_
 refine vq (q_fa rfl rfl Try.underlying64 rfl rfl Try.sizeOf3 rfl) rfl ?_
 refine simL_do (re_store 0 rfl rfl rfl Try.sizeOf3 rfl rfl (one_of (by rfl)) rfl rfl) rfl rfl ?_
 intro _
 refine nx ?_
 refine vm rfl rfl ?_
 refine vm rfl rfl ?_
 refine vn rfl rfl ?_
 refine vq (q_fa rfl rfl Try.underlying64 rfl rfl Try.sizeOf3 rfl) rfl ?_
 refine vq (q_load rfl rfl Try.isAgg3 (.obj 0 rfl rfl)) rfl ?_
 refine vq (q_eql rfl rfl rfl) rfl ?_
 refine vn rfl rfl ?_
 refine vq (q_fa rfl rfl Try.underlying64 rfl rfl Try.sizeOf4 rfl) rfl ?_
 refine simL_do (re_store 0 rfl rfl rfl Try.sizeOf4 rfl rfl (one_of (by rfl)) rfl rfl) rfl rfl ?_
 intro _
 refine nx ?_
 refine vm rfl rfl ?_
 refine vn rfl rfl ?_
 refine vq (q_fa rfl rfl Try.underlying64 rfl rfl Try.sizeOf4 rfl) rfl ?_
 refine vq (q_load rfl rfl Try.isAgg4 (.obj 0 rfl rfl)) rfl ?_
 refine va rfl rfl (simL_nil (nrm_then (sim_rtn ?_)))
 exact rtn_fn () rfl rfl rfl (.sel 0 rfl (.sel 0 rfl (.sel 0 rfl (.nil _))))
def disk_Disk_fails.v (x0_0 : List ((List UInt8) × (List UInt8 × Int))) (x0_1 : List UInt8) (x0_2 : Int) (x0_3 : Bool) : Bool × List UInt8 × Int × Bool := (disk_Disk_fails.f x0_0 x0_1 x0_2 x0_3).getD (false, [], 0, false)
theorem disk_Disk_fails.tot (x0_0 : List ((List UInt8) × (List UInt8 × Int))) (x0_1 : List UInt8) (x0_2 : Int) (x0_3 : Bool) : disk_Disk_fails.f x0_0 x0_1 x0_2 x0_3 = some (disk_Disk_fails.v x0_0 x0_1 x0_2 x0_3) := by
  have h : ∃ r, disk_Disk_fails.f x0_0 x0_1 x0_2 x0_3 = some r := by
    unfold disk_Disk_fails.f
    repeat' (first | exact ⟨_, rfl⟩ | split | simp only [Option.bind_some])
  obtain ⟨r, h⟩ := h
  unfold disk_Disk_fails.v
  rw [h]; rfl

def disk_Disk_Create.f (k : Nat) (x0_0 : List ((List UInt8) × (List UInt8 × Int))) (x0_1 : List UInt8) (x0_2 : Int) (x0_3 : Bool) (x1 : List UInt8) : Option (Int × (List ((List UInt8) × (List UInt8 × Int))) × List UInt8 × Int × Bool) := if x0_3 = true then (some (11, x0_0, x0_1, x0_2, x0_3)) else ((disk_named.f k x1).bind fun s3v => (if (!s3v) = true then (some (7, x0_0, x0_1, x0_2, x0_3)) else ((disk_Disk_Has.f x0_0 x0_1 x0_2 x0_3 x1).bind fun s8v => (if s8v = true then (some (9, x0_0, x0_1, x0_2, x0_3)) else (if (256 : Int) ≤ (x0_0.length : Int) then (some (10, x0_0, x0_1, x0_2, x0_3)) else ((disk_Disk_fails.f x0_0 x0_1 x0_2 x0_3).bind fun s15v => (if s15v.1 = true then (some (11, x0_0, s15v.2.1, s15v.2.2.1, s15v.2.2.2)) else (some (0, mput x0_0 x1 (([] : List UInt8), (0 : Int)), s15v.2.1, s15v.2.2.1, s15v.2.2.2)))))))))
theorem disk_Disk_Create.calls (W : World) (F : HA) (k : Nat) (b0 : Nat) (m0_0 : Nat) (q0_0 : Kps) (x0_0 : List ((List UInt8) × (List UInt8 × Int))) (x0_1 : List UInt8) (x0_2 : Int) (x0_3 : Bool) (x1 : List UInt8)  :
    Fn Try.prog W 12 [.pointer (some ⟨b0, 0, none⟩), str x1] [obj b0 64 [.map (some m0_0), str x0_1, .int .i64 x0_2, .bool x0_3], mapF (mapO m0_0 enc9 encP q0_0) FA68 q0_0 x0_0] F (disk_Disk_Create.f k x0_0 x0_1 x0_2 x0_3 x1) (fun (r : Int × (List ((List UInt8) × (List UInt8 × Int))) × List UInt8 × Int × Bool) (y : Nat × Kps) => .int .i64 r.1) (fun r y => [obj b0 64 [.map (some y.1), str r.2.2.1, .int .i64 r.2.2.2.1, .bool r.2.2.2.2], mapF (mapO y.1 enc9 encP y.2) FA68 y.2 r.2.1]) := by
 unfold disk_Disk_Create.f
 refine fn_intro 35 Try.func12 rfl Try.ntmps12 rfl ?_
 refine sr ?_
 refine va rfl rfl (simL_nil (nrm_then (sim_seq ?_)))
 refine sim_block ?_
 refine sr ?_
 refine vm rfl rfl ?_
 refine vn rfl rfl ?_
 refine vq (q_fa rfl rfl Try.underlying64 rfl rfl Try.sizeOf4 rfl) rfl ?_
 refine vq (q_load rfl rfl Try.isAgg4 (.obj 0 rfl rfl)) rfl ?_
 refine va rfl rfl (simL_nil (nrm_then ?_))
 refine sim_condb rfl (fun h1v => ?_) (fun h2v => ?_)
 refine sr ?_
 refine va rfl rfl (simL_nil (nrm_then (sim_rtn ?_)))
 refine rtn_block ?_
 refine rtn_then ?_
 exact rtn_fn (m0_0, q0_0) rfl rfl rfl (.sel 0 rfl (.sel 0 rfl (.sel 0 rfl (.nil _))))
 refine sr ?_
 refine vm rfl rfl ?_
 refine simL_bind (fun s3v hs4v => ?_)
 refine simL_eff (re_call (vs := [str x1]) (cap := []) (A := []) (rst := [obj b0 64 [.map (some m0_0), str x0_1, .int .i64 x0_2, .bool x0_3], mapF (mapO m0_0 enc9 encP q0_0) FA68 q0_0 x0_0, F]) rfl rfl rfl rfl rfl rfl Try.call33 (.sel 0 rfl (.sel 0 rfl (.sel 0 rfl (.nil _)))) (disk_named.calls _ _ k x1 ) hs4v) rfl rfl rfl ?_
 intro y5v
 refine vq (q_not rfl rfl) rfl ?_
 refine va rfl rfl (simL_nil (nrm_then ?_))
 refine sim_condb rfl (fun h6v => ?_) (fun h7v => ?_)
 refine sr ?_
 refine va rfl rfl (simL_nil (nrm_then (sim_rtn ?_)))
 refine rtn_block ?_
 refine rtn_then ?_
 exact rtn_fn (m0_0, q0_0) rfl rfl rfl (.sel 0 rfl (.sel 0 rfl (.sel 0 rfl (.nil _))))
 refine sr ?_
 refine vm rfl rfl ?_
 refine vm rfl rfl ?_
 refine simL_bind (fun s8v hs9v => ?_)
 refine simL_eff (re_call (vs := [.pointer (some ⟨b0, 0, none⟩), str x1]) (cap := []) (A := [obj b0 64 [.map (some m0_0), str x0_1, .int .i64 x0_2, .bool x0_3], mapF (mapO m0_0 enc9 encP q0_0) FA68 q0_0 x0_0]) (rst := [F]) rfl rfl rfl rfl rfl rfl Try.call34 (.sel 0 rfl (.sel 0 rfl (.sel 0 rfl (.nil _)))) (disk_Disk_Has.calls _ _ b0 m0_0 q0_0 x0_0 x0_1 x0_2 x0_3 x1 ) hs9v) rfl rfl rfl ?_
 intro y10v
 refine va rfl rfl (simL_nil (nrm_then ?_))
 refine sim_condb rfl (fun h11v => ?_) (fun h12v => ?_)
 refine sr ?_
 refine va rfl rfl (simL_nil (nrm_then (sim_rtn ?_)))
 refine rtn_block ?_
 refine rtn_then ?_
 exact rtn_fn (m0_0, q0_0) rfl rfl rfl (.sel 0 rfl (.sel 0 rfl (.sel 0 rfl (.nil _))))
 refine sr ?_
 refine vm rfl rfl ?_
 refine vn rfl rfl ?_
 refine vq (q_fa rfl rfl Try.underlying64 rfl rfl Try.sizeOf62 rfl) rfl ?_
 refine vq (q_load rfl rfl Try.isAgg62 (.obj 0 rfl rfl)) rfl ?_
 refine vq (q_mlenF (tellsF 1 rfl) rfl rfl rfl Try.underlying62) rfl ?_
 refine vq (q_geq rfl rfl rfl) rfl ?_
 refine va rfl rfl (simL_nil (nrm_then ?_))
 refine sim_cond rfl (fun h13v => ?_) (fun h14v => ?_)
 refine sr ?_
 refine va rfl rfl (simL_nil (nrm_then (sim_rtn ?_)))
 refine rtn_block ?_
 refine rtn_then ?_
 exact rtn_fn (m0_0, q0_0) rfl rfl rfl (.sel 0 rfl (.sel 0 rfl (.sel 0 rfl (.nil _))))
 refine sr ?_
 refine vm rfl rfl ?_
 refine simL_bind (fun s15v hs16v => ?_)
 refine simL_eff (re_call (vs := [.pointer (some ⟨b0, 0, none⟩)]) (cap := []) (A := [obj b0 64 [.map (some m0_0), str x0_1, .int .i64 x0_2, .bool x0_3], mapF (mapO m0_0 enc9 encP q0_0) FA68 q0_0 x0_0]) (rst := [F]) rfl rfl rfl rfl rfl rfl Try.call35 (.sel 0 rfl (.sel 0 rfl (.sel 0 rfl (.nil _)))) (disk_Disk_fails.calls _ _ b0 m0_0 q0_0 x0_0 x0_1 x0_2 x0_3 ) hs16v) rfl rfl rfl ?_
 intro y17v
 refine va rfl rfl (simL_nil (nrm_then ?_))
 refine sim_condb rfl (fun h18v => ?_) (fun h19v => ?_)
 refine sr ?_
 refine va rfl rfl (simL_nil (nrm_then (sim_rtn ?_)))
 refine rtn_block ?_
 refine rtn_then ?_
 exact rtn_fn (m0_0, q0_0) rfl rfl rfl (.sel 0 rfl (.sel 0 rfl (.sel 0 rfl (.nil _))))
 refine sim_skip ?_
 refine nrm_block (nrm_then (sr ?_))
 refine vm rfl rfl ?_
 refine vn rfl rfl ?_
 refine vq (q_fa rfl rfl Try.underlying64 rfl rfl Try.sizeOf62 rfl) rfl ?_
 refine vq (q_load rfl rfl Try.isAgg62 (.obj 0 rfl rfl)) rfl ?_
 refine vm rfl rfl ?_
 refine vq (q_build (v := .agg #[.slice none 0 0, .int .i64 0]) rfl rfl (fun _ => by kernel_rfl)) rfl ?_
 refine simL_eff (re_box rfl rfl rfl) rfl rfl rfl ?_
 intro b20v
 refine simL_do (re_mputF (ek := enc9) 2 x1 b20v rfl rfl rfl rfl Try.underlying62 key9 rfl) rfl rfl ?_
 intro _
 refine simL_ent (H' := [obj b0 64 [.map (some m0_0), str s15v.2.1, .int .i64 s15v.2.2.1, .bool s15v.2.2.2], mapF (mapO m0_0 enc9 encP (mput q0_0 x1 b20v)) FA68 (mput q0_0 x1 b20v) (mput x0_0 x1 (([] : List UInt8), (0 : Int))), F]) ((.sel 1 rfl (.foldU (x := x1) (p := b20v) (v := (([] : List UInt8), (0 : Int))) (none, 0) (.sel 1 rfl (.sel 0 rfl (.row_nil (.sel 0 rfl (.nil _)))))))) ?_
 refine nx ?_
 refine va rfl rfl (simL_nil (nrm_then (sim_rtn ?_)))
 exact rtn_fn (m0_0, mput q0_0 x1 b20v) rfl rfl rfl (.sel 0 rfl (.sel 0 rfl (.sel 0 rfl (.nil _))))

def disk_Disk_Size.f (x0_0 : List ((List UInt8) × (List UInt8 × Int))) (x0_1 : List UInt8) (x0_2 : Int) (x0_3 : Bool) : Option (Int) := ((range0 (fun (s9v : Int) (x4v : List UInt8) (v5v : List UInt8 × Int) => some (IntKind.i64.wrap (s9v + (v5v.1.length : Int)))) 0 x0_0).bind fun s9v => (some s9v)).bind fun s1v => (some s1v)
theorem disk_Disk_Size.calls (W : World) (F : HA) (b0 : Nat) (m0_0 : Nat) (q0_0 : Kps) (x0_0 : List ((List UInt8) × (List UInt8 × Int))) (x0_1 : List UInt8) (x0_2 : Int) (x0_3 : Bool)  :
    Fn Try.prog W 16 [.pointer (some ⟨b0, 0, none⟩)] [obj b0 64 [.map (some m0_0), str x0_1, .int .i64 x0_2, .bool x0_3], mapF (mapO m0_0 enc9 encP q0_0) FA68 q0_0 x0_0] F (disk_Disk_Size.f x0_0 x0_1 x0_2 x0_3) (fun (r : Int) (y : Unit) => .int .i64 r) (fun r y => [obj b0 64 [.map (some m0_0), str x0_1, .int .i64 x0_2, .bool x0_3], mapF (mapO m0_0 enc9 encP q0_0) FA68 q0_0 x0_0]) := by
 unfold disk_Disk_Size.f
 refine fn_intro 23 Try.func16 rfl Try.ntmps16 rfl ?_
 refine sr ?_
 refine va rfl rfl (nx ?_)
 refine va rfl rfl (simL_nil (nrm_then ?_))
 refine sim_cut (S := Int) (Unit) (fun s y => [(3, .int .i64 s)]) (fun s y => [obj b0 64 [.map (some m0_0), str x0_1, .int .i64 x0_2, .bool x0_3], mapF (mapO m0_0 enc9 encP q0_0) FA68 q0_0 x0_0, F]) ?_ ?_
 refine sr ?_
 refine vm rfl rfl ?_
 refine vn rfl rfl ?_
 refine vq (q_fa rfl rfl Try.underlying64 rfl rfl Try.sizeOf62 rfl) rfl ?_
 refine vq (q_load rfl rfl Try.isAgg62 (.obj 0 rfl rfl)) rfl ?_
 refine simL_eff (re_rangeF 1 rfl rfl Try.underlying62 rfl) rfl rfl rfl ?_
 intro b3v
 refine simL_nil (nrm_then ?_)
 refine sim_block ?_
 refine sim_range0 (S := Int) (Y := Unit) (o2 := fun s9v => some s9v) (fun (s9v : Int) (x4v : List UInt8) (v5v : List UInt8 × Int) => some (IntKind.i64.wrap (s9v + (v5v.1.length : Int)))) (fun s y => [(3, .int .i64 s), (10, .pointer (some ⟨b3v, 0, none⟩))]) (fun s y => [obj b0 64 [.map (some m0_0), str x0_1, .int .i64 x0_2, .bool x0_3], F]) 0 () (fun x y e => by simpa [str] using e) (fun _ _ => rfl) rfl rfl (fun _ _ _ _ => ⟨rfl, rfl, trivial⟩) ⟨rfl, rfl, trivial⟩ ((.sel 1 rfl (.sel 0 rfl (.sel 0 rfl (.nil _))))) ?_ ?_
 intro kz6v td7v s9v y10v x4v v5v hv8v
 refine sim_eq (o' := some (IntKind.i64.wrap (s9v + (v5v.1.length : Int)))) rfl ?_
 refine sim_ent (H' := [mapF (itJ m0_0 b3v enc9 q0_0 td7v x4v) FA68 q0_0 kz6v, obj b0 64 [.map (some m0_0), str x0_1, .int .i64 x0_2, .bool x0_3], F]) (Ent.refl _) ?_
 refine sim_block ?_
 refine sr ?_
 refine vq (q_entry rfl rfl (ent_J 0 rfl)) rfl ?_
 refine vq (q_ext rfl rfl rfl) rfl ?_
 refine va rfl rfl (simL_nil (nrm_then ?_))
 refine sim_openF (v := v5v) 0 rfl hv8v (fun y12v => ?_)
 refine sim_ent (H' := [obj (fptr q0_0 x4v) 68 [.slice y12v.1 v5v.1.length y12v.2, .int .i64 v5v.2], Row 5 1 y12v.1 v5v.1.length y12v.2 (encB v5v.1), mapH (itJ m0_0 b3v enc9 q0_0 td7v x4v) FA68 q0_0 kz6v x4v, obj b0 64 [.map (some m0_0), str x0_1, .int .i64 x0_2, .bool x0_3], F]) (Ent.refl _) ?_
 refine sim_region ?_
 refine vm rfl rfl ?_
 refine vm rfl rfl ?_
 refine vn rfl rfl ?_
 refine vq (q_fa rfl rfl Try.underlying68 rfl rfl Try.sizeOf34 rfl) rfl ?_
 refine vq (q_load rfl rfl Try.isAgg34 (.obj 0 rfl rfl)) rfl ?_
 refine vq (q_len rfl rfl rfl Try.underlying34) rfl ?_
 refine vq (q_add rfl rfl rfl) rfl ?_
 refine va rfl rfl (simL_nil (nrm_block ?_))
 exact nrm_cut (s := IntKind.i64.wrap (s9v + (v5v.1.length : Int))) () ⟨rfl, rfl, trivial⟩ ((.foldF0 (x := x4v) (p := (fptr q0_0 x4v)) (v := v5v) (y12v.1, y12v.2) rfl hv8v (.sel 2 rfl (.sel 0 rfl (.sel 0 rfl (.sel 0 rfl (.sel 0 rfl (.nil _))))))))
 intro s9v y10v
 refine nrm_eq (o' := some s9v) rfl ?_
 refine nrm_ent (H' := [mapF (mapO m0_0 enc9 encP q0_0) FA68 q0_0 x0_0, obj b0 64 [.map (some m0_0), str x0_1, .int .i64 x0_2, .bool x0_3], F]) (Ent.refl _) ?_
 exact nrm_cut (s := s9v) () ⟨rfl, trivial⟩ (.sel 1 rfl (.sel 0 rfl (.sel 0 rfl (.nil _))))
 intro s1v y2v
 refine sr ?_
 refine vm rfl rfl ?_
 refine va rfl rfl (simL_nil (nrm_then (sim_rtn ?_)))
 exact rtn_fn () rfl rfl rfl (.sel 0 rfl (.sel 0 rfl (.sel 0 rfl (.nil _))))

def disk_Disk_Append.f (x0_0 : List ((List UInt8) × (List UInt8 × Int))) (x0_1 : List UInt8) (x0_2 : Int) (x0_3 : Bool) (x1 : List UInt8) (x2 : List UInt8) : Option (Int × (List ((List UInt8) × (List UInt8 × Int))) × List UInt8 × Int × Bool) := if (mget x0_0 x1).isSome = true then (if x0_3 = true then (some (11, x0_0, x0_1, x0_2, x0_3)) else ((disk_Disk_Size.f x0_0 x0_1 x0_2 x0_3).bind fun s4v => (if IntKind.i64.wrap (16777216 - s4v) < (x2.length : Int) then (some (10, x0_0, x0_1, x0_2, x0_3)) else (((disk_Disk_fails.f x0_0 x0_1 x0_2 x0_3).bind fun s11v => (if s11v.1 = true then (if 0 ≤ (0 : Int) ∧ (0 : Int) ≤ IntKind.i64.wrap (Int.tdiv (x2.length : Int) 2) ∧ IntKind.i64.wrap (Int.tdiv (x2.length : Int) 2) ≤ (x2.length : Int) then (some (cut x2 (0 : Int) (IntKind.i64.wrap (Int.tdiv (x2.length : Int) 2)), 11, s11v.2.1, s11v.2.2.1, s11v.2.2.2)) else none) else (some (x2, 0, s11v.2.1, s11v.2.2.1, s11v.2.2.2)))).bind fun s9v => (if ((((mget x0_0 x1).getD (([] : List UInt8), (0 : Int))).1).length + s9v.1.length) * 1 ≤ 140737488355328 then (some (s9v.2.1, mput x0_0 x1 ((((mget x0_0 x1).getD (([] : List UInt8), (0 : Int))).1) ++ s9v.1, ((mget x0_0 x1).getD (([] : List UInt8), (0 : Int))).2), x1, s9v.2.2.2.1, s9v.2.2.2.2)) else none))))) else (if x0_3 = true then (some (11, x0_0, x0_1, x0_2, x0_3)) else (some (8, x0_0, x0_1, x0_2, x0_3)))
theorem disk_Disk_Append.calls (W : World) (F : HA) (b0 : Nat) (m0_0 : Nat) (q0_0 : Kps) (x0_0 : List ((List UInt8) × (List UInt8 × Int))) (x0_1 : List UInt8) (x0_2 : Int) (x0_3 : Bool) (x1 : List UInt8) (a2 : Option Addr) (c2 : Nat) (x2 : List UInt8) (h2 : Rd F a2 (encB x2)) (hc2 : x2.length ≤ c2) (hm2 : c2 ≤ maxLen) :
    Fn Try.prog W 14 [.pointer (some ⟨b0, 0, none⟩), str x1, .slice a2 x2.length c2] [obj b0 64 [.map (some m0_0), str x0_1, .int .i64 x0_2, .bool x0_3], mapF (mapO m0_0 enc9 encP q0_0) FA68 q0_0 x0_0] F (disk_Disk_Append.f x0_0 x0_1 x0_2 x0_3 x1 x2) (fun (r : Int × (List ((List UInt8) × (List UInt8 × Int))) × List UInt8 × Int × Bool) (y : Nat × Kps) => .int .i64 r.1) (fun r y => [obj b0 64 [.map (some y.1), str r.2.2.1, .int .i64 r.2.2.2.1, .bool r.2.2.2.2], mapF (mapO y.1 enc9 encP y.2) FA68 y.2 r.2.1]) := by
 unfold disk_Disk_Append.f
 refine fn_intro 51 Try.func14 rfl Try.ntmps14 rfl ?_
 refine sr ?_
 refine va rfl rfl (simL_nil (nrm_then (sim_seq ?_)))
 refine sim_if (fun hk1v => ?_) (fun hk1v => ?_)
 refine sim_region ?_
 refine vm rfl rfl ?_
 refine vn rfl rfl ?_
 refine vq (q_fa rfl rfl Try.underlying64 rfl rfl Try.sizeOf62 rfl) rfl ?_
 refine vq (q_load rfl rfl Try.isAgg62 (.obj 0 rfl rfl)) rfl ?_
 refine vm rfl rfl ?_
 refine vq ((q_mlookY (ek := enc9) x1 (tellsF 1 rfl) hk1v rfl rfl rfl Try.underlying62 key9 : RQ _ _ _ _ (.pointer (some ⟨(fptr q0_0 x1), 0, none⟩)))) rfl ?_
 refine va rfl rfl (simL_nil (nrm_then (sim_seq ?_)))
 refine sim_block ?_
 refine sr ?_
 refine vm rfl rfl ?_
 refine vn rfl rfl ?_
 refine vq (q_fa rfl rfl Try.underlying64 rfl rfl Try.sizeOf4 rfl) rfl ?_
 refine vq (q_load rfl rfl Try.isAgg4 (.obj 0 rfl rfl)) rfl ?_
 refine va rfl rfl (simL_nil (nrm_then ?_))
 refine sim_condb rfl (fun h2v => ?_) (fun h3v => ?_)
 refine sr ?_
 refine va rfl rfl (simL_nil (nrm_then (sim_rtn ?_)))
 refine rtn_block ?_
 refine rtn_then ?_
 exact rtn_fn (m0_0, q0_0) rfl rfl rfl (.sel 0 rfl (.sel 0 rfl (.sel 0 rfl (.nil _))))
 refine sr ?_
 refine vm rfl rfl ?_
 refine vq (q_eqp rfl rfl rfl Try.underlying66) rfl ?_
 refine va rfl rfl (simL_nil (nrm_then ?_))
 refine sim_false rfl ?_
 refine sr ?_
 refine vm rfl rfl ?_
 refine vq (q_len rfl rfl rfl Try.underlying34) rfl ?_
 refine vm rfl rfl ?_
 refine simL_bind (fun s4v hs5v => ?_)
 refine simL_eff (re_call (vs := [.pointer (some ⟨b0, 0, none⟩)]) (cap := []) (A := [obj b0 64 [.map (some m0_0), str x0_1, .int .i64 x0_2, .bool x0_3], mapF (mapO m0_0 enc9 encP q0_0) FA68 q0_0 x0_0]) (rst := [F]) rfl rfl rfl rfl rfl rfl Try.call16 (.sel 0 rfl (.sel 0 rfl (.sel 0 rfl (.nil _)))) (disk_Disk_Size.calls _ _ b0 m0_0 q0_0 x0_0 x0_1 x0_2 x0_3 ) hs5v) rfl rfl rfl ?_
 intro y6v
 refine vq (q_sub rfl rfl rfl) rfl ?_
 refine vq (q_gtr rfl rfl rfl) rfl ?_
 refine va rfl rfl (simL_nil (nrm_then ?_))
 refine sim_cond rfl (fun h7v => ?_) (fun h8v => ?_)
 refine sr ?_
 refine va rfl rfl (simL_nil (nrm_then (sim_rtn ?_)))
 refine rtn_block ?_
 refine rtn_then ?_
 exact rtn_fn (m0_0, q0_0) rfl rfl rfl (.sel 0 rfl (.sel 0 rfl (.sel 0 rfl (.nil _))))
 refine sim_skip ?_
 refine nrm_block (nrm_then (sr ?_))
 refine va rfl rfl (simL_nil (nrm_then ?_))
 refine sim_cut (S := List UInt8 × Int × List UInt8 × Int × Bool) (Option Addr × Nat) (fun s y => [(0, .pointer (some ⟨b0, 0, none⟩)), (1, str x1), (2, .slice y.1 s.1.length y.2), (7, .pointer (some ⟨(fptr q0_0 x1), 0, none⟩)), (8, .int .i64 s.2.1)]) (fun s y => [pr (Rd F y.1 (encB s.1) ∧ s.1.length ≤ y.2 ∧ y.2 ≤ maxLen), obj b0 64 [.map (some m0_0), str s.2.2.1, .int .i64 s.2.2.2.1, .bool s.2.2.2.2], mapF (mapO m0_0 enc9 encP q0_0) FA68 q0_0 x0_0, F]) ?_ ?_
 refine sr ?_
 refine vm rfl rfl ?_
 refine simL_bind (fun s11v hs12v => ?_)
 refine simL_eff (re_call (vs := [.pointer (some ⟨b0, 0, none⟩)]) (cap := []) (A := [obj b0 64 [.map (some m0_0), str x0_1, .int .i64 x0_2, .bool x0_3], mapF (mapO m0_0 enc9 encP q0_0) FA68 q0_0 x0_0]) (rst := [F]) rfl rfl rfl rfl rfl rfl Try.call35 (.sel 0 rfl (.sel 0 rfl (.sel 0 rfl (.nil _)))) (disk_Disk_fails.calls _ _ b0 m0_0 q0_0 x0_0 x0_1 x0_2 x0_3 ) hs12v) rfl rfl rfl ?_
 intro y13v
 refine simL_nil (nrm_then ?_)
 refine sim_condb rfl (fun h14v => ?_) (fun h15v => ?_)
 refine sim_region ?_
 refine vm rfl rfl ?_
 refine vm rfl rfl ?_
 refine vq (q_len rfl rfl rfl Try.underlying34) rfl ?_
 refine vq (q_quo rfl rfl rfl (by decide)) rfl ?_
 refine simL_ask (fun hb17v => ?_)
 obtain ⟨a18v, c19v, hS20v, hr21v, hc22v, hm23v⟩ := slice_pre (lo := (0 : Int)) (hi := IntKind.i64.wrap (Int.tdiv (x2.length : Int) 2)) h2 hc2 hb17v
 refine vq (q_sub_ro (l := x2) (lo' := (0 : Int)) (hi' := IntKind.i64.wrap (Int.tdiv (x2.length : Int) 2)) rfl rfl rfl rfl Try.underlying34 Try.sizeOf5 (.inr ⟨_, rfl⟩) (.inl ⟨rfl, rfl⟩) hb17v hc2 hS20v) rfl ?_
 refine va rfl rfl ?_
 refine va rfl rfl (simL_nil ?_)
 exact nrm_cut (s := (cut x2 (0 : Int) (IntKind.i64.wrap (Int.tdiv (x2.length : Int) 2)), 11, s11v.2.1, s11v.2.2.1, s11v.2.2.2)) (a18v, c19v) ⟨rfl, rfl, rfl, rfl, rfl, trivial⟩ (.pr_in ⟨hr21v, hc22v, (Nat.le_trans hm23v hm2)⟩ (.sel 0 rfl (.sel 0 rfl (.sel 0 rfl (.nil _)))))
 refine sim_skip ?_
 exact nrm_cut (s := (x2, 0, s11v.2.1, s11v.2.2.1, s11v.2.2.2)) (a2, c2) ⟨rfl, rfl, rfl, rfl, rfl, trivial⟩ (.pr_in ⟨h2, hc2, hm2⟩ (.sel 0 rfl (.sel 0 rfl (.sel 0 rfl (.nil _)))))
 intro s9v y10v
 refine sim_pr (fun hj24v => ?_)
 refine sim_seq ?_
 refine sim_openF (v := ((mget x0_0 x1).getD (([] : List UInt8), (0 : Int)))) 1 rfl (getD_some hk1v) (fun y25v => ?_)
 refine sim_ent (H' := [obj (fptr q0_0 x1) 68 [.slice y25v.1 ((((mget x0_0 x1).getD (([] : List UInt8), (0 : Int))).1).length) y25v.2, .int .i64 (((mget x0_0 x1).getD (([] : List UInt8), (0 : Int))).2)], Row 5 1 y25v.1 (((mget x0_0 x1).getD (([] : List UInt8), (0 : Int))).1).length y25v.2 (encB (((mget x0_0 x1).getD (([] : List UInt8), (0 : Int))).1)), mapH (mapO m0_0 enc9 encP q0_0) FA68 q0_0 x0_0 x1, obj b0 64 [.map (some m0_0), str s9v.2.2.1, .int .i64 s9v.2.2.2.1, .bool s9v.2.2.2.2], F]) (Ent.refl _) ?_
 refine sim_region ?_
 refine vm rfl rfl ?_
 refine vm rfl rfl ?_
 refine vn rfl rfl ?_
 refine vq (q_fa rfl rfl Try.underlying68 rfl rfl Try.sizeOf34 rfl) rfl ?_
 refine vq (q_load rfl rfl Try.isAgg34 (.obj 0 rfl rfl)) rfl ?_
 refine vm rfl rfl ?_
 refine simL_ask (fun hb27v => ?_)
 refine simL_eff (re_appendb 1 rfl rfl rfl Try.underlying34 elt5 rfl (hj24v.1.rds 3 rfl) hb27v) rfl rfl rfl ?_
 intro y26v
 refine vn rfl rfl ?_
 refine vq (q_fa rfl rfl Try.underlying68 rfl rfl Try.sizeOf34 rfl) rfl ?_
 refine simL_do (re_store 0 rfl rfl rfl Try.sizeOf34 rfl rfl (one_of (by rfl)) rfl rfl) rfl rfl ?_
 intro _
 refine nx ?_
 refine vm rfl rfl ?_
 refine vm rfl rfl ?_
 refine vn rfl rfl ?_
 refine vq (q_fa rfl rfl Try.underlying64 rfl rfl Try.sizeOf9 rfl) rfl ?_
 refine simL_do (re_store 3 rfl rfl rfl Try.sizeOf9 rfl rfl (one_of (by rfl)) rfl rfl) rfl rfl ?_
 intro _
 refine nx ?_
 refine vm rfl rfl ?_
 refine va rfl rfl (simL_nil (nrm_then (sim_rtn ?_)))
 exact rtn_fn (m0_0, q0_0) rfl rfl rfl (.sel 3 rfl (.foldF (x := x1) (p := (fptr q0_0 x1)) (v := ((((mget x0_0 x1).getD (([] : List UInt8), (0 : Int))).1) ++ s9v.1, ((mget x0_0 x1).getD (([] : List UInt8), (0 : Int))).2)) (y26v.1, y26v.2) rfl (.sel 2 rfl (.sel 0 rfl (.sel 0 rfl (.sel 0 rfl (.nil _)))))))
 refine sim_region ?_
 refine vm rfl rfl ?_
 refine vn rfl rfl ?_
 refine vq (q_fa rfl rfl Try.underlying64 rfl rfl Try.sizeOf62 rfl) rfl ?_
 refine vq (q_load rfl rfl Try.isAgg62 (.obj 0 rfl rfl)) rfl ?_
 refine vm rfl rfl ?_
 refine vq (q_mlookN (ek := enc9) x1 (tellsF 1 rfl) (isNone_of hk1v) rfl rfl rfl Try.underlying62 key9 Try.zeroValue66) rfl ?_
 refine va rfl rfl (simL_nil (nrm_then (sim_seq ?_)))
 refine sim_block ?_
 refine sr ?_
 refine vm rfl rfl ?_
 refine vn rfl rfl ?_
 refine vq (q_fa rfl rfl Try.underlying64 rfl rfl Try.sizeOf4 rfl) rfl ?_
 refine vq (q_load rfl rfl Try.isAgg4 (.obj 0 rfl rfl)) rfl ?_
 refine va rfl rfl (simL_nil (nrm_then ?_))
 refine sim_condb rfl (fun h28v => ?_) (fun h29v => ?_)
 refine sr ?_
 refine va rfl rfl (simL_nil (nrm_then (sim_rtn ?_)))
 refine rtn_block ?_
 refine rtn_then ?_
 exact rtn_fn (m0_0, q0_0) rfl rfl rfl (.sel 0 rfl (.sel 0 rfl (.sel 0 rfl (.nil _))))
 refine sr ?_
 refine vm rfl rfl ?_
 refine vq (q_eqnn rfl rfl rfl Try.underlying66) rfl ?_
 refine va rfl rfl (simL_nil (nrm_then ?_))
 refine sim_true rfl ?_
 refine sr ?_
 refine va rfl rfl (simL_nil (nrm_then (sim_rtn ?_)))
 refine rtn_block ?_
 refine rtn_then ?_
 exact rtn_fn (m0_0, q0_0) rfl rfl rfl (.sel 0 rfl (.sel 0 rfl (.sel 0 rfl (.nil _))))

def disk_Disk_Sync.f (x0_0 : List ((List UInt8) × (List UInt8 × Int))) (x0_1 : List UInt8) (x0_2 : Int) (x0_3 : Bool) (x1 : List UInt8) : Option (Int × (List ((List UInt8) × (List UInt8 × Int))) × List UInt8 × Int × Bool) := if (mget x0_0 x1).isSome = true then (if x0_3 = true then (some (11, x0_0, x0_1, x0_2, x0_3)) else ((disk_Disk_fails.f x0_0 x0_1 x0_2 x0_3).bind fun s4v => (if s4v.1 = true then (some (11, x0_0, s4v.2.1, s4v.2.2.1, s4v.2.2.2)) else (some (0, mput x0_0 x1 (((mget x0_0 x1).getD (([] : List UInt8), (0 : Int))).1, ((((mget x0_0 x1).getD (([] : List UInt8), (0 : Int))).1).length : Int)), s4v.2.1, s4v.2.2.1, s4v.2.2.2))))) else (if x0_3 = true then (some (11, x0_0, x0_1, x0_2, x0_3)) else (some (8, x0_0, x0_1, x0_2, x0_3)))
theorem disk_Disk_Sync.calls (W : World) (F : HA) (b0 : Nat) (m0_0 : Nat) (q0_0 : Kps) (x0_0 : List ((List UInt8) × (List UInt8 × Int))) (x0_1 : List UInt8) (x0_2 : Int) (x0_3 : Bool) (x1 : List UInt8)  :
    Fn Try.prog W 32 [.pointer (some ⟨b0, 0, none⟩), str x1] [obj b0 64 [.map (some m0_0), str x0_1, .int .i64 x0_2, .bool x0_3], mapF (mapO m0_0 enc9 encP q0_0) FA68 q0_0 x0_0] F (disk_Disk_Sync.f x0_0 x0_1 x0_2 x0_3 x1) (fun (r : Int × (List ((List UInt8) × (List UInt8 × Int))) × List UInt8 × Int × Bool) (y : Nat × Kps) => .int .i64 r.1) (fun r y => [obj b0 64 [.map (some y.1), str r.2.2.1, .int .i64 r.2.2.2.1, .bool r.2.2.2.2], mapF (mapO y.1 enc9 encP y.2) FA68 y.2 r.2.1]) := by
 unfold disk_Disk_Sync.f
 refine fn_intro 31 Try.func32 rfl Try.ntmps32 rfl ?_
 refine sr ?_
 refine va rfl rfl (simL_nil (nrm_then (sim_seq ?_)))
 refine sim_if (fun hk1v => ?_) (fun hk1v => ?_)
 refine sim_region ?_
 refine vm rfl rfl ?_
 refine vn rfl rfl ?_
 refine vq (q_fa rfl rfl Try.underlying64 rfl rfl Try.sizeOf62 rfl) rfl ?_
 refine vq (q_load rfl rfl Try.isAgg62 (.obj 0 rfl rfl)) rfl ?_
 refine vm rfl rfl ?_
 refine vq ((q_mlookY (ek := enc9) x1 (tellsF 1 rfl) hk1v rfl rfl rfl Try.underlying62 key9 : RQ _ _ _ _ (.pointer (some ⟨(fptr q0_0 x1), 0, none⟩)))) rfl ?_
 refine va rfl rfl (simL_nil (nrm_then (sim_seq ?_)))
 refine sim_block ?_
 refine sr ?_
 refine vm rfl rfl ?_
 refine vn rfl rfl ?_
 refine vq (q_fa rfl rfl Try.underlying64 rfl rfl Try.sizeOf4 rfl) rfl ?_
 refine vq (q_load rfl rfl Try.isAgg4 (.obj 0 rfl rfl)) rfl ?_
 refine va rfl rfl (simL_nil (nrm_then ?_))
 refine sim_condb rfl (fun h2v => ?_) (fun h3v => ?_)
 refine sr ?_
 refine va rfl rfl (simL_nil (nrm_then (sim_rtn ?_)))
 refine rtn_block ?_
 refine rtn_then ?_
 exact rtn_fn (m0_0, q0_0) rfl rfl rfl (.sel 0 rfl (.sel 0 rfl (.sel 0 rfl (.nil _))))
 refine sr ?_
 refine vm rfl rfl ?_
 refine vq (q_eqp rfl rfl rfl Try.underlying66) rfl ?_
 refine va rfl rfl (simL_nil (nrm_then ?_))
 refine sim_false rfl ?_
 refine sr ?_
 refine vm rfl rfl ?_
 refine simL_bind (fun s4v hs5v => ?_)
 refine simL_eff (re_call (vs := [.pointer (some ⟨b0, 0, none⟩)]) (cap := []) (A := [obj b0 64 [.map (some m0_0), str x0_1, .int .i64 x0_2, .bool x0_3], mapF (mapO m0_0 enc9 encP q0_0) FA68 q0_0 x0_0]) (rst := [F]) rfl rfl rfl rfl rfl rfl Try.call35 (.sel 0 rfl (.sel 0 rfl (.sel 0 rfl (.nil _)))) (disk_Disk_fails.calls _ _ b0 m0_0 q0_0 x0_0 x0_1 x0_2 x0_3 ) hs5v) rfl rfl rfl ?_
 intro y6v
 refine va rfl rfl (simL_nil (nrm_then ?_))
 refine sim_condb rfl (fun h7v => ?_) (fun h8v => ?_)
 refine sr ?_
 refine va rfl rfl (simL_nil (nrm_then (sim_rtn ?_)))
 refine rtn_block ?_
 refine rtn_then ?_
 exact rtn_fn (m0_0, q0_0) rfl rfl rfl (.sel 0 rfl (.sel 0 rfl (.sel 0 rfl (.nil _))))
 refine sim_skip ?_
 refine nrm_block (nrm_then (sim_seq ?_))
 refine sim_openF (v := ((mget x0_0 x1).getD (([] : List UInt8), (0 : Int)))) 1 rfl (getD_some hk1v) (fun y9v => ?_)
 refine sim_ent (H' := [obj (fptr q0_0 x1) 68 [.slice y9v.1 ((((mget x0_0 x1).getD (([] : List UInt8), (0 : Int))).1).length) y9v.2, .int .i64 (((mget x0_0 x1).getD (([] : List UInt8), (0 : Int))).2)], Row 5 1 y9v.1 (((mget x0_0 x1).getD (([] : List UInt8), (0 : Int))).1).length y9v.2 (encB (((mget x0_0 x1).getD (([] : List UInt8), (0 : Int))).1)), mapH (mapO m0_0 enc9 encP q0_0) FA68 q0_0 x0_0 x1, obj b0 64 [.map (some m0_0), str s4v.2.1, .int .i64 s4v.2.2.1, .bool s4v.2.2.2], F]) (Ent.refl _) ?_
 refine sim_region ?_
 refine vm rfl rfl ?_
 refine vm rfl rfl ?_
 refine vn rfl rfl ?_
 refine vq (q_fa rfl rfl Try.underlying68 rfl rfl Try.sizeOf34 rfl) rfl ?_
 refine vq (q_load rfl rfl Try.isAgg34 (.obj 0 rfl rfl)) rfl ?_
 refine vq (q_len rfl rfl rfl Try.underlying34) rfl ?_
 refine vn rfl rfl ?_
 refine vq (q_fa rfl rfl Try.underlying68 rfl rfl Try.sizeOf3 rfl) rfl ?_
 refine simL_do (re_store 0 rfl rfl rfl Try.sizeOf3 rfl rfl (one_of (by rfl)) rfl rfl) rfl rfl ?_
 intro _
 refine nx ?_
 refine va rfl rfl (simL_nil (nrm_then (sim_rtn ?_)))
 exact rtn_fn (m0_0, q0_0) rfl rfl rfl (.sel 3 rfl (.foldF (x := x1) (p := (fptr q0_0 x1)) (v := (((mget x0_0 x1).getD (([] : List UInt8), (0 : Int))).1, ((((mget x0_0 x1).getD (([] : List UInt8), (0 : Int))).1).length : Int))) (y9v.1, y9v.2) rfl (.sel 2 rfl (.sel 0 rfl (.sel 0 rfl (.sel 0 rfl (.nil _)))))))
 refine sim_region ?_
 refine vm rfl rfl ?_
 refine vn rfl rfl ?_
 refine vq (q_fa rfl rfl Try.underlying64 rfl rfl Try.sizeOf62 rfl) rfl ?_
 refine vq (q_load rfl rfl Try.isAgg62 (.obj 0 rfl rfl)) rfl ?_
 refine vm rfl rfl ?_
 refine vq (q_mlookN (ek := enc9) x1 (tellsF 1 rfl) (isNone_of hk1v) rfl rfl rfl Try.underlying62 key9 Try.zeroValue66) rfl ?_
 refine va rfl rfl (simL_nil (nrm_then (sim_seq ?_)))
 refine sim_block ?_
 refine sr ?_
 refine vm rfl rfl ?_
 refine vn rfl rfl ?_
 refine vq (q_fa rfl rfl Try.underlying64 rfl rfl Try.sizeOf4 rfl) rfl ?_
 refine vq (q_load rfl rfl Try.isAgg4 (.obj 0 rfl rfl)) rfl ?_
 refine va rfl rfl (simL_nil (nrm_then ?_))
 refine sim_condb rfl (fun h10v => ?_) (fun h11v => ?_)
 refine sr ?_
 refine va rfl rfl (simL_nil (nrm_then (sim_rtn ?_)))
 refine rtn_block ?_
 refine rtn_then ?_
 exact rtn_fn (m0_0, q0_0) rfl rfl rfl (.sel 0 rfl (.sel 0 rfl (.sel 0 rfl (.nil _))))
 refine sr ?_
 refine vm rfl rfl ?_
 refine vq (q_eqnn rfl rfl rfl Try.underlying66) rfl ?_
 refine va rfl rfl (simL_nil (nrm_then ?_))
 refine sim_true rfl ?_
 refine sr ?_
 refine va rfl rfl (simL_nil (nrm_then (sim_rtn ?_)))
 refine rtn_block ?_
 refine rtn_then ?_
 exact rtn_fn (m0_0, q0_0) rfl rfl rfl (.sel 0 rfl (.sel 0 rfl (.sel 0 rfl (.nil _))))

def disk_Disk_Crash.f (x0_0 : List ((List UInt8) × (List UInt8 × Int))) (x0_1 : List UInt8) (x0_2 : Int) (x0_3 : Bool) (x1 : Int) : Option ((List ((List UInt8) × (List UInt8 × Int))) × List UInt8 × Int × Bool) := ((rangeM (fun (s9v : Unit) (x4v : List UInt8) (v5v : List UInt8 × Int) => (if x4v = x0_1 then (some (IntKind.i64.wrap (v5v.2 + (min (max x1 (0 : Int)) (IntKind.i64.wrap ((v5v.1.length : Int) - v5v.2)))))) else (some v5v.2)).bind fun s13v => (if 0 ≤ s13v ∧ s13v ≤ (v5v.1.length : Int) then (some ((), (List.take s13v.toNat v5v.1, s13v))) else none)) () x0_0).bind fun z11v => (some z11v.2)).bind fun s1v => (some (s1v, ([] : List UInt8), 0, false))
theorem disk_Disk_Crash.calls (W : World) (F : HA) (b0 : Nat) (m0_0 : Nat) (q0_0 : Kps) (x0_0 : List ((List UInt8) × (List UInt8 × Int))) (x0_1 : List UInt8) (x0_2 : Int) (x0_3 : Bool) (x1 : Int)  :
    Fn Try.prog W 22 [.pointer (some ⟨b0, 0, none⟩), .int .i64 x1] [obj b0 64 [.map (some m0_0), str x0_1, .int .i64 x0_2, .bool x0_3], mapF (mapO m0_0 enc9 encP q0_0) FA68 q0_0 x0_0] F (disk_Disk_Crash.f x0_0 x0_1 x0_2 x0_3 x1) (fun (r : (List ((List UInt8) × (List UInt8 × Int))) × List UInt8 × Int × Bool) (y : Nat × Kps) => .tuple #[]) (fun r y => [obj b0 64 [.map (some y.1), str r.2.1, .int .i64 r.2.2.1, .bool r.2.2.2], mapF (mapO y.1 enc9 encP y.2) FA68 y.2 r.1]) := by
 unfold disk_Disk_Crash.f
 refine fn_intro 65 Try.func22 rfl Try.ntmps22 rfl ?_
 refine sim_cut (S := (List ((List UInt8) × (List UInt8 × Int)))) (Unit) (fun s y => [(0, .pointer (some ⟨b0, 0, none⟩))]) (fun s y => [obj b0 64 [.map (some m0_0), str x0_1, .int .i64 x0_2, .bool x0_3], mapF (mapO m0_0 enc9 encP q0_0) FA68 q0_0 s, F]) ?_ ?_
 refine sr ?_
 refine vm rfl rfl ?_
 refine vn rfl rfl ?_
 refine vq (q_fa rfl rfl Try.underlying64 rfl rfl Try.sizeOf62 rfl) rfl ?_
 refine vq (q_load rfl rfl Try.isAgg62 (.obj 0 rfl rfl)) rfl ?_
 refine simL_eff (re_rangeF 1 rfl rfl Try.underlying62 rfl) rfl rfl rfl ?_
 intro b3v
 refine simL_nil (nrm_then ?_)
 refine sim_block ?_
 refine sim_rangeM (S := Unit) (Y := Unit) (o2 := fun z11v => some z11v.2) (fun (s9v : Unit) (x4v : List UInt8) (v5v : List UInt8 × Int) => (if x4v = x0_1 then (some (IntKind.i64.wrap (v5v.2 + (min (max x1 (0 : Int)) (IntKind.i64.wrap ((v5v.1.length : Int) - v5v.2)))))) else (some v5v.2)).bind fun s13v => (if 0 ≤ s13v ∧ s13v ≤ (v5v.1.length : Int) then (some ((), (List.take s13v.toNat v5v.1, s13v))) else none)) (fun s y => [(0, .pointer (some ⟨b0, 0, none⟩)), (1, .int .i64 x1), (11, .pointer (some ⟨b3v, 0, none⟩))]) (fun s y => [obj b0 64 [.map (some m0_0), str x0_1, .int .i64 x0_2, .bool x0_3], F]) () () (fun x y e => by simpa [str] using e) (fun _ _ => rfl) rfl rfl (fun _ _ _ _ => ⟨rfl, rfl, rfl, trivial⟩) ⟨rfl, rfl, rfl, trivial⟩ ((.sel 1 rfl (.sel 0 rfl (.sel 0 rfl (.nil _))))) ?_ ?_
 intro kz6v td7v s9v y10v x4v v5v hv8v
 refine sim_eq (o' := (if x4v = x0_1 then (some (IntKind.i64.wrap (v5v.2 + (min (max x1 (0 : Int)) (IntKind.i64.wrap ((v5v.1.length : Int) - v5v.2)))))) else (some v5v.2)).bind fun s13v => (if 0 ≤ s13v ∧ s13v ≤ (v5v.1.length : Int) then (some ((), (List.take s13v.toNat v5v.1, s13v))) else none)) rfl ?_
 refine sim_ent (H' := [mapF (itJ m0_0 b3v enc9 q0_0 td7v x4v) FA68 q0_0 kz6v, obj b0 64 [.map (some m0_0), str x0_1, .int .i64 x0_2, .bool x0_3], F]) (Ent.refl _) ?_
 refine sim_block ?_
 refine sr ?_
 refine vq (q_entry rfl rfl (ent_J 0 rfl)) rfl ?_
 refine vq (q_ext rfl rfl rfl) rfl ?_
 refine vq (q_ext rfl rfl rfl) rfl ?_
 refine va rfl rfl ?_
 refine va rfl rfl (simL_nil (nrm_then (sim_seq ?_)))
 refine sim_openF (v := v5v) 0 rfl hv8v (fun y12v => ?_)
 refine sim_ent (H' := [obj (fptr q0_0 x4v) 68 [.slice y12v.1 v5v.1.length y12v.2, .int .i64 v5v.2], Row 5 1 y12v.1 v5v.1.length y12v.2 (encB v5v.1), mapH (itJ m0_0 b3v enc9 q0_0 td7v x4v) FA68 q0_0 kz6v x4v, obj b0 64 [.map (some m0_0), str x0_1, .int .i64 x0_2, .bool x0_3], F]) (Ent.refl _) ?_
 refine sim_region ?_
 refine vm rfl rfl ?_
 refine vn rfl rfl ?_
 refine vq (q_fa rfl rfl Try.underlying68 rfl rfl Try.sizeOf3 rfl) rfl ?_
 refine vq (q_load rfl rfl Try.isAgg3 (.obj 0 rfl rfl)) rfl ?_
 refine va rfl rfl (simL_nil (nrm_then ?_))
 refine sim_cut (S := Int) (Unit) (fun s y => [(0, .pointer (some ⟨b0, 0, none⟩)), (1, .int .i64 x1), (5, .pointer (some ⟨(fptr q0_0 x4v), 0, none⟩)), (6, .int .i64 s), (11, .pointer (some ⟨b3v, 0, none⟩))]) (fun s y => [obj b0 64 [.map (some m0_0), str x0_1, .int .i64 x0_2, .bool x0_3], mapF (itJ m0_0 b3v enc9 q0_0 td7v x4v) FA68 q0_0 kz6v, F]) ?_ ?_
 refine sr ?_
 refine vm rfl rfl ?_
 refine vm rfl rfl ?_
 refine vn rfl rfl ?_
 refine vq (q_fa rfl rfl Try.underlying64 rfl rfl Try.sizeOf9 rfl) rfl ?_
 refine vq (q_load rfl rfl Try.isAgg9 (.obj 3 rfl rfl)) rfl ?_
 refine vq (q_eqs rfl rfl rfl) rfl (simL_nil (nrm_then ?_))
 refine sim_cond rfl (fun h15v => ?_) (fun h16v => ?_)
 refine sim_draw (Γ := Unit) () [[], [], [1], [], [3], [3, 4], [3, 4, 5], [3, 4, 5, 6], [], [8], [8, 9], [8, 9, 10], [3, 4, 5, 6, 7, 8, 9, 10, 11], [1, 2, 3, 4, 5, 6, 7, 8, 9, 10, 11, 12], rL 14, rL 15] [] [0, 1, 2, 3, 4, 5, 6, 7, 8, 9, 10, 11, 12, 13, 14, 15] (fun i => [[0], [0], [0], [0], [0], [0], [0], [0], [0], [0], [0], [0], [0], [0], [0], [0]].getD i []) (fun i => [[], [], [], [], [], [], [], [], [], [], [], [], [], [], [], []].getD i []) (fun γ i => [.int .i64 v5v.2, .int .i64 x1, .int .i64 (max x1 (0 : Int)), .pointer (some ⟨(fptr q0_0 x4v), 0, none⟩), .pointer (some ⟨(fptr q0_0 x4v), 0, none⟩), .pointer (some ⟨(fptr q0_0 x4v), 0, none⟩), .slice y12v.1 v5v.1.length y12v.2, .int .i64 (v5v.1.length : Int), .pointer (some ⟨(fptr q0_0 x4v), 0, none⟩), .pointer (some ⟨(fptr q0_0 x4v), 0, none⟩), .pointer (some ⟨(fptr q0_0 x4v), 1, none⟩), .int .i64 v5v.2, .int .i64 (IntKind.i64.wrap ((v5v.1.length : Int) - v5v.2)), .int .i64 (min (max x1 (0 : Int)) (IntKind.i64.wrap ((v5v.1.length : Int) - v5v.2))), .int .i64 (IntKind.i64.wrap (v5v.2 + (min (max x1 (0 : Int)) (IntKind.i64.wrap ((v5v.1.length : Int) - v5v.2))))), .int .i64 (IntKind.i64.wrap (v5v.2 + (min (max x1 (0 : Int)) (IntKind.i64.wrap ((v5v.1.length : Int) - v5v.2)))))].getD i undef) (fun j γ => [[obj (fptr q0_0 x4v) 68 [.slice y12v.1 v5v.1.length y12v.2, .int .i64 v5v.2], Row 5 1 y12v.1 v5v.1.length y12v.2 (encB v5v.1), mapH (itJ m0_0 b3v enc9 q0_0 td7v x4v) FA68 q0_0 kz6v x4v, obj b0 64 [.map (some m0_0), str x0_1, .int .i64 x0_2, .bool x0_3], F]].getD j []) (fun γ => [(0, .pointer (some ⟨b0, 0, none⟩)), (1, .int .i64 x1), (5, .pointer (some ⟨(fptr q0_0 x4v), 0, none⟩)), (6, .int .i64 (IntKind.i64.wrap (v5v.2 + (min (max x1 (0 : Int)) (IntKind.i64.wrap ((v5v.1.length : Int) - v5v.2)))))), (11, .pointer (some ⟨b3v, 0, none⟩))]) mixed (by decide) (by decide) (by decide) (by decide) (by decide) (by decide) (by decide) 65 rfl (by decide) (by decide) (by decide) (Ent.refl _) ?_ ?_ (fun _ => ⟨rfl, rfl, rfl, rfl, rfl, trivial⟩) ?_
 exact (aq rfl (fun γ => qm rfl (.o (s := 6) rfl (by decide) .nil) rfl) (aq rfl (fun γ => qm rfl (.o (s := 1) rfl (by decide) .nil) rfl) (aq rfl (fun γ => qp rfl rfl (.v 1 rfl rfl .nil) (q_max rfl rfl rfl) rfl) (aq rfl (fun γ => qm rfl (.o (s := 5) rfl (by decide) .nil) rfl) (aq rfl (fun γ => qp rfl rfl (.v 3 rfl rfl .nil) (q_nil rfl rfl) rfl) (aq rfl (fun γ => qp rfl rfl (.v 4 rfl rfl .nil) (q_fa rfl rfl Try.underlying68 rfl rfl Try.sizeOf34 rfl) rfl) (aq rfl (fun γ => qp rfl rfl (.v 5 rfl rfl .nil) (q_load rfl rfl Try.isAgg34 (.obj 0 rfl rfl)) rfl) (aq rfl (fun γ => qp rfl rfl (.v 6 rfl rfl .nil) (q_len rfl rfl rfl Try.underlying34) rfl) (aq rfl (fun γ => qm rfl (.o (s := 5) rfl (by decide) .nil) rfl) (aq rfl (fun γ => qp rfl rfl (.v 8 rfl rfl .nil) (q_nil rfl rfl) rfl) (aq rfl (fun γ => qp rfl rfl (.v 9 rfl rfl .nil) (q_fa rfl rfl Try.underlying68 rfl rfl Try.sizeOf3 rfl) rfl) (aq rfl (fun γ => qp rfl rfl (.v 10 rfl rfl .nil) (q_load rfl rfl Try.isAgg3 (.obj 0 rfl rfl)) rfl) (aq rfl (fun γ => qp rfl rfl (.v 7 rfl rfl (.v 11 rfl rfl .nil)) (q_sub rfl rfl rfl) rfl) (aq rfl (fun γ => qp rfl rfl (.v 2 rfl rfl (.v 12 rfl rfl .nil)) (q_min rfl rfl rfl) rfl) (aq rfl (fun γ => qp rfl rfl (.v 0 rfl rfl (.v 13 rfl rfl .nil)) (q_add rfl rfl rfl) rfl) (aq rfl (fun γ => qp rfl rfl (.v 14 rfl rfl .nil) (q_asg rfl rfl) rfl) zA))))))))))))))))
 exact zA
 intro g17v
 exact nrm_cut (s := IntKind.i64.wrap (v5v.2 + (min (max x1 (0 : Int)) (IntKind.i64.wrap ((v5v.1.length : Int) - v5v.2))))) () ⟨rfl, rfl, rfl, rfl, rfl, trivial⟩ (.sel 3 rfl (.foldF0 (x := x4v) (p := (fptr q0_0 x4v)) (v := v5v) (y12v.1, y12v.2) rfl hv8v (.sel 2 rfl (.sel 0 rfl (.sel 0 rfl (.sel 0 rfl (.nil _)))))))
 refine sim_skip ?_
 exact nrm_cut (s := v5v.2) () ⟨rfl, rfl, rfl, rfl, rfl, trivial⟩ (.sel 3 rfl (.foldF0 (x := x4v) (p := (fptr q0_0 x4v)) (v := v5v) (y12v.1, y12v.2) rfl hv8v (.sel 2 rfl (.sel 0 rfl (.sel 0 rfl (.sel 0 rfl (.nil _)))))))
 intro s13v y14v
 refine sim_seq ?_
 refine sim_openF (v := v5v) 1 rfl hv8v (fun y18v => ?_)
 refine sim_ent (H' := [obj (fptr q0_0 x4v) 68 [.slice y18v.1 v5v.1.length y18v.2, .int .i64 v5v.2], Row 5 1 y18v.1 v5v.1.length y18v.2 (encB v5v.1), mapH (itJ m0_0 b3v enc9 q0_0 td7v x4v) FA68 q0_0 kz6v x4v, obj b0 64 [.map (some m0_0), str x0_1, .int .i64 x0_2, .bool x0_3], F]) (Ent.refl _) ?_
 refine sim_region ?_
 refine vm rfl rfl ?_
 refine vm rfl rfl ?_
 refine vn rfl rfl ?_
 refine vq (q_fa rfl rfl Try.underlying68 rfl rfl Try.sizeOf34 rfl) rfl ?_
 refine vq (q_load rfl rfl Try.isAgg34 (.obj 0 rfl rfl)) rfl ?_
 refine vm rfl rfl ?_
 refine vm rfl rfl ?_
 refine simL_ask (fun hb19v => ?_)
 refine simL_eff (re_cut3 1 rfl rfl rfl rfl Try.underlying34 Try.sizeOf5 rfl hb19v) rfl rfl rfl ?_
 intro _
 refine vn rfl rfl ?_
 refine vq (q_fa rfl rfl Try.underlying68 rfl rfl Try.sizeOf34 rfl) rfl ?_
 refine simL_do (re_store 0 rfl rfl rfl Try.sizeOf34 rfl rfl (one_of (by rfl)) rfl rfl) rfl rfl ?_
 intro _
 refine ny ?_
 refine vm rfl rfl ?_
 refine vm rfl rfl ?_
 refine vn rfl rfl ?_
 refine vq (q_fa rfl rfl Try.underlying68 rfl rfl Try.sizeOf3 rfl) rfl ?_
 refine simL_do (re_store 0 rfl rfl rfl Try.sizeOf3 rfl rfl (one_of (by rfl)) rfl rfl) rfl rfl ?_
 intro _
 refine simL_nil (nrm_block ?_)
 exact nrm_cut (s := ((), (List.take s13v.toNat v5v.1, s13v))) () ⟨rfl, rfl, rfl, trivial⟩ ((.foldF (x := x4v) (p := (fptr q0_0 x4v)) (v := (List.take s13v.toNat v5v.1, s13v)) (y18v.1, s13v.toNat) rfl (.sel 2 rfl (.sel 0 rfl (.sel 0 rfl (.sel 0 rfl (.sel 0 rfl (.nil _))))))))
 intro kz20v s9v y10v
 refine nrm_eq (o' := some kz20v) rfl ?_
 refine nrm_ent (H' := [mapF (mapO m0_0 enc9 encP q0_0) FA68 q0_0 kz20v, obj b0 64 [.map (some m0_0), str x0_1, .int .i64 x0_2, .bool x0_3], F]) (Ent.refl _) ?_
 exact nrm_cut (s := kz20v) () ⟨rfl, trivial⟩ (.sel 1 rfl (.sel 0 rfl (.sel 0 rfl (.nil _))))
 intro s1v y2v
 refine sim_region ?_
 refine vm rfl rfl ?_
 refine vm rfl rfl ?_
 refine vm rfl rfl ?_
 refine vn rfl rfl ?_
 refine vq (q_fa rfl rfl Try.underlying64 rfl rfl Try.sizeOf9 rfl) rfl ?_
 refine simL_do (re_store 0 rfl rfl rfl Try.sizeOf9 rfl rfl (one_of (by rfl)) rfl rfl) rfl rfl ?_
 intro _
 refine vn rfl rfl ?_
 refine vq (q_fa rfl rfl Try.underlying64 rfl rfl Try.sizeOf3 rfl) rfl ?_
 refine simL_do (re_store 0 rfl rfl rfl Try.sizeOf3 rfl rfl (one_of (by rfl)) rfl rfl) rfl rfl ?_
 intro _
 refine vn rfl rfl ?_
 refine vq (q_fa rfl rfl Try.underlying64 rfl rfl Try.sizeOf4 rfl) rfl ?_
 refine simL_do (re_store 0 rfl rfl rfl Try.sizeOf4 rfl rfl (one_of (by rfl)) rfl rfl) rfl rfl ?_
 intro _
 refine simL_nil ?_
 exact nrm_fn (m0_0, q0_0) rfl rfl rfl (.sel 0 rfl (.sel 0 rfl (.sel 0 rfl (.nil _))))

def maps_Keys_file.f  : Option (Unit) := some ()
theorem maps_Keys_file.calls (W : World) (F : HA) (m0 : Nat)  :
    Fn Try.prog W 42 [.map (some m0)] [] F (maps_Keys_file.f ) (fun (r : Unit) (y : Nat) => .func (.func 61) #[] #[.pointer (some ⟨y, 0, none⟩)]) (fun r y => [obj y 62 [.map (some m0)]]) := by
 unfold maps_Keys_file.f
 refine fn_intro 4 Try.func42 rfl Try.ntmps42 rfl ?_
 refine sr ?_
 refine simL_eff (re_box rfl rfl rfl) rfl rfl rfl ?_
 intro b1v
 refine va rfl rfl (nx ?_)
 refine vq (q_mkfn rfl rfl rfl) rfl ?_
 refine va rfl rfl (simL_nil (nrm_then (sim_rtn ?_)))
 exact rtn_fn b1v rfl rfl rfl (.sel 0 rfl (.sel 0 rfl (.nil _)))

def slices_Sorted_string_maps_Keys_file_1.f (xp0_0 : List ((List UInt8) × (List UInt8 × Int))) : Option (List (List UInt8)) := if (xp0_0.map (·.1)).Nodup ∧ xp0_0.length * 16 ≤ 140737488355328 ∧ ∀ p ∈ xp0_0, p.1.length ≤ 140737488351232 then some (keysS xp0_0) else none
theorem slices_Sorted_string_maps_Keys_file_1.calls (W : World) (F : HA) (bp0 : Nat) (mp0_0 : Nat) (qp0_0 : Kps) (xp0_0 : List ((List UInt8) × (List UInt8 × Int))) :
    Fn Try.prog W 41 [.func (.func 61) #[] #[.pointer (some ⟨bp0, 0, none⟩)]] [obj bp0 62 [.map (some mp0_0)], mapF (mapO mp0_0 enc9 encP qp0_0) FA68 qp0_0 xp0_0] F (slices_Sorted_string_maps_Keys_file_1.f xp0_0) (fun (r : List (List UInt8)) (y : Option Addr × Nat) => .slice y.1 r.length y.2) (fun r y => [RowV 9 1 (V9 tt) y.1 r y.2, obj bp0 62 [.map (some mp0_0)], mapF (mapO mp0_0 enc9 encP qp0_0) FA68 qp0_0 xp0_0]) := by
  unfold slices_Sorted_string_maps_Keys_file_1.f
  exact fn_sortedSF fun F => fn_sortedS (V := (V9 tt)) (fun _ => rfl) Try.underlying9 (fun w D0 nn => lib_sorted41_61 w D0 nn mp0_0 bp0)

def disk_Disk_List.f (x0_0 : List ((List UInt8) × (List UInt8 × Int))) (x0_1 : List UInt8) (x0_2 : Int) (x0_3 : Bool) : Option (List (List UInt8)) := (maps_Keys_file.f).bind fun s1v => ((slices_Sorted_string_maps_Keys_file_1.f x0_0).bind fun s4v => (some s4v))
theorem disk_Disk_List.calls (W : World) (F : HA) (b0 : Nat) (m0_0 : Nat) (q0_0 : Kps) (x0_0 : List ((List UInt8) × (List UInt8 × Int))) (x0_1 : List UInt8) (x0_2 : Int) (x0_3 : Bool)  :
    Fn Try.prog W 18 [.pointer (some ⟨b0, 0, none⟩)] [obj b0 64 [.map (some m0_0), str x0_1, .int .i64 x0_2, .bool x0_3], mapF (mapO m0_0 enc9 encP q0_0) FA68 q0_0 x0_0] F (disk_Disk_List.f x0_0 x0_1 x0_2 x0_3) (fun (r : List (List UInt8)) (y : Option Addr × Nat) => .slice y.1 r.length y.2) (fun r y => [RowV 9 1 (V9 tt) y.1 r y.2, obj b0 64 [.map (some m0_0), str x0_1, .int .i64 x0_2, .bool x0_3], mapF (mapO m0_0 enc9 encP q0_0) FA68 q0_0 x0_0]) := by
 unfold disk_Disk_List.f
 refine fn_intro 9 Try.func18 rfl Try.ntmps18 rfl ?_
 refine sr ?_
 refine va rfl rfl (nx ?_)
 refine vm rfl rfl ?_
 refine vn rfl rfl ?_
 refine vq (q_fa rfl rfl Try.underlying64 rfl rfl Try.sizeOf62 rfl) rfl ?_
 refine vq (q_load rfl rfl Try.isAgg62 (.obj 0 rfl rfl)) rfl ?_
 refine simL_bind (fun s1v hs2v => ?_)
 refine simL_eff (re_call (vs := [.map (some m0_0)]) (cap := []) (A := []) (rst := [obj b0 64 [.map (some m0_0), str x0_1, .int .i64 x0_2, .bool x0_3], mapF (mapO m0_0 enc9 encP q0_0) FA68 q0_0 x0_0, F]) rfl rfl rfl rfl rfl rfl Try.call42 (.sel 0 rfl (.sel 0 rfl (.sel 0 rfl (.nil _)))) (maps_Keys_file.calls _ _ m0_0 ) hs2v) rfl rfl rfl ?_
 intro y3v
 refine simL_bind (fun s4v hs5v => ?_)
 refine simL_eff (re_call (vs := [.func (.func 61) #[] #[.pointer (some ⟨y3v, 0, none⟩)]]) (cap := []) (A := [obj y3v 62 [.map (some m0_0)], mapF (mapO m0_0 enc9 encP q0_0) FA68 q0_0 x0_0]) (rst := [obj b0 64 [.map (some m0_0), str x0_1, .int .i64 x0_2, .bool x0_3], F]) rfl rfl rfl rfl rfl rfl Try.call41 (.sel 0 rfl (.sel 1 rfl (.sel 0 rfl (.sel 0 rfl (.nil _))))) (slices_Sorted_string_maps_Keys_file_1.calls _ _ y3v m0_0 q0_0 x0_0 ) hs5v) rfl rfl rfl ?_
 intro y6v
 refine va rfl rfl (simL_nil (nrm_then (sim_rtn ?_)))
 exact rtn_fn (y6v.1, y6v.2) rfl rfl rfl (.sel 0 rfl (.sel 2 rfl (.sel 1 rfl (.sel 1 rfl (.nil _)))))

def disk_fresh.f (x0 : List UInt8) : Option (List UInt8) := if 0 ≤ (0 : Int) ∧ (0 : Int) ≤ (x0.length : Int) ∧ (x0.length : Int) * 1 ≤ 140737488355328 then (if ((List.replicate (0 : Int).toNat (0 : UInt8)).length + x0.length) * 1 ≤ 140737488355328 then (some ((List.replicate (0 : Int).toNat (0 : UInt8)) ++ x0)) else none) else none
theorem disk_fresh.calls (W : World) (F : HA) (a0 : Option Addr) (c0 : Nat) (x0 : List UInt8) (h0 : Rd F a0 (encB x0)) (hc0 : x0.length ≤ c0) (hm0 : c0 ≤ maxLen) :
    Fn Try.prog W 43 [.slice a0 x0.length c0] [] F (disk_fresh.f x0) (fun (r : List UInt8) (y : Option Addr × Nat) => .slice y.1 r.length y.2) (fun r y => [Row 5 1 y.1 r.length y.2 (encB r)]) := by
 unfold disk_fresh.f
 refine fn_intro 8 Try.func43 rfl Try.ntmps43 rfl ?_
 refine sr ?_
 refine va rfl rfl (nx ?_)
 refine vm rfl rfl ?_
 refine vq (q_len rfl rfl rfl Try.underlying34) rfl ?_
 refine simL_ask (fun hb2v => ?_)
 refine simL_eff (re_makeb rfl rfl rfl Try.underlying34 elt5 hb2v.1 hb2v.2.1 hb2v.2.2) rfl rfl rfl ?_
 intro b1v
 refine vm rfl rfl ?_
 refine simL_ask (fun hb4v => ?_)
 refine simL_eff (re_appendb 0 rfl rfl rfl Try.underlying34 elt5 rfl (h0.rds 0 rfl) hb4v) rfl rfl rfl ?_
 intro y3v
 refine va rfl rfl (simL_nil (nrm_then (sim_rtn ?_)))
 exact rtn_fn (y3v.1, y3v.2) rfl rfl rfl (.sel 0 rfl (.sel 0 rfl (.nil _)))

def disk_Disk_Files.l0 (x0_0 : List ((List UInt8) × (List UInt8 × Int))) (s3v : List (List UInt8)) : Nat → List (Ty36) → Int → Option ((List (Ty36)))
  | 0, _, _ => none
  | k + 1, z8v, z9v => if z9v < (s3v.length : Int) then (if 0 ≤ z9v ∧ z9v < (s3v.length : Int) then (if (mget x0_0 (s3v.getD z9v.toNat ([] : List UInt8))).isSome = true then ((disk_fresh.f (((mget x0_0 (s3v.getD z9v.toNat ([] : List UInt8))).getD (([] : List UInt8), (0 : Int))).1)).bind fun s30v => (if (z8v.length + ([((s3v.getD z9v.toNat ([] : List UInt8)), s30v, ((mget x0_0 (s3v.getD z9v.toNat ([] : List UInt8))).getD (([] : List UInt8), (0 : Int))).2)] : List (Ty36)).length) * 48 ≤ 140737488355328 then (disk_Disk_Files.l0 x0_0 s3v k (z8v ++ ([((s3v.getD z9v.toNat ([] : List UInt8)), s30v, ((mget x0_0 (s3v.getD z9v.toNat ([] : List UInt8))).getD (([] : List UInt8), (0 : Int))).2)] : List (Ty36))) (IntKind.i64.wrap (z9v + 1))) else none)) else (none)) else none) else (some z8v)
def disk_Disk_Files.f (k : Nat) (x0_0 : List ((List UInt8) × (List UInt8 × Int))) (x0_1 : List UInt8) (x0_2 : Int) (x0_3 : Bool) : Option ((List (Ty36))) := ((disk_Disk_List.f x0_0 x0_1 x0_2 x0_3).bind fun s3v => (disk_Disk_Files.l0 x0_0 s3v k ([] : List (Ty36)) 0)).bind fun s1v => (some s1v)
theorem disk_Disk_Files.calls (W : World) (F : HA) (k : Nat) (b0 : Nat) (m0_0 : Nat) (q0_0 : Kps) (x0_0 : List ((List UInt8) × (List UInt8 × Int))) (x0_1 : List UInt8) (x0_2 : Int) (x0_3 : Bool)  :
    Fn Try.prog W 21 [.pointer (some ⟨b0, 0, none⟩)] [obj b0 64 [.map (some m0_0), str x0_1, .int .i64 x0_2, .bool x0_3], mapF (mapO m0_0 enc9 encP q0_0) FA68 q0_0 x0_0] F (disk_Disk_Files.f k x0_0 x0_1 x0_2 x0_3) (fun (r : (List (Ty36))) (y : Option Addr × Nat × HA) => .slice y.1 r.length y.2.1) (fun r y => [RowV 36 3 (V36w (y.2.2)) y.1 r y.2.1, y.2.2, obj b0 64 [.map (some m0_0), str x0_1, .int .i64 x0_2, .bool x0_3], mapF (mapO m0_0 enc9 encP q0_0) FA68 q0_0 x0_0]) := by
 unfold disk_Disk_Files.f
 refine fn_intro 36 Try.func21 rfl Try.ntmps21 rfl ?_
 refine sr ?_
 refine va rfl rfl (nx ?_)
 refine va rfl rfl (simL_nil (nrm_then ?_))
 refine sim_cut (S := (List (Ty36))) (HA × Option Addr × Nat) (fun s y => [(3, .slice y.2.1 s.length y.2.2)]) (fun s y => [obj b0 64 [.map (some m0_0), str x0_1, .int .i64 x0_2, .bool x0_3], RowV 36 3 (V36w (y.1)) y.2.1 s y.2.2, mapF (mapO m0_0 enc9 encP q0_0) FA68 q0_0 x0_0, y.1, F]) ?_ ?_
 refine sr ?_
 refine vm rfl rfl ?_
 refine simL_bind (fun s3v hs4v => ?_)
 refine simL_eff (re_call (vs := [.pointer (some ⟨b0, 0, none⟩)]) (cap := []) (A := [obj b0 64 [.map (some m0_0), str x0_1, .int .i64 x0_2, .bool x0_3], mapF (mapO m0_0 enc9 encP q0_0) FA68 q0_0 x0_0]) (rst := [F]) rfl rfl rfl rfl rfl rfl Try.call18 (.sel 0 rfl (.sel 0 rfl (.sel 0 rfl (.nil _)))) (disk_Disk_List.calls _ _ b0 m0_0 q0_0 x0_0 x0_1 x0_2 x0_3 ) hs4v) rfl rfl rfl ?_
 intro y5v
 refine vq (q_len rfl rfl rfl Try.underlying22) rfl ?_
 refine vm rfl rfl (simL_nil (nrm_then ?_))
 refine sim_block ?_
 refine sim_loop (S := (List (Ty36)) × Int) (HA × Option Addr × Nat) (fun k s => disk_Disk_Files.l0 x0_0 s3v k s.1 s.2) (fun s y => [(0, .pointer (some ⟨b0, 0, none⟩)), (3, .slice y.2.1 s.1.length y.2.2), (8, .slice y5v.1 s3v.length y5v.2), (9, .int .i64 (s3v.length : Int)), (10, .int .i64 s.2)]) (fun s y => [obj b0 64 [.map (some m0_0), str x0_1, .int .i64 x0_2, .bool x0_3], RowV 36 3 (V36w (y.1)) y.2.1 s.1 y.2.2, RowV 9 1 (V9 tt) y5v.1 s3v y5v.2, mapF (mapO m0_0 enc9 encP q0_0) FA68 q0_0 x0_0, y.1, F]) (fun _ => by rw [disk_Disk_Files.l0]) ?_ k (([] : List (Ty36)), 0) (tt, none, 0) ⟨rfl, rfl, rfl, rfl, rfl, trivial⟩ (.sel 1 rfl (.rowV_nil (.sel 0 rfl (.sel 0 rfl (.tt_in (.sel 0 rfl (.nil _)))))))
 intro k s6v y7v
 refine sim_eq (by rw [disk_Disk_Files.l0]) ?_
 refine sr ?_
 refine vq (q_lss rfl rfl rfl) rfl (simL_nil (nrm_then (sim_seq ?_)))
 refine sim_cond rfl (fun h10v => ?_) (fun h11v => ?_)
 refine sim_skip ?_
 refine nrm_then (sim_seq ?_)
 refine sim_block ?_
 refine sr ?_
 refine simL_openV 2 rfl (fun rs20v hl21v => ?_)
 refine simL_ask (fun hi12v => ?_)
 refine simL_posV 2 rfl hl21v rfl (i := s6v.2.toNat) (by omega) ([] : List UInt8) (fun b13v b13vo r16v ha14v hV17v hlr18v hcell19v => ?_)
 obtain rfl := hV17v
 refine vq (q_idx rfl rfl rfl ha14v Try.underlying22 Try.sizeOf9 hi12v.1 hi12v.2) rfl ?_
 refine vq (q_load rfl rfl Try.isAgg9 (hcell19v 2 rfl 0 _ rfl)) rfl ?_
 refine va rfl rfl (simL_nil (nrm_then (sim_seq ?_)))
 refine sim_if (fun hk22v => ?_) (fun hk22v => ?_)
 refine sim_region ?_
 refine vm rfl rfl ?_
 refine vn rfl rfl ?_
 refine vq (q_fa rfl rfl Try.underlying64 rfl rfl Try.sizeOf62 rfl) rfl ?_
 refine vq (q_load rfl rfl Try.isAgg62 (.obj 0 rfl rfl)) rfl ?_
 refine vm rfl rfl ?_
 refine vq ((q_mlookY (ek := enc9) (s3v.getD s6v.2.toNat ([] : List UInt8)) (tellsF 3 rfl) hk22v rfl rfl rfl Try.underlying62 key9 : RQ _ _ _ _ (.pointer (some ⟨(fptr q0_0 (s3v.getD s6v.2.toNat ([] : List UInt8))), 0, none⟩)))) rfl ?_
 refine va rfl rfl (simL_nil (nrm_then ?_))
 refine sim_openF (v := ((mget x0_0 (s3v.getD s6v.2.toNat ([] : List UInt8))).getD (([] : List UInt8), (0 : Int)))) 3 rfl (getD_some hk22v) (fun y23v => ?_)
 refine sim_ent (H' := [obj (fptr q0_0 (s3v.getD s6v.2.toNat ([] : List UInt8))) 68 [.slice y23v.1 ((((mget x0_0 (s3v.getD s6v.2.toNat ([] : List UInt8))).getD (([] : List UInt8), (0 : Int))).1).length) y23v.2, .int .i64 (((mget x0_0 (s3v.getD s6v.2.toNat ([] : List UInt8))).getD (([] : List UInt8), (0 : Int))).2)], Row 5 1 y23v.1 (((mget x0_0 (s3v.getD s6v.2.toNat ([] : List UInt8))).getD (([] : List UInt8), (0 : Int))).1).length y23v.2 (encB (((mget x0_0 (s3v.getD s6v.2.toNat ([] : List UInt8))).getD (([] : List UInt8), (0 : Int))).1)), mapH (mapO m0_0 enc9 encP q0_0) FA68 q0_0 x0_0 (s3v.getD s6v.2.toNat ([] : List UInt8)), obj b0 64 [.map (some m0_0), str x0_1, .int .i64 x0_2, .bool x0_3], RowV 36 3 (V36w (y7v.1)) y7v.2.1 s6v.1 y7v.2.2, Row 9 1 y5v.1 s3v.length y5v.2 rs20v.flatten, y7v.1, F]) (Ent.refl _) ?_
 refine sim_openV 4 rfl (fun rs24v hl25v => ?_)
 refine sim_bind (fun s30v hs31v => ?_)
 refine sim_ask (fun hb46v => ?_)
 refine sim_draw (Γ := (Option Addr × Nat) × Nat × (Option Addr × Nat)) ((none, 0), 0, (none, 0)) [[], [], [], [2], [2, 3], [2, 3, 4], [2, 3, 4, 5], [], [7], [7, 8], [7, 8, 9], [1, 2, 3, 4, 5, 6, 7, 8, 9, 10], [1, 2, 3, 4, 5, 6, 7, 8, 9, 10, 11], rL 13, rL 14] [6, 12, 13] [0, 1, 2, 3, 4, 5, 7, 8, 9, 10, 11, 14] (fun i => [[0, 1, 2], [0, 1], [0], [0], [0], [0], [], [0, 1], [0, 1], [0, 1], [0, 1], [1], [], [], [3]].getD i []) (fun i => [[], [], [], [], [], [], [0, 1, 2, 3, 4, 5, 7, 8, 9, 10], [], [], [], [], [], rL 12, rL 13, []].getD i []) (fun γ i => [.slice y7v.2.1 s6v.1.length y7v.2.2, str (s3v.getD s6v.2.toNat ([] : List UInt8)), .pointer (some ⟨(fptr q0_0 (s3v.getD s6v.2.toNat ([] : List UInt8))), 0, none⟩), .pointer (some ⟨(fptr q0_0 (s3v.getD s6v.2.toNat ([] : List UInt8))), 0, none⟩), .pointer (some ⟨(fptr q0_0 (s3v.getD s6v.2.toNat ([] : List UInt8))), 0, none⟩), .slice y23v.1 ((((mget x0_0 (s3v.getD s6v.2.toNat ([] : List UInt8))).getD (([] : List UInt8), (0 : Int))).1).length) y23v.2, .slice γ.1.1 s30v.length γ.1.2, .pointer (some ⟨(fptr q0_0 (s3v.getD s6v.2.toNat ([] : List UInt8))), 0, none⟩), .pointer (some ⟨(fptr q0_0 (s3v.getD s6v.2.toNat ([] : List UInt8))), 0, none⟩), .pointer (some ⟨(fptr q0_0 (s3v.getD s6v.2.toNat ([] : List UInt8))), 1, none⟩), .int .i64 (((mget x0_0 (s3v.getD s6v.2.toNat ([] : List UInt8))).getD (([] : List UInt8), (0 : Int))).2), .agg #[str (s3v.getD s6v.2.toNat ([] : List UInt8)), .slice γ.1.1 s30v.length γ.1.2, .int .i64 (((mget x0_0 (s3v.getD s6v.2.toNat ([] : List UInt8))).getD (([] : List UInt8), (0 : Int))).2)], .slice (some ⟨γ.2.1, 0, none⟩) (([((s3v.getD s6v.2.toNat ([] : List UInt8)), s30v, ((mget x0_0 (s3v.getD s6v.2.toNat ([] : List UInt8))).getD (([] : List UInt8), (0 : Int))).2)] : List (Ty36)).length) 1, .slice γ.2.2.1 ((s6v.1 ++ ([((s3v.getD s6v.2.toNat ([] : List UInt8)), s30v, ((mget x0_0 (s3v.getD s6v.2.toNat ([] : List UInt8))).getD (([] : List UInt8), (0 : Int))).2)] : List (Ty36))).length) γ.2.2.2, .slice γ.2.2.1 ((s6v.1 ++ ([((s3v.getD s6v.2.toNat ([] : List UInt8)), s30v, ((mget x0_0 (s3v.getD s6v.2.toNat ([] : List UInt8))).getD (([] : List UInt8), (0 : Int))).2)] : List (Ty36))).length) γ.2.2.2].getD i undef) (fun j γ => [[obj (fptr q0_0 (s3v.getD s6v.2.toNat ([] : List UInt8))) 68 [.slice y23v.1 ((((mget x0_0 (s3v.getD s6v.2.toNat ([] : List UInt8))).getD (([] : List UInt8), (0 : Int))).1).length) y23v.2, .int .i64 (((mget x0_0 (s3v.getD s6v.2.toNat ([] : List UInt8))).getD (([] : List UInt8), (0 : Int))).2)], Row 5 1 y23v.1 (((mget x0_0 (s3v.getD s6v.2.toNat ([] : List UInt8))).getD (([] : List UInt8), (0 : Int))).1).length y23v.2 (encB (((mget x0_0 (s3v.getD s6v.2.toNat ([] : List UInt8))).getD (([] : List UInt8), (0 : Int))).1)), mapH (mapO m0_0 enc9 encP q0_0) FA68 q0_0 x0_0 (s3v.getD s6v.2.toNat ([] : List UInt8)), obj b0 64 [.map (some m0_0), str x0_1, .int .i64 x0_2, .bool x0_3], Row 36 3 y7v.2.1 s6v.1.length y7v.2.2 rs24v.flatten, Row 9 1 y5v.1 s3v.length y5v.2 rs20v.flatten, y7v.1, F], [Row 5 1 γ.1.1 s30v.length γ.1.2 (encB s30v), obj (fptr q0_0 (s3v.getD s6v.2.toNat ([] : List UInt8))) 68 [.slice y23v.1 ((((mget x0_0 (s3v.getD s6v.2.toNat ([] : List UInt8))).getD (([] : List UInt8), (0 : Int))).1).length) y23v.2, .int .i64 (((mget x0_0 (s3v.getD s6v.2.toNat ([] : List UInt8))).getD (([] : List UInt8), (0 : Int))).2)], Row 5 1 y23v.1 (((mget x0_0 (s3v.getD s6v.2.toNat ([] : List UInt8))).getD (([] : List UInt8), (0 : Int))).1).length y23v.2 (encB (((mget x0_0 (s3v.getD s6v.2.toNat ([] : List UInt8))).getD (([] : List UInt8), (0 : Int))).1)), mapH (mapO m0_0 enc9 encP q0_0) FA68 q0_0 x0_0 (s3v.getD s6v.2.toNat ([] : List UInt8)), obj b0 64 [.map (some m0_0), str x0_1, .int .i64 x0_2, .bool x0_3], Row 36 3 y7v.2.1 s6v.1.length y7v.2.2 rs24v.flatten, Row 9 1 y5v.1 s3v.length y5v.2 rs20v.flatten, y7v.1, F], [RowV 36 3 (V36w (Row 5 1 γ.1.1 s30v.length γ.1.2 (encB s30v))) (some ⟨γ.2.1, 0, none⟩) ([((s3v.getD s6v.2.toNat ([] : List UInt8)), s30v, ((mget x0_0 (s3v.getD s6v.2.toNat ([] : List UInt8))).getD (([] : List UInt8), (0 : Int))).2)] : List (Ty36)) 1, Row 5 1 γ.1.1 s30v.length γ.1.2 (encB s30v), obj (fptr q0_0 (s3v.getD s6v.2.toNat ([] : List UInt8))) 68 [.slice y23v.1 ((((mget x0_0 (s3v.getD s6v.2.toNat ([] : List UInt8))).getD (([] : List UInt8), (0 : Int))).1).length) y23v.2, .int .i64 (((mget x0_0 (s3v.getD s6v.2.toNat ([] : List UInt8))).getD (([] : List UInt8), (0 : Int))).2)], Row 5 1 y23v.1 (((mget x0_0 (s3v.getD s6v.2.toNat ([] : List UInt8))).getD (([] : List UInt8), (0 : Int))).1).length y23v.2 (encB (((mget x0_0 (s3v.getD s6v.2.toNat ([] : List UInt8))).getD (([] : List UInt8), (0 : Int))).1)), mapH (mapO m0_0 enc9 encP q0_0) FA68 q0_0 x0_0 (s3v.getD s6v.2.toNat ([] : List UInt8)), obj b0 64 [.map (some m0_0), str x0_1, .int .i64 x0_2, .bool x0_3], Row 36 3 y7v.2.1 s6v.1.length y7v.2.2 rs24v.flatten, Row 9 1 y5v.1 s3v.length y5v.2 rs20v.flatten, y7v.1, F], [stars [Row 5 1 γ.1.1 s30v.length γ.1.2 (encB s30v), y7v.1], RowV 36 3 (V36w (stars [Row 5 1 γ.1.1 s30v.length γ.1.2 (encB s30v), y7v.1])) (some ⟨γ.2.1, 0, none⟩) ([((s3v.getD s6v.2.toNat ([] : List UInt8)), s30v, ((mget x0_0 (s3v.getD s6v.2.toNat ([] : List UInt8))).getD (([] : List UInt8), (0 : Int))).2)] : List (Ty36)) 1, obj (fptr q0_0 (s3v.getD s6v.2.toNat ([] : List UInt8))) 68 [.slice y23v.1 ((((mget x0_0 (s3v.getD s6v.2.toNat ([] : List UInt8))).getD (([] : List UInt8), (0 : Int))).1).length) y23v.2, .int .i64 (((mget x0_0 (s3v.getD s6v.2.toNat ([] : List UInt8))).getD (([] : List UInt8), (0 : Int))).2)], Row 5 1 y23v.1 (((mget x0_0 (s3v.getD s6v.2.toNat ([] : List UInt8))).getD (([] : List UInt8), (0 : Int))).1).length y23v.2 (encB (((mget x0_0 (s3v.getD s6v.2.toNat ([] : List UInt8))).getD (([] : List UInt8), (0 : Int))).1)), mapH (mapO m0_0 enc9 encP q0_0) FA68 q0_0 x0_0 (s3v.getD s6v.2.toNat ([] : List UInt8)), obj b0 64 [.map (some m0_0), str x0_1, .int .i64 x0_2, .bool x0_3], RowV 36 3 (V36w (stars [Row 5 1 γ.1.1 s30v.length γ.1.2 (encB s30v), y7v.1])) γ.2.2.1 (s6v.1 ++ ([((s3v.getD s6v.2.toNat ([] : List UInt8)), s30v, ((mget x0_0 (s3v.getD s6v.2.toNat ([] : List UInt8))).getD (([] : List UInt8), (0 : Int))).2)] : List (Ty36))) γ.2.2.2, Row 9 1 y5v.1 s3v.length y5v.2 rs20v.flatten, F]].getD j []) (fun γ => [(0, .pointer (some ⟨b0, 0, none⟩)), (3, .slice γ.2.2.1 ((s6v.1 ++ ([((s3v.getD s6v.2.toNat ([] : List UInt8)), s30v, ((mget x0_0 (s3v.getD s6v.2.toNat ([] : List UInt8))).getD (([] : List UInt8), (0 : Int))).2)] : List (Ty36))).length) γ.2.2.2), (8, .slice y5v.1 s3v.length y5v.2), (9, .int .i64 (s3v.length : Int)), (10, .int .i64 s6v.2)]) mixed (by decide) (by decide) (by decide) (by decide) (by decide) (by decide) (by decide) 36 rfl (by decide) (by decide) (by decide) (Ent.refl _) ?_ ?_ (fun _ => ⟨rfl, rfl, rfl, rfl, rfl, trivial⟩) ?_
 exact (ac (fun γ => (ac (qm rfl (.o (s := 3) rfl (by decide) .nil) rfl) (ac (qm rfl (.o (s := 3) rfl (by decide) .nil) rfl) (ac (qm rfl (.o (s := 3) rfl (by decide) .nil) rfl) zA)))) (ac (fun γ => (ac (qm rfl (.o (s := 5) rfl (by decide) .nil) rfl) (ac (qm rfl (.o (s := 5) rfl (by decide) .nil) rfl) zA))) (aq rfl (fun γ => qm rfl (.o (s := 6) rfl (by decide) .nil) rfl) (aq rfl (fun γ => qp rfl rfl (.v 2 rfl rfl .nil) (q_nil rfl rfl) rfl) (aq rfl (fun γ => qp rfl rfl (.v 3 rfl rfl .nil) (q_fa rfl rfl Try.underlying68 rfl rfl Try.sizeOf34 rfl) rfl) (aq rfl (fun γ => qp rfl rfl (.v 4 rfl rfl .nil) (q_load rfl rfl Try.isAgg34 (.obj 0 rfl rfl)) rfl) (ac (fun γ => (ac (qm rfl (.o (s := 6) rfl (by decide) .nil) rfl) (ac (qm rfl (.o (s := 6) rfl (by decide) .nil) rfl) zA))) (ac (fun γ => (ac (qp rfl rfl (.v 7 rfl rfl .nil) (q_nil rfl rfl) rfl) (ac (qp rfl rfl (.v 7 rfl rfl .nil) (q_nil rfl rfl) rfl) zA))) (ac (fun γ => (ac (qp rfl rfl (.v 8 rfl rfl .nil) (q_fa rfl rfl Try.underlying68 rfl rfl Try.sizeOf3 rfl) rfl) (ac (qp rfl rfl (.v 8 rfl rfl .nil) (q_fa rfl rfl Try.underlying68 rfl rfl Try.sizeOf3 rfl) rfl) zA))) (ac (fun γ => (ac (qp rfl rfl (.v 9 rfl rfl .nil) (q_load rfl rfl Try.isAgg3 (.obj 0 rfl rfl)) rfl) (ac (qp rfl rfl (.v 9 rfl rfl .nil) (q_load rfl rfl Try.isAgg3 (.obj 1 rfl rfl)) rfl) zA))) (aq rfl (fun γ => qp rfl rfl (.v 1 rfl rfl (.v 6 rfl rfl (.v 10 rfl rfl .nil))) (q_build (v := .agg #[str (s3v.getD s6v.2.toNat ([] : List UInt8)), .slice γ.1.1 s30v.length γ.1.2, .int .i64 (((mget x0_0 (s3v.getD s6v.2.toNat ([] : List UInt8))).getD (([] : List UInt8), (0 : Int))).2)]) rfl rfl (fun _ => by kernel_rfl)) rfl) (aq rfl (fun γ => qp rfl rfl (.v 13 rfl rfl .nil) (q_asg rfl rfl) rfl) zA))))))))))))
 exact (ac (fun γ => eo (Z := Option Addr × Nat) (fun z => (z, γ.2.1, γ.2.2)) rfl rfl (.v 5 rfl rfl .nil) (RE.lend 1 rfl (fun hq26v hq27v hq28v hq29v => re_call (vs := [.slice y23v.1 ((((mget x0_0 (s3v.getD s6v.2.toNat ([] : List UInt8))).getD (([] : List UInt8), (0 : Int))).1).length) y23v.2]) (cap := []) (A := []) (rst := [obj (fptr q0_0 (s3v.getD s6v.2.toNat ([] : List UInt8))) 68 [.slice y23v.1 ((((mget x0_0 (s3v.getD s6v.2.toNat ([] : List UInt8))).getD (([] : List UInt8), (0 : Int))).1).length) y23v.2, .int .i64 (((mget x0_0 (s3v.getD s6v.2.toNat ([] : List UInt8))).getD (([] : List UInt8), (0 : Int))).2)], Row 5 1 y23v.1 (((mget x0_0 (s3v.getD s6v.2.toNat ([] : List UInt8))).getD (([] : List UInt8), (0 : Int))).1).length y23v.2 (encB (((mget x0_0 (s3v.getD s6v.2.toNat ([] : List UInt8))).getD (([] : List UInt8), (0 : Int))).1)), mapH (mapO m0_0 enc9 encP q0_0) FA68 q0_0 x0_0 (s3v.getD s6v.2.toNat ([] : List UInt8)), obj b0 64 [.map (some m0_0), str x0_1, .int .i64 x0_2, .bool x0_3], Row 36 3 y7v.2.1 s6v.1.length y7v.2.2 rs24v.flatten, Row 9 1 y5v.1 s3v.length y5v.2 rs20v.flatten, y7v.1, F]) rfl rfl rfl rfl rfl rfl Try.call43 (.sel 0 rfl (.sel 0 rfl (.sel 0 rfl (.sel 0 rfl (.sel 0 rfl (.sel 0 rfl (.sel 0 rfl (.sel 0 rfl (.nil _))))))))) (disk_fresh.calls _ _ y23v.1 y23v.2 (((mget x0_0 (s3v.getD s6v.2.toNat ([] : List UInt8))).getD (([] : List UInt8), (0 : Int))).1) (hq26v.lend 1 rfl) hq27v hq28v) hs31v)) (fun _ => ⟨rfl, rfl, rfl, rfl, rfl, rfl, rfl, rfl, rfl, rfl, trivial⟩) (fun _ => .inr rfl) (fun z => Ent.refl _)) (ac (fun γ => eo (Z := Nat) (fun z => (γ.1, z, γ.2.2)) rfl rfl (.v 11 rfl rfl .nil) (RE.lend 0 rfl (fun hq34v hq35v hq36v hq37v => re_litVc (V := (V36w (Row 5 1 γ.1.1 s30v.length γ.1.2 (encB s30v)))) (xs := ([((s3v.getD s6v.2.toNat ([] : List UInt8)), s30v, ((mget x0_0 (s3v.getD s6v.2.toNat ([] : List UInt8))).getD (([] : List UInt8), (0 : Int))).2)] : List (Ty36))) [[str (s3v.getD s6v.2.toNat ([] : List UInt8)), .slice γ.1.1 s30v.length γ.1.2, .int .i64 (((mget x0_0 (s3v.getD s6v.2.toNat ([] : List UInt8))).getD (([] : List UInt8), (0 : Int))).2)]] rfl rfl Try.underlying27 elt36 rfl (by kernel_rfl) rfl (⟨⟨rfl, one_of (by rfl), ⟨γ.1.1, γ.1.2, rfl, ⟨(RdW.row hq34v), hq35v, hq36v⟩⟩⟩, trivial⟩ : ListV 3 (V36w (Row 5 1 γ.1.1 s30v.length γ.1.2 (encB s30v))) ([((s3v.getD s6v.2.toNat ([] : List UInt8)), s30v, ((mget x0_0 (s3v.getD s6v.2.toNat ([] : List UInt8))).getD (([] : List UInt8), (0 : Int))).2)] : List (Ty36)) [[str (s3v.getD s6v.2.toNat ([] : List UInt8)), .slice γ.1.1 s30v.length γ.1.2, .int .i64 (((mget x0_0 (s3v.getD s6v.2.toNat ([] : List UInt8))).getD (([] : List UInt8), (0 : Int))).2)]]) rfl rfl)) (fun _ => ⟨rfl, rfl, rfl, rfl, rfl, rfl, rfl, rfl, rfl, rfl, rfl, rfl, trivial⟩) (fun _ => .inr rfl) (fun z => Ent.refl _)) (ac (fun γ => eo (Z := Option Addr × Nat) (fun z => (γ.1, γ.2.1, z)) rfl rfl (.v 0 rfl rfl (.v 12 rfl rfl .nil)) (RE.openV 0 rfl (fun rs43v hl44v => RE.ent (H1 := [stars [Row 5 1 γ.1.1 s30v.length γ.1.2 (encB s30v), y7v.1], Row 36 3 (some ⟨γ.2.1, 0, none⟩) ([((s3v.getD s6v.2.toNat ([] : List UInt8)), s30v, ((mget x0_0 (s3v.getD s6v.2.toNat ([] : List UInt8))).getD (([] : List UInt8), (0 : Int))).2)] : List (Ty36)).length 1 rs43v.flatten, obj (fptr q0_0 (s3v.getD s6v.2.toNat ([] : List UInt8))) 68 [.slice y23v.1 ((((mget x0_0 (s3v.getD s6v.2.toNat ([] : List UInt8))).getD (([] : List UInt8), (0 : Int))).1).length) y23v.2, .int .i64 (((mget x0_0 (s3v.getD s6v.2.toNat ([] : List UInt8))).getD (([] : List UInt8), (0 : Int))).2)], Row 5 1 y23v.1 (((mget x0_0 (s3v.getD s6v.2.toNat ([] : List UInt8))).getD (([] : List UInt8), (0 : Int))).1).length y23v.2 (encB (((mget x0_0 (s3v.getD s6v.2.toNat ([] : List UInt8))).getD (([] : List UInt8), (0 : Int))).1)), mapH (mapO m0_0 enc9 encP q0_0) FA68 q0_0 x0_0 (s3v.getD s6v.2.toNat ([] : List UInt8)), obj b0 64 [.map (some m0_0), str x0_1, .int .i64 x0_2, .bool x0_3], Row 36 3 y7v.2.1 s6v.1.length y7v.2.2 rs24v.flatten, Row 9 1 y5v.1 s3v.length y5v.2 rs20v.flatten, F]) (Ent.trans (m := [Row 5 1 γ.1.1 s30v.length γ.1.2 (encB s30v), y7v.1, Row 36 3 (some ⟨γ.2.1, 0, none⟩) ([((s3v.getD s6v.2.toNat ([] : List UInt8)), s30v, ((mget x0_0 (s3v.getD s6v.2.toNat ([] : List UInt8))).getD (([] : List UInt8), (0 : Int))).2)] : List (Ty36)).length 1 rs43v.flatten, obj (fptr q0_0 (s3v.getD s6v.2.toNat ([] : List UInt8))) 68 [.slice y23v.1 ((((mget x0_0 (s3v.getD s6v.2.toNat ([] : List UInt8))).getD (([] : List UInt8), (0 : Int))).1).length) y23v.2, .int .i64 (((mget x0_0 (s3v.getD s6v.2.toNat ([] : List UInt8))).getD (([] : List UInt8), (0 : Int))).2)], Row 5 1 y23v.1 (((mget x0_0 (s3v.getD s6v.2.toNat ([] : List UInt8))).getD (([] : List UInt8), (0 : Int))).1).length y23v.2 (encB (((mget x0_0 (s3v.getD s6v.2.toNat ([] : List UInt8))).getD (([] : List UInt8), (0 : Int))).1)), mapH (mapO m0_0 enc9 encP q0_0) FA68 q0_0 x0_0 (s3v.getD s6v.2.toNat ([] : List UInt8)), obj b0 64 [.map (some m0_0), str x0_1, .int .i64 x0_2, .bool x0_3], Row 36 3 y7v.2.1 s6v.1.length y7v.2.2 rs24v.flatten, Row 9 1 y5v.1 s3v.length y5v.2 rs20v.flatten, F]) (.sel 1 rfl (.sel 7 rfl (.sel 0 rfl (.sel 0 rfl (.sel 0 rfl (.sel 0 rfl (.sel 0 rfl (.sel 0 rfl (.sel 0 rfl (.sel 0 rfl (.nil _))))))))))) (ent_pack [Row 5 1 γ.1.1 s30v.length γ.1.2 (encB s30v), y7v.1] _)) (re_appendV 6 rfl rfl rfl Try.underlying27 elt36 rfl (hl25v.mono (V36w.up (UpC.lend (l := [Row 5 1 γ.1.1 s30v.length γ.1.2 (encB s30v), y7v.1]) 1 rfl))) (RdsV.row (hl44v.mono (V36w.up (UpC.lend (l := [Row 5 1 γ.1.1 s30v.length γ.1.2 (encB s30v), y7v.1]) 0 rfl))) 1 rfl) hb46v)) (fun rs43v hl44v _ => (.sel 0 rfl (.sel' 0 rfl (RowV.mk (hl44v.mono (V36w.up (UpC.lend (l := [Row 5 1 γ.1.1 s30v.length γ.1.2 (encB s30v), y7v.1]) 0 rfl)))) (.sel 0 rfl (.sel 0 rfl (.sel 0 rfl (.sel 0 rfl (.sel 0 rfl (.sel 0 rfl (.sel 0 rfl (.nil _)))))))))))) (fun _ => ⟨rfl, rfl, rfl, rfl, rfl, rfl, rfl, rfl, rfl, rfl, rfl, rfl, rfl, trivial⟩) (fun _ => .inr rfl) (fun z => Ent.refl _)) zA)))
 intro g47v
 refine nrm_block (nrm_then (sim_region ?_))
 refine vq (q_add rfl rfl rfl) rfl ?_
 refine vm rfl rfl (simL_nil ?_)
 exact nrm_again (s := (s6v.1 ++ ([((s3v.getD s6v.2.toNat ([] : List UInt8)), s30v, ((mget x0_0 (s3v.getD s6v.2.toNat ([] : List UInt8))).getD (([] : List UInt8), (0 : Int))).2)] : List (Ty36)), IntKind.i64.wrap (s6v.2 + 1))) (stars [Row 5 1 g47v.1.1 s30v.length g47v.1.2 (encB s30v), y7v.1], g47v.2.2.1, g47v.2.2.2) ⟨rfl, rfl, rfl, rfl, rfl, trivial⟩ (.sel 5 rfl (.sel 5 rfl (.sel' 5 rfl (RowV.mk hl21v) (.foldF0 (x := (s3v.getD s6v.2.toNat ([] : List UInt8))) (p := (fptr q0_0 (s3v.getD s6v.2.toNat ([] : List UInt8)))) (v := ((mget x0_0 (s3v.getD s6v.2.toNat ([] : List UInt8))).getD (([] : List UInt8), (0 : Int)))) (y23v.1, y23v.2) rfl (getD_some hk22v) (.sel 4 rfl (.sel 2 rfl (.sel 2 rfl (.sel 0 rfl (.sel 1 rfl (.nil _))))))))))
 refine sim_region ?_
 refine vm rfl rfl ?_
 refine vn rfl rfl ?_
 refine vq (q_fa rfl rfl Try.underlying64 rfl rfl Try.sizeOf62 rfl) rfl ?_
 refine vq (q_load rfl rfl Try.isAgg62 (.obj 0 rfl rfl)) rfl ?_
 refine vm rfl rfl ?_
 refine vq (q_mlookN (ek := enc9) (s3v.getD s6v.2.toNat ([] : List UInt8)) (tellsF 3 rfl) (isNone_of hk22v) rfl rfl rfl Try.underlying62 key9 Try.zeroValue66) rfl ?_
 refine va rfl rfl (simL_nil (nrm_then ?_))
 refine sim_openV 1 rfl (fun rs48v hl49v => ?_)
 exact sim_none
 refine sim_exi ?_
 refine exi_then ?_
 refine exi_loop ?_
 refine exi_here ?_
 exact nrm_cut (s := s6v.1) (y7v.1, y7v.2.1, y7v.2.2) ⟨rfl, trivial⟩ (.sel 0 rfl (.sel 0 rfl (.sel 1 rfl (.sel 1 rfl (.sel 1 rfl (.nil _))))))
 intro s1v y2v
 refine sr ?_
 refine vm rfl rfl ?_
 refine va rfl rfl (simL_nil (nrm_then (sim_rtn ?_)))
 exact rtn_fn (y2v.2.1, y2v.2.2, y2v.1) rfl rfl rfl (.sel 1 rfl (.sel 2 rfl (.sel 0 rfl (.sel 0 rfl (.sel 0 rfl (.nil _))))))

def synodref_Num.f (x0 : Int) : Option (Int) := some x0
theorem synodref_Num.calls (W : World) (F : HA) (x0 : Int)  :
    Fn Try.prog W 11 [.int .i64 x0] [] F (synodref_Num.f x0) (fun (r : Int) (y : Unit) => .int .i64 r) (fun r y => []) := by
 unfold synodref_Num.f
 refine fn_intro 4 Try.func11 rfl Try.ntmps11 rfl ?_
 refine sr ?_
 refine va rfl rfl (nx ?_)
 refine vm rfl rfl ?_
 refine va rfl rfl (simL_nil (nrm_then (sim_rtn ?_)))
 exact rtn_fn () rfl rfl rfl (.sel 0 rfl (.nil _))
def synodref_Num.v (x0 : Int) : Int := (synodref_Num.f x0).getD 0
theorem synodref_Num.tot (x0 : Int) : synodref_Num.f x0 = some (synodref_Num.v x0) := by
  have h : ∃ r, synodref_Num.f x0 = some r := by
    unfold synodref_Num.f
    repeat' (first | exact ⟨_, rfl⟩ | split | simp only [Option.bind_some])
  obtain ⟨r, h⟩ := h
  unfold synodref_Num.v
  rw [h]; rfl

def synodref_SameBytes.l0 (x0 : List UInt8) (x1 : List UInt8) : Nat → Int → Option ((Unit) ⊕ (Bool))
  | 0, _ => none
  | k + 1, z7v => if z7v < (x0.length : Int) then (if 0 ≤ z7v ∧ z7v < (x0.length : Int) then (if 0 ≤ z7v ∧ z7v < (x1.length : Int) then (if ((x0.getD z7v.toNat 0).toNat : Int) = ((x1.getD z7v.toNat 0).toNat : Int) then (synodref_SameBytes.l0 x0 x1 k (IntKind.i64.wrap (z7v + 1))) else (some (.inr false))) else none) else none) else (some (.inl ()))
def synodref_SameBytes.f (k : Nat) (x0 : List UInt8) (x1 : List UInt8) : Option (Bool) := if (x0.length : Int) = (x1.length : Int) then (orR (synodref_SameBytes.l0 x0 x1 k 0) fun s3v => (some true)) else (some false)
theorem synodref_SameBytes.calls (W : World) (F : HA) (k : Nat) (a0 : Option Addr) (c0 : Nat) (x0 : List UInt8) (a1 : Option Addr) (c1 : Nat) (x1 : List UInt8) (h0 : Rd F a0 (encB x0)) (hc0 : x0.length ≤ c0) (hm0 : c0 ≤ maxLen) (h1 : Rd F a1 (encB x1)) (hc1 : x1.length ≤ c1) (hm1 : c1 ≤ maxLen) :
    Fn Try.prog W 24 [.slice a0 x0.length c0, .slice a1 x1.length c1] [] F (synodref_SameBytes.f k x0 x1) (fun (r : Bool) (y : Unit) => .bool r) (fun r y => []) := by
 unfold synodref_SameBytes.f
 refine fn_intro 26 Try.func24 rfl Try.ntmps24 rfl ?_
 refine sr ?_
 refine va rfl rfl (simL_nil (nrm_then (sim_seq (sr ?_))))
 refine vm rfl rfl ?_
 refine vq (q_len rfl rfl rfl Try.underlying34) rfl ?_
 refine vm rfl rfl ?_
 refine vq (q_len rfl rfl rfl Try.underlying34) rfl ?_
 refine vq (q_neq rfl rfl rfl) rfl (simL_nil (nrm_then ?_))
 refine sim_condn rfl (fun h1v => ?_) (fun h2v => ?_)
 refine sim_skip ?_
 refine nrm_then ?_
 refine sim_cutR (S := Unit) (Unit) (fun s y => []) (fun s y => [F]) ?_ ?_
 refine sr ?_
 refine va rfl rfl (simL_nil (nrm_then ?_))
 refine sim_block ?_
 refine sim_loop (S := Int) (Unit) (fun k s => synodref_SameBytes.l0 x0 x1 k s) (fun s y => [(0, .slice a0 x0.length c0), (1, .slice a1 x1.length c1), (5, .int .i64 s)]) (fun s y => [F]) (fun _ => by rw [synodref_SameBytes.l0]) ?_ k 0 () ⟨rfl, rfl, rfl, trivial⟩ (.sel 0 rfl (.nil _))
 intro k s5v y6v
 refine sim_eq (by rw [synodref_SameBytes.l0]) ?_
 refine sim_seq (sr ?_)
 refine vm rfl rfl ?_
 refine vm rfl rfl ?_
 refine vq (q_len rfl rfl rfl Try.underlying34) rfl ?_
 refine vq (q_lss rfl rfl rfl) rfl (simL_nil (nrm_then ?_))
 refine sim_cond rfl (fun h8v => ?_) (fun h9v => ?_)
 refine sim_skip ?_
 refine nrm_then (sim_seq ?_)
 refine sim_block ?_
 refine sim_seq ?_
 refine sim_ask (fun hi10v => ?_)
 obtain ⟨b11v, b11vo, ha12v⟩ := h0.pos (encB_ne (j := s5v.toNat) (by omega))
 refine sim_ask (fun hi14v => ?_)
 obtain ⟨b15v, b15vo, ha16v⟩ := h1.pos (encB_ne (j := s5v.toNat) (by omega))
 refine sim_draw (Γ := Unit) () [[], [], [0, 1], [0, 1, 2], [], [], [4, 5], [4, 5, 6], rL 8] [] [0, 1, 2, 3, 4, 5, 6, 7, 8] (fun i => [[0], [0], [0], [0], [0], [0], [0], [0], [0]].getD i []) (fun i => [[], [], [], [], [], [], [], [], []].getD i []) (fun γ i => [.slice a0 x0.length c0, .int .i64 s5v, .pointer (some ⟨b11v, b11vo + s5v.toNat, none⟩), .int .u8 ((x0.getD s5v.toNat 0).toNat : Int), .slice a1 x1.length c1, .int .i64 s5v, .pointer (some ⟨b15v, b15vo + s5v.toNat, none⟩), .int .u8 ((x1.getD s5v.toNat 0).toNat : Int), .bool (!decide (((x0.getD s5v.toNat 0).toNat : Int) = ((x1.getD s5v.toNat 0).toNat : Int)))].getD i undef) (fun j γ => [[F]].getD j []) (fun γ => [(0, .slice a0 x0.length c0), (1, .slice a1 x1.length c1), (5, .int .i64 s5v), (25, .bool (!decide (((x0.getD s5v.toNat 0).toNat : Int) = ((x1.getD s5v.toNat 0).toNat : Int))))]) mixed (by decide) (by decide) (by decide) (by decide) (by decide) (by decide) (by decide) 26 rfl (by decide) (by decide) (by decide) (Ent.refl _) ?_ ?_ (fun _ => ⟨rfl, rfl, rfl, rfl, trivial⟩) ?_
 exact (aq rfl (fun γ => qm rfl (.o (s := 0) rfl (by decide) .nil) rfl) (aq rfl (fun γ => qm rfl (.o (s := 5) rfl (by decide) .nil) rfl) (aq rfl (fun γ => qp rfl rfl (.v 0 rfl rfl (.v 1 rfl rfl .nil)) (q_idx1 rfl rfl rfl ha12v Try.underlying34 Try.sizeOf5 hi10v.1 hi10v.2) rfl) (aq rfl (fun γ => qp rfl rfl (.v 2 rfl rfl .nil) (q_load rfl rfl Try.isAgg5 (h0.cell 0 rfl ha12v (encB_get (by omega)))) rfl) (aq rfl (fun γ => qm rfl (.o (s := 1) rfl (by decide) .nil) rfl) (aq rfl (fun γ => qm rfl (.o (s := 5) rfl (by decide) .nil) rfl) (aq rfl (fun γ => qp rfl rfl (.v 4 rfl rfl (.v 5 rfl rfl .nil)) (q_idx1 rfl rfl rfl ha16v Try.underlying34 Try.sizeOf5 hi14v.1 hi14v.2) rfl) (aq rfl (fun γ => qp rfl rfl (.v 6 rfl rfl .nil) (q_load rfl rfl Try.isAgg5 (h1.cell 0 rfl ha16v (encB_get (by omega)))) rfl) (aq rfl (fun γ => qp rfl rfl (.v 3 rfl rfl (.v 7 rfl rfl .nil)) (q_neq rfl rfl rfl) rfl) zA)))))))))
 exact zA
 intro g18v
 refine nrm_then ?_
 refine sim_condn rfl (fun h19v => ?_) (fun h20v => ?_)
 refine sim_skip ?_
 refine nrm_block (nrm_then (sim_region ?_))
 refine vm rfl rfl ?_
 refine vq (q_add rfl rfl rfl) rfl ?_
 refine va rfl rfl (simL_nil ?_)
 exact nrm_again (s := IntKind.i64.wrap (s5v + 1)) () ⟨rfl, rfl, rfl, trivial⟩ (.sel 0 rfl (.nil _))
 refine sr ?_
 refine va rfl rfl (simL_nil (nrm_then (sim_rtn ?_)))
 refine rtn_block ?_
 refine rtn_then ?_
 refine rtn_loop ?_
 refine rtn_block ?_
 refine rtn_cutR ?_
 exact rtn_fn () rfl rfl rfl (.sel 0 rfl (.nil _))
 refine sim_exi ?_
 refine exi_then ?_
 refine exi_loop ?_
 refine exi_here ?_
 exact nrm_cutR (s := ()) () trivial (.sel 0 rfl (.nil _))
 intro s3v y4v
 refine sr ?_
 refine va rfl rfl (simL_nil (nrm_then (sim_rtn ?_)))
 exact rtn_fn () rfl rfl rfl (.sel 0 rfl (.nil _))
 refine sr ?_
 refine va rfl rfl (simL_nil (nrm_then (sim_rtn ?_)))
 refine rtn_then ?_
 exact rtn_fn () rfl rfl rfl (.sel 0 rfl (.nil _))

def synodlaw4_first.f (k : Nat)  : Option (Bool) := (disk_New.f).bind fun s1v => ((disk_Disk_Create.f k s1v.1 s1v.2.1 s1v.2.2.1 s1v.2.2.2 ([97] : List UInt8)).bind fun s4v => ((disk_Disk_Create.f k s4v.2.1 s4v.2.2.1 s4v.2.2.2.1 s4v.2.2.2.2 ([97] : List UInt8)).bind fun s7v => ((disk_Disk_Create.f k s7v.2.1 s7v.2.2.1 s7v.2.2.2.1 s7v.2.2.2.2 ([65] : List UInt8)).bind fun s10v => ((disk_Disk_Append.f s10v.2.1 s10v.2.2.1 s10v.2.2.2.1 s10v.2.2.2.2 ([97] : List UInt8) ([1, 2, 3] : List UInt8)).bind fun s19v => ((disk_Disk_Sync.f s19v.2.1 s19v.2.2.1 s19v.2.2.2.1 s19v.2.2.2.2 ([97] : List UInt8)).bind fun s22v => ((disk_Disk_Append.f s22v.2.1 s22v.2.2.1 s22v.2.2.2.1 s22v.2.2.2.2 ([97] : List UInt8) ([4, 5] : List UInt8)).bind fun s31v => ((disk_Disk_Crash.f s31v.2.1 s31v.2.2.1 s31v.2.2.2.1 s31v.2.2.2.2 (1 : Int)).bind fun s34v => ((disk_Disk_Files.f k s34v.1 s34v.2.1 s34v.2.2.1 s34v.2.2.2).bind fun s37v => ((synodref_Num.f s4v.1).bind fun s40v => ((if s40v = (0 : Int) then ((synodref_Num.f s7v.1).bind fun s45v => (some (decide (s45v = (9 : Int))))) else (some false)).bind fun s43v => ((if s43v = true then ((synodref_Num.f s10v.1).bind fun s52v => (some (decide (s52v = (7 : Int))))) else (some false)).bind fun s50v => ((if s50v = true then ((synodref_Num.f s19v.1).bind fun s59v => (some (decide (s59v = (0 : Int))))) else (some false)).bind fun s57v => ((if s57v = true then ((synodref_Num.f s22v.1).bind fun s66v => (some (decide (s66v = (0 : Int))))) else (some false)).bind fun s64v => ((if s64v = true then ((synodref_Num.f s31v.1).bind fun s73v => (some (decide (s73v = (0 : Int))))) else (some false)).bind fun s71v => ((if (s71v && (decide ((s37v.length : Int) = (1 : Int)))) = true then (if 0 ≤ (0 : Int) ∧ (0 : Int) < (s37v.length : Int) then (some (decide (((s37v.getD (0 : Int).toNat dz36).1) = ([97] : List UInt8)))) else none) else (some false)).bind fun s78v => ((if s78v = true then (if 0 ≤ (0 : Int) ∧ (0 : Int) < (s37v.length : Int) then (some (decide ((s37v.getD (0 : Int).toNat dz36).2.2 = (4 : Int)))) else none) else (some false)).bind fun s97v => ((if s97v = true then (if 0 ≤ (0 : Int) ∧ (0 : Int) < (s37v.length : Int) then ((synodref_SameBytes.f k ((s37v.getD (0 : Int).toNat dz36).2.1) ([1, 2, 3, 4] : List UInt8)).bind fun s139v => (some s139v)) else none) else (some false)).bind fun s116v => (some s116v))))))))))))))))))
theorem synodlaw4_first.calls (W : World) (F : HA) (k : Nat)   :
    Fn Try.prog W 9 [] [] F (synodlaw4_first.f k ) (fun (r : Bool) (y : Unit) => .bool r) (fun r y => []) := by
 unfold synodlaw4_first.f
 refine fn_intro 87 Try.func9 rfl Try.ntmps9 rfl ?_
 refine sr ?_
 refine va rfl rfl (nx ?_)
 refine simL_bind (fun s1v hs2v => ?_)
 refine simL_eff (re_call (vs := []) (cap := []) (A := []) (rst := [F]) rfl rfl rfl rfl rfl rfl Try.call10 (.sel 0 rfl (.nil _)) (disk_New.calls _ _  ) hs2v) rfl rfl rfl ?_
 intro y3v
 refine va rfl rfl (simL_nil (nrm_then (sim_seq (sr ?_))))
 refine vm rfl rfl ?_
 refine vq (q_eqp rfl rfl rfl Try.underlying24) rfl (simL_nil (nrm_then ?_))
 refine sim_false rfl ?_
 refine sim_skip ?_
 refine nrm_then (sr ?_)
 refine vm rfl rfl ?_
 refine simL_bind (fun s4v hs5v => ?_)
 refine simL_eff (re_call (vs := [.pointer (some ⟨y3v.1, 0, none⟩), str ([97] : List UInt8)]) (cap := []) (A := [obj y3v.1 64 [.map (some y3v.2.1), str s1v.2.1, .int .i64 s1v.2.2.1, .bool s1v.2.2.2], mapF (mapO y3v.2.1 enc9 encP y3v.2.2) FA68 y3v.2.2 s1v.1]) (rst := [F]) rfl rfl rfl rfl rfl rfl Try.call12 (.sel 0 rfl (.sel 0 rfl (.sel 0 rfl (.nil _)))) (disk_Disk_Create.calls _ _ k y3v.1 y3v.2.1 y3v.2.2 s1v.1 s1v.2.1 s1v.2.2.1 s1v.2.2.2 ([97] : List UInt8) ) hs5v) rfl rfl rfl ?_
 intro y6v
 refine va rfl rfl (nx ?_)
 refine vm rfl rfl ?_
 refine simL_bind (fun s7v hs8v => ?_)
 refine simL_eff (re_call (vs := [.pointer (some ⟨y3v.1, 0, none⟩), str ([97] : List UInt8)]) (cap := []) (A := [obj y3v.1 64 [.map (some y6v.1), str s4v.2.2.1, .int .i64 s4v.2.2.2.1, .bool s4v.2.2.2.2], mapF (mapO y6v.1 enc9 encP y6v.2) FA68 y6v.2 s4v.2.1]) (rst := [F]) rfl rfl rfl rfl rfl rfl Try.call12 (.sel 0 rfl (.sel 0 rfl (.sel 0 rfl (.nil _)))) (disk_Disk_Create.calls _ _ k y3v.1 y6v.1 y6v.2 s4v.2.1 s4v.2.2.1 s4v.2.2.2.1 s4v.2.2.2.2 ([97] : List UInt8) ) hs8v) rfl rfl rfl ?_
 intro y9v
 refine va rfl rfl (nx ?_)
 refine vm rfl rfl ?_
 refine simL_bind (fun s10v hs11v => ?_)
 refine simL_eff (re_call (vs := [.pointer (some ⟨y3v.1, 0, none⟩), str ([65] : List UInt8)]) (cap := []) (A := [obj y3v.1 64 [.map (some y9v.1), str s7v.2.2.1, .int .i64 s7v.2.2.2.1, .bool s7v.2.2.2.2], mapF (mapO y9v.1 enc9 encP y9v.2) FA68 y9v.2 s7v.2.1]) (rst := [F]) rfl rfl rfl rfl rfl rfl Try.call12 (.sel 0 rfl (.sel 0 rfl (.sel 0 rfl (.nil _)))) (disk_Disk_Create.calls _ _ k y3v.1 y9v.1 y9v.2 s7v.2.1 s7v.2.2.1 s7v.2.2.2.1 s7v.2.2.2.2 ([65] : List UInt8) ) hs11v) rfl rfl rfl ?_
 intro y12v
 refine va rfl rfl (nx ?_)
 refine vm rfl rfl ?_
 refine simL_eff (re_litb (cs := [.int .u8 1, .int .u8 2, .int .u8 3]) ([1, 2, 3] : List UInt8) rfl rfl Try.underlying34 elt5 rfl (by kernel_rfl) rfl rfl rfl) rfl rfl rfl ?_
 intro b13v
 refine simL_bind (fun s19v hs20v => ?_)
 refine simL_lend 0 rfl (fun hq15v hq16v hq17v hq18v => ?_)
 refine simL_eff (re_call (vs := [.pointer (some ⟨y3v.1, 0, none⟩), str ([97] : List UInt8), .slice (some ⟨b13v, 0, none⟩) (([1, 2, 3] : List UInt8).length) 3]) (cap := []) (A := [obj y3v.1 64 [.map (some y12v.1), str s10v.2.2.1, .int .i64 s10v.2.2.2.1, .bool s10v.2.2.2.2], mapF (mapO y12v.1 enc9 encP y12v.2) FA68 y12v.2 s10v.2.1]) (rst := [Row 5 1 (some ⟨b13v, 0, none⟩) ([1, 2, 3] : List UInt8).length 3 (encB ([1, 2, 3] : List UInt8)), F]) rfl rfl rfl rfl rfl rfl Try.call14 (.sel 1 rfl (.sel 1 rfl (.sel 0 rfl (.sel 0 rfl (.nil _))))) (disk_Disk_Append.calls _ _ y3v.1 y12v.1 y12v.2 s10v.2.1 s10v.2.2.1 s10v.2.2.2.1 s10v.2.2.2.2 ([97] : List UInt8) (some ⟨b13v, 0, none⟩) 3 ([1, 2, 3] : List UInt8) (hq15v.lend 0 rfl) hq16v hq17v) hs20v) rfl rfl rfl ?_
 intro y21v
 refine va rfl rfl (nx ?_)
 refine vm rfl rfl ?_
 refine simL_bind (fun s22v hs23v => ?_)
 refine simL_eff (re_call (vs := [.pointer (some ⟨y3v.1, 0, none⟩), str ([97] : List UInt8)]) (cap := []) (A := [obj y3v.1 64 [.map (some y21v.1), str s19v.2.2.1, .int .i64 s19v.2.2.2.1, .bool s19v.2.2.2.2], mapF (mapO y21v.1 enc9 encP y21v.2) FA68 y21v.2 s19v.2.1]) (rst := [Row 5 1 (some ⟨b13v, 0, none⟩) ([1, 2, 3] : List UInt8).length 3 (encB ([1, 2, 3] : List UInt8)), F]) rfl rfl rfl rfl rfl rfl Try.call32 (.sel 0 rfl (.sel 0 rfl (.sel 0 rfl (.sel 0 rfl (.nil _))))) (disk_Disk_Sync.calls _ _ y3v.1 y21v.1 y21v.2 s19v.2.1 s19v.2.2.1 s19v.2.2.2.1 s19v.2.2.2.2 ([97] : List UInt8) ) hs23v) rfl rfl rfl ?_
 intro y24v
 refine va rfl rfl (nx ?_)
 refine vm rfl rfl ?_
 refine simL_eff (re_litb (cs := [.int .u8 4, .int .u8 5]) ([4, 5] : List UInt8) rfl rfl Try.underlying34 elt5 rfl (by kernel_rfl) rfl rfl rfl) rfl rfl rfl ?_
 intro b25v
 refine simL_bind (fun s31v hs32v => ?_)
 refine simL_lend 0 rfl (fun hq27v hq28v hq29v hq30v => ?_)
 refine simL_eff (re_call (vs := [.pointer (some ⟨y3v.1, 0, none⟩), str ([97] : List UInt8), .slice (some ⟨b25v, 0, none⟩) (([4, 5] : List UInt8).length) 2]) (cap := []) (A := [obj y3v.1 64 [.map (some y24v.1), str s22v.2.2.1, .int .i64 s22v.2.2.2.1, .bool s22v.2.2.2.2], mapF (mapO y24v.1 enc9 encP y24v.2) FA68 y24v.2 s22v.2.1]) (rst := [Row 5 1 (some ⟨b25v, 0, none⟩) ([4, 5] : List UInt8).length 2 (encB ([4, 5] : List UInt8)), Row 5 1 (some ⟨b13v, 0, none⟩) ([1, 2, 3] : List UInt8).length 3 (encB ([1, 2, 3] : List UInt8)), F]) rfl rfl rfl rfl rfl rfl Try.call14 (.sel 1 rfl (.sel 1 rfl (.sel 0 rfl (.sel 0 rfl (.sel 0 rfl (.nil _)))))) (disk_Disk_Append.calls _ _ y3v.1 y24v.1 y24v.2 s22v.2.1 s22v.2.2.1 s22v.2.2.2.1 s22v.2.2.2.2 ([97] : List UInt8) (some ⟨b25v, 0, none⟩) 2 ([4, 5] : List UInt8) (hq27v.lend 0 rfl) hq28v hq29v) hs32v) rfl rfl rfl ?_
 intro y33v
 refine va rfl rfl (nx ?_)
 refine vm rfl rfl ?_
 refine simL_bind (fun s34v hs35v => ?_)
 refine simL_eff (re_call (vs := [.pointer (some ⟨y3v.1, 0, none⟩), .int .i64 1]) (cap := []) (A := [obj y3v.1 64 [.map (some y33v.1), str s31v.2.2.1, .int .i64 s31v.2.2.2.1, .bool s31v.2.2.2.2], mapF (mapO y33v.1 enc9 encP y33v.2) FA68 y33v.2 s31v.2.1]) (rst := [Row 5 1 (some ⟨b25v, 0, none⟩) ([4, 5] : List UInt8).length 2 (encB ([4, 5] : List UInt8)), Row 5 1 (some ⟨b13v, 0, none⟩) ([1, 2, 3] : List UInt8).length 3 (encB ([1, 2, 3] : List UInt8)), F]) rfl rfl rfl rfl rfl rfl Try.call22 (.sel 0 rfl (.sel 0 rfl (.sel 0 rfl (.sel 0 rfl (.sel 0 rfl (.nil _)))))) (disk_Disk_Crash.calls _ _ y3v.1 y33v.1 y33v.2 s31v.2.1 s31v.2.2.1 s31v.2.2.2.1 s31v.2.2.2.2 (1 : Int) ) hs35v) rfl rfl rfl ?_
 intro y36v
 refine nx ?_
 refine vm rfl rfl ?_
 refine simL_bind (fun s37v hs38v => ?_)
 refine simL_eff (re_call (vs := [.pointer (some ⟨y3v.1, 0, none⟩)]) (cap := []) (A := [obj y3v.1 64 [.map (some y36v.1), str s34v.2.1, .int .i64 s34v.2.2.1, .bool s34v.2.2.2], mapF (mapO y36v.1 enc9 encP y36v.2) FA68 y36v.2 s34v.1]) (rst := [Row 5 1 (some ⟨b25v, 0, none⟩) ([4, 5] : List UInt8).length 2 (encB ([4, 5] : List UInt8)), Row 5 1 (some ⟨b13v, 0, none⟩) ([1, 2, 3] : List UInt8).length 3 (encB ([1, 2, 3] : List UInt8)), F]) rfl rfl rfl rfl rfl rfl Try.call21 (.sel 0 rfl (.sel 0 rfl (.sel 0 rfl (.sel 0 rfl (.sel 0 rfl (.nil _)))))) (disk_Disk_Files.calls _ _ k y3v.1 y36v.1 y36v.2 s34v.1 s34v.2.1 s34v.2.2.1 s34v.2.2.2 ) hs38v) rfl rfl rfl ?_
 intro y39v
 refine va rfl rfl (nx ?_)
 refine vm rfl rfl ?_
 refine simL_bind (fun s40v hs41v => ?_)
 refine simL_eff (re_call (vs := [.int .i64 s4v.1]) (cap := []) (A := []) (rst := [RowV 36 3 (V36w (y39v.2.2)) y39v.1 s37v y39v.2.1, y39v.2.2, obj y3v.1 64 [.map (some y36v.1), str s34v.2.1, .int .i64 s34v.2.2.1, .bool s34v.2.2.2], mapF (mapO y36v.1 enc9 encP y36v.2) FA68 y36v.2 s34v.1, Row 5 1 (some ⟨b25v, 0, none⟩) ([4, 5] : List UInt8).length 2 (encB ([4, 5] : List UInt8)), Row 5 1 (some ⟨b13v, 0, none⟩) ([1, 2, 3] : List UInt8).length 3 (encB ([1, 2, 3] : List UInt8)), F]) rfl rfl rfl rfl rfl rfl Try.call11 (.sel 0 rfl (.sel 0 rfl (.sel 0 rfl (.sel 0 rfl (.sel 0 rfl (.sel 0 rfl (.sel 0 rfl (.nil _)))))))) (synodref_Num.calls _ _ s4v.1 ) hs41v) rfl rfl rfl ?_
 intro y42v
 refine vq (q_eql rfl rfl rfl) rfl ?_
 refine vm rfl rfl ?_
 refine simL_cut' 4 (S := Bool) (Unit) (fun s y => [(4, .int .i64 s10v.1), (5, .int .i64 s19v.1), (6, .int .i64 s22v.1), (7, .int .i64 s31v.1), (8, .slice y39v.1 s37v.length y39v.2.1), (38, .bool s)]) (fun s y => [RowV 36 3 (V36w (y39v.2.2)) y39v.1 s37v y39v.2.1, y39v.2.2, F]) ?_ ?_
 refine simL_casep (fun hb48v => ?_) (fun hb49v => ?_)
 rw [hb48v]
 refine simL_valg (q_move rfl rfl) rfl rfl rfl rfl rfl rfl ?_
 refine simL_bind (fun s45v hs46v => ?_)
 refine simL_effg (re_call (vs := [.int .i64 s7v.1]) (cap := []) (A := []) (rst := [RowV 36 3 (V36w (y39v.2.2)) y39v.1 s37v y39v.2.1, y39v.2.2, obj y3v.1 64 [.map (some y36v.1), str s34v.2.1, .int .i64 s34v.2.2.1, .bool s34v.2.2.2], mapF (mapO y36v.1 enc9 encP y36v.2) FA68 y36v.2 s34v.1, Row 5 1 (some ⟨b25v, 0, none⟩) ([4, 5] : List UInt8).length 2 (encB ([4, 5] : List UInt8)), Row 5 1 (some ⟨b13v, 0, none⟩) ([1, 2, 3] : List UInt8).length 3 (encB ([1, 2, 3] : List UInt8)), F]) rfl rfl rfl rfl rfl rfl Try.call11 (.sel 0 rfl (.sel 0 rfl (.sel 0 rfl (.sel 0 rfl (.sel 0 rfl (.sel 0 rfl (.sel 0 rfl (.nil _)))))))) (synodref_Num.calls _ _ s7v.1 ) hs46v) rfl rfl rfl rfl rfl rfl ?_
 intro y47v
 refine simL_valg (q_eql rfl rfl rfl) rfl rfl rfl rfl rfl rfl ?_
 refine vq (q_pick rfl rfl rfl rfl rfl) rfl (simL_nil ?_)
 exact nrm_cut (s := decide (s45v = (9 : Int))) () ⟨rfl, rfl, rfl, rfl, rfl, rfl, trivial⟩ (.sel 0 rfl (.sel 0 rfl (.sel 4 rfl (.nil _))))
 rw [hb49v]
 refine simL_skipd rfl rfl rfl rfl rfl rfl ?_
 refine simL_skipd rfl rfl rfl rfl rfl rfl ?_
 refine simL_skipd rfl rfl rfl rfl rfl rfl ?_
 refine vq (q_pick rfl rfl rfl rfl rfl) rfl (simL_nil ?_)
 exact nrm_cut (s := false) () ⟨rfl, rfl, rfl, rfl, rfl, rfl, trivial⟩ (.sel 0 rfl (.sel 0 rfl (.sel 4 rfl (.nil _))))
 intro s43v y44v
 refine vm rfl rfl ?_
 refine simL_cut' 4 (S := Bool) (Unit) (fun s y => [(5, .int .i64 s19v.1), (6, .int .i64 s22v.1), (7, .int .i64 s31v.1), (8, .slice y39v.1 s37v.length y39v.2.1), (43, .bool s)]) (fun s y => [RowV 36 3 (V36w (y39v.2.2)) y39v.1 s37v y39v.2.1, y39v.2.2, F]) ?_ ?_
 refine simL_caseb (fun hb55v => ?_) (fun hb56v => ?_)
 rw [hb55v]
 refine simL_valg (q_move rfl rfl) rfl rfl rfl rfl rfl rfl ?_
 refine simL_bind (fun s52v hs53v => ?_)
 refine simL_effg (re_call (vs := [.int .i64 s10v.1]) (cap := []) (A := []) (rst := [RowV 36 3 (V36w (y39v.2.2)) y39v.1 s37v y39v.2.1, y39v.2.2, F]) rfl rfl rfl rfl rfl rfl Try.call11 (.sel 0 rfl (.sel 0 rfl (.sel 0 rfl (.nil _)))) (synodref_Num.calls _ _ s10v.1 ) hs53v) rfl rfl rfl rfl rfl rfl ?_
 intro y54v
 refine simL_valg (q_eql rfl rfl rfl) rfl rfl rfl rfl rfl rfl ?_
 refine vq (q_pick rfl rfl rfl rfl rfl) rfl (simL_nil ?_)
 exact nrm_cut (s := decide (s52v = (7 : Int))) () ⟨rfl, rfl, rfl, rfl, rfl, trivial⟩ (.sel 0 rfl (.sel 0 rfl (.sel 0 rfl (.nil _))))
 rw [hb56v]
 refine simL_skipd rfl rfl rfl rfl rfl rfl ?_
 refine simL_skipd rfl rfl rfl rfl rfl rfl ?_
 refine simL_skipd rfl rfl rfl rfl rfl rfl ?_
 refine vq (q_pick rfl rfl rfl rfl rfl) rfl (simL_nil ?_)
 exact nrm_cut (s := false) () ⟨rfl, rfl, rfl, rfl, rfl, trivial⟩ (.sel 0 rfl (.sel 0 rfl (.sel 0 rfl (.nil _))))
 intro s50v y51v
 refine vm rfl rfl ?_
 refine simL_cut' 4 (S := Bool) (Unit) (fun s y => [(6, .int .i64 s22v.1), (7, .int .i64 s31v.1), (8, .slice y39v.1 s37v.length y39v.2.1), (48, .bool s)]) (fun s y => [RowV 36 3 (V36w (y39v.2.2)) y39v.1 s37v y39v.2.1, y39v.2.2, F]) ?_ ?_
 refine simL_caseb (fun hb62v => ?_) (fun hb63v => ?_)
 rw [hb62v]
 refine simL_valg (q_move rfl rfl) rfl rfl rfl rfl rfl rfl ?_
 refine simL_bind (fun s59v hs60v => ?_)
 refine simL_effg (re_call (vs := [.int .i64 s19v.1]) (cap := []) (A := []) (rst := [RowV 36 3 (V36w (y39v.2.2)) y39v.1 s37v y39v.2.1, y39v.2.2, F]) rfl rfl rfl rfl rfl rfl Try.call11 (.sel 0 rfl (.sel 0 rfl (.sel 0 rfl (.nil _)))) (synodref_Num.calls _ _ s19v.1 ) hs60v) rfl rfl rfl rfl rfl rfl ?_
 intro y61v
 refine simL_valg (q_eql rfl rfl rfl) rfl rfl rfl rfl rfl rfl ?_
 refine vq (q_pick rfl rfl rfl rfl rfl) rfl (simL_nil ?_)
 exact nrm_cut (s := decide (s59v = (0 : Int))) () ⟨rfl, rfl, rfl, rfl, trivial⟩ (.sel 0 rfl (.sel 0 rfl (.sel 0 rfl (.nil _))))
 rw [hb63v]
 refine simL_skipd rfl rfl rfl rfl rfl rfl ?_
 refine simL_skipd rfl rfl rfl rfl rfl rfl ?_
 refine simL_skipd rfl rfl rfl rfl rfl rfl ?_
 refine vq (q_pick rfl rfl rfl rfl rfl) rfl (simL_nil ?_)
 exact nrm_cut (s := false) () ⟨rfl, rfl, rfl, rfl, trivial⟩ (.sel 0 rfl (.sel 0 rfl (.sel 0 rfl (.nil _))))
 intro s57v y58v
 refine vm rfl rfl ?_
 refine simL_cut' 4 (S := Bool) (Unit) (fun s y => [(7, .int .i64 s31v.1), (8, .slice y39v.1 s37v.length y39v.2.1), (53, .bool s)]) (fun s y => [RowV 36 3 (V36w (y39v.2.2)) y39v.1 s37v y39v.2.1, y39v.2.2, F]) ?_ ?_
 refine simL_caseb (fun hb69v => ?_) (fun hb70v => ?_)
 rw [hb69v]
 refine simL_valg (q_move rfl rfl) rfl rfl rfl rfl rfl rfl ?_
 refine simL_bind (fun s66v hs67v => ?_)
 refine simL_effg (re_call (vs := [.int .i64 s22v.1]) (cap := []) (A := []) (rst := [RowV 36 3 (V36w (y39v.2.2)) y39v.1 s37v y39v.2.1, y39v.2.2, F]) rfl rfl rfl rfl rfl rfl Try.call11 (.sel 0 rfl (.sel 0 rfl (.sel 0 rfl (.nil _)))) (synodref_Num.calls _ _ s22v.1 ) hs67v) rfl rfl rfl rfl rfl rfl ?_
 intro y68v
 refine simL_valg (q_eql rfl rfl rfl) rfl rfl rfl rfl rfl rfl ?_
 refine vq (q_pick rfl rfl rfl rfl rfl) rfl (simL_nil ?_)
 exact nrm_cut (s := decide (s66v = (0 : Int))) () ⟨rfl, rfl, rfl, trivial⟩ (.sel 0 rfl (.sel 0 rfl (.sel 0 rfl (.nil _))))
 rw [hb70v]
 refine simL_skipd rfl rfl rfl rfl rfl rfl ?_
 refine simL_skipd rfl rfl rfl rfl rfl rfl ?_
 refine simL_skipd rfl rfl rfl rfl rfl rfl ?_
 refine vq (q_pick rfl rfl rfl rfl rfl) rfl (simL_nil ?_)
 exact nrm_cut (s := false) () ⟨rfl, rfl, rfl, trivial⟩ (.sel 0 rfl (.sel 0 rfl (.sel 0 rfl (.nil _))))
 intro s64v y65v
 refine vm rfl rfl ?_
 refine simL_cut' 4 (S := Bool) (Unit) (fun s y => [(8, .slice y39v.1 s37v.length y39v.2.1), (58, .bool s)]) (fun s y => [RowV 36 3 (V36w (y39v.2.2)) y39v.1 s37v y39v.2.1, y39v.2.2, F]) ?_ ?_
 refine simL_caseb (fun hb76v => ?_) (fun hb77v => ?_)
 rw [hb76v]
 refine simL_valg (q_move rfl rfl) rfl rfl rfl rfl rfl rfl ?_
 refine simL_bind (fun s73v hs74v => ?_)
 refine simL_effg (re_call (vs := [.int .i64 s31v.1]) (cap := []) (A := []) (rst := [RowV 36 3 (V36w (y39v.2.2)) y39v.1 s37v y39v.2.1, y39v.2.2, F]) rfl rfl rfl rfl rfl rfl Try.call11 (.sel 0 rfl (.sel 0 rfl (.sel 0 rfl (.nil _)))) (synodref_Num.calls _ _ s31v.1 ) hs74v) rfl rfl rfl rfl rfl rfl ?_
 intro y75v
 refine simL_valg (q_eql rfl rfl rfl) rfl rfl rfl rfl rfl rfl ?_
 refine vq (q_pick rfl rfl rfl rfl rfl) rfl (simL_nil ?_)
 exact nrm_cut (s := decide (s73v = (0 : Int))) () ⟨rfl, rfl, trivial⟩ (.sel 0 rfl (.sel 0 rfl (.sel 0 rfl (.nil _))))
 rw [hb77v]
 refine simL_skipd rfl rfl rfl rfl rfl rfl ?_
 refine simL_skipd rfl rfl rfl rfl rfl rfl ?_
 refine simL_skipd rfl rfl rfl rfl rfl rfl ?_
 refine vq (q_pick rfl rfl rfl rfl rfl) rfl (simL_nil ?_)
 exact nrm_cut (s := false) () ⟨rfl, rfl, trivial⟩ (.sel 0 rfl (.sel 0 rfl (.sel 0 rfl (.nil _))))
 intro s71v y72v
 refine va rfl rfl (nx ?_)
 refine vm rfl rfl ?_
 refine vm rfl rfl ?_
 refine simL_valc (b := s71v) (fun hb146v => RQ.sub (E' := [(8, .slice y39v.1 s37v.length y39v.2.1)]) ⟨rfl, trivial⟩ (q_move rfl rfl)) rfl rfl rfl rfl rfl ?_
 refine simL_valc (b := s71v) (fun hb145v => RQ.sub (E' := [(61, .slice y39v.1 s37v.length y39v.2.1)]) ⟨lk_cv rfl hb145v, trivial⟩ (q_len rfl rfl rfl Try.underlying27)) rfl rfl rfl rfl rfl ?_
 refine simL_valc (b := s71v) (fun hb144v => RQ.sub (E' := [(62, .int .i64 (s37v.length : Int))]) ⟨lk_cv rfl hb144v, trivial⟩ (q_eql rfl rfl rfl)) rfl rfl rfl rfl rfl ?_
 refine vq (q_and rfl rfl rfl) rfl ?_
 refine vm rfl rfl ?_
 refine simL_cut' 6 (S := Bool) (Unit) (fun s y => [(8, .slice y39v.1 s37v.length y39v.2.1), (71, .bool s)]) (fun s y => [RowV 36 3 (V36w (y39v.2.2)) y39v.1 s37v y39v.2.1, y39v.2.2, F]) ?_ ?_
 refine simL_caseb (fun hb95v => ?_) (fun hb96v => ?_)
 rw [hb95v]
 refine simL_valg (q_move rfl rfl) rfl rfl rfl rfl rfl rfl ?_
 refine simL_openV 0 rfl (fun rs88v hl89v => ?_)
 refine simL_ask (fun hi80v => ?_)
 refine simL_posV 0 rfl hl89v rfl (i := (0 : Int).toNat) (by omega) dz36 (fun b81v b81vo r84v ha82v hV85v hlr86v hcell87v => ?_)
 obtain ⟨a90v, c91v, rfl, ⟨he92v, hc93v, hm94v⟩⟩ := hV85v
 refine simL_valg (q_idx rfl rfl rfl ha82v Try.underlying27 Try.sizeOf36 hi80v.1 hi80v.2) rfl rfl rfl rfl rfl rfl ?_
 refine simL_valg (q_fa rfl rfl Try.underlying36 rfl rfl Try.sizeOf9 rfl) rfl rfl rfl rfl rfl rfl ?_
 refine simL_valg (q_load rfl rfl Try.isAgg9 (hcell87v 0 rfl 0 _ rfl)) rfl rfl rfl rfl rfl rfl ?_
 refine simL_valg (q_eqs rfl rfl rfl) rfl rfl rfl rfl rfl rfl ?_
 refine vq (q_pick rfl rfl rfl rfl rfl) rfl (simL_nil ?_)
 exact nrm_cut (s := decide (((s37v.getD (0 : Int).toNat dz36).1) = ([97] : List UInt8))) () ⟨rfl, rfl, trivial⟩ (.sel' 0 rfl (RowV.mk hl89v) (.sel 0 rfl (.sel 0 rfl (.nil _))))
 rw [hb96v]
 refine simL_skipd rfl rfl rfl rfl rfl rfl ?_
 refine simL_skipd rfl rfl rfl rfl rfl rfl ?_
 refine simL_skipd rfl rfl rfl rfl rfl rfl ?_
 refine simL_skipd rfl rfl rfl rfl rfl rfl ?_
 refine simL_skipd rfl rfl rfl rfl rfl rfl ?_
 refine vq (q_pick rfl rfl rfl rfl rfl) rfl (simL_nil ?_)
 exact nrm_cut (s := false) () ⟨rfl, rfl, trivial⟩ (.sel 0 rfl (.sel 0 rfl (.sel 0 rfl (.nil _))))
 intro s78v y79v
 refine vm rfl rfl ?_
 refine simL_cut' 6 (S := Bool) (Unit) (fun s y => [(8, .slice y39v.1 s37v.length y39v.2.1), (78, .bool s)]) (fun s y => [RowV 36 3 (V36w (y39v.2.2)) y39v.1 s37v y39v.2.1, y39v.2.2, F]) ?_ ?_
 refine simL_caseb (fun hb114v => ?_) (fun hb115v => ?_)
 rw [hb114v]
 refine simL_valg (q_move rfl rfl) rfl rfl rfl rfl rfl rfl ?_
 refine simL_openV 0 rfl (fun rs107v hl108v => ?_)
 refine simL_ask (fun hi99v => ?_)
 refine simL_posV 0 rfl hl108v rfl (i := (0 : Int).toNat) (by omega) dz36 (fun b100v b100vo r103v ha101v hV104v hlr105v hcell106v => ?_)
 obtain ⟨a109v, c110v, rfl, ⟨he111v, hc112v, hm113v⟩⟩ := hV104v
 refine simL_valg (q_idx rfl rfl rfl ha101v Try.underlying27 Try.sizeOf36 hi99v.1 hi99v.2) rfl rfl rfl rfl rfl rfl ?_
 refine simL_valg (q_fa rfl rfl Try.underlying36 rfl rfl Try.sizeOf3 rfl) rfl rfl rfl rfl rfl rfl ?_
 refine simL_valg (q_load rfl rfl Try.isAgg3 (hcell106v 0 rfl 2 _ rfl)) rfl rfl rfl rfl rfl rfl ?_
 refine simL_valg (q_eql rfl rfl rfl) rfl rfl rfl rfl rfl rfl ?_
 refine vq (q_pick rfl rfl rfl rfl rfl) rfl (simL_nil ?_)
 exact nrm_cut (s := decide ((s37v.getD (0 : Int).toNat dz36).2.2 = (4 : Int))) () ⟨rfl, rfl, trivial⟩ (.sel' 0 rfl (RowV.mk hl108v) (.sel 0 rfl (.sel 0 rfl (.nil _))))
 rw [hb115v]
 refine simL_skipd rfl rfl rfl rfl rfl rfl ?_
 refine simL_skipd rfl rfl rfl rfl rfl rfl ?_
 refine simL_skipd rfl rfl rfl rfl rfl rfl ?_
 refine simL_skipd rfl rfl rfl rfl rfl rfl ?_
 refine simL_skipd rfl rfl rfl rfl rfl rfl ?_
 refine vq (q_pick rfl rfl rfl rfl rfl) rfl (simL_nil ?_)
 exact nrm_cut (s := false) () ⟨rfl, rfl, trivial⟩ (.sel 0 rfl (.sel 0 rfl (.sel 0 rfl (.nil _))))
 intro s97v y98v
 refine vm rfl rfl ?_
 refine simL_cut' 7 (S := Bool) (Unit) (fun s y => [(86, .bool s)]) (fun s y => [F]) ?_ ?_
 refine simL_caseb (fun hb142v => ?_) (fun hb143v => ?_)
 rw [hb142v]
 refine simL_valg (q_move rfl rfl) rfl rfl rfl rfl rfl rfl ?_
 refine simL_openV 0 rfl (fun rs126v hl127v => ?_)
 refine simL_ask (fun hi118v => ?_)
 refine simL_posV 0 rfl hl127v rfl (i := (0 : Int).toNat) (by omega) dz36 (fun b119v b119vo r122v ha120v hV123v hlr124v hcell125v => ?_)
 obtain ⟨a128v, c129v, rfl, ⟨he130v, hc131v, hm132v⟩⟩ := hV123v
 refine simL_valg (q_idx rfl rfl rfl ha120v Try.underlying27 Try.sizeOf36 hi118v.1 hi118v.2) rfl rfl rfl rfl rfl rfl ?_
 refine simL_valg (q_fa rfl rfl Try.underlying36 rfl rfl Try.sizeOf34 rfl) rfl rfl rfl rfl rfl rfl ?_
 refine simL_valg (q_load rfl rfl Try.isAgg34 (hcell125v 0 rfl 1 _ rfl)) rfl rfl rfl rfl rfl rfl ?_
 refine simL_effg (re_litb (cs := [.int .u8 1, .int .u8 2, .int .u8 3, .int .u8 4]) ([1, 2, 3, 4] : List UInt8) rfl rfl Try.underlying34 elt5 rfl (by kernel_rfl) rfl rfl rfl) rfl rfl rfl rfl rfl rfl ?_
 intro b133v
 refine simL_bind (fun s139v hs140v => ?_)
 refine simL_lend 0 rfl (fun hq135v hq136v hq137v hq138v => ?_)
 refine simL_effg (re_call (vs := [.slice a128v (((s37v.getD (0 : Int).toNat dz36).2.1).length) c129v, .slice (some ⟨b133v, 0, none⟩) (([1, 2, 3, 4] : List UInt8).length) 4]) (cap := []) (A := []) (rst := [Row 5 1 (some ⟨b133v, 0, none⟩) ([1, 2, 3, 4] : List UInt8).length 4 (encB ([1, 2, 3, 4] : List UInt8)), Row 36 3 y39v.1 s37v.length y39v.2.1 rs126v.flatten, y39v.2.2, F]) rfl rfl rfl rfl rfl rfl Try.call24 (.sel 0 rfl (.sel 0 rfl (.sel 0 rfl (.sel 0 rfl (.nil _))))) (synodref_SameBytes.calls _ _ k a128v c129v ((s37v.getD (0 : Int).toNat dz36).2.1) (some ⟨b133v, 0, none⟩) 4 ([1, 2, 3, 4] : List UInt8) (he130v.rd.lend 2 rfl) hc131v hm132v (hq135v.lend 0 rfl) hq136v hq137v) hs140v) rfl rfl rfl rfl rfl rfl ?_
 intro y141v
 refine vq (q_pick rfl rfl rfl rfl rfl) rfl (simL_nil ?_)
 exact nrm_cut (s := s139v) () ⟨rfl, trivial⟩ (.sel 3 rfl (.nil _))
 rw [hb143v]
 refine simL_skipd rfl rfl rfl rfl rfl rfl ?_
 refine simL_skipd rfl rfl rfl rfl rfl rfl ?_
 refine simL_skipd rfl rfl rfl rfl rfl rfl ?_
 refine simL_skipd rfl rfl rfl rfl rfl rfl ?_
 refine simL_skipd rfl rfl rfl rfl rfl rfl ?_
 refine simL_skipd rfl rfl rfl rfl rfl rfl ?_
 refine vq (q_pick rfl rfl rfl rfl rfl) rfl (simL_nil ?_)
 exact nrm_cut (s := false) () ⟨rfl, trivial⟩ (.sel 2 rfl (.nil _))
 intro s116v y117v
 refine va rfl rfl (simL_nil (nrm_then (sim_rtn ?_)))
 exact rtn_fn () rfl rfl rfl (.sel 0 rfl (.nil _))

def synodlaw4_few.l0 (x0 : List (Ty52)) : Nat → Int → Int → Option (Int)
  | 0, _, _ => none
  | k + 1, z5v, z6v => if ((decide (z6v < (x0.length : Int))) && (decide (z6v < (400 : Int)))) = true then (if 0 ≤ z6v ∧ z6v < (x0.length : Int) then (if 0 ≤ z6v ∧ z6v < (x0.length : Int) then (if 0 ≤ z6v ∧ z6v < (x0.length : Int) then (synodlaw4_few.l0 x0 k (IntKind.i64.wrap ((IntKind.i64.wrap ((IntKind.i64.wrap (z5v + (min (((x0.getD z6v.toNat dz52).2.2.1).length : Int) (20000 : Int)))) + (min (((x0.getD z6v.toNat dz52).2.2.2.1).length : Int) (20000 : Int)))) + (min (((x0.getD z6v.toNat dz52).2.2.2.2).length : Int) (20000 : Int)))) (IntKind.i64.wrap (z6v + 1))) else none) else none) else none) else (some z5v)
def synodlaw4_few.f (k : Nat) (x0 : List (Ty52)) : Option (Bool) := (synodlaw4_few.l0 x0 k 0 0).bind fun s1v => (some ((decide ((x0.length : Int) ≤ (400 : Int))) && (decide (s1v ≤ (20000 : Int)))))
theorem synodlaw4_few.calls (W : World) (F : HA) (k : Nat) (a0 : Option Addr) (c0 : Nat) (x0 : List (Ty52)) (h0 : RdV F 5 (V52 F) a0 x0) (hc0 : x0.length ≤ c0) (hm0 : c0 ≤ maxLen) :
    Fn Try.prog W 19 [.slice a0 x0.length c0] [] F (synodlaw4_few.f k x0) (fun (r : Bool) (y : Unit) => .bool r) (fun r y => []) := by
 unfold synodlaw4_few.f
 refine fn_intro 47 Try.func19 rfl Try.ntmps19 rfl ?_
 refine sr ?_
 refine va rfl rfl (nx ?_)
 refine va rfl rfl (simL_nil (nrm_then ?_))
 refine sim_cut (S := Int) (Unit) (fun s y => [(0, .slice a0 x0.length c0), (3, .int .i64 s)]) (fun s y => [F]) ?_ ?_
 refine sr ?_
 refine va rfl rfl (simL_nil (nrm_then ?_))
 refine sim_block ?_
 refine sim_loop (S := Int × Int) (Unit) (fun k s => synodlaw4_few.l0 x0 k s.1 s.2) (fun s y => [(0, .slice a0 x0.length c0), (3, .int .i64 s.1), (4, .int .i64 s.2)]) (fun s y => [F]) (fun _ => by rw [synodlaw4_few.l0]) ?_ k (0, 0) () ⟨rfl, rfl, rfl, trivial⟩ (.sel 0 rfl (.nil _))
 intro k s3v y4v
 refine sim_eq (by rw [synodlaw4_few.l0]) ?_
 refine sim_seq (sr ?_)
 refine vm rfl rfl ?_
 refine vm rfl rfl ?_
 refine vq (q_len rfl rfl rfl Try.underlying42) rfl ?_
 refine vq (q_lss rfl rfl rfl) rfl ?_
 refine vm rfl rfl ?_
 refine simL_valc (b := decide (s3v.2 < (x0.length : Int))) (fun hb50v => RQ.sub (E' := [(4, .int .i64 s3v.2)]) ⟨rfl, trivial⟩ (q_move rfl rfl)) rfl rfl rfl rfl rfl ?_
 refine simL_valc (b := decide (s3v.2 < (x0.length : Int))) (fun hb49v => RQ.sub (E' := [(10, .int .i64 s3v.2)]) ⟨lk_cv rfl hb49v, trivial⟩ (q_lss rfl rfl rfl)) rfl rfl rfl rfl rfl ?_
 refine vq (q_and rfl rfl rfl) rfl (simL_nil (nrm_then ?_))
 refine sim_condb rfl (fun h7v => ?_) (fun h8v => ?_)
 refine sim_skip ?_
 refine nrm_then (sim_seq ?_)
 refine sim_block ?_
 refine sim_ask (fun hi9v => ?_)
 obtain ⟨b10v, b10vo, r13v, ha11v, hV14v, hlr15v, hcell16v⟩ := RdV.pos h0 (Up.refl _) rfl (i := s3v.2.toNat) (by omega) dz52
 obtain ⟨a17v, c18v, rfl, ⟨he19v, hc20v, hm21v⟩⟩ := hV14v
 refine sim_ask (fun hi22v => ?_)
 obtain ⟨b23v, b23vo, r26v, ha24v, hV27v, hlr28v, hcell29v⟩ := RdV.pos h0 (Up.refl _) rfl (i := s3v.2.toNat) (by omega) dz52
 obtain ⟨a30v, c31v, rfl, ⟨he32v, hc33v, hm34v⟩⟩ := hV27v
 refine sim_ask (fun hi35v => ?_)
 obtain ⟨b36v, b36vo, r39v, ha37v, hV40v, hlr41v, hcell42v⟩ := RdV.pos h0 (Up.refl _) rfl (i := s3v.2.toNat) (by omega) dz52
 obtain ⟨a43v, c44v, rfl, ⟨he45v, hc46v, hm47v⟩⟩ := hV40v
 refine sim_draw (Γ := Unit) () [[], [], [], [1, 2], [1, 2, 3], [1, 2, 3, 4], [1, 2, 3, 4, 5], [1, 2, 3, 4, 5, 6], rL 8, [], [], [9, 10], [9, 10, 11], [9, 10, 11, 12], [9, 10, 11, 12, 13], [9, 10, 11, 12, 13, 14], rL 16, [], [], [17, 18], [17, 18, 19], [17, 18, 19, 20], [17, 18, 19, 20, 21], [17, 18, 19, 20, 21, 22], rL 24, rL 25] [] [0, 1, 2, 3, 4, 5, 6, 7, 8, 9, 10, 11, 12, 13, 14, 15, 16, 17, 18, 19, 20, 21, 22, 23, 24, 25] (fun i => [[0], [0], [0], [0], [0], [0], [0], [0], [0], [0], [0], [0], [0], [0], [0], [0], [0], [0], [0], [0], [0], [0], [0], [0], [0], [0]].getD i []) (fun i => [[], [], [], [], [], [], [], [], [], [], [], [], [], [], [], [], [], [], [], [], [], [], [], [], [], []].getD i []) (fun γ i => [.int .i64 s3v.1, .slice a0 x0.length c0, .int .i64 s3v.2, .pointer (some ⟨b10v, b10vo + s3v.2.toNat * 5, none⟩), .pointer (some ⟨b10v, b10vo + s3v.2.toNat * 5 + 2, none⟩), str ((x0.getD s3v.2.toNat dz52).2.2.1), .int .i64 (((x0.getD s3v.2.toNat dz52).2.2.1).length : Int), .int .i64 (min (((x0.getD s3v.2.toNat dz52).2.2.1).length : Int) (20000 : Int)), .int .i64 (IntKind.i64.wrap (s3v.1 + (min (((x0.getD s3v.2.toNat dz52).2.2.1).length : Int) (20000 : Int)))), .slice a0 x0.length c0, .int .i64 s3v.2, .pointer (some ⟨b23v, b23vo + s3v.2.toNat * 5, none⟩), .pointer (some ⟨b23v, b23vo + s3v.2.toNat * 5 + 3, none⟩), str ((x0.getD s3v.2.toNat dz52).2.2.2.1), .int .i64 (((x0.getD s3v.2.toNat dz52).2.2.2.1).length : Int), .int .i64 (min (((x0.getD s3v.2.toNat dz52).2.2.2.1).length : Int) (20000 : Int)), .int .i64 (IntKind.i64.wrap ((IntKind.i64.wrap (s3v.1 + (min (((x0.getD s3v.2.toNat dz52).2.2.1).length : Int) (20000 : Int)))) + (min (((x0.getD s3v.2.toNat dz52).2.2.2.1).length : Int) (20000 : Int)))), .slice a0 x0.length c0, .int .i64 s3v.2, .pointer (some ⟨b36v, b36vo + s3v.2.toNat * 5, none⟩), .pointer (some ⟨b36v, b36vo + s3v.2.toNat * 5 + 4, none⟩), .slice a43v (((x0.getD s3v.2.toNat dz52).2.2.2.2).length) c44v, .int .i64 (((x0.getD s3v.2.toNat dz52).2.2.2.2).length : Int), .int .i64 (min (((x0.getD s3v.2.toNat dz52).2.2.2.2).length : Int) (20000 : Int)), .int .i64 (IntKind.i64.wrap ((IntKind.i64.wrap ((IntKind.i64.wrap (s3v.1 + (min (((x0.getD s3v.2.toNat dz52).2.2.1).length : Int) (20000 : Int)))) + (min (((x0.getD s3v.2.toNat dz52).2.2.2.1).length : Int) (20000 : Int)))) + (min (((x0.getD s3v.2.toNat dz52).2.2.2.2).length : Int) (20000 : Int)))), .int .i64 (IntKind.i64.wrap ((IntKind.i64.wrap ((IntKind.i64.wrap (s3v.1 + (min (((x0.getD s3v.2.toNat dz52).2.2.1).length : Int) (20000 : Int)))) + (min (((x0.getD s3v.2.toNat dz52).2.2.2.1).length : Int) (20000 : Int)))) + (min (((x0.getD s3v.2.toNat dz52).2.2.2.2).length : Int) (20000 : Int))))].getD i undef) (fun j γ => [[F]].getD j []) (fun γ => [(0, .slice a0 x0.length c0), (3, .int .i64 (IntKind.i64.wrap ((IntKind.i64.wrap ((IntKind.i64.wrap (s3v.1 + (min (((x0.getD s3v.2.toNat dz52).2.2.1).length : Int) (20000 : Int)))) + (min (((x0.getD s3v.2.toNat dz52).2.2.2.1).length : Int) (20000 : Int)))) + (min (((x0.getD s3v.2.toNat dz52).2.2.2.2).length : Int) (20000 : Int))))), (4, .int .i64 s3v.2), (10, cv ((decide (s3v.2 < (x0.length : Int))) == true) (.int .i64 s3v.2)), (11, cv ((decide (s3v.2 < (x0.length : Int))) == true) (.bool (decide (s3v.2 < (400 : Int)))))]) mixed (by decide) (by decide) (by decide) (by decide) (by decide) (by decide) (by decide) 47 rfl (by decide) (by decide) (by decide) (Ent.refl _) ?_ ?_ (fun _ => ⟨rfl, rfl, rfl, rfl, rfl, trivial⟩) ?_
 exact (aq rfl (fun γ => qm rfl (.o (s := 3) rfl (by decide) .nil) rfl) (aq rfl (fun γ => qm rfl (.o (s := 0) rfl (by decide) .nil) rfl) (aq rfl (fun γ => qm rfl (.o (s := 4) rfl (by decide) .nil) rfl) (aq rfl (fun γ => qp rfl rfl (.v 1 rfl rfl (.v 2 rfl rfl .nil)) (q_idx rfl rfl rfl ha11v Try.underlying42 Try.sizeOf52 hi9v.1 hi9v.2) rfl) (aq rfl (fun γ => qp rfl rfl (.v 3 rfl rfl .nil) (q_fa rfl rfl Try.underlying52 rfl rfl Try.sizeOf9 rfl) rfl) (aq rfl (fun γ => qp rfl rfl (.v 4 rfl rfl .nil) (q_load rfl rfl Try.isAgg9 (hcell16v 0 rfl 2 _ rfl)) rfl) (aq rfl (fun γ => qp rfl rfl (.v 5 rfl rfl .nil) (q_lens rfl rfl rfl Try.underlying9) rfl) (aq rfl (fun γ => qp rfl rfl (.v 6 rfl rfl .nil) (q_min rfl rfl rfl) rfl) (aq rfl (fun γ => qp rfl rfl (.v 0 rfl rfl (.v 7 rfl rfl .nil)) (q_add rfl rfl rfl) rfl) (aq rfl (fun γ => qm rfl (.o (s := 0) rfl (by decide) .nil) rfl) (aq rfl (fun γ => qm rfl (.o (s := 4) rfl (by decide) .nil) rfl) (aq rfl (fun γ => qp rfl rfl (.v 9 rfl rfl (.v 10 rfl rfl .nil)) (q_idx rfl rfl rfl ha24v Try.underlying42 Try.sizeOf52 hi22v.1 hi22v.2) rfl) (aq rfl (fun γ => qp rfl rfl (.v 11 rfl rfl .nil) (q_fa rfl rfl Try.underlying52 rfl rfl Try.sizeOf9 rfl) rfl) (aq rfl (fun γ => qp rfl rfl (.v 12 rfl rfl .nil) (q_load rfl rfl Try.isAgg9 (hcell29v 0 rfl 3 _ rfl)) rfl) (aq rfl (fun γ => qp rfl rfl (.v 13 rfl rfl .nil) (q_lens rfl rfl rfl Try.underlying9) rfl) (aq rfl (fun γ => qp rfl rfl (.v 14 rfl rfl .nil) (q_min rfl rfl rfl) rfl) (aq rfl (fun γ => qp rfl rfl (.v 8 rfl rfl (.v 15 rfl rfl .nil)) (q_add rfl rfl rfl) rfl) (aq rfl (fun γ => qm rfl (.o (s := 0) rfl (by decide) .nil) rfl) (aq rfl (fun γ => qm rfl (.o (s := 4) rfl (by decide) .nil) rfl) (aq rfl (fun γ => qp rfl rfl (.v 17 rfl rfl (.v 18 rfl rfl .nil)) (q_idx rfl rfl rfl ha37v Try.underlying42 Try.sizeOf52 hi35v.1 hi35v.2) rfl) (aq rfl (fun γ => qp rfl rfl (.v 19 rfl rfl .nil) (q_fa rfl rfl Try.underlying52 rfl rfl Try.sizeOf34 rfl) rfl) (aq rfl (fun γ => qp rfl rfl (.v 20 rfl rfl .nil) (q_load rfl rfl Try.isAgg34 (hcell42v 0 rfl 4 _ rfl)) rfl) (aq rfl (fun γ => qp rfl rfl (.v 21 rfl rfl .nil) (q_len rfl rfl rfl Try.underlying34) rfl) (aq rfl (fun γ => qp rfl rfl (.v 22 rfl rfl .nil) (q_min rfl rfl rfl) rfl) (aq rfl (fun γ => qp rfl rfl (.v 16 rfl rfl (.v 23 rfl rfl .nil)) (q_add rfl rfl rfl) rfl) (aq rfl (fun γ => qp rfl rfl (.v 24 rfl rfl .nil) (q_asg rfl rfl) rfl) zA))))))))))))))))))))))))))
 exact zA
 intro g48v
 refine nrm_block (nrm_then (sim_region ?_))
 refine vm rfl rfl ?_
 refine vq (q_add rfl rfl rfl) rfl ?_
 refine va rfl rfl (simL_nil ?_)
 exact nrm_again (s := (IntKind.i64.wrap ((IntKind.i64.wrap ((IntKind.i64.wrap (s3v.1 + (min (((x0.getD s3v.2.toNat dz52).2.2.1).length : Int) (20000 : Int)))) + (min (((x0.getD s3v.2.toNat dz52).2.2.2.1).length : Int) (20000 : Int)))) + (min (((x0.getD s3v.2.toNat dz52).2.2.2.2).length : Int) (20000 : Int))), IntKind.i64.wrap (s3v.2 + 1))) () ⟨rfl, rfl, rfl, trivial⟩ (.sel 0 rfl (.nil _))
 refine sim_exi ?_
 refine exi_then ?_
 refine exi_loop ?_
 refine exi_here ?_
 exact nrm_cut (s := s3v.1) () ⟨rfl, rfl, trivial⟩ (.sel 0 rfl (.nil _))
 intro s1v y2v
 refine sr ?_
 refine vm rfl rfl ?_
 refine vq (q_len rfl rfl rfl Try.underlying42) rfl ?_
 refine vq (q_leq rfl rfl rfl) rfl ?_
 refine vm rfl rfl ?_
 refine simL_valc (b := decide ((x0.length : Int) ≤ (400 : Int))) (fun hb52v => RQ.sub (E' := [(3, .int .i64 s1v)]) ⟨rfl, trivial⟩ (q_move rfl rfl)) rfl rfl rfl rfl rfl ?_
 refine simL_valc (b := decide ((x0.length : Int) ≤ (400 : Int))) (fun hb51v => RQ.sub (E' := [(44, .int .i64 s1v)]) ⟨lk_cv rfl hb51v, trivial⟩ (q_leq rfl rfl rfl)) rfl rfl rfl rfl rfl ?_
 refine vq (q_and rfl rfl rfl) rfl ?_
 refine va rfl rfl (simL_nil (nrm_then (sim_rtn ?_)))
 exact rtn_fn () rfl rfl rfl (.sel 0 rfl (.nil _))

def synodref_Bytes.f (x0 : List UInt8) : Option (List UInt8) := if (([] : List UInt8).length + x0.length) * 1 ≤ 140737488355328 then (some (([] : List UInt8) ++ x0)) else none
theorem synodref_Bytes.calls (W : World) (F : HA) (a0 : Option Addr) (c0 : Nat) (x0 : List UInt8) (h0 : Rd F a0 (encB x0)) (hc0 : x0.length ≤ c0) (hm0 : c0 ≤ maxLen) :
    Fn Try.prog W 40 [.slice a0 x0.length c0] [] F (synodref_Bytes.f x0) (fun (r : List UInt8) (y : Option Addr × Nat) => .slice y.1 r.length y.2) (fun r y => [Row 5 1 y.1 r.length y.2 (encB r)]) := by
 unfold synodref_Bytes.f
 refine fn_intro 6 Try.func40 rfl Try.ntmps40 rfl ?_
 refine sr ?_
 refine va rfl rfl (nx ?_)
 refine simL_eff (re_lit0 rfl Try.underlying34 elt5) rfl rfl rfl ?_
 intro b1v
 refine vm rfl rfl ?_
 refine simL_ask (fun hb3v => ?_)
 refine simL_eff (re_appendb 0 rfl rfl rfl Try.underlying34 elt5 rfl (h0.rds 0 rfl) hb3v) rfl rfl rfl ?_
 intro y2v
 refine va rfl rfl (simL_nil (nrm_then (sim_rtn ?_)))
 exact rtn_fn (y2v.1, y2v.2) rfl rfl rfl (.sel 0 rfl (.sel 0 rfl (.nil _)))

def synodref_Files.l0 (x0 : List (Ty36)) : Nat → List (Ty36) → Int → Option ((List (Ty36)))
  | 0, _, _ => none
  | k + 1, z5v, z6v => if z6v < (x0.length : Int) then (if 0 ≤ z6v ∧ z6v < (x0.length : Int) then (if 0 ≤ z6v ∧ z6v < (x0.length : Int) then ((synodref_Bytes.f ((x0.getD z6v.toNat dz36).2.1)).bind fun s37v => (if 0 ≤ z6v ∧ z6v < (x0.length : Int) then (if (z5v.length + ([((x0.getD z6v.toNat dz36).1, s37v, (x0.getD z6v.toNat dz36).2.2)] : List (Ty36)).length) * 48 ≤ 140737488355328 then (synodref_Files.l0 x0 k (z5v ++ ([((x0.getD z6v.toNat dz36).1, s37v, (x0.getD z6v.toNat dz36).2.2)] : List (Ty36))) (IntKind.i64.wrap (z6v + 1))) else none) else none)) else none) else none) else (some z5v)
def synodref_Files.f (k : Nat) (x0 : List (Ty36)) : Option ((List (Ty36))) := (synodref_Files.l0 x0 k ([] : List (Ty36)) 0).bind fun s1v => (some s1v)
theorem synodref_Files.calls (W : World) (F : HA) (k : Nat) (a0 : Option Addr) (c0 : Nat) (x0 : List (Ty36)) (h0 : RdV F 3 (V36 F) a0 x0) (hc0 : x0.length ≤ c0) (hm0 : c0 ≤ maxLen) :
    Fn Try.prog W 30 [.slice a0 x0.length c0] [] F (synodref_Files.f k x0) (fun (r : (List (Ty36))) (y : Option Addr × Nat × HA) => .slice y.1 r.length y.2.1) (fun r y => [RowV 36 3 (V36w (y.2.2)) y.1 r y.2.1, y.2.2]) := by
 unfold synodref_Files.f
 refine fn_intro 32 Try.func30 rfl Try.ntmps30 rfl ?_
 refine sr ?_
 refine va rfl rfl (nx ?_)
 refine va rfl rfl (simL_nil (nrm_then ?_))
 refine sim_cut (S := (List (Ty36))) (HA × Option Addr × Nat) (fun s y => [(3, .slice y.2.1 s.length y.2.2)]) (fun s y => [RowV 36 3 (V36w (y.1)) y.2.1 s y.2.2, y.1, F]) ?_ ?_
 refine sr ?_
 refine va rfl rfl (simL_nil (nrm_then ?_))
 refine sim_block ?_
 refine sim_loop (S := (List (Ty36)) × Int) (HA × Option Addr × Nat) (fun k s => synodref_Files.l0 x0 k s.1 s.2) (fun s y => [(0, .slice a0 x0.length c0), (3, .slice y.2.1 s.1.length y.2.2), (4, .int .i64 s.2)]) (fun s y => [RowV 36 3 (V36w (y.1)) y.2.1 s.1 y.2.2, y.1, F]) (fun _ => by rw [synodref_Files.l0]) ?_ k (([] : List (Ty36)), 0) (tt, none, 0) ⟨rfl, rfl, rfl, trivial⟩ (.rowV_nil (.tt_in (.sel 0 rfl (.nil _))))
 intro k s3v y4v
 refine sim_eq (by rw [synodref_Files.l0]) ?_
 refine sim_seq (sr ?_)
 refine vm rfl rfl ?_
 refine vm rfl rfl ?_
 refine vq (q_len rfl rfl rfl Try.underlying27) rfl ?_
 refine vq (q_lss rfl rfl rfl) rfl (simL_nil (nrm_then ?_))
 refine sim_cond rfl (fun h7v => ?_) (fun h8v => ?_)
 refine sim_skip ?_
 refine nrm_then (sim_seq ?_)
 refine sim_block ?_
 refine sim_openV 0 rfl (fun rs9v hl10v => ?_)
 refine sim_ask (fun hi11v => ?_)
 obtain ⟨b12v, b12vo, r15v, ha13v, hV16v, hlr17v, hcell18v⟩ := RdV.pos h0 (Up.refl _) rfl (i := s3v.2.toNat) (by omega) dz36
 obtain ⟨a19v, c20v, rfl, ⟨he21v, hc22v, hm23v⟩⟩ := hV16v
 refine sim_ask (fun hi24v => ?_)
 obtain ⟨b25v, b25vo, r28v, ha26v, hV29v, hlr30v, hcell31v⟩ := RdV.pos h0 (Up.refl _) rfl (i := s3v.2.toNat) (by omega) dz36
 obtain ⟨a32v, c33v, rfl, ⟨he34v, hc35v, hm36v⟩⟩ := hV29v
 refine sim_bind (fun s37v hs38v => ?_)
 refine sim_ask (fun hi40v => ?_)
 obtain ⟨b41v, b41vo, r44v, ha42v, hV45v, hlr46v, hcell47v⟩ := RdV.pos h0 (Up.refl _) rfl (i := s3v.2.toNat) (by omega) dz36
 obtain ⟨a48v, c49v, rfl, ⟨he50v, hc51v, hm52v⟩⟩ := hV45v
 refine sim_ask (fun hb66v => ?_)
 refine sim_draw (Γ := (Option Addr × Nat) × Nat × (Option Addr × Nat)) ((none, 0), 0, (none, 0)) [[], [], [], [1, 2], [1, 2, 3], [1, 2, 3, 4], [], [], [6, 7], [6, 7, 8], [6, 7, 8, 9], [6, 7, 8, 9, 10], [], [], [12, 13], [12, 13, 14], [12, 13, 14, 15], [1, 2, 3, 4, 5, 6, 7, 8, 9, 10, 11, 12, 13, 14, 15, 16], [1, 2, 3, 4, 5, 6, 7, 8, 9, 10, 11, 12, 13, 14, 15, 16, 17], rL 19, rL 20] [11, 18, 19] [0, 1, 2, 3, 4, 5, 6, 7, 8, 9, 10, 12, 13, 14, 15, 16, 17, 20] (fun i => [[0, 1, 2], [0, 1], [0, 1], [0, 1], [0, 1], [0, 1], [0], [0], [0], [0], [0], [], [0, 1], [0, 1], [0, 1], [0, 1], [0, 1], [1], [], [], [3]].getD i []) (fun i => [[], [], [], [], [], [], [], [], [], [], [], [0, 1, 2, 3, 4, 5, 6, 7, 8, 9, 10, 12, 13, 14, 15, 16], [], [], [], [], [], [], rL 18, rL 19, []].getD i []) (fun γ i => [.slice y4v.2.1 s3v.1.length y4v.2.2, .slice a0 x0.length c0, .int .i64 s3v.2, .pointer (some ⟨b12v, b12vo + s3v.2.toNat * 3, none⟩), .pointer (some ⟨b12v, b12vo + s3v.2.toNat * 3 + 0, none⟩), str ((x0.getD s3v.2.toNat dz36).1), .slice a0 x0.length c0, .int .i64 s3v.2, .pointer (some ⟨b25v, b25vo + s3v.2.toNat * 3, none⟩), .pointer (some ⟨b25v, b25vo + s3v.2.toNat * 3 + 1, none⟩), .slice a32v (((x0.getD s3v.2.toNat dz36).2.1).length) c33v, .slice γ.1.1 s37v.length γ.1.2, .slice a0 x0.length c0, .int .i64 s3v.2, .pointer (some ⟨b41v, b41vo + s3v.2.toNat * 3, none⟩), .pointer (some ⟨b41v, b41vo + s3v.2.toNat * 3 + 2, none⟩), .int .i64 ((x0.getD s3v.2.toNat dz36).2.2), .agg #[str ((x0.getD s3v.2.toNat dz36).1), .slice γ.1.1 s37v.length γ.1.2, .int .i64 ((x0.getD s3v.2.toNat dz36).2.2)], .slice (some ⟨γ.2.1, 0, none⟩) (([((x0.getD s3v.2.toNat dz36).1, s37v, (x0.getD s3v.2.toNat dz36).2.2)] : List (Ty36)).length) 1, .slice γ.2.2.1 ((s3v.1 ++ ([((x0.getD s3v.2.toNat dz36).1, s37v, (x0.getD s3v.2.toNat dz36).2.2)] : List (Ty36))).length) γ.2.2.2, .slice γ.2.2.1 ((s3v.1 ++ ([((x0.getD s3v.2.toNat dz36).1, s37v, (x0.getD s3v.2.toNat dz36).2.2)] : List (Ty36))).length) γ.2.2.2].getD i undef) (fun j γ => [[Row 36 3 y4v.2.1 s3v.1.length y4v.2.2 rs9v.flatten, y4v.1, F], [Row 5 1 γ.1.1 s37v.length γ.1.2 (encB s37v), Row 36 3 y4v.2.1 s3v.1.length y4v.2.2 rs9v.flatten, y4v.1, F], [RowV 36 3 (V36w (Row 5 1 γ.1.1 s37v.length γ.1.2 (encB s37v))) (some ⟨γ.2.1, 0, none⟩) ([((x0.getD s3v.2.toNat dz36).1, s37v, (x0.getD s3v.2.toNat dz36).2.2)] : List (Ty36)) 1, Row 5 1 γ.1.1 s37v.length γ.1.2 (encB s37v), Row 36 3 y4v.2.1 s3v.1.length y4v.2.2 rs9v.flatten, y4v.1, F], [stars [Row 5 1 γ.1.1 s37v.length γ.1.2 (encB s37v), y4v.1], RowV 36 3 (V36w (stars [Row 5 1 γ.1.1 s37v.length γ.1.2 (encB s37v), y4v.1])) (some ⟨γ.2.1, 0, none⟩) ([((x0.getD s3v.2.toNat dz36).1, s37v, (x0.getD s3v.2.toNat dz36).2.2)] : List (Ty36)) 1, RowV 36 3 (V36w (stars [Row 5 1 γ.1.1 s37v.length γ.1.2 (encB s37v), y4v.1])) γ.2.2.1 (s3v.1 ++ ([((x0.getD s3v.2.toNat dz36).1, s37v, (x0.getD s3v.2.toNat dz36).2.2)] : List (Ty36))) γ.2.2.2, F]].getD j []) (fun γ => [(0, .slice a0 x0.length c0), (3, .slice γ.2.2.1 ((s3v.1 ++ ([((x0.getD s3v.2.toNat dz36).1, s37v, (x0.getD s3v.2.toNat dz36).2.2)] : List (Ty36))).length) γ.2.2.2), (4, .int .i64 s3v.2)]) mixed (by decide) (by decide) (by decide) (by decide) (by decide) (by decide) (by decide) 32 rfl (by decide) (by decide) (by decide) (Ent.refl _) ?_ ?_ (fun _ => ⟨rfl, rfl, rfl, trivial⟩) ?_
 exact (ac (fun γ => (ac (qm rfl (.o (s := 3) rfl (by decide) .nil) rfl) (ac (qm rfl (.o (s := 3) rfl (by decide) .nil) rfl) (ac (qm rfl (.o (s := 3) rfl (by decide) .nil) rfl) zA)))) (ac (fun γ => (ac (qm rfl (.o (s := 0) rfl (by decide) .nil) rfl) (ac (qm rfl (.o (s := 0) rfl (by decide) .nil) rfl) zA))) (ac (fun γ => (ac (qm rfl (.o (s := 4) rfl (by decide) .nil) rfl) (ac (qm rfl (.o (s := 4) rfl (by decide) .nil) rfl) zA))) (ac (fun γ => (ac (qp rfl rfl (.v 1 rfl rfl (.v 2 rfl rfl .nil)) (q_idx rfl rfl rfl ha13v Try.underlying27 Try.sizeOf36 hi11v.1 hi11v.2) rfl) (ac (qp rfl rfl (.v 1 rfl rfl (.v 2 rfl rfl .nil)) (q_idx rfl rfl rfl ha13v Try.underlying27 Try.sizeOf36 hi11v.1 hi11v.2) rfl) zA))) (ac (fun γ => (ac (qp rfl rfl (.v 3 rfl rfl .nil) (q_fa rfl rfl Try.underlying36 rfl rfl Try.sizeOf9 rfl) rfl) (ac (qp rfl rfl (.v 3 rfl rfl .nil) (q_fa rfl rfl Try.underlying36 rfl rfl Try.sizeOf9 rfl) rfl) zA))) (ac (fun γ => (ac (qp rfl rfl (.v 4 rfl rfl .nil) (q_load rfl rfl Try.isAgg9 (hcell18v 2 rfl 0 _ rfl)) rfl) (ac (qp rfl rfl (.v 4 rfl rfl .nil) (q_load rfl rfl Try.isAgg9 (hcell18v 3 rfl 0 _ rfl)) rfl) zA))) (aq rfl (fun γ => qm rfl (.o (s := 0) rfl (by decide) .nil) rfl) (aq rfl (fun γ => qm rfl (.o (s := 4) rfl (by decide) .nil) rfl) (aq rfl (fun γ => qp rfl rfl (.v 6 rfl rfl (.v 7 rfl rfl .nil)) (q_idx rfl rfl rfl ha26v Try.underlying27 Try.sizeOf36 hi24v.1 hi24v.2) rfl) (aq rfl (fun γ => qp rfl rfl (.v 8 rfl rfl .nil) (q_fa rfl rfl Try.underlying36 rfl rfl Try.sizeOf34 rfl) rfl) (aq rfl (fun γ => qp rfl rfl (.v 9 rfl rfl .nil) (q_load rfl rfl Try.isAgg34 (hcell31v 2 rfl 1 _ rfl)) rfl) (ac (fun γ => (ac (qm rfl (.o (s := 0) rfl (by decide) .nil) rfl) (ac (qm rfl (.o (s := 0) rfl (by decide) .nil) rfl) zA))) (ac (fun γ => (ac (qm rfl (.o (s := 4) rfl (by decide) .nil) rfl) (ac (qm rfl (.o (s := 4) rfl (by decide) .nil) rfl) zA))) (ac (fun γ => (ac (qp rfl rfl (.v 12 rfl rfl (.v 13 rfl rfl .nil)) (q_idx rfl rfl rfl ha42v Try.underlying27 Try.sizeOf36 hi40v.1 hi40v.2) rfl) (ac (qp rfl rfl (.v 12 rfl rfl (.v 13 rfl rfl .nil)) (q_idx rfl rfl rfl ha42v Try.underlying27 Try.sizeOf36 hi40v.1 hi40v.2) rfl) zA))) (ac (fun γ => (ac (qp rfl rfl (.v 14 rfl rfl .nil) (q_fa rfl rfl Try.underlying36 rfl rfl Try.sizeOf3 rfl) rfl) (ac (qp rfl rfl (.v 14 rfl rfl .nil) (q_fa rfl rfl Try.underlying36 rfl rfl Try.sizeOf3 rfl) rfl) zA))) (ac (fun γ => (ac (qp rfl rfl (.v 15 rfl rfl .nil) (q_load rfl rfl Try.isAgg3 (hcell47v 2 rfl 2 _ rfl)) rfl) (ac (qp rfl rfl (.v 15 rfl rfl .nil) (q_load rfl rfl Try.isAgg3 (hcell47v 3 rfl 2 _ rfl)) rfl) zA))) (aq rfl (fun γ => qp rfl rfl (.v 5 rfl rfl (.v 11 rfl rfl (.v 16 rfl rfl .nil))) (q_build (v := .agg #[str ((x0.getD s3v.2.toNat dz36).1), .slice γ.1.1 s37v.length γ.1.2, .int .i64 ((x0.getD s3v.2.toNat dz36).2.2)]) rfl rfl (fun _ => by kernel_rfl)) rfl) (aq rfl (fun γ => qp rfl rfl (.v 19 rfl rfl .nil) (q_asg rfl rfl) rfl) zA))))))))))))))))))
 exact (ac (fun γ => eo (Z := Option Addr × Nat) (fun z => (z, γ.2.1, γ.2.2)) rfl rfl (.v 10 rfl rfl .nil) (re_call (vs := [.slice a32v (((x0.getD s3v.2.toNat dz36).2.1).length) c33v]) (cap := []) (A := []) (rst := [Row 36 3 y4v.2.1 s3v.1.length y4v.2.2 rs9v.flatten, y4v.1, F]) rfl rfl rfl rfl rfl rfl Try.call40 (.sel 0 rfl (.sel 0 rfl (.sel 0 rfl (.nil _)))) (synodref_Bytes.calls _ _ a32v c33v ((x0.getD s3v.2.toNat dz36).2.1) (he34v.lend 2 rfl) hc35v hm36v) hs38v) (fun _ => ⟨rfl, rfl, rfl, rfl, rfl, rfl, rfl, rfl, rfl, rfl, rfl, rfl, rfl, rfl, rfl, rfl, trivial⟩) (fun _ => .inr rfl) (fun z => Ent.refl _)) (ac (fun γ => eo (Z := Nat) (fun z => (γ.1, z, γ.2.2)) rfl rfl (.v 17 rfl rfl .nil) (RE.lend 0 rfl (fun hq54v hq55v hq56v hq57v => re_litVc (V := (V36w (Row 5 1 γ.1.1 s37v.length γ.1.2 (encB s37v)))) (xs := ([((x0.getD s3v.2.toNat dz36).1, s37v, (x0.getD s3v.2.toNat dz36).2.2)] : List (Ty36))) [[str ((x0.getD s3v.2.toNat dz36).1), .slice γ.1.1 s37v.length γ.1.2, .int .i64 ((x0.getD s3v.2.toNat dz36).2.2)]] rfl rfl Try.underlying27 elt36 rfl (by kernel_rfl) rfl (⟨⟨rfl, one_of (by rfl), ⟨γ.1.1, γ.1.2, rfl, ⟨(RdW.row hq54v), hq55v, hq56v⟩⟩⟩, trivial⟩ : ListV 3 (V36w (Row 5 1 γ.1.1 s37v.length γ.1.2 (encB s37v))) ([((x0.getD s3v.2.toNat dz36).1, s37v, (x0.getD s3v.2.toNat dz36).2.2)] : List (Ty36)) [[str ((x0.getD s3v.2.toNat dz36).1), .slice γ.1.1 s37v.length γ.1.2, .int .i64 ((x0.getD s3v.2.toNat dz36).2.2)]]) rfl rfl)) (fun _ => ⟨rfl, rfl, rfl, rfl, rfl, rfl, rfl, rfl, rfl, rfl, rfl, rfl, rfl, rfl, rfl, rfl, rfl, rfl, trivial⟩) (fun _ => .inr rfl) (fun z => Ent.refl _)) (ac (fun γ => eo (Z := Option Addr × Nat) (fun z => (γ.1, γ.2.1, z)) rfl rfl (.v 0 rfl rfl (.v 18 rfl rfl .nil)) (RE.openV 0 rfl (fun rs63v hl64v => RE.ent (H1 := [stars [Row 5 1 γ.1.1 s37v.length γ.1.2 (encB s37v), y4v.1], Row 36 3 (some ⟨γ.2.1, 0, none⟩) ([((x0.getD s3v.2.toNat dz36).1, s37v, (x0.getD s3v.2.toNat dz36).2.2)] : List (Ty36)).length 1 rs63v.flatten, Row 36 3 y4v.2.1 s3v.1.length y4v.2.2 rs9v.flatten, F]) (Ent.trans (m := [Row 5 1 γ.1.1 s37v.length γ.1.2 (encB s37v), y4v.1, Row 36 3 (some ⟨γ.2.1, 0, none⟩) ([((x0.getD s3v.2.toNat dz36).1, s37v, (x0.getD s3v.2.toNat dz36).2.2)] : List (Ty36)).length 1 rs63v.flatten, Row 36 3 y4v.2.1 s3v.1.length y4v.2.2 rs9v.flatten, F]) (.sel 1 rfl (.sel 2 rfl (.sel 0 rfl (.sel 0 rfl (.sel 0 rfl (.nil _)))))) (ent_pack [Row 5 1 γ.1.1 s37v.length γ.1.2 (encB s37v), y4v.1] _)) (re_appendV 2 rfl rfl rfl Try.underlying27 elt36 rfl (hl10v.mono (V36w.up (UpC.lend (l := [Row 5 1 γ.1.1 s37v.length γ.1.2 (encB s37v), y4v.1]) 1 rfl))) (RdsV.row (hl64v.mono (V36w.up (UpC.lend (l := [Row 5 1 γ.1.1 s37v.length γ.1.2 (encB s37v), y4v.1]) 0 rfl))) 1 rfl) hb66v)) (fun rs63v hl64v _ => (.sel 0 rfl (.sel' 0 rfl (RowV.mk (hl64v.mono (V36w.up (UpC.lend (l := [Row 5 1 γ.1.1 s37v.length γ.1.2 (encB s37v), y4v.1]) 0 rfl)))) (.sel 0 rfl (.sel 0 rfl (.nil _))))))) (fun _ => ⟨rfl, rfl, rfl, rfl, rfl, rfl, rfl, rfl, rfl, rfl, rfl, rfl, rfl, rfl, rfl, rfl, rfl, rfl, rfl, trivial⟩) (fun _ => .inr rfl) (fun z => Ent.refl _)) zA)))
 intro g67v
 refine nrm_block (nrm_then (sim_region ?_))
 refine vm rfl rfl ?_
 refine vq (q_add rfl rfl rfl) rfl ?_
 refine va rfl rfl (simL_nil ?_)
 exact nrm_again (s := (s3v.1 ++ ([((x0.getD s3v.2.toNat dz36).1, s37v, (x0.getD s3v.2.toNat dz36).2.2)] : List (Ty36)), IntKind.i64.wrap (s3v.2 + 1))) (stars [Row 5 1 g67v.1.1 s37v.length g67v.1.2 (encB s37v), y4v.1], g67v.2.2.1, g67v.2.2.2) ⟨rfl, rfl, rfl, trivial⟩ (.sel 2 rfl (.sel 0 rfl (.sel 1 rfl (.nil _))))
 refine sim_exi ?_
 refine exi_then ?_
 refine exi_loop ?_
 refine exi_here ?_
 exact nrm_cut (s := s3v.1) (y4v.1, y4v.2.1, y4v.2.2) ⟨rfl, trivial⟩ (.sel 0 rfl (.sel 0 rfl (.sel 0 rfl (.nil _))))
 intro s1v y2v
 refine sr ?_
 refine vm rfl rfl ?_
 refine va rfl rfl (simL_nil (nrm_then (sim_rtn ?_)))
 exact rtn_fn (y2v.2.1, y2v.2.2, y2v.1) rfl rfl rfl (.sel 0 rfl (.sel 0 rfl (.sel 0 rfl (.nil _))))

def disk_Load.l0 (x0 : List (Ty36)) (s1v : (List ((List UInt8) × (List UInt8 × Int))) × List UInt8 × Int × Bool) : Nat → Int → List ((List UInt8) × (List UInt8 × Int)) → Option (((List ((List UInt8) × (List UInt8 × Int)))) ⊕ (Bool × (List ((List UInt8) × (List UInt8 × Int))) × List UInt8 × Int × Bool × Int))
  | 0, _, _ => none
  | k + 1, z8v, z9v => if z8v < (x0.length : Int) then (if 0 ≤ z8v ∧ z8v < (x0.length : Int) then ((disk_named.f k ((x0.getD z8v.toNat dz36).1)).bind fun s26v => (if (!s26v) = true then (some (.inr (false, ([] : List ((List UInt8) × (List UInt8 × Int))), ([] : List UInt8), (0 : Int), false, 7))) else ((disk_Disk_Has.f z9v s1v.2.1 s1v.2.2.1 s1v.2.2.2 ((x0.getD z8v.toNat dz36).1)).bind fun s31v => (if s31v = true then (some (.inr (false, ([] : List ((List UInt8) × (List UInt8 × Int))), ([] : List UInt8), (0 : Int), false, 9))) else (if ((decide ((x0.getD z8v.toNat dz36).2.2 < (0 : Int))) || (decide ((((x0.getD z8v.toNat dz36).2.1).length : Int) < (x0.getD z8v.toNat dz36).2.2))) = true then (some (.inr (false, ([] : List ((List UInt8) × (List UInt8 × Int))), ([] : List UInt8), (0 : Int), false, 1))) else ((disk_fresh.f ((x0.getD z8v.toNat dz36).2.1)).bind fun s38v => (disk_Load.l0 x0 s1v k (IntKind.i64.wrap (z8v + 1)) (mput z9v ((x0.getD z8v.toNat dz36).1) (s38v, (x0.getD z8v.toNat dz36).2.2))))))))) else none) else (some (.inl z9v))
def disk_Load.f (k : Nat) (x0 : List (Ty36)) : Option (Bool × (List ((List UInt8) × (List UInt8 × Int))) × List UInt8 × Int × Bool × Int) := (disk_New.f).bind fun s1v => (orR (disk_Load.l0 x0 s1v k 0 s1v.1) fun s4v => ((if (256 : Int) < (x0.length : Int) then (some true) else ((disk_Disk_Size.f s4v s1v.2.1 s1v.2.2.1 s1v.2.2.2).bind fun s51v => (some (decide ((16777216 : Int) < s51v))))).bind fun s49v => (if s49v = true then (some (false, ([] : List ((List UInt8) × (List UInt8 × Int))), ([] : List UInt8), (0 : Int), false, 10)) else (some (true, s4v, s1v.2.1, s1v.2.2.1, s1v.2.2.2, 0)))))
theorem disk_Load.calls (W : World) (F : HA) (k : Nat) (a0 : Option Addr) (c0 : Nat) (x0 : List (Ty36)) (h0 : RdV F 3 (V36 F) a0 x0) (hc0 : x0.length ≤ c0) (hm0 : c0 ≤ maxLen) :
    Fn Try.prog W 29 [.slice a0 x0.length c0] [] F (disk_Load.f k x0) (fun (r : Bool × (List ((List UInt8) × (List UInt8 × Int))) × List UInt8 × Int × Bool × Int) (y : Nat × Nat × Kps) => .tuple #[.pointer (optA r.1 y.1), .int .i64 r.2.2.2.2.2]) (fun r y => [whenA r.1 [obj y.1 64 [.map (some y.2.1), str r.2.2.1, .int .i64 r.2.2.2.1, .bool r.2.2.2.2.1], mapF (mapO y.2.1 enc9 encP y.2.2) FA68 y.2.2 r.2.1]]) := by
 unfold disk_Load.f
 refine fn_intro 59 Try.func29 rfl Try.ntmps29 rfl ?_
 refine sr ?_
 refine va rfl rfl ?_
 refine va rfl rfl (nx ?_)
 refine simL_bind (fun s1v hs2v => ?_)
 refine simL_eff (re_call (vs := []) (cap := []) (A := []) (rst := [F]) rfl rfl rfl rfl rfl rfl Try.call10 (.sel 0 rfl (.nil _)) (disk_New.calls _ _  ) hs2v) rfl rfl rfl ?_
 intro y3v
 refine va rfl rfl (simL_nil (nrm_then ?_))
 refine sim_cutR (S := (List ((List UInt8) × (List UInt8 × Int)))) (Kps) (fun s y => [(0, .slice a0 x0.length c0), (4, .pointer (some ⟨y3v.1, 0, none⟩))]) (fun s y => [obj y3v.1 64 [.map (some y3v.2.1), str s1v.2.1, .int .i64 s1v.2.2.1, .bool s1v.2.2.2], mapF (mapO y3v.2.1 enc9 encP y) FA68 y s, F]) ?_ ?_
 refine sr ?_
 refine vm rfl rfl ?_
 refine vq (q_len rfl rfl rfl Try.underlying27) rfl ?_
 refine vm rfl rfl (simL_nil (nrm_then ?_))
 refine sim_block ?_
 refine sim_loop (S := Int × (List ((List UInt8) × (List UInt8 × Int)))) (Kps) (fun k s => disk_Load.l0 x0 s1v k s.1 s.2) (fun s y => [(0, .slice a0 x0.length c0), (4, .pointer (some ⟨y3v.1, 0, none⟩)), (8, .slice a0 x0.length c0), (9, .int .i64 (x0.length : Int)), (10, .int .i64 s.1)]) (fun s y => [obj y3v.1 64 [.map (some y3v.2.1), str s1v.2.1, .int .i64 s1v.2.2.1, .bool s1v.2.2.2], mapF (mapO y3v.2.1 enc9 encP y) FA68 y s.2, F]) (fun _ => by rw [disk_Load.l0]) ?_ k (0, s1v.1) y3v.2.2 ⟨rfl, rfl, rfl, rfl, rfl, trivial⟩ (.sel 0 rfl (.sel 0 rfl (.sel 0 rfl (.nil _))))
 intro k s6v y7v
 refine sim_eq (by rw [disk_Load.l0]) ?_
 refine sr ?_
 refine vq (q_lss rfl rfl rfl) rfl (simL_nil (nrm_then (sim_seq ?_)))
 refine sim_cond rfl (fun h10v => ?_) (fun h11v => ?_)
 refine sim_skip ?_
 refine nrm_then (sim_seq ?_)
 refine sim_block ?_
 refine sr ?_
 refine simL_ask (fun hi12v => ?_)
 obtain ⟨b13v, b13vo, r16v, ha14v, hV17v, hlr18v, hcell19v⟩ := RdV.pos h0 (Up.refl _) rfl (i := s6v.1.toNat) (by omega) dz36
 obtain ⟨a20v, c21v, rfl, ⟨he22v, hc23v, hm24v⟩⟩ := hV17v
 refine vq (q_idx rfl rfl rfl ha14v Try.underlying27 Try.sizeOf36 hi12v.1 hi12v.2) rfl ?_
 refine vq (q_loads rfl rfl Try.isAgg36 Try.sizeOf36 rfl (fun j v hj => hcell19v 2 rfl j v hj)) rfl ?_
 refine simL_eff (re_alloc rfl Try.zeroValue36 rfl) rfl rfl rfl ?_
 intro b25v
 refine simL_do (re_store 0 rfl rfl rfl Try.sizeOf36 rfl rfl (one_of (by rfl)) rfl rfl) rfl rfl ?_
 intro _
 refine simL_nil (nrm_then (sim_seq ?_))
 refine sim_block ?_
 refine sr ?_
 refine vq (q_fa rfl rfl Try.underlying36 rfl rfl Try.sizeOf9 rfl) rfl ?_
 refine vq (q_load rfl rfl Try.isAgg9 (.obj 0 rfl rfl)) rfl ?_
 refine simL_bind (fun s26v hs27v => ?_)
 refine simL_eff (re_call (vs := [str ((x0.getD s6v.1.toNat dz36).1)]) (cap := []) (A := []) (rst := [obj b25v 36 [str ((x0.getD s6v.1.toNat dz36).1), .slice a20v (((x0.getD s6v.1.toNat dz36).2.1).length) c21v, .int .i64 ((x0.getD s6v.1.toNat dz36).2.2)], obj y3v.1 64 [.map (some y3v.2.1), str s1v.2.1, .int .i64 s1v.2.2.1, .bool s1v.2.2.2], mapF (mapO y3v.2.1 enc9 encP y7v) FA68 y7v s6v.2, F]) rfl rfl rfl rfl rfl rfl Try.call33 (.sel 0 rfl (.sel 0 rfl (.sel 0 rfl (.sel 0 rfl (.nil _))))) (disk_named.calls _ _ k ((x0.getD s6v.1.toNat dz36).1) ) hs27v) rfl rfl rfl ?_
 intro y28v
 refine vq (q_not rfl rfl) rfl ?_
 refine va rfl rfl (simL_nil (nrm_then ?_))
 refine sim_condb rfl (fun h29v => ?_) (fun h30v => ?_)
 refine sr ?_
 refine va rfl rfl ?_
 refine va rfl rfl (simL_nil (nrm_then (sim_rtn ?_)))
 refine rtn_block ?_
 refine rtn_then ?_
 refine rtn_block ?_
 refine rtn_then ?_
 refine rtn_loop ?_
 refine rtn_block ?_
 refine rtn_cutR ?_
 exact rtn_fn (0, 0, ([] : Kps)) rfl rfl rfl (.when_no rfl (.sel 3 rfl (.nil _)))
 refine sr ?_
 refine vm rfl rfl ?_
 refine vq (q_fa rfl rfl Try.underlying36 rfl rfl Try.sizeOf9 rfl) rfl ?_
 refine vq (q_load rfl rfl Try.isAgg9 (.obj 0 rfl rfl)) rfl ?_
 refine simL_bind (fun s31v hs32v => ?_)
 refine simL_eff (re_call (vs := [.pointer (some ⟨y3v.1, 0, none⟩), str ((x0.getD s6v.1.toNat dz36).1)]) (cap := []) (A := [obj y3v.1 64 [.map (some y3v.2.1), str s1v.2.1, .int .i64 s1v.2.2.1, .bool s1v.2.2.2], mapF (mapO y3v.2.1 enc9 encP y7v) FA68 y7v s6v.2]) (rst := [obj b25v 36 [str ((x0.getD s6v.1.toNat dz36).1), .slice a20v (((x0.getD s6v.1.toNat dz36).2.1).length) c21v, .int .i64 ((x0.getD s6v.1.toNat dz36).2.2)], F]) rfl rfl rfl rfl rfl rfl Try.call34 (.sel 1 rfl (.sel 1 rfl (.sel 0 rfl (.sel 0 rfl (.nil _))))) (disk_Disk_Has.calls _ _ y3v.1 y3v.2.1 y7v s6v.2 s1v.2.1 s1v.2.2.1 s1v.2.2.2 ((x0.getD s6v.1.toNat dz36).1) ) hs32v) rfl rfl rfl ?_
 intro y33v
 refine va rfl rfl (simL_nil (nrm_then ?_))
 refine sim_condb rfl (fun h34v => ?_) (fun h35v => ?_)
 refine sr ?_
 refine va rfl rfl ?_
 refine va rfl rfl (simL_nil (nrm_then (sim_rtn ?_)))
 refine rtn_block ?_
 refine rtn_then ?_
 refine rtn_block ?_
 refine rtn_then ?_
 refine rtn_loop ?_
 refine rtn_block ?_
 refine rtn_cutR ?_
 exact rtn_fn (0, 0, ([] : Kps)) rfl rfl rfl (.when_no rfl (.sel 3 rfl (.nil _)))
 refine sr ?_
 refine vq (q_fa rfl rfl Try.underlying36 rfl rfl Try.sizeOf3 rfl) rfl ?_
 refine vq (q_load rfl rfl Try.isAgg3 (.obj 2 rfl rfl)) rfl ?_
 refine vq (q_lss rfl rfl rfl) rfl ?_
 refine vm rfl rfl ?_
 refine simL_valc (b := decide ((x0.getD s6v.1.toNat dz36).2.2 < (0 : Int))) (fun hb48v => RQ.sub (E' := [(6, .pointer (some ⟨b25v, 0, none⟩))]) ⟨rfl, trivial⟩ (q_fa rfl rfl Try.underlying36 rfl rfl Try.sizeOf3 rfl)) rfl rfl rfl rfl rfl ?_
 refine simL_valc (b := decide ((x0.getD s6v.1.toNat dz36).2.2 < (0 : Int))) (fun hb47v => RQ.sub (E' := [(29, .pointer (some ⟨b25v, 2, none⟩))]) ⟨lk_cv rfl hb47v, trivial⟩ (q_load rfl rfl Try.isAgg3 (.obj 2 rfl rfl))) rfl rfl rfl rfl rfl ?_
 refine simL_valc (b := decide ((x0.getD s6v.1.toNat dz36).2.2 < (0 : Int))) (fun hb46v => RQ.sub (E' := [(6, .pointer (some ⟨b25v, 0, none⟩))]) ⟨rfl, trivial⟩ (q_fa rfl rfl Try.underlying36 rfl rfl Try.sizeOf34 rfl)) rfl rfl rfl rfl rfl ?_
 refine simL_valc (b := decide ((x0.getD s6v.1.toNat dz36).2.2 < (0 : Int))) (fun hb45v => RQ.sub (E' := [(31, .pointer (some ⟨b25v, 1, none⟩))]) ⟨lk_cv rfl hb45v, trivial⟩ (q_load rfl rfl Try.isAgg34 (.obj 2 rfl rfl))) rfl rfl rfl rfl rfl ?_
 refine simL_valc (b := decide ((x0.getD s6v.1.toNat dz36).2.2 < (0 : Int))) (fun hb44v => RQ.sub (E' := [(32, .slice a20v (((x0.getD s6v.1.toNat dz36).2.1).length) c21v)]) ⟨lk_cv rfl hb44v, trivial⟩ (q_len rfl rfl rfl Try.underlying34)) rfl rfl rfl rfl rfl ?_
 refine simL_valc (b := decide ((x0.getD s6v.1.toNat dz36).2.2 < (0 : Int))) (fun hb43v => RQ.sub (E' := [(30, .int .i64 ((x0.getD s6v.1.toNat dz36).2.2)), (33, .int .i64 (((x0.getD s6v.1.toNat dz36).2.1).length : Int))]) ⟨lk_cv rfl hb43v, lk_cv rfl hb43v, trivial⟩ (q_gtr rfl rfl rfl)) rfl rfl rfl rfl rfl ?_
 refine vq (q_or rfl rfl rfl) rfl ?_
 refine va rfl rfl (simL_nil (nrm_then ?_))
 refine sim_condb rfl (fun h36v => ?_) (fun h37v => ?_)
 refine sr ?_
 refine va rfl rfl ?_
 refine va rfl rfl (simL_nil (nrm_then (sim_rtn ?_)))
 refine rtn_block ?_
 refine rtn_then ?_
 refine rtn_block ?_
 refine rtn_then ?_
 refine rtn_loop ?_
 refine rtn_block ?_
 refine rtn_cutR ?_
 exact rtn_fn (0, 0, ([] : Kps)) rfl rfl rfl (.when_no rfl (.sel 3 rfl (.nil _)))
 refine sim_skip ?_
 refine nrm_block (nrm_then ?_)
 refine sim_bind (fun s38v hs39v => ?_)
 refine sim_draw (Γ := (Option Addr × Nat) × Nat) ((none, 0), 0) [[], [0], [0, 1], [0, 1, 2], [], [4], [], [6], [6, 7], [], [9], [6, 7, 8, 9, 10], [6, 7, 8, 9, 10, 11], rL 13] [8, 12, 13] [0, 1, 2, 3, 4, 5, 6, 7, 9, 10, 11] (fun i => [[0, 1, 2], [0, 1, 2], [0, 1, 2], [0, 1, 2], [0, 1, 2], [0, 1, 2], [0], [0], [], [0, 1], [0, 1], [1], [], []].getD i []) (fun i => [[], [], [], [], [], [], [], [], [0, 1, 2, 3, 4, 5, 6, 7, 9, 10], [], [], [], rL 12, rL 13].getD i []) (fun γ i => [.pointer (some ⟨y3v.1, 0, none⟩), .pointer (some ⟨y3v.1, 0, none⟩), .pointer (some ⟨y3v.1, 0, none⟩), .map (some y3v.2.1), .pointer (some ⟨b25v, 0, none⟩), str ((x0.getD s6v.1.toNat dz36).1), .pointer (some ⟨b25v, 1, none⟩), .slice a20v (((x0.getD s6v.1.toNat dz36).2.1).length) c21v, .slice γ.1.1 s38v.length γ.1.2, .pointer (some ⟨b25v, 2, none⟩), .int .i64 ((x0.getD s6v.1.toNat dz36).2.2), .agg #[.slice γ.1.1 s38v.length γ.1.2, .int .i64 ((x0.getD s6v.1.toNat dz36).2.2)], .pointer (some ⟨γ.2, 0, none⟩), undef].getD i undef) (fun j γ => [[obj y3v.1 64 [.map (some y3v.2.1), str s1v.2.1, .int .i64 s1v.2.2.1, .bool s1v.2.2.2], mapF (mapO y3v.2.1 enc9 encP y7v) FA68 y7v s6v.2, obj b25v 36 [str ((x0.getD s6v.1.toNat dz36).1), .slice a20v (((x0.getD s6v.1.toNat dz36).2.1).length) c21v, .int .i64 ((x0.getD s6v.1.toNat dz36).2.2)], F], [Row 5 1 γ.1.1 s38v.length γ.1.2 (encB s38v), obj y3v.1 64 [.map (some y3v.2.1), str s1v.2.1, .int .i64 s1v.2.2.1, .bool s1v.2.2.2], mapF (mapO y3v.2.1 enc9 encP y7v) FA68 y7v s6v.2, obj b25v 36 [str ((x0.getD s6v.1.toNat dz36).1), .slice a20v (((x0.getD s6v.1.toNat dz36).2.1).length) c21v, .int .i64 ((x0.getD s6v.1.toNat dz36).2.2)], F], [obj γ.2 68 [.slice γ.1.1 s38v.length γ.1.2, .int .i64 ((x0.getD s6v.1.toNat dz36).2.2)], Row 5 1 γ.1.1 s38v.length γ.1.2 (encB s38v), obj y3v.1 64 [.map (some y3v.2.1), str s1v.2.1, .int .i64 s1v.2.2.1, .bool s1v.2.2.2], mapF (mapO y3v.2.1 enc9 encP y7v) FA68 y7v s6v.2, obj b25v 36 [str ((x0.getD s6v.1.toNat dz36).1), .slice a20v (((x0.getD s6v.1.toNat dz36).2.1).length) c21v, .int .i64 ((x0.getD s6v.1.toNat dz36).2.2)], F], [obj y3v.1 64 [.map (some y3v.2.1), str s1v.2.1, .int .i64 s1v.2.2.1, .bool s1v.2.2.2], mapF (mapO y3v.2.1 enc9 encP (mput y7v ((x0.getD s6v.1.toNat dz36).1) γ.2)) FA68 (mput y7v ((x0.getD s6v.1.toNat dz36).1) γ.2) (mput s6v.2 ((x0.getD s6v.1.toNat dz36).1) (s38v, (x0.getD s6v.1.toNat dz36).2.2)), obj b25v 36 [str ((x0.getD s6v.1.toNat dz36).1), .slice a20v (((x0.getD s6v.1.toNat dz36).2.1).length) c21v, .int .i64 ((x0.getD s6v.1.toNat dz36).2.2)], F]].getD j []) (fun γ => [(0, .slice a0 x0.length c0), (4, .pointer (some ⟨y3v.1, 0, none⟩)), (8, .slice a0 x0.length c0), (9, .int .i64 (x0.length : Int)), (10, .int .i64 s6v.1), (29, cv ((decide ((x0.getD s6v.1.toNat dz36).2.2 < (0 : Int))) == false) (.pointer (some ⟨b25v, 2, none⟩))), (30, cv ((decide ((x0.getD s6v.1.toNat dz36).2.2 < (0 : Int))) == false) (.int .i64 ((x0.getD s6v.1.toNat dz36).2.2))), (31, cv ((decide ((x0.getD s6v.1.toNat dz36).2.2 < (0 : Int))) == false) (.pointer (some ⟨b25v, 1, none⟩))), (32, cv ((decide ((x0.getD s6v.1.toNat dz36).2.2 < (0 : Int))) == false) (.slice a20v (((x0.getD s6v.1.toNat dz36).2.1).length) c21v)), (33, cv ((decide ((x0.getD s6v.1.toNat dz36).2.2 < (0 : Int))) == false) (.int .i64 (((x0.getD s6v.1.toNat dz36).2.1).length : Int))), (34, cv ((decide ((x0.getD s6v.1.toNat dz36).2.2 < (0 : Int))) == false) (.bool (decide ((((x0.getD s6v.1.toNat dz36).2.1).length : Int) < (x0.getD s6v.1.toNat dz36).2.2))))]) mixed (by decide) (by decide) (by decide) (by decide) (by decide) (by decide) (by decide) 59 rfl (by decide) (by decide) (by decide) (Ent.refl _) ?_ ?_ (fun _ => ⟨rfl, rfl, rfl, rfl, rfl, rfl, rfl, rfl, rfl, rfl, rfl, trivial⟩) ?_
 exact (ac (fun γ => (ac (qm rfl (.o (s := 4) rfl (by decide) .nil) rfl) (ac (qm rfl (.o (s := 4) rfl (by decide) .nil) rfl) (ac (qm rfl (.o (s := 4) rfl (by decide) .nil) rfl) zA)))) (ac (fun γ => (ac (qp rfl rfl (.v 0 rfl rfl .nil) (q_nil rfl rfl) rfl) (ac (qp rfl rfl (.v 0 rfl rfl .nil) (q_nil rfl rfl) rfl) (ac (qp rfl rfl (.v 0 rfl rfl .nil) (q_nil rfl rfl) rfl) zA)))) (ac (fun γ => (ac (qp rfl rfl (.v 1 rfl rfl .nil) (q_fa rfl rfl Try.underlying64 rfl rfl Try.sizeOf62 rfl) rfl) (ac (qp rfl rfl (.v 1 rfl rfl .nil) (q_fa rfl rfl Try.underlying64 rfl rfl Try.sizeOf62 rfl) rfl) (ac (qp rfl rfl (.v 1 rfl rfl .nil) (q_fa rfl rfl Try.underlying64 rfl rfl Try.sizeOf62 rfl) rfl) zA)))) (ac (fun γ => (ac (qp rfl rfl (.v 2 rfl rfl .nil) (q_load rfl rfl Try.isAgg62 (.obj 0 rfl rfl)) rfl) (ac (qp rfl rfl (.v 2 rfl rfl .nil) (q_load rfl rfl Try.isAgg62 (.obj 1 rfl rfl)) rfl) (ac (qp rfl rfl (.v 2 rfl rfl .nil) (q_load rfl rfl Try.isAgg62 (.obj 2 rfl rfl)) rfl) zA)))) (ac (fun γ => (ac (qp rfl rfl (.o (s := 6) rfl (by decide) .nil) (q_fa rfl rfl Try.underlying36 rfl rfl Try.sizeOf9 rfl) rfl) (ac (qp rfl rfl (.o (s := 6) rfl (by decide) .nil) (q_fa rfl rfl Try.underlying36 rfl rfl Try.sizeOf9 rfl) rfl) (ac (qp rfl rfl (.o (s := 6) rfl (by decide) .nil) (q_fa rfl rfl Try.underlying36 rfl rfl Try.sizeOf9 rfl) rfl) zA)))) (ac (fun γ => (ac (qp rfl rfl (.v 4 rfl rfl .nil) (q_load rfl rfl Try.isAgg9 (.obj 2 rfl rfl)) rfl) (ac (qp rfl rfl (.v 4 rfl rfl .nil) (q_load rfl rfl Try.isAgg9 (.obj 3 rfl rfl)) rfl) (ac (qp rfl rfl (.v 4 rfl rfl .nil) (q_load rfl rfl Try.isAgg9 (.obj 4 rfl rfl)) rfl) zA)))) (aq rfl (fun γ => qp rfl rfl (.o (s := 6) rfl (by decide) .nil) (q_fa rfl rfl Try.underlying36 rfl rfl Try.sizeOf34 rfl) rfl) (aq rfl (fun γ => qp rfl rfl (.v 6 rfl rfl .nil) (q_load rfl rfl Try.isAgg34 (.obj 2 rfl rfl)) rfl) (ac (fun γ => (ac (qp rfl rfl (.o (s := 6) rfl (by decide) .nil) (q_fa rfl rfl Try.underlying36 rfl rfl Try.sizeOf3 rfl) rfl) (ac (qp rfl rfl (.o (s := 6) rfl (by decide) .nil) (q_fa rfl rfl Try.underlying36 rfl rfl Try.sizeOf3 rfl) rfl) zA))) (ac (fun γ => (ac (qp rfl rfl (.v 9 rfl rfl .nil) (q_load rfl rfl Try.isAgg3 (.obj 2 rfl rfl)) rfl) (ac (qp rfl rfl (.v 9 rfl rfl .nil) (q_load rfl rfl Try.isAgg3 (.obj 3 rfl rfl)) rfl) zA))) (aq rfl (fun γ => qp rfl rfl (.v 8 rfl rfl (.v 10 rfl rfl .nil)) (q_build (v := .agg #[.slice γ.1.1 s38v.length γ.1.2, .int .i64 ((x0.getD s6v.1.toNat dz36).2.2)]) rfl rfl (fun _ => by kernel_rfl)) rfl) zA)))))))))))
 exact (ac (fun γ => eo (Z := Option Addr × Nat) (fun z => (z, γ.2)) rfl rfl (.v 7 rfl rfl .nil) (re_call (vs := [.slice a20v (((x0.getD s6v.1.toNat dz36).2.1).length) c21v]) (cap := []) (A := []) (rst := [obj y3v.1 64 [.map (some y3v.2.1), str s1v.2.1, .int .i64 s1v.2.2.1, .bool s1v.2.2.2], mapF (mapO y3v.2.1 enc9 encP y7v) FA68 y7v s6v.2, obj b25v 36 [str ((x0.getD s6v.1.toNat dz36).1), .slice a20v (((x0.getD s6v.1.toNat dz36).2.1).length) c21v, .int .i64 ((x0.getD s6v.1.toNat dz36).2.2)], F]) rfl rfl rfl rfl rfl rfl Try.call43 (.sel 0 rfl (.sel 0 rfl (.sel 0 rfl (.sel 0 rfl (.nil _))))) (disk_fresh.calls _ _ a20v c21v ((x0.getD s6v.1.toNat dz36).2.1) (he22v.lend 3 rfl) hc23v hm24v) hs39v) (fun _ => ⟨rfl, rfl, rfl, rfl, rfl, rfl, rfl, rfl, rfl, rfl, trivial⟩) (fun _ => .inr rfl) (fun z => Ent.refl _)) (ac (fun γ => eo (Z := Nat) (fun z => (γ.1, z)) rfl rfl (.v 11 rfl rfl .nil) (re_box rfl rfl rfl) (fun _ => ⟨rfl, rfl, rfl, rfl, rfl, rfl, rfl, rfl, rfl, rfl, rfl, rfl, trivial⟩) (fun _ => .inr rfl) (fun z => Ent.refl _)) (ac (fun γ => eo (Z := Unit) (fun z => (γ.1, γ.2)) rfl rfl (.v 3 rfl rfl (.v 5 rfl rfl (.v 12 rfl rfl .nil))) (re_mputF (ek := enc9) 3 ((x0.getD s6v.1.toNat dz36).1) γ.2 rfl rfl rfl rfl Try.underlying62 key9 rfl) (fun _ => ⟨rfl, rfl, rfl, rfl, rfl, rfl, rfl, rfl, rfl, rfl, rfl, rfl, rfl, trivial⟩) (fun _ => .inl rfl) (fun z => ((.sel 2 rfl (.foldU (x := (x0.getD s6v.1.toNat dz36).1) (p := γ.2) (v := (s38v, (x0.getD s6v.1.toNat dz36).2.2)) (γ.1.1, γ.1.2) (.sel 2 rfl (.sel 0 rfl (.sel 0 rfl (.sel 0 rfl (.sel 0 rfl (.nil _))))))))))) zA)))
 intro g42v
 refine nrm_block (nrm_then (sim_region ?_))
 refine vq (q_add rfl rfl rfl) rfl ?_
 refine vm rfl rfl (simL_nil ?_)
 exact nrm_again (s := (IntKind.i64.wrap (s6v.1 + 1), mput s6v.2 ((x0.getD s6v.1.toNat dz36).1) (s38v, (x0.getD s6v.1.toNat dz36).2.2))) (mput y7v ((x0.getD s6v.1.toNat dz36).1) g42v.2) ⟨rfl, rfl, rfl, rfl, rfl, trivial⟩ (.sel 0 rfl (.sel 0 rfl (.sel 1 rfl (.nil _))))
 refine sim_exi ?_
 refine exi_then ?_
 refine exi_loop ?_
 refine exi_here ?_
 exact nrm_cutR (s := s6v.2) y7v ⟨rfl, rfl, trivial⟩ (.sel 0 rfl (.sel 0 rfl (.sel 0 rfl (.nil _))))
 intro s4v y5v
 refine sim_seq (sr ?_)
 refine vm rfl rfl ?_
 refine vq (q_len rfl rfl rfl Try.underlying27) rfl ?_
 refine vq (q_gtr rfl rfl rfl) rfl ?_
 refine vm rfl rfl ?_
 refine simL_cut' 4 (S := Bool) (Unit) (fun s y => [(4, .pointer (some ⟨y3v.1, 0, none⟩)), (57, .bool s)]) (fun s y => [obj y3v.1 64 [.map (some y3v.2.1), str s1v.2.1, .int .i64 s1v.2.2.1, .bool s1v.2.2.2], mapF (mapO y3v.2.1 enc9 encP y5v) FA68 y5v s4v, F]) ?_ ?_
 refine simL_casep (fun hb54v => ?_) (fun hb55v => ?_)
 rw [hb54v]
 refine simL_skipd rfl rfl rfl rfl rfl rfl ?_
 refine simL_skipd rfl rfl rfl rfl rfl rfl ?_
 refine simL_skipd rfl rfl rfl rfl rfl rfl ?_
 refine vq (q_pick rfl rfl rfl rfl rfl) rfl (simL_nil ?_)
 exact nrm_cut (s := true) () ⟨rfl, rfl, trivial⟩ (.sel 0 rfl (.sel 0 rfl (.sel 0 rfl (.nil _))))
 rw [hb55v]
 refine simL_valg (q_move rfl rfl) rfl rfl rfl rfl rfl rfl ?_
 refine simL_bind (fun s51v hs52v => ?_)
 refine simL_effg (re_call (vs := [.pointer (some ⟨y3v.1, 0, none⟩)]) (cap := []) (A := [obj y3v.1 64 [.map (some y3v.2.1), str s1v.2.1, .int .i64 s1v.2.2.1, .bool s1v.2.2.2], mapF (mapO y3v.2.1 enc9 encP y5v) FA68 y5v s4v]) (rst := [F]) rfl rfl rfl rfl rfl rfl Try.call16 (.sel 0 rfl (.sel 0 rfl (.sel 0 rfl (.nil _)))) (disk_Disk_Size.calls _ _ y3v.1 y3v.2.1 y5v s4v s1v.2.1 s1v.2.2.1 s1v.2.2.2 ) hs52v) rfl rfl rfl rfl rfl rfl ?_
 intro y53v
 refine simL_valg (q_gtr rfl rfl rfl) rfl rfl rfl rfl rfl rfl ?_
 refine vq (q_pick rfl rfl rfl rfl rfl) rfl (simL_nil ?_)
 exact nrm_cut (s := decide ((16777216 : Int) < s51v)) () ⟨rfl, rfl, trivial⟩ (.sel 0 rfl (.sel 0 rfl (.sel 0 rfl (.nil _))))
 intro s49v y50v
 refine simL_nil (nrm_then ?_)
 refine sim_condb rfl (fun h56v => ?_) (fun h57v => ?_)
 refine sr ?_
 refine va rfl rfl ?_
 refine va rfl rfl (simL_nil (nrm_then (sim_rtn ?_)))
 refine rtn_then ?_
 exact rtn_fn (0, 0, ([] : Kps)) rfl rfl rfl (.when_no rfl (.sel 2 rfl (.nil _)))
 refine sim_skip ?_
 refine nrm_then (sr ?_)
 refine vm rfl rfl ?_
 refine va rfl rfl ?_
 refine va rfl rfl (simL_nil (nrm_then (sim_rtn ?_)))
 exact rtn_fn (y3v.1, y3v.2.1, y5v) rfl rfl rfl (.when_yes rfl (.sel 0 rfl (.sel 0 rfl (.sel 0 rfl (.nil _)))))
theorem disk_Load.callsT (W : World) (F : HA) (k : Nat) (a0 : Option Addr) (c0 : Nat) (x0 : List (Ty36)) (h0 : RdV F 3 (V36 F) a0 x0) (hc0 : x0.length ≤ c0) (hm0 : c0 ≤ maxLen) :
    Fn Try.prog W 29 [.slice a0 x0.length c0] [] F ((disk_Load.f k x0).filter fun (r : Bool × (List ((List UInt8) × (List UInt8 × Int))) × List UInt8 × Int × Bool × Int) => r.1 == true) (fun (r : Bool × (List ((List UInt8) × (List UInt8 × Int))) × List UInt8 × Int × Bool × Int) (y : Nat × Nat × Kps) => .tuple #[.pointer (some ⟨y.1, 0, none⟩), .int .i64 r.2.2.2.2.2]) (fun r y => [obj y.1 64 [.map (some y.2.1), str r.2.2.1, .int .i64 r.2.2.2.1, .bool r.2.2.2.2.1], mapF (mapO y.2.1 enc9 encP y.2.2) FA68 y.2.2 r.2.1]) :=
  Fn.when (disk_Load.calls W F k a0 c0 x0 h0 hc0 hm0) _ true (fun r y h => by simp only [h]; rfl) (fun r y h => (Ent.when_yo h _))
theorem disk_Load.callsN (W : World) (F : HA) (k : Nat) (a0 : Option Addr) (c0 : Nat) (x0 : List (Ty36)) (h0 : RdV F 3 (V36 F) a0 x0) (hc0 : x0.length ≤ c0) (hm0 : c0 ≤ maxLen) :
    Fn Try.prog W 29 [.slice a0 x0.length c0] [] F ((disk_Load.f k x0).filter fun (r : Bool × (List ((List UInt8) × (List UInt8 × Int))) × List UInt8 × Int × Bool × Int) => r.1 == false) (fun (r : Bool × (List ((List UInt8) × (List UInt8 × Int))) × List UInt8 × Int × Bool × Int) (y : Nat × Nat × Kps) => .tuple #[.pointer none, .int .i64 r.2.2.2.2.2]) (fun r y => []) :=
  Fn.when (disk_Load.calls W F k a0 c0 x0 h0 hc0 hm0) _ false (fun r y h => by simp only [h]; rfl) (fun r y h => (Ent.when_no_ h _))

def synodref4_Name.l0 (x0 : List UInt8) : Nat → Int → Option ((Unit) ⊕ (Bool))
  | 0, _ => none
  | k + 1, z5v => if z5v < (x0.length : Int) then (if 0 ≤ z5v ∧ z5v < (x0.length : Int) then ((if ((decide (((x0.getD z5v.toNat 0).toNat : Int) < (97 : Int))) || (decide ((122 : Int) < ((x0.getD z5v.toNat 0).toNat : Int)))) = true then (some ((decide (((x0.getD z5v.toNat 0).toNat : Int) < (48 : Int))) || (decide ((57 : Int) < ((x0.getD z5v.toNat 0).toNat : Int))))) else (some false)).bind fun s9v => (if ((s9v && (!decide (((x0.getD z5v.toNat 0).toNat : Int) = (45 : Int)))) && (!decide (((x0.getD z5v.toNat 0).toNat : Int) = (46 : Int)))) = true then (some (.inr false)) else (synodref4_Name.l0 x0 k (IntKind.i64.wrap (z5v + 1))))) else none) else (some (.inl ()))
def synodref4_Name.f (k : Nat) (x0 : List UInt8) : Option (Bool) := orR (synodref4_Name.l0 x0 k 0) fun s1v => (some ((decide ((1 : Int) ≤ (x0.length : Int))) && (decide ((x0.length : Int) ≤ (32 : Int)))))
theorem synodref4_Name.calls (W : World) (F : HA) (k : Nat) (x0 : List UInt8)  :
    Fn Try.prog W 36 [str x0] [] F (synodref4_Name.f k x0) (fun (r : Bool) (y : Unit) => .bool r) (fun r y => []) := by
 unfold synodref4_Name.f
 refine fn_intro 44 Try.func36 rfl Try.ntmps36 rfl ?_
 refine sr ?_
 refine va rfl rfl (simL_nil (nrm_then ?_))
 refine sim_cutR (S := Unit) (Unit) (fun s y => [(0, str x0)]) (fun s y => [F]) ?_ ?_
 refine sr ?_
 refine va rfl rfl (simL_nil (nrm_then ?_))
 refine sim_block ?_
 refine sim_loop (S := Int) (Unit) (fun k s => synodref4_Name.l0 x0 k s) (fun s y => [(0, str x0), (3, .int .i64 s)]) (fun s y => [F]) (fun _ => by rw [synodref4_Name.l0]) ?_ k 0 () ⟨rfl, rfl, trivial⟩ (.sel 0 rfl (.nil _))
 intro k s3v y4v
 refine sim_eq (by rw [synodref4_Name.l0]) ?_
 refine sim_seq (sr ?_)
 refine vm rfl rfl ?_
 refine vm rfl rfl ?_
 refine vq (q_lens rfl rfl rfl Try.underlying9) rfl ?_
 refine vq (q_lss rfl rfl rfl) rfl (simL_nil (nrm_then ?_))
 refine sim_cond rfl (fun h6v => ?_) (fun h7v => ?_)
 refine sim_skip ?_
 refine nrm_then (sim_seq ?_)
 refine sim_block ?_
 refine sr ?_
 refine vm rfl rfl ?_
 refine vm rfl rfl ?_
 refine simL_ask (fun hi8v => ?_)
 refine vq (q_sidx rfl rfl rfl Try.underlying9 hi8v.1 hi8v.2) rfl ?_
 refine va rfl rfl (nx ?_)
 refine vm rfl rfl ?_
 refine vq (q_lss rfl rfl rfl) rfl ?_
 refine vm rfl rfl ?_
 refine simL_valc (b := decide (((x0.getD s3v.toNat 0).toNat : Int) < (97 : Int))) (fun hb22v => RQ.sub (E' := [(4, .int .u8 ((x0.getD s3v.toNat 0).toNat : Int))]) ⟨rfl, trivial⟩ (q_move rfl rfl)) rfl rfl rfl rfl rfl ?_
 refine simL_valc (b := decide (((x0.getD s3v.toNat 0).toNat : Int) < (97 : Int))) (fun hb21v => RQ.sub (E' := [(17, .int .u8 ((x0.getD s3v.toNat 0).toNat : Int))]) ⟨lk_cv rfl hb21v, trivial⟩ (q_gtr rfl rfl rfl)) rfl rfl rfl rfl rfl ?_
 refine vq (q_or rfl rfl rfl) rfl ?_
 refine vm rfl rfl ?_
 refine simL_cut' 7 (S := Bool) (Unit) (fun s y => [(0, str x0), (3, .int .i64 s3v), (4, .int .u8 ((x0.getD s3v.toNat 0).toNat : Int)), (27, .bool s)]) (fun s y => [F]) ?_ ?_
 refine simL_caseb (fun hb13v => ?_) (fun hb14v => ?_)
 rw [hb13v]
 refine simL_valg (q_move rfl rfl) rfl rfl rfl rfl rfl rfl ?_
 refine simL_valg (q_lss rfl rfl rfl) rfl rfl rfl rfl rfl rfl ?_
 refine simL_valg (q_move rfl rfl) rfl rfl rfl rfl rfl rfl ?_
 refine simL_valc (b := decide (((x0.getD s3v.toNat 0).toNat : Int) < (48 : Int))) (fun hb12v => RQ.sub (E' := [(4, .int .u8 ((x0.getD s3v.toNat 0).toNat : Int))]) ⟨rfl, trivial⟩ (q_move rfl rfl)) rfl rfl rfl rfl rfl ?_
 refine simL_valc (b := decide (((x0.getD s3v.toNat 0).toNat : Int) < (48 : Int))) (fun hb11v => RQ.sub (E' := [(24, .int .u8 ((x0.getD s3v.toNat 0).toNat : Int))]) ⟨lk_cv rfl hb11v, trivial⟩ (q_gtr rfl rfl rfl)) rfl rfl rfl rfl rfl ?_
 refine simL_valg (q_or rfl rfl rfl) rfl rfl rfl rfl rfl rfl ?_
 refine vq (q_pick rfl rfl rfl rfl rfl) rfl (simL_nil ?_)
 exact nrm_cut (s := (decide (((x0.getD s3v.toNat 0).toNat : Int) < (48 : Int))) || (decide ((57 : Int) < ((x0.getD s3v.toNat 0).toNat : Int)))) () ⟨rfl, rfl, rfl, rfl, trivial⟩ (.sel 0 rfl (.nil _))
 rw [hb14v]
 refine simL_skipd rfl rfl rfl rfl rfl rfl ?_
 refine simL_skipd rfl rfl rfl rfl rfl rfl ?_
 refine simL_skipd rfl rfl rfl rfl rfl rfl ?_
 refine simL_skipu rfl rfl rfl rfl rfl ?_
 refine simL_skipu rfl rfl rfl rfl rfl ?_
 refine simL_skipd rfl rfl rfl rfl rfl rfl ?_
 refine vq (q_pick rfl rfl rfl rfl rfl) rfl (simL_nil ?_)
 exact nrm_cut (s := false) () ⟨rfl, rfl, rfl, rfl, trivial⟩ (.sel 0 rfl (.nil _))
 intro s9v y10v
 refine vm rfl rfl ?_
 refine simL_valc (b := s9v) (fun hb20v => RQ.sub (E' := [(4, .int .u8 ((x0.getD s3v.toNat 0).toNat : Int))]) ⟨rfl, trivial⟩ (q_move rfl rfl)) rfl rfl rfl rfl rfl ?_
 refine simL_valc (b := s9v) (fun hb19v => RQ.sub (E' := [(29, .int .u8 ((x0.getD s3v.toNat 0).toNat : Int))]) ⟨lk_cv rfl hb19v, trivial⟩ (q_neq rfl rfl rfl)) rfl rfl rfl rfl rfl ?_
 refine vq (q_and rfl rfl rfl) rfl ?_
 refine vm rfl rfl ?_
 refine simL_valc (b := s9v && (!decide (((x0.getD s3v.toNat 0).toNat : Int) = (45 : Int)))) (fun hb18v => RQ.sub (E' := [(4, .int .u8 ((x0.getD s3v.toNat 0).toNat : Int))]) ⟨rfl, trivial⟩ (q_move rfl rfl)) rfl rfl rfl rfl rfl ?_
 refine simL_valc (b := s9v && (!decide (((x0.getD s3v.toNat 0).toNat : Int) = (45 : Int)))) (fun hb17v => RQ.sub (E' := [(33, .int .u8 ((x0.getD s3v.toNat 0).toNat : Int))]) ⟨lk_cv rfl hb17v, trivial⟩ (q_neq rfl rfl rfl)) rfl rfl rfl rfl rfl ?_
 refine vq (q_and rfl rfl rfl) rfl (simL_nil (nrm_then ?_))
 refine sim_condb rfl (fun h15v => ?_) (fun h16v => ?_)
 refine sr ?_
 refine va rfl rfl (simL_nil (nrm_then (sim_rtn ?_)))
 refine rtn_block ?_
 refine rtn_then ?_
 refine rtn_loop ?_
 refine rtn_block ?_
 refine rtn_cutR ?_
 exact rtn_fn () rfl rfl rfl (.sel 0 rfl (.nil _))
 refine sim_skip ?_
 refine nrm_block (nrm_then (sim_region ?_))
 refine vm rfl rfl ?_
 refine vq (q_add rfl rfl rfl) rfl ?_
 refine va rfl rfl (simL_nil ?_)
 exact nrm_again (s := IntKind.i64.wrap (s3v + 1)) () ⟨rfl, rfl, trivial⟩ (.sel 0 rfl (.nil _))
 refine sim_exi ?_
 refine exi_then ?_
 refine exi_loop ?_
 refine exi_here ?_
 exact nrm_cutR (s := ()) () ⟨rfl, trivial⟩ (.sel 0 rfl (.nil _))
 intro s1v y2v
 refine sr ?_
 refine vm rfl rfl ?_
 refine vq (q_lens rfl rfl rfl Try.underlying9) rfl ?_
 refine vq (q_geq rfl rfl rfl) rfl ?_
 refine vm rfl rfl ?_
 refine simL_valc (b := decide ((1 : Int) ≤ (x0.length : Int))) (fun hb25v => RQ.sub (E' := [(0, str x0)]) ⟨rfl, trivial⟩ (q_move rfl rfl)) rfl rfl rfl rfl rfl ?_
 refine simL_valc (b := decide ((1 : Int) ≤ (x0.length : Int))) (fun hb24v => RQ.sub (E' := [(40, str x0)]) ⟨lk_cv rfl hb24v, trivial⟩ (q_lens rfl rfl rfl Try.underlying9)) rfl rfl rfl rfl rfl ?_
 refine simL_valc (b := decide ((1 : Int) ≤ (x0.length : Int))) (fun hb23v => RQ.sub (E' := [(41, .int .i64 (x0.length : Int))]) ⟨lk_cv rfl hb23v, trivial⟩ (q_leq rfl rfl rfl)) rfl rfl rfl rfl rfl ?_
 refine vq (q_and rfl rfl rfl) rfl ?_
 refine va rfl rfl (simL_nil (nrm_then (sim_rtn ?_)))
 exact rtn_fn () rfl rfl rfl (.sel 0 rfl (.nil _))

def synodref4_Disk_at.l0 (x0_0 : List (Ty36)) (x1 : List UInt8) : Nat → Int → Option ((Unit) ⊕ (Int))
  | 0, _ => none
  | k + 1, z5v => if z5v < (x0_0.length : Int) then (if 0 ≤ z5v ∧ z5v < (x0_0.length : Int) then (if ((x0_0.getD z5v.toNat dz36).1) = x1 then (some (.inr z5v)) else (synodref4_Disk_at.l0 x0_0 x1 k (IntKind.i64.wrap (z5v + 1)))) else none) else (some (.inl ()))
def synodref4_Disk_at.f (k : Nat) (x0_0 : List (Ty36)) (x0_1 : Int) (x0_2 : Bool) (x0_3 : List UInt8) (x1 : List UInt8) : Option (Int) := orR (synodref4_Disk_at.l0 x0_0 x1 k 0) fun s1v => (some (-1))
theorem synodref4_Disk_at.calls (W : World) (F : HA) (k : Nat) (b0 : Nat) (a0_0 : Option Addr) (c0_0 : Nat) (x0_0 : List (Ty36)) (x0_1 : Int) (x0_2 : Bool) (x0_3 : List UInt8) (x1 : List UInt8) (h0_0 : RdV F 3 (V36 F) a0_0 x0_0) (hc0_0 : x0_0.length ≤ c0_0) (hm0_0 : c0_0 ≤ maxLen) :
    Fn Try.prog W 37 [.pointer (some ⟨b0, 0, none⟩), str x1] [obj b0 29 [.slice a0_0 x0_0.length c0_0, .int .i64 x0_1, .bool x0_2, str x0_3]] F (synodref4_Disk_at.f k x0_0 x0_1 x0_2 x0_3 x1) (fun (r : Int) (y : Unit) => .int .i64 r) (fun r y => [obj b0 29 [.slice a0_0 x0_0.length c0_0, .int .i64 x0_1, .bool x0_2, str x0_3]]) := by
 unfold synodref4_Disk_at.f
 refine fn_intro 26 Try.func37 rfl Try.ntmps37 rfl ?_
 refine sr ?_
 refine va rfl rfl (simL_nil (nrm_then ?_))
 refine sim_cutR (S := Unit) (Unit) (fun s y => []) (fun s y => [obj b0 29 [.slice a0_0 x0_0.length c0_0, .int .i64 x0_1, .bool x0_2, str x0_3], F]) ?_ ?_
 refine sr ?_
 refine va rfl rfl (simL_nil (nrm_then ?_))
 refine sim_block ?_
 refine sim_loop (S := Int) (Unit) (fun k s => synodref4_Disk_at.l0 x0_0 x1 k s) (fun s y => [(0, .pointer (some ⟨b0, 0, none⟩)), (1, str x1), (5, .int .i64 s)]) (fun s y => [obj b0 29 [.slice a0_0 x0_0.length c0_0, .int .i64 x0_1, .bool x0_2, str x0_3], F]) (fun _ => by rw [synodref4_Disk_at.l0]) ?_ k 0 () ⟨rfl, rfl, rfl, trivial⟩ (.sel 0 rfl (.sel 0 rfl (.nil _)))
 intro k s3v y4v
 refine sim_eq (by rw [synodref4_Disk_at.l0]) ?_
 refine sim_seq (sr ?_)
 refine vm rfl rfl ?_
 refine vm rfl rfl ?_
 refine vn rfl rfl ?_
 refine vq (q_fa rfl rfl Try.underlying29 rfl rfl Try.sizeOf27 rfl) rfl ?_
 refine vq (q_load rfl rfl Try.isAgg27 (.obj 0 rfl rfl)) rfl ?_
 refine vq (q_len rfl rfl rfl Try.underlying27) rfl ?_
 refine vq (q_lss rfl rfl rfl) rfl (simL_nil (nrm_then ?_))
 refine sim_cond rfl (fun h6v => ?_) (fun h7v => ?_)
 refine sim_skip ?_
 refine nrm_then (sim_seq ?_)
 refine sim_block ?_
 refine sr ?_
 refine vm rfl rfl ?_
 refine vn rfl rfl ?_
 refine vq (q_fa rfl rfl Try.underlying29 rfl rfl Try.sizeOf27 rfl) rfl ?_
 refine vq (q_load rfl rfl Try.isAgg27 (.obj 0 rfl rfl)) rfl ?_
 refine vm rfl rfl ?_
 refine simL_ask (fun hi8v => ?_)
 obtain ⟨b9v, b9vo, r12v, ha10v, hV13v, hlr14v, hcell15v⟩ := RdV.pos h0_0 (Up.refl _) rfl (i := s3v.toNat) (by omega) dz36
 obtain ⟨a16v, c17v, rfl, ⟨he18v, hc19v, hm20v⟩⟩ := hV13v
 refine vq (q_idx rfl rfl rfl ha10v Try.underlying27 Try.sizeOf36 hi8v.1 hi8v.2) rfl ?_
 refine vq (q_fa rfl rfl Try.underlying36 rfl rfl Try.sizeOf9 rfl) rfl ?_
 refine vq (q_load rfl rfl Try.isAgg9 (hcell15v 1 rfl 0 _ rfl)) rfl ?_
 refine vm rfl rfl ?_
 refine vq (q_eqs rfl rfl rfl) rfl (simL_nil (nrm_then ?_))
 refine sim_cond rfl (fun h21v => ?_) (fun h22v => ?_)
 refine sr ?_
 refine vm rfl rfl ?_
 refine va rfl rfl (simL_nil (nrm_then (sim_rtn ?_)))
 refine rtn_block ?_
 refine rtn_then ?_
 refine rtn_loop ?_
 refine rtn_block ?_
 refine rtn_cutR ?_
 exact rtn_fn () rfl rfl rfl (.sel 0 rfl (.sel 0 rfl (.nil _)))
 refine sim_skip ?_
 refine nrm_block (nrm_then (sim_region ?_))
 refine vm rfl rfl ?_
 refine vq (q_add rfl rfl rfl) rfl ?_
 refine va rfl rfl (simL_nil ?_)
 exact nrm_again (s := IntKind.i64.wrap (s3v + 1)) () ⟨rfl, rfl, rfl, trivial⟩ (.sel 0 rfl (.sel 0 rfl (.nil _)))
 refine sim_exi ?_
 refine exi_then ?_
 refine exi_loop ?_
 refine exi_here ?_
 exact nrm_cutR (s := ()) () trivial (.sel 0 rfl (.sel 0 rfl (.nil _)))
 intro s1v y2v
 refine sr ?_
 refine va rfl rfl (simL_nil (nrm_then (sim_rtn ?_)))
 exact rtn_fn () rfl rfl rfl (.sel 0 rfl (.sel 0 rfl (.nil _)))
end Go.Proofs.Ytkkbgcocpkipjaa

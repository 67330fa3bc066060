/- Printed by gen.py: pure functions and the proofs that the Go functions simulate them. Conditions: as each theorem says. -/
import Derived.Test.YtdaedoklkmdhcaaG2
namespace Go.Proofs.Ytdaedoklkmdhcaa
open Go.RowKit
set_option linter.unusedVariables false
set_option linter.unusedSimpArgs false
set_option maxRecDepth 20000
set_option maxHeartbeats 20000000
def kv_Store_Each_1_s.l0 {S : Type} (step : S → (Ty92) → Option S) (s1v : List ((List UInt8) × (List UInt8))) (s7v : List (List UInt8)) : Nat → Int → S → Option (S)
  | 0, _, _ => none
  | k + 1, z12v, z13v => if z12v < (s7v.length : Int) then (if 0 ≤ z12v ∧ z12v < (s7v.length : Int) then ((step z13v ((s7v.getD z12v.toNat ([] : List UInt8)), ((mget s1v (s7v.getD z12v.toNat ([] : List UInt8))).getD ([] : List UInt8)))).bind fun s26v => (kv_Store_Each_1_s.l0 step s1v s7v k (IntKind.i64.wrap (z12v + 1)) s26v)) else none) else (some z13v)
def kv_Store_Each_1_s.f {S : Type} (k : Nat) (step : S → (Ty92) → Option S) (s0 : S) (xp1_0 : List ((List UInt8) × (List UInt8))) (xp1_1 : List ((Int) × (Ty86))) : Option (S) := (maps_Clone_map_string_string_string_string.f xp1_0).bind fun s1v => ((maps_Keys_map_string_string_string_string.f).bind fun s4v => ((slices_Sorted_string_maps_Keys_map_string_string_string_string_1.f s1v).bind fun s7v => (kv_Store_Each_1_s.l0 step s1v s7v k 0 s0)))
theorem kv_Store_Each_1_s.calls (W : World) (F : HA) (k : Nat) (S Y : Type) (l : Nat) (step : S → List UInt8 × List UInt8 → Option S) (A : S → Y → HA) (s0 : S) (y0 : Y) (bp0 : Nat) (bp1 : Nat) (mp1_0 : Nat) (xp1_0 : List ((List UInt8) × (List UInt8))) (mp1_1 : Nat) (xp1_1 : List ((Int) × (Ty86))) (hY : YieldOk Try.prog W l (fun (x : List UInt8 × List UInt8) => [str x.1, str x.2]) step A) :
    Fn Try.prog W 49 [.func (.yield l) #[] #[], .pointer (some ⟨bp0, 0, none⟩)] [A s0 y0, obj bp1 63 [.map (some mp1_0), .map (some mp1_1)], mapO mp1_0 enc9 enc9 xp1_0, mapO mp1_1 enc3 enc42 xp1_1, obj bp0 25 [.pointer (some ⟨bp1, 0, none⟩)]] F (kv_Store_Each_1_s.f k step s0 xp1_0 xp1_1) (fun (r : S) (y : Y) => .tuple #[]) (fun r y => [A r y, obj bp1 63 [.map (some mp1_0), .map (some mp1_1)], mapO mp1_0 enc9 enc9 xp1_0, mapO mp1_1 enc3 enc42 xp1_1, obj bp0 25 [.pointer (some ⟨bp1, 0, none⟩)]]) := by
 unfold kv_Store_Each_1_s.f
 refine fn_intro 27 Try.func49 rfl Try.ntmps49 rfl ?_
 refine sr ?_
 refine vq (q_load rfl rfl Try.isAgg25 (.obj 4 rfl rfl)) rfl ?_
 refine vn rfl rfl ?_
 refine vq (q_fa rfl rfl Try.underlying63 rfl rfl Try.sizeOf60 rfl) rfl ?_
 refine vq (q_load rfl rfl Try.isAgg60 (.obj 1 rfl rfl)) rfl ?_
 refine simL_bind (fun s1v hs2v => ?_)
 refine simL_eff (re_call (vs := [.map (some mp1_0)]) (cap := []) (A := [mapO mp1_0 enc9 enc9 xp1_0]) (rst := [A s0 y0, obj bp1 63 [.map (some mp1_0), .map (some mp1_1)], mapO mp1_1 enc3 enc42 xp1_1, obj bp0 25 [.pointer (some ⟨bp1, 0, none⟩)], F]) rfl rfl rfl rfl rfl rfl Try.call41 (.sel 2 rfl (.sel 0 rfl (.sel 0 rfl (.sel 0 rfl (.sel 0 rfl (.sel 0 rfl (.nil _))))))) (maps_Clone_map_string_string_string_string.calls _ _ mp1_0 xp1_0 ) hs2v) rfl rfl rfl ?_
 intro y3v
 refine va rfl rfl (nx ?_)
 refine vm rfl rfl ?_
 refine simL_bind (fun s4v hs5v => ?_)
 refine simL_eff (re_call (vs := [.map (some y3v)]) (cap := []) (A := []) (rst := [mapO y3v enc9 enc9 s1v, mapO mp1_0 enc9 enc9 xp1_0, A s0 y0, obj bp1 63 [.map (some mp1_0), .map (some mp1_1)], mapO mp1_1 enc3 enc42 xp1_1, obj bp0 25 [.pointer (some ⟨bp1, 0, none⟩)], F]) rfl rfl rfl rfl rfl rfl Try.call51 (.sel 0 rfl (.sel 0 rfl (.sel 0 rfl (.sel 0 rfl (.sel 0 rfl (.sel 0 rfl (.sel 0 rfl (.nil _)))))))) (maps_Keys_map_string_string_string_string.calls _ _ y3v ) hs5v) rfl rfl rfl ?_
 intro y6v
 refine simL_bind (fun s7v hs8v => ?_)
 refine simL_eff (re_call (vs := [.func (.func 65) #[] #[.pointer (some ⟨y6v, 0, none⟩)]]) (cap := []) (A := [obj y6v 60 [.map (some y3v)], mapO y3v enc9 enc9 s1v]) (rst := [mapO mp1_0 enc9 enc9 xp1_0, A s0 y0, obj bp1 63 [.map (some mp1_0), .map (some mp1_1)], mapO mp1_1 enc3 enc42 xp1_1, obj bp0 25 [.pointer (some ⟨bp1, 0, none⟩)], F]) rfl rfl rfl rfl rfl rfl Try.call50 (.sel 0 rfl (.sel 0 rfl (.sel 0 rfl (.sel 0 rfl (.sel 0 rfl (.sel 0 rfl (.sel 0 rfl (.sel 0 rfl (.nil _))))))))) (slices_Sorted_string_maps_Keys_map_string_string_string_string_1.calls _ _ y6v y3v s1v ) hs8v) rfl rfl rfl ?_
 intro y9v
 refine vq (q_len rfl rfl rfl Try.underlying93) rfl ?_
 refine vm rfl rfl (simL_nil (nrm_then ?_))
 refine sim_block ?_
 refine sim_loop (S := Int × S) (Y) (fun k s => kv_Store_Each_1_s.l0 step s1v s7v k s.1 s.2) (fun s y => [(0, .func (.yield l) #[] #[]), (3, .map (some y3v)), (13, .slice y9v.1 s7v.length y9v.2), (14, .int .i64 (s7v.length : Int)), (15, .int .i64 s.1)]) (fun s y => [obj bp1 63 [.map (some mp1_0), .map (some mp1_1)], obj bp0 25 [.pointer (some ⟨bp1, 0, none⟩)], mapO y3v enc9 enc9 s1v, RowV 9 1 (V9 tt) y9v.1 s7v y9v.2, mapO mp1_0 enc9 enc9 xp1_0, mapO mp1_1 enc3 enc42 xp1_1, A s.2 y, F]) (fun _ => by rw [kv_Store_Each_1_s.l0]) ?_ k (0, s0) y0 ⟨rfl, rfl, rfl, rfl, rfl, trivial⟩ (.sel 5 rfl (.sel 6 rfl (.sel 2 rfl (.sel 0 rfl (.sel 1 rfl (.sel 2 rfl (.sel 1 rfl (.sel 1 rfl (.nil _)))))))))
 intro k s10v y11v
 refine sim_eq (by rw [kv_Store_Each_1_s.l0]) ?_
 refine sr ?_
 refine vq (q_lss rfl rfl rfl) rfl (simL_nil (nrm_then (sim_seq ?_)))
 refine sim_cond rfl (fun h14v => ?_) (fun h15v => ?_)
 refine sim_skip ?_
 refine nrm_then (sim_seq ?_)
 refine sim_block ?_
 refine sr ?_
 refine simL_openV 3 rfl (fun rs24v hl25v => ?_)
 refine simL_ask (fun hi16v => ?_)
 refine simL_posV 3 rfl hl25v rfl (i := s10v.1.toNat) (by omega) ([] : List UInt8) (fun b17v b17vo r20v ha18v hV21v hlr22v hcell23v => ?_)
 obtain rfl := hV21v
 refine vq (q_idx rfl rfl rfl ha18v Try.underlying93 Try.sizeOf9 hi16v.1 hi16v.2) rfl ?_
 refine vq (q_load rfl rfl Try.isAgg9 (hcell23v 3 rfl 0 _ rfl)) rfl ?_
 refine va rfl rfl (nx ?_)
 refine vm rfl rfl ?_
 refine vm rfl rfl ?_
 refine vm rfl rfl ?_
 refine vm rfl rfl ?_
 refine vq ((q_mlook (ek := enc9) (ev := enc9) (z := ([] : List UInt8)) 2 (s7v.getD s10v.1.toNat ([] : List UInt8)) rfl rfl rfl Try.underlying60 key9 Try.zeroValue9 rfl : RQ _ _ _ _ (str ((mget s1v (s7v.getD s10v.1.toNat ([] : List UInt8))).getD ([] : List UInt8))))) rfl ?_
 refine simL_bind (fun s26v hs28v => ?_)
 refine simL_eff (re_yield ((s7v.getD s10v.1.toNat ([] : List UInt8)), ((mget s1v (s7v.getD s10v.1.toNat ([] : List UInt8))).getD ([] : List UInt8))) 6 rfl rfl rfl rfl rfl rfl hY rfl hs28v) rfl rfl rfl ?_
 intro y27v
 refine vq (q_not rfl rfl) rfl (simL_nil (nrm_then ?_))
 refine sim_false rfl ?_
 refine sim_skip ?_
 refine nrm_block (nrm_then (sim_region ?_))
 refine vq (q_add rfl rfl rfl) rfl ?_
 refine vm rfl rfl (simL_nil ?_)
 exact nrm_again (s := (IntKind.i64.wrap (s10v.1 + 1), s26v)) y27v ⟨rfl, rfl, rfl, rfl, rfl, trivial⟩ (.sel 0 rfl (.sel 0 rfl (.sel 0 rfl (.sel' 0 rfl (RowV.mk hl25v) (.sel 0 rfl (.sel 0 rfl (.sel 0 rfl (.sel 0 rfl (.nil _)))))))))
 refine sim_exi ?_
 refine exi_then ?_
 refine exi_loop ?_
 refine exi_here ?_
 exact nrm_fn y11v rfl rfl rfl (.sel 6 rfl (.sel 0 rfl (.sel 3 rfl (.sel 3 rfl (.sel 0 rfl (.sel 2 rfl (.nil _)))))))

def kv_Store_Snapshot.l0 (s30v : List (Ty86)) : Nat → Int → List UInt8 → Int → Option (List UInt8 × Int)
  | 0, _, _, _ => none
  | k + 1, z35v, z36v, z37v => if z35v < (s30v.length : Int) then (if 0 ≤ z35v ∧ z35v < (s30v.length : Int) then ((wire_Writer_Int.f k z36v z37v ((s30v.getD z35v.toNat dz86).1)).bind fun s51v => ((wire_Writer_Int.f k s51v.1 s51v.2 ((s30v.getD z35v.toNat dz86).2.1)).bind fun s54v => ((wire_Writer_Int.f k s54v.1 s54v.2 ((s30v.getD z35v.toNat dz86).2.2.1)).bind fun s57v => ((wire_Writer_Text.f k s57v.1 s57v.2 ((s30v.getD z35v.toNat dz86).2.2.2) (1024 : Int)).bind fun s60v => (kv_Store_Snapshot.l0 s30v k (IntKind.i64.wrap (z35v + 1)) s60v.1 s60v.2))))) else none) else (some (z36v, z37v))
def kv_Store_Snapshot.f (k : Nat) (x0_0 : List ((List UInt8) × (List UInt8))) (x0_1 : List ((Int) × (Ty86))) : Option (List UInt8) := (wire_NewWriter.f).bind fun s1v => ((wire_Writer_Int.f k s1v.1 s1v.2 (x0_0.length : Int)).bind fun s5v => ((kv_Store_Each.f).bind fun s9v => ((kv_Store_Each_1_s.f k (fun (s13v : List UInt8 × Int) (x12v : List UInt8 × List UInt8) => (wire_Writer_Text.f k s13v.1 s13v.2 x12v.1 (64 : Int)).bind fun s15v => ((wire_Writer_Text.f k s15v.1 s15v.2 x12v.2 (1024 : Int)).bind fun s18v => (some (s18v.1, s18v.2)))) (s5v.1, s5v.2) x0_0 x0_1).bind fun s21v => ((wire_Writer_Int.f k s21v.1 s21v.2 (x0_1.length : Int)).bind fun s24v => (((kv_Store_Sessions.f k x0_0 x0_1).bind fun s30v => (kv_Store_Snapshot.l0 s30v k 0 s24v.1 s24v.2)).bind fun s28v => ((wire_Writer_Done.f s28v.1 s28v.2).bind fun s67v => (some s67v.1)))))))
theorem kv_Store_Snapshot.calls (W : World) (F : HA) (k : Nat) (b0 : Nat) (m0_0 : Nat) (x0_0 : List ((List UInt8) × (List UInt8))) (m0_1 : Nat) (x0_1 : List ((Int) × (Ty86)))  :
    Fn Try.prog W 14 [.pointer (some ⟨b0, 0, none⟩)] [obj b0 63 [.map (some m0_0), .map (some m0_1)], mapO m0_0 enc9 enc9 x0_0, mapO m0_1 enc3 enc42 x0_1] F (kv_Store_Snapshot.f k x0_0 x0_1) (fun (r : List UInt8) (y : Option Addr × Nat) => .slice y.1 r.length y.2) (fun r y => [Row 5 1 y.1 r.length y.2 (encB r), obj b0 63 [.map (some m0_0), .map (some m0_1)], mapO m0_0 enc9 enc9 x0_0, mapO m0_1 enc3 enc42 x0_1]) := by
 unfold kv_Store_Snapshot.f
 refine fn_introM 67 Try.func14 rfl Try.ntmps14 rfl ?_
 refine sr ?_
 refine va rfl rfl (nx ?_)
 refine simL_bind (fun s1v hs2v => ?_)
 refine simL_eff (re_call (vs := []) (cap := []) (A := []) (rst := [obj b0 63 [.map (some m0_0), .map (some m0_1)], mapO m0_0 enc9 enc9 x0_0, mapO m0_1 enc3 enc42 x0_1, F]) rfl rfl rfl rfl rfl rfl Try.call28 (.sel 0 rfl (.sel 0 rfl (.sel 0 rfl (.sel 0 rfl (.nil _))))) (wire_NewWriter.calls _ _  ) hs2v) rfl rfl rfl ?_
 intro y3v
 refine simL_eff (re_alloc rfl Try.zeroValue71 rfl) rfl rfl rfl ?_
 intro b4v
 refine simL_do (re_store 0 rfl rfl rfl Try.sizeOf71 rfl rfl (one_of (by rfl)) rfl rfl) rfl rfl ?_
 intro _
 refine simL_nil (nrm_then (sim_seq ?_))
 refine sim_bind (fun s5v hs6v => ?_)
 refine sim_draw (Γ := (Option Addr × Nat)) (none, 0) [[], [], [1], [1, 2], [1, 2, 3], [1, 2, 3, 4], rL 6] [6] [0, 1, 2, 3, 4, 5] (fun i => [[0], [0], [0], [0], [0], [0], []].getD i []) (fun i => [[], [], [], [], [], [], rL 6].getD i []) (fun γ i => [.pointer (some ⟨y3v.1, 0, none⟩), .pointer (some ⟨b0, 0, none⟩), .pointer (some ⟨b0, 0, none⟩), .pointer (some ⟨b0, 0, none⟩), .map (some m0_0), .int .i64 (x0_0.length : Int), .tuple #[]].getD i undef) (fun j γ => [[obj b4v 71 [.pointer (some ⟨y3v.1, 0, none⟩)], obj y3v.1 100 [.slice y3v.2.1 s1v.1.length y3v.2.2, .int .i64 s1v.2], Row 5 1 y3v.2.1 s1v.1.length y3v.2.2 (encB s1v.1), obj b0 63 [.map (some m0_0), .map (some m0_1)], mapO m0_0 enc9 enc9 x0_0, mapO m0_1 enc3 enc42 x0_1, F], [obj y3v.1 100 [.slice γ.1 s5v.1.length γ.2, .int .i64 s5v.2], Row 5 1 γ.1 s5v.1.length γ.2 (encB s5v.1), obj b4v 71 [.pointer (some ⟨y3v.1, 0, none⟩)], obj b0 63 [.map (some m0_0), .map (some m0_1)], mapO m0_0 enc9 enc9 x0_0, mapO m0_1 enc3 enc42 x0_1, F]].getD j []) (fun γ => [(0, .pointer (some ⟨b0, 0, none⟩)), (3, .pointer (some ⟨b4v, 0, none⟩))]) mixed (by decide) (by decide) (by decide) (by decide) (by decide) (by decide) (by decide) 67 rfl (by decide) (by decide) (by decide) (Ent.refl _) ?_ ?_ (fun _ => ⟨rfl, rfl, trivial⟩) ?_
 exact (aq rfl (fun γ => qp rfl rfl (.o (s := 3) rfl (by decide) .nil) (q_load rfl rfl Try.isAgg71 (.obj 0 rfl rfl)) rfl) (aq rfl (fun γ => qm rfl (.o (s := 0) rfl (by decide) .nil) rfl) (aq rfl (fun γ => qp rfl rfl (.v 1 rfl rfl .nil) (q_nil rfl rfl) rfl) (aq rfl (fun γ => qp rfl rfl (.v 2 rfl rfl .nil) (q_fa rfl rfl Try.underlying63 rfl rfl Try.sizeOf60 rfl) rfl) (aq rfl (fun γ => qp rfl rfl (.v 3 rfl rfl .nil) (q_load rfl rfl Try.isAgg60 (.obj 3 rfl rfl)) rfl) (aq rfl (fun γ => qp rfl rfl (.v 4 rfl rfl .nil) (q_mlen 4 rfl rfl rfl Try.underlying60 rfl) rfl) zA))))))
 exact (ac (fun γ => eo (Z := Option Addr × Nat) (fun z => z) rfl rfl (.v 0 rfl rfl (.v 5 rfl rfl .nil)) (re_call (vs := [.pointer (some ⟨y3v.1, 0, none⟩), .int .i64 (x0_0.length : Int)]) (cap := []) (A := [obj y3v.1 100 [.slice y3v.2.1 s1v.1.length y3v.2.2, .int .i64 s1v.2], Row 5 1 y3v.2.1 s1v.1.length y3v.2.2 (encB s1v.1)]) (rst := [obj b4v 71 [.pointer (some ⟨y3v.1, 0, none⟩)], obj b0 63 [.map (some m0_0), .map (some m0_1)], mapO m0_0 enc9 enc9 x0_0, mapO m0_1 enc3 enc42 x0_1, F]) rfl rfl rfl rfl rfl rfl Try.call29 (.sel 1 rfl (.sel 1 rfl (.sel 0 rfl (.sel 0 rfl (.sel 0 rfl (.sel 0 rfl (.sel 0 rfl (.nil _)))))))) (wire_Writer_Int.calls _ _ k y3v.1 y3v.2.1 y3v.2.2 s1v.1 s1v.2 (x0_0.length : Int) ) hs6v) (fun _ => ⟨rfl, rfl, rfl, rfl, rfl, rfl, trivial⟩) (fun _ => .inr rfl) (fun z => Ent.refl _)) zA)
 intro g8v
 refine nrm_then (sim_seq (sr ?_))
 refine vm rfl rfl ?_
 refine simL_bind (fun s9v hs10v => ?_)
 refine simL_eff (re_call (vs := [.pointer (some ⟨b0, 0, none⟩)]) (cap := []) (A := []) (rst := [obj y3v.1 100 [.slice g8v.1 s5v.1.length g8v.2, .int .i64 s5v.2], Row 5 1 g8v.1 s5v.1.length g8v.2 (encB s5v.1), obj b4v 71 [.pointer (some ⟨y3v.1, 0, none⟩)], obj b0 63 [.map (some m0_0), .map (some m0_1)], mapO m0_0 enc9 enc9 x0_0, mapO m0_1 enc3 enc42 x0_1, F]) rfl rfl rfl rfl rfl rfl Try.call30 (.sel 0 rfl (.sel 0 rfl (.sel 0 rfl (.sel 0 rfl (.sel 0 rfl (.sel 0 rfl (.sel 0 rfl (.nil _)))))))) (kv_Store_Each.calls _ _ b0 ) hs10v) rfl rfl rfl ?_
 intro y11v
 refine simL_nil (nrm_then ?_)
 refine sim_block ?_
 refine sim_range (S := List UInt8 × Int) (Y := Option Addr × Nat) (R' := (List UInt8 × Int)) (Y' := (Option Addr × Nat)) (ps := [20, 21]) (Cap := [obj b0 63 [.map (some m0_0), .map (some m0_1)], mapO m0_0 enc9 enc9 x0_0, mapO m0_1 enc3 enc42 x0_1, obj y11v 25 [.pointer (some ⟨b0, 0, none⟩)]]) (rst := []) (CapB := fun r y => [obj b0 63 [.map (some m0_0), .map (some m0_1)], mapO m0_0 enc9 enc9 x0_0, mapO m0_1 enc3 enc42 x0_1, obj y11v 25 [.pointer (some ⟨b0, 0, none⟩)]]) (enc := fun (x : List UInt8 × List UInt8) => [str x.1, str x.2]) (oN := kv_Store_Each_1_s.f k (fun (s13v : List UInt8 × Int) (x12v : List UInt8 × List UInt8) => (wire_Writer_Text.f k s13v.1 s13v.2 x12v.1 (64 : Int)).bind fun s15v => ((wire_Writer_Text.f k s15v.1 s15v.2 x12v.2 (1024 : Int)).bind fun s18v => (some (s18v.1, s18v.2)))) (s5v.1, s5v.2) x0_0 x0_1) (fun s y => [obj y3v.1 100 [.slice y.1 s.1.length y.2, .int .i64 s.2], obj b4v 71 [.pointer (some ⟨y3v.1, 0, none⟩)], Row 5 1 y.1 s.1.length y.2 (encB s.1), F]) (s5v.1, s5v.2) (g8v.1, g8v.2) (fun s13v x12v y14v => [(3, .pointer (some ⟨b4v, 0, none⟩)), (4, str x12v.1), (5, str x12v.2)]) (fun r => r) (fun r y => y) rfl rfl Try.call49 (fun l A hY X => kv_Store_Each_1_s.calls _ _ k _ _ l _ A _ _ y11v b0 m0_0 x0_0 m0_1 x0_1 hY) rfl (fun _ => rfl) (.sel 1 rfl (.sel 2 rfl (.sel 1 rfl (.sel 4 rfl (.sel 1 rfl (.sel 1 rfl (.sel 1 rfl (.sel 0 rfl (.nil _))))))))) ?_ ?_ ?_
 intro l s13v x12v y14v Fr
 refine sim_ent (H' := [obj y3v.1 100 [.slice y14v.1 s13v.1.length y14v.2, .int .i64 s13v.2], obj b4v 71 [.pointer (some ⟨y3v.1, 0, none⟩)], Row 5 1 y14v.1 s13v.1.length y14v.2 (encB s13v.1), F, Fr]) (Ent.refl _) ?_
 refine sr ?_
 refine va rfl rfl (ny ?_)
 refine va rfl rfl (simL_nil ?_)
 exact nrm_cut () ⟨rfl, rfl, rfl, trivial⟩ (Ent.refl _)
 intro l s13v x12v y14v Fr
 refine sim_ent (H' := [obj y3v.1 100 [.slice y14v.1 s13v.1.length y14v.2, .int .i64 s13v.2], obj b4v 71 [.pointer (some ⟨y3v.1, 0, none⟩)], Row 5 1 y14v.1 s13v.1.length y14v.2 (encB s13v.1), F, Fr]) (Ent.refl _) ?_
 refine sim_block ?_
 refine sr ?_
 refine vq (q_load rfl rfl Try.isAgg71 (.obj 1 rfl rfl)) rfl ?_
 refine vm rfl rfl ?_
 refine simL_bind (fun s15v hs16v => ?_)
 refine simL_eff (re_call (vs := [.pointer (some ⟨y3v.1, 0, none⟩), str x12v.1, .int .i64 64]) (cap := []) (A := [obj y3v.1 100 [.slice y14v.1 s13v.1.length y14v.2, .int .i64 s13v.2], Row 5 1 y14v.1 s13v.1.length y14v.2 (encB s13v.1)]) (rst := [obj b4v 71 [.pointer (some ⟨y3v.1, 0, none⟩)], F, Fr]) rfl rfl rfl rfl rfl rfl Try.call31 (.sel 0 rfl (.sel 1 rfl (.sel 0 rfl (.sel 0 rfl (.sel 0 rfl (.nil _)))))) (wire_Writer_Text.calls _ _ k y3v.1 y14v.1 y14v.2 s13v.1 s13v.2 x12v.1 (64 : Int) ) hs16v) rfl rfl rfl ?_
 intro y17v
 refine ny ?_
 refine vq (q_load rfl rfl Try.isAgg71 (.obj 2 rfl rfl)) rfl ?_
 refine vm rfl rfl ?_
 refine simL_bind (fun s18v hs19v => ?_)
 refine simL_eff (re_call (vs := [.pointer (some ⟨y3v.1, 0, none⟩), str x12v.2, .int .i64 1024]) (cap := []) (A := [obj y3v.1 100 [.slice y17v.1 s15v.1.length y17v.2, .int .i64 s15v.2], Row 5 1 y17v.1 s15v.1.length y17v.2 (encB s15v.1)]) (rst := [obj b4v 71 [.pointer (some ⟨y3v.1, 0, none⟩)], F, Fr]) rfl rfl rfl rfl rfl rfl Try.call31 (.sel 0 rfl (.sel 0 rfl (.sel 0 rfl (.sel 0 rfl (.sel 0 rfl (.nil _)))))) (wire_Writer_Text.calls _ _ k y3v.1 y17v.1 y17v.2 s15v.1 s15v.2 x12v.2 (1024 : Int) ) hs19v) rfl rfl rfl ?_
 intro y20v
 refine simL_nil (nrm_block ?_)
 exact nrm_cut (s := (s18v.1, s18v.2)) (y20v.1, y20v.2) trivial (.sel 0 rfl (.sel 1 rfl (.sel 0 rfl (.sel 0 rfl (.sel 0 rfl (.nil _))))))
 intro D23v s21v y22v
 refine nrm_ent (H' := [shutD D23v, obj y3v.1 100 [.slice y22v.1 s21v.1.length y22v.2, .int .i64 s21v.2], obj b4v 71 [.pointer (some ⟨y3v.1, 0, none⟩)], Row 5 1 y22v.1 s21v.1.length y22v.2 (encB s21v.1), F, obj b0 63 [.map (some m0_0), .map (some m0_1)], mapO m0_0 enc9 enc9 x0_0, mapO m0_1 enc3 enc42 x0_1, obj y11v 25 [.pointer (some ⟨b0, 0, none⟩)]]) (Ent.refl _) ?_
 refine nrm_block (nrm_then (sim_seq ?_))
 refine sim_bind (fun s24v hs25v => ?_)
 refine sim_draw (Γ := (Option Addr × Nat)) (none, 0) [[], [], [1], [1, 2], [1, 2, 3], [1, 2, 3, 4], rL 6] [6] [0, 1, 2, 3, 4, 5] (fun i => [[0], [0], [0], [0], [0], [0], []].getD i []) (fun i => [[], [], [], [], [], [], rL 6].getD i []) (fun γ i => [.pointer (some ⟨y3v.1, 0, none⟩), .pointer (some ⟨b0, 0, none⟩), .pointer (some ⟨b0, 0, none⟩), .pointer (some ⟨b0, 1, none⟩), .map (some m0_1), .int .i64 (x0_1.length : Int), .tuple #[]].getD i undef) (fun j γ => [[shutD D23v, obj y3v.1 100 [.slice y22v.1 s21v.1.length y22v.2, .int .i64 s21v.2], obj b4v 71 [.pointer (some ⟨y3v.1, 0, none⟩)], Row 5 1 y22v.1 s21v.1.length y22v.2 (encB s21v.1), F, obj b0 63 [.map (some m0_0), .map (some m0_1)], mapO m0_0 enc9 enc9 x0_0, mapO m0_1 enc3 enc42 x0_1, obj y11v 25 [.pointer (some ⟨b0, 0, none⟩)]], [obj y3v.1 100 [.slice γ.1 s24v.1.length γ.2, .int .i64 s24v.2], Row 5 1 γ.1 s24v.1.length γ.2 (encB s24v.1), shutD D23v, obj b4v 71 [.pointer (some ⟨y3v.1, 0, none⟩)], F, obj b0 63 [.map (some m0_0), .map (some m0_1)], mapO m0_0 enc9 enc9 x0_0, mapO m0_1 enc3 enc42 x0_1, obj y11v 25 [.pointer (some ⟨b0, 0, none⟩)]]].getD j []) (fun γ => [(0, .pointer (some ⟨b0, 0, none⟩)), (3, .pointer (some ⟨b4v, 0, none⟩))]) mixed (by decide) (by decide) (by decide) (by decide) (by decide) (by decide) (by decide) 67 rfl (by decide) (by decide) (by decide) (Ent.refl _) ?_ ?_ (fun _ => ⟨rfl, rfl, trivial⟩) ?_
 exact (aq rfl (fun γ => qp rfl rfl (.o (s := 3) rfl (by decide) .nil) (q_load rfl rfl Try.isAgg71 (.obj 2 rfl rfl)) rfl) (aq rfl (fun γ => qm rfl (.o (s := 0) rfl (by decide) .nil) rfl) (aq rfl (fun γ => qp rfl rfl (.v 1 rfl rfl .nil) (q_nil rfl rfl) rfl) (aq rfl (fun γ => qp rfl rfl (.v 2 rfl rfl .nil) (q_fa rfl rfl Try.underlying63 rfl rfl Try.sizeOf61 rfl) rfl) (aq rfl (fun γ => qp rfl rfl (.v 3 rfl rfl .nil) (q_load rfl rfl Try.isAgg61 (.obj 5 rfl rfl)) rfl) (aq rfl (fun γ => qp rfl rfl (.v 4 rfl rfl .nil) (q_mlen 7 rfl rfl rfl Try.underlying61 rfl) rfl) zA))))))
 exact (ac (fun γ => eo (Z := Option Addr × Nat) (fun z => z) rfl rfl (.v 0 rfl rfl (.v 5 rfl rfl .nil)) (re_call (vs := [.pointer (some ⟨y3v.1, 0, none⟩), .int .i64 (x0_1.length : Int)]) (cap := []) (A := [obj y3v.1 100 [.slice y22v.1 s21v.1.length y22v.2, .int .i64 s21v.2], Row 5 1 y22v.1 s21v.1.length y22v.2 (encB s21v.1)]) (rst := [shutD D23v, obj b4v 71 [.pointer (some ⟨y3v.1, 0, none⟩)], F, obj b0 63 [.map (some m0_0), .map (some m0_1)], mapO m0_0 enc9 enc9 x0_0, mapO m0_1 enc3 enc42 x0_1, obj y11v 25 [.pointer (some ⟨b0, 0, none⟩)]]) rfl rfl rfl rfl rfl rfl Try.call29 (.sel 1 rfl (.sel 2 rfl (.sel 0 rfl (.sel 0 rfl (.sel 0 rfl (.sel 0 rfl (.sel 0 rfl (.sel 0 rfl (.sel 0 rfl (.nil _)))))))))) (wire_Writer_Int.calls _ _ k y3v.1 y22v.1 y22v.2 s21v.1 s21v.2 (x0_1.length : Int) ) hs25v) (fun _ => ⟨rfl, rfl, rfl, rfl, rfl, rfl, trivial⟩) (fun _ => .inr rfl) (fun z => Ent.refl _)) zA)
 intro g27v
 refine nrm_then ?_
 refine sim_cut (S := List UInt8 × Int) (Option Addr × Nat) (fun s y => [(3, .pointer (some ⟨b4v, 0, none⟩))]) (fun s y => [obj b0 63 [.map (some m0_0), .map (some m0_1)], obj y3v.1 100 [.slice y.1 s.1.length y.2, .int .i64 s.2], obj b4v 71 [.pointer (some ⟨y3v.1, 0, none⟩)], mapO m0_0 enc9 enc9 x0_0, mapO m0_1 enc3 enc42 x0_1, Row 5 1 y.1 s.1.length y.2 (encB s.1), shutD D23v, F]) ?_ ?_
 refine sr ?_
 refine vm rfl rfl ?_
 refine simL_bind (fun s30v hs31v => ?_)
 refine simL_eff (re_call (vs := [.pointer (some ⟨b0, 0, none⟩)]) (cap := []) (A := [obj b0 63 [.map (some m0_0), .map (some m0_1)], mapO m0_0 enc9 enc9 x0_0, mapO m0_1 enc3 enc42 x0_1]) (rst := [obj y3v.1 100 [.slice g27v.1 s24v.1.length g27v.2, .int .i64 s24v.2], Row 5 1 g27v.1 s24v.1.length g27v.2 (encB s24v.1), shutD D23v, obj b4v 71 [.pointer (some ⟨y3v.1, 0, none⟩)], F, obj y11v 25 [.pointer (some ⟨b0, 0, none⟩)]]) rfl rfl rfl rfl rfl rfl Try.call17 (.sel 5 rfl (.sel 5 rfl (.sel 5 rfl (.sel 0 rfl (.sel 0 rfl (.sel 0 rfl (.sel 0 rfl (.sel 0 rfl (.sel 0 rfl (.nil _)))))))))) (kv_Store_Sessions.calls _ _ k b0 m0_0 x0_0 m0_1 x0_1 ) hs31v) rfl rfl rfl ?_
 intro y32v
 refine vq (q_len rfl rfl rfl Try.underlying39) rfl ?_
 refine vm rfl rfl (simL_nil (nrm_then ?_))
 refine sim_block ?_
 refine sim_loop (S := Int × List UInt8 × Int) (Option Addr × Nat) (fun k s => kv_Store_Snapshot.l0 s30v k s.1 s.2.1 s.2.2) (fun s y => [(3, .pointer (some ⟨b4v, 0, none⟩)), (36, .slice y32v.1 s30v.length y32v.2), (37, .int .i64 (s30v.length : Int)), (38, .int .i64 s.1)]) (fun s y => [obj b0 63 [.map (some m0_0), .map (some m0_1)], obj y3v.1 100 [.slice y.1 s.2.1.length y.2, .int .i64 s.2.2], obj b4v 71 [.pointer (some ⟨y3v.1, 0, none⟩)], RowV 42 4 (V42 tt) y32v.1 s30v y32v.2, mapO m0_0 enc9 enc9 x0_0, mapO m0_1 enc3 enc42 x0_1, Row 5 1 y.1 s.2.1.length y.2 (encB s.2.1), shutD D23v, F]) (fun _ => by rw [kv_Store_Snapshot.l0]) ?_ k (0, s24v.1, s24v.2) (g27v.1, g27v.2) ⟨rfl, rfl, rfl, rfl, trivial⟩ (.sel 1 rfl (.sel 3 rfl (.sel 5 rfl (.sel 0 rfl (.sel 0 rfl (.sel 0 rfl (.sel 0 rfl (.sel 0 rfl (.sel 0 rfl (.nil _))))))))))
 intro k s33v y34v
 refine sim_eq (by rw [kv_Store_Snapshot.l0]) ?_
 refine sr ?_
 refine vq (q_lss rfl rfl rfl) rfl (simL_nil (nrm_then (sim_seq ?_)))
 refine sim_cond rfl (fun h38v => ?_) (fun h39v => ?_)
 refine sim_skip ?_
 refine nrm_then (sim_seq ?_)
 refine sim_block ?_
 refine sr ?_
 refine simL_openV 3 rfl (fun rs48v hl49v => ?_)
 refine simL_ask (fun hi40v => ?_)
 refine simL_posV 3 rfl hl49v rfl (i := s33v.1.toNat) (by omega) dz86 (fun b41v b41vo r44v ha42v hV45v hlr46v hcell47v => ?_)
 obtain rfl := hV45v
 refine vq (q_idx rfl rfl rfl ha42v Try.underlying39 Try.sizeOf42 hi40v.1 hi40v.2) rfl ?_
 refine vq (q_loads rfl rfl Try.isAgg42 Try.sizeOf42 rfl (fun j v hj => hcell47v 3 rfl j v hj)) rfl ?_
 refine simL_eff (re_alloc rfl Try.zeroValue42 rfl) rfl rfl rfl ?_
 intro b50v
 refine simL_do (re_store 0 rfl rfl rfl Try.sizeOf42 rfl rfl (one_of (by rfl)) rfl rfl) rfl rfl ?_
 intro _
 refine nx ?_
 refine vq (q_load rfl rfl Try.isAgg71 (.obj 3 rfl rfl)) rfl ?_
 refine vq (q_fa rfl rfl Try.underlying42 rfl rfl Try.sizeOf3 rfl) rfl ?_
 refine vq (q_load rfl rfl Try.isAgg3 (.obj 0 rfl rfl)) rfl ?_
 refine simL_bind (fun s51v hs52v => ?_)
 refine simL_eff (re_call (vs := [.pointer (some ⟨y3v.1, 0, none⟩), .int .i64 ((s30v.getD s33v.1.toNat dz86).1)]) (cap := []) (A := [obj y3v.1 100 [.slice y34v.1 s33v.2.1.length y34v.2, .int .i64 s33v.2.2], Row 5 1 y34v.1 s33v.2.1.length y34v.2 (encB s33v.2.1)]) (rst := [obj b50v 42 [.int .i64 ((s30v.getD s33v.1.toNat dz86).1), .int .i64 ((s30v.getD s33v.1.toNat dz86).2.1), .int .i64 ((s30v.getD s33v.1.toNat dz86).2.2.1), str ((s30v.getD s33v.1.toNat dz86).2.2.2)], obj b0 63 [.map (some m0_0), .map (some m0_1)], obj b4v 71 [.pointer (some ⟨y3v.1, 0, none⟩)], Row 42 4 y32v.1 s30v.length y32v.2 rs48v.flatten, mapO m0_0 enc9 enc9 x0_0, mapO m0_1 enc3 enc42 x0_1, shutD D23v, F]) rfl rfl rfl rfl rfl rfl Try.call29 (.sel 2 rfl (.sel 6 rfl (.sel 0 rfl (.sel 0 rfl (.sel 0 rfl (.sel 0 rfl (.sel 0 rfl (.sel 0 rfl (.sel 0 rfl (.sel 0 rfl (.nil _))))))))))) (wire_Writer_Int.calls _ _ k y3v.1 y34v.1 y34v.2 s33v.2.1 s33v.2.2 ((s30v.getD s33v.1.toNat dz86).1) ) hs52v) rfl rfl rfl ?_
 intro y53v
 refine nx ?_
 refine vq (q_load rfl rfl Try.isAgg71 (.obj 4 rfl rfl)) rfl ?_
 refine vq (q_fa rfl rfl Try.underlying42 rfl rfl Try.sizeOf3 rfl) rfl ?_
 refine vq (q_load rfl rfl Try.isAgg3 (.obj 2 rfl rfl)) rfl ?_
 refine simL_bind (fun s54v hs55v => ?_)
 refine simL_eff (re_call (vs := [.pointer (some ⟨y3v.1, 0, none⟩), .int .i64 ((s30v.getD s33v.1.toNat dz86).2.1)]) (cap := []) (A := [obj y3v.1 100 [.slice y53v.1 s51v.1.length y53v.2, .int .i64 s51v.2], Row 5 1 y53v.1 s51v.1.length y53v.2 (encB s51v.1)]) (rst := [obj b50v 42 [.int .i64 ((s30v.getD s33v.1.toNat dz86).1), .int .i64 ((s30v.getD s33v.1.toNat dz86).2.1), .int .i64 ((s30v.getD s33v.1.toNat dz86).2.2.1), str ((s30v.getD s33v.1.toNat dz86).2.2.2)], obj b0 63 [.map (some m0_0), .map (some m0_1)], obj b4v 71 [.pointer (some ⟨y3v.1, 0, none⟩)], Row 42 4 y32v.1 s30v.length y32v.2 rs48v.flatten, mapO m0_0 enc9 enc9 x0_0, mapO m0_1 enc3 enc42 x0_1, shutD D23v, F]) rfl rfl rfl rfl rfl rfl Try.call29 (.sel 0 rfl (.sel 0 rfl (.sel 0 rfl (.sel 0 rfl (.sel 0 rfl (.sel 0 rfl (.sel 0 rfl (.sel 0 rfl (.sel 0 rfl (.sel 0 rfl (.nil _))))))))))) (wire_Writer_Int.calls _ _ k y3v.1 y53v.1 y53v.2 s51v.1 s51v.2 ((s30v.getD s33v.1.toNat dz86).2.1) ) hs55v) rfl rfl rfl ?_
 intro y56v
 refine nx ?_
 refine vq (q_load rfl rfl Try.isAgg71 (.obj 4 rfl rfl)) rfl ?_
 refine vq (q_fa rfl rfl Try.underlying42 rfl rfl Try.sizeOf28 rfl) rfl ?_
 refine vq (q_fa rfl rfl Try.underlying28 rfl rfl Try.sizeOf3 rfl) rfl ?_
 refine vq (q_load rfl rfl Try.isAgg3 (.obj 2 rfl rfl)) rfl ?_
 refine simL_bind (fun s57v hs58v => ?_)
 refine simL_eff (re_call (vs := [.pointer (some ⟨y3v.1, 0, none⟩), .int .i64 ((s30v.getD s33v.1.toNat dz86).2.2.1)]) (cap := []) (A := [obj y3v.1 100 [.slice y56v.1 s54v.1.length y56v.2, .int .i64 s54v.2], Row 5 1 y56v.1 s54v.1.length y56v.2 (encB s54v.1)]) (rst := [obj b50v 42 [.int .i64 ((s30v.getD s33v.1.toNat dz86).1), .int .i64 ((s30v.getD s33v.1.toNat dz86).2.1), .int .i64 ((s30v.getD s33v.1.toNat dz86).2.2.1), str ((s30v.getD s33v.1.toNat dz86).2.2.2)], obj b0 63 [.map (some m0_0), .map (some m0_1)], obj b4v 71 [.pointer (some ⟨y3v.1, 0, none⟩)], Row 42 4 y32v.1 s30v.length y32v.2 rs48v.flatten, mapO m0_0 enc9 enc9 x0_0, mapO m0_1 enc3 enc42 x0_1, shutD D23v, F]) rfl rfl rfl rfl rfl rfl Try.call29 (.sel 0 rfl (.sel 0 rfl (.sel 0 rfl (.sel 0 rfl (.sel 0 rfl (.sel 0 rfl (.sel 0 rfl (.sel 0 rfl (.sel 0 rfl (.sel 0 rfl (.nil _))))))))))) (wire_Writer_Int.calls _ _ k y3v.1 y56v.1 y56v.2 s54v.1 s54v.2 ((s30v.getD s33v.1.toNat dz86).2.2.1) ) hs58v) rfl rfl rfl ?_
 intro y59v
 refine ny ?_
 refine vq (q_load rfl rfl Try.isAgg71 (.obj 4 rfl rfl)) rfl ?_
 refine vq (q_fa rfl rfl Try.underlying42 rfl rfl Try.sizeOf28 rfl) rfl ?_
 refine vq (q_fa rfl rfl Try.underlying28 rfl rfl Try.sizeOf9 rfl) rfl ?_
 refine vq (q_load rfl rfl Try.isAgg9 (.obj 2 rfl rfl)) rfl ?_
 refine simL_bind (fun s60v hs61v => ?_)
 refine simL_eff (re_call (vs := [.pointer (some ⟨y3v.1, 0, none⟩), str ((s30v.getD s33v.1.toNat dz86).2.2.2), .int .i64 1024]) (cap := []) (A := [obj y3v.1 100 [.slice y59v.1 s57v.1.length y59v.2, .int .i64 s57v.2], Row 5 1 y59v.1 s57v.1.length y59v.2 (encB s57v.1)]) (rst := [obj b50v 42 [.int .i64 ((s30v.getD s33v.1.toNat dz86).1), .int .i64 ((s30v.getD s33v.1.toNat dz86).2.1), .int .i64 ((s30v.getD s33v.1.toNat dz86).2.2.1), str ((s30v.getD s33v.1.toNat dz86).2.2.2)], obj b0 63 [.map (some m0_0), .map (some m0_1)], obj b4v 71 [.pointer (some ⟨y3v.1, 0, none⟩)], Row 42 4 y32v.1 s30v.length y32v.2 rs48v.flatten, mapO m0_0 enc9 enc9 x0_0, mapO m0_1 enc3 enc42 x0_1, shutD D23v, F]) rfl rfl rfl rfl rfl rfl Try.call31 (.sel 0 rfl (.sel 0 rfl (.sel 0 rfl (.sel 0 rfl (.sel 0 rfl (.sel 0 rfl (.sel 0 rfl (.sel 0 rfl (.sel 0 rfl (.sel 0 rfl (.nil _))))))))))) (wire_Writer_Text.calls _ _ k y3v.1 y59v.1 y59v.2 s57v.1 s57v.2 ((s30v.getD s33v.1.toNat dz86).2.2.2) (1024 : Int) ) hs61v) rfl rfl rfl ?_
 intro y62v
 refine simL_nil (nrm_block (nrm_then (sim_region ?_)))
 refine vq (q_add rfl rfl rfl) rfl ?_
 refine vm rfl rfl (simL_nil ?_)
 exact nrm_again (s := (IntKind.i64.wrap (s33v.1 + 1), s60v.1, s60v.2)) (y62v.1, y62v.2) ⟨rfl, rfl, rfl, rfl, trivial⟩ (.sel 3 rfl (.sel 0 rfl (.sel 2 rfl (.sel' 2 rfl (RowV.mk hl49v) (.sel 2 rfl (.sel 2 rfl (.sel 0 rfl (.sel 1 rfl (.sel 1 rfl (.nil _))))))))))
 refine sim_exi ?_
 refine exi_then ?_
 refine exi_loop ?_
 refine exi_here ?_
 exact nrm_cut (s := (s33v.2.1, s33v.2.2)) (y34v.1, y34v.2) ⟨rfl, trivial⟩ (.sel 0 rfl (.sel 0 rfl (.sel 0 rfl (.sel 1 rfl (.sel 1 rfl (.sel 1 rfl (.sel 1 rfl (.sel 1 rfl (.nil _)))))))))
 intro s28v y29v
 refine sr ?_
 refine vq (q_load rfl rfl Try.isAgg71 (.obj 2 rfl rfl)) rfl ?_
 refine simL_bind (fun s67v hs68v => ?_)
 refine simL_lend 5 rfl (fun hq63v hq64v hq65v hq66v => ?_)
 refine simL_eff (re_call (vs := [.pointer (some ⟨y3v.1, 0, none⟩)]) (cap := []) (A := [obj y3v.1 100 [.slice y29v.1 s28v.1.length y29v.2, .int .i64 s28v.2]]) (rst := [obj b0 63 [.map (some m0_0), .map (some m0_1)], obj b4v 71 [.pointer (some ⟨y3v.1, 0, none⟩)], mapO m0_0 enc9 enc9 x0_0, mapO m0_1 enc3 enc42 x0_1, Row 5 1 y29v.1 s28v.1.length y29v.2 (encB s28v.1), shutD D23v, F]) rfl rfl rfl rfl rfl rfl Try.call32 (.sel 1 rfl (.sel 0 rfl (.sel 0 rfl (.sel 0 rfl (.sel 0 rfl (.sel 0 rfl (.sel 0 rfl (.sel 0 rfl (.nil _))))))))) (wire_Writer_Done.calls _ _ y3v.1 y29v.1 y29v.2 s28v.1 s28v.2 (hq63v.lend 4 rfl) hq64v hq65v) hs68v) rfl rfl rfl ?_
 intro y69v
 refine vm rfl rfl ?_
 refine vq (q_ext rfl rfl rfl) rfl ?_
 refine vq (q_ext rfl rfl rfl) rfl ?_
 refine va rfl rfl ?_
 refine va rfl rfl (nx ?_)
 refine vm rfl rfl ?_
 refine va rfl rfl (simL_nil (nrm_then (sim_rtn ?_)))
 exact rtn_fnM [D23v] (y69v.1, y69v.2) rfl rfl rfl (.sel 7 rfl (.sel 0 rfl (.sel 1 rfl (.sel 2 rfl (.sel 2 rfl (.sel 3 rfl (.nil _)))))))

def synodref1_Size.l0 : Nat → Int → Int → Option (Int)
  | 0, _, _ => none
  | k + 1, z7v, z8v => if (128 : Int) ≤ z7v then (synodref1_Size.l0 k (IntKind.i64.wrap (Int.tdiv z7v 128)) (IntKind.i64.wrap (z8v + 1))) else (some z8v)
def synodref1_Size.f (k : Nat) (x0 : Int) : Option (Int) := if ((decide (x0 < (0 : Int))) || (decide ((4611686018427387904 : Int) < x0))) = true then (some 0) else ((synodref1_Size.l0 k x0 1).bind fun s3v => (some s3v))
theorem synodref1_Size.calls (W : World) (F : HA) (k : Nat) (x0 : Int)  :
    Fn Try.prog W 84 [.int .i64 x0] [] F (synodref1_Size.f k x0) (fun (r : Int) (y : Unit) => .int .i64 r) (fun r y => []) := by
 unfold synodref1_Size.f
 refine fn_intro 17 Try.func84 rfl Try.ntmps84 rfl ?_
 refine sr ?_
 refine va rfl rfl (simL_nil (nrm_then (sim_seq (sr ?_))))
 refine vm rfl rfl ?_
 refine vq (q_lss rfl rfl rfl) rfl ?_
 refine vm rfl rfl ?_
 refine simL_valc (b := decide (x0 < (0 : Int))) (fun hb13v => RQ.sub (E' := [(0, .int .i64 x0)]) ⟨rfl, trivial⟩ (q_move rfl rfl)) rfl rfl rfl rfl rfl ?_
 refine simL_valc (b := decide (x0 < (0 : Int))) (fun hb12v => RQ.sub (E' := [(7, .int .i64 x0)]) ⟨lk_cv rfl hb12v, trivial⟩ (q_gtr rfl rfl rfl)) rfl rfl rfl rfl rfl ?_
 refine vq (q_or rfl rfl rfl) rfl (simL_nil (nrm_then ?_))
 refine sim_condb rfl (fun h1v => ?_) (fun h2v => ?_)
 refine sr ?_
 refine va rfl rfl (simL_nil (nrm_then (sim_rtn ?_)))
 refine rtn_then ?_
 exact rtn_fn () rfl rfl rfl (.sel 0 rfl (.nil _))
 refine sim_skip ?_
 refine nrm_then (sr ?_)
 refine va rfl rfl (simL_nil (nrm_then ?_))
 refine sim_cut (S := Int) (Unit) (fun s y => [(3, .int .i64 s)]) (fun s y => [F]) ?_ ?_
 refine sim_block ?_
 refine sim_loop (S := Int × Int) (Unit) (fun k s => synodref1_Size.l0 k s.1 s.2) (fun s y => [(0, .int .i64 s.1), (3, .int .i64 s.2)]) (fun s y => [F]) (fun _ => by rw [synodref1_Size.l0]) ?_ k (x0, 1) () ⟨rfl, rfl, trivial⟩ (.sel 0 rfl (.nil _))
 intro k s5v y6v
 refine sim_eq (by rw [synodref1_Size.l0]) ?_
 refine sim_seq (sr ?_)
 refine vm rfl rfl ?_
 refine vq (q_geq rfl rfl rfl) rfl (simL_nil (nrm_then ?_))
 refine sim_cond rfl (fun h9v => ?_) (fun h10v => ?_)
 refine sim_skip ?_
 refine nrm_then ?_
 refine sim_block ?_
 refine sr ?_
 refine vm rfl rfl ?_
 refine vq (q_quo rfl rfl rfl (by decide)) rfl ?_
 refine va rfl rfl (ny ?_)
 refine vm rfl rfl ?_
 refine vq (q_add rfl rfl rfl) rfl ?_
 refine va rfl rfl (simL_nil (nrm_block ?_))
 exact nrm_again (s := (IntKind.i64.wrap (Int.tdiv s5v.1 128), IntKind.i64.wrap (s5v.2 + 1))) () ⟨rfl, rfl, trivial⟩ (.sel 0 rfl (.nil _))
 refine sim_exi ?_
 refine exi_then ?_
 refine exi_loop ?_
 refine exi_here ?_
 exact nrm_cut (s := s5v.2) () ⟨rfl, trivial⟩ (.sel 0 rfl (.nil _))
 intro s3v y4v
 refine sr ?_
 refine vm rfl rfl ?_
 refine va rfl rfl (simL_nil (nrm_then (sim_rtn ?_)))
 exact rtn_fn () rfl rfl rfl (.sel 0 rfl (.nil _))

def synodref1_PutInt.l0 : Nat → Int → List UInt8 → Option (Int × List UInt8)
  | 0, _, _ => none
  | k + 1, z10v, z11v => if (128 : Int) ≤ z10v then (if 0 ≤ IntKind.u8.wrap (IntKind.i64.wrap ((Int.tmod z10v 128) + 128)) ∧ IntKind.u8.wrap (IntKind.i64.wrap ((Int.tmod z10v 128) + 128)) < 256 then (if (z11v.length + ([(byte (IntKind.u8.wrap (IntKind.i64.wrap ((Int.tmod z10v 128) + 128))))] : List UInt8).length) * 1 ≤ 140737488355328 then (synodref1_PutInt.l0 k (IntKind.i64.wrap (Int.tdiv z10v 128)) (z11v ++ ([(byte (IntKind.u8.wrap (IntKind.i64.wrap ((Int.tmod z10v 128) + 128))))] : List UInt8))) else none) else none) else (some (z10v, z11v))
def synodref1_PutInt.f (k : Nat) (x0 : Int) : Option (List UInt8 × Int) := (synodref1_Size.f k x0).bind fun s1v => (if s1v = (0 : Int) then (some (([] : List UInt8), 1)) else ((synodref1_PutInt.l0 k x0 ([] : List UInt8)).bind fun s6v => (if 0 ≤ IntKind.u8.wrap s6v.1 ∧ IntKind.u8.wrap s6v.1 < 256 then (if (s6v.2.length + ([(byte (IntKind.u8.wrap s6v.1))] : List UInt8).length) * 1 ≤ 140737488355328 then (some (s6v.2 ++ ([(byte (IntKind.u8.wrap s6v.1))] : List UInt8), 0)) else none) else none)))
theorem synodref1_PutInt.calls (W : World) (F : HA) (k : Nat) (x0 : Int)  :
    Fn Try.prog W 69 [.int .i64 x0] [] F (synodref1_PutInt.f k x0) (fun (r : List UInt8 × Int) (y : Option Addr × Nat) => .tuple #[.slice y.1 r.1.length y.2, .int .i64 r.2]) (fun r y => [Row 5 1 y.1 r.1.length y.2 (encB r.1)]) := by
 unfold synodref1_PutInt.f
 refine fn_intro 24 Try.func69 rfl Try.ntmps69 rfl ?_
 refine sr ?_
 refine va rfl rfl ?_
 refine va rfl rfl (simL_nil (nrm_then (sim_seq (sr ?_))))
 refine vm rfl rfl ?_
 refine simL_bind (fun s1v hs2v => ?_)
 refine simL_eff (re_call (vs := [.int .i64 x0]) (cap := []) (A := []) (rst := [F]) rfl rfl rfl rfl rfl rfl Try.call84 (.sel 0 rfl (.nil _)) (synodref1_Size.calls _ _ k x0 ) hs2v) rfl rfl rfl ?_
 intro y3v
 refine vq (q_eql rfl rfl rfl) rfl (simL_nil (nrm_then ?_))
 refine sim_cond rfl (fun h4v => ?_) (fun h5v => ?_)
 refine sr ?_
 refine va rfl rfl ?_
 refine va rfl rfl (simL_nil (nrm_then (sim_rtn ?_)))
 refine rtn_then ?_
 exact rtn_fn (none, 0) rfl rfl rfl (.row_nil (.sel 0 rfl (.nil _)))
 refine sim_skip ?_
 refine nrm_then (sr ?_)
 refine va rfl rfl (simL_nil (nrm_then ?_))
 refine sim_cut (S := Int × List UInt8) (Option Addr × Nat) (fun s y => [(0, .int .i64 s.1), (4, .slice y.1 s.2.length y.2)]) (fun s y => [Row 5 1 y.1 s.2.length y.2 (encB s.2), F]) ?_ ?_
 refine sim_block ?_
 refine sim_loop (S := Int × List UInt8) (Option Addr × Nat) (fun k s => synodref1_PutInt.l0 k s.1 s.2) (fun s y => [(0, .int .i64 s.1), (4, .slice y.1 s.2.length y.2)]) (fun s y => [Row 5 1 y.1 s.2.length y.2 (encB s.2), F]) (fun _ => by rw [synodref1_PutInt.l0]) ?_ k (x0, ([] : List UInt8)) (none, 0) ⟨rfl, rfl, trivial⟩ (.row_nil (.sel 0 rfl (.nil _)))
 intro k s8v y9v
 refine sim_eq (by rw [synodref1_PutInt.l0]) ?_
 refine sim_seq (sr ?_)
 refine vm rfl rfl ?_
 refine vq (q_geq rfl rfl rfl) rfl (simL_nil (nrm_then ?_))
 refine sim_cond rfl (fun h12v => ?_) (fun h13v => ?_)
 refine sim_skip ?_
 refine nrm_then ?_
 refine sim_block ?_
 refine sr ?_
 refine vm rfl rfl ?_
 refine vm rfl rfl ?_
 refine vq (q_rem rfl rfl rfl (by decide)) rfl ?_
 refine vq (q_add rfl rfl rfl) rfl ?_
 refine vq (q_conv rfl rfl Try.underlying3 Try.underlying5) rfl ?_
 refine simL_ask (fun hb16v => ?_)
 refine simL_eff (re_litb (cs := [.int .u8 (IntKind.u8.wrap (IntKind.i64.wrap ((Int.tmod s8v.1 128) + 128)))]) ([(byte (IntKind.u8.wrap (IntKind.i64.wrap ((Int.tmod s8v.1 128) + 128))))] : List UInt8) rfl rfl Try.underlying35 elt5 rfl (by kernel_rfl) rfl rfl (byte_lit1 hb16v)) rfl rfl rfl ?_
 intro b15v
 refine simL_ask (fun hb18v => ?_)
 refine simL_eff (re_appendb 1 rfl rfl rfl Try.underlying35 elt5 rfl (Rds.row 0 rfl) hb18v) rfl rfl rfl ?_
 intro y17v
 refine va rfl rfl (ny ?_)
 refine vm rfl rfl ?_
 refine vq (q_quo rfl rfl rfl (by decide)) rfl ?_
 refine va rfl rfl (simL_nil (nrm_block ?_))
 exact nrm_again (s := (IntKind.i64.wrap (Int.tdiv s8v.1 128), s8v.2 ++ ([(byte (IntKind.u8.wrap (IntKind.i64.wrap ((Int.tmod s8v.1 128) + 128))))] : List UInt8))) (y17v.1, y17v.2) ⟨rfl, rfl, trivial⟩ (.sel 1 rfl (.sel 1 rfl (.nil _)))
 refine sim_exi ?_
 refine exi_then ?_
 refine exi_loop ?_
 refine exi_here ?_
 exact nrm_cut (s := (s8v.1, s8v.2)) (y9v.1, y9v.2) ⟨rfl, rfl, trivial⟩ (.sel 0 rfl (.sel 0 rfl (.nil _)))
 intro s6v y7v
 refine sr ?_
 refine vm rfl rfl ?_
 refine vm rfl rfl ?_
 refine vq (q_conv rfl rfl Try.underlying3 Try.underlying5) rfl ?_
 refine simL_ask (fun hb21v => ?_)
 refine simL_eff (re_litb (cs := [.int .u8 (IntKind.u8.wrap s6v.1)]) ([(byte (IntKind.u8.wrap s6v.1))] : List UInt8) rfl rfl Try.underlying35 elt5 rfl (by kernel_rfl) rfl rfl (byte_lit1 hb21v)) rfl rfl rfl ?_
 intro b20v
 refine simL_ask (fun hb23v => ?_)
 refine simL_eff (re_appendb 1 rfl rfl rfl Try.underlying35 elt5 rfl (Rds.row 0 rfl) hb23v) rfl rfl rfl ?_
 intro y22v
 refine va rfl rfl ?_
 refine va rfl rfl (simL_nil (nrm_then (sim_rtn ?_)))
 exact rtn_fn (y22v.1, y22v.2) rfl rfl rfl (.sel 1 rfl (.sel 1 rfl (.nil _)))

def synodref1_Writer_Int.f (k : Nat) (x0_0 : List UInt8) (x0_1 : Int) (x1 : Int) : Option (List UInt8 × Int) := if x0_1 = (0 : Int) then ((synodref1_PutInt.f k x1).bind fun s3v => (if (x0_0.length + s3v.1.length) * 1 ≤ 140737488355328 then (some (x0_0 ++ s3v.1, s3v.2)) else none)) else (some (x0_0, x0_1))
theorem synodref1_Writer_Int.calls (W : World) (F : HA) (k : Nat) (b0 : Nat) (a0_0 : Option Addr) (c0_0 : Nat) (x0_0 : List UInt8) (x0_1 : Int) (x1 : Int)  :
    Fn Try.prog W 58 [.pointer (some ⟨b0, 0, none⟩), .int .i64 x1] [obj b0 117 [.slice a0_0 x0_0.length c0_0, .int .i64 x0_1], Row 5 1 a0_0 x0_0.length c0_0 (encB x0_0)] F (synodref1_Writer_Int.f k x0_0 x0_1 x1) (fun (r : List UInt8 × Int) (y : Option Addr × Nat) => .tuple #[]) (fun r y => [obj b0 117 [.slice y.1 r.1.length y.2, .int .i64 r.2], Row 5 1 y.1 r.1.length y.2 (encB r.1)]) := by
 unfold synodref1_Writer_Int.f
 refine fn_intro 29 Try.func58 rfl Try.ntmps58 rfl ?_
 refine sim_seq (sr ?_)
 refine vm rfl rfl ?_
 refine vn rfl rfl ?_
 refine vq (q_fa rfl rfl Try.underlying117 rfl rfl Try.sizeOf3 rfl) rfl ?_
 refine vq (q_load rfl rfl Try.isAgg3 (.obj 0 rfl rfl)) rfl ?_
 refine vq (q_neq rfl rfl rfl) rfl (simL_nil (nrm_then ?_))
 refine sim_condn rfl (fun h1v => ?_) (fun h2v => ?_)
 refine sim_skip ?_
 refine nrm_then (sr ?_)
 refine vm rfl rfl ?_
 refine simL_bind (fun s3v hs4v => ?_)
 refine simL_eff (re_call (vs := [.int .i64 x1]) (cap := []) (A := []) (rst := [obj b0 117 [.slice a0_0 x0_0.length c0_0, .int .i64 x0_1], Row 5 1 a0_0 x0_0.length c0_0 (encB x0_0), F]) rfl rfl rfl rfl rfl rfl Try.call69 (.sel 0 rfl (.sel 0 rfl (.sel 0 rfl (.nil _)))) (synodref1_PutInt.calls _ _ k x1 ) hs4v) rfl rfl rfl ?_
 intro y5v
 refine vm rfl rfl ?_
 refine vq (q_ext rfl rfl rfl) rfl ?_
 refine vq (q_ext rfl rfl rfl) rfl ?_
 refine va rfl rfl ?_
 refine va rfl rfl (nx ?_)
 refine vm rfl rfl ?_
 refine vm rfl rfl ?_
 refine vn rfl rfl ?_
 refine vq (q_fa rfl rfl Try.underlying117 rfl rfl Try.sizeOf3 rfl) rfl ?_
 refine simL_do (re_store 1 rfl rfl rfl Try.sizeOf3 rfl rfl (one_of (by rfl)) rfl rfl) rfl rfl ?_
 intro _
 refine ny ?_
 refine vm rfl rfl ?_
 refine vm rfl rfl ?_
 refine vn rfl rfl ?_
 refine vq (q_fa rfl rfl Try.underlying117 rfl rfl Try.sizeOf35 rfl) rfl ?_
 refine vq (q_load rfl rfl Try.isAgg35 (.obj 1 rfl rfl)) rfl ?_
 refine vm rfl rfl ?_
 refine simL_ask (fun hb7v => ?_)
 refine simL_eff (re_appendb 2 rfl rfl rfl Try.underlying35 elt5 rfl (Rds.row 0 rfl) hb7v) rfl rfl rfl ?_
 intro y6v
 refine vn rfl rfl ?_
 refine vq (q_fa rfl rfl Try.underlying117 rfl rfl Try.sizeOf35 rfl) rfl ?_
 refine simL_do (re_store 1 rfl rfl rfl Try.sizeOf35 rfl rfl (one_of (by rfl)) rfl rfl) rfl rfl ?_
 intro _
 refine simL_nil ?_
 exact nrm_fn (y6v.1, y6v.2) rfl rfl rfl (.sel 1 rfl (.sel 1 rfl (.sel 1 rfl (.nil _))))
 refine sim_rtn ?_
 refine rtn_then ?_
 exact rtn_fn (a0_0, c0_0) rfl rfl rfl (.sel 0 rfl (.sel 0 rfl (.sel 0 rfl (.nil _))))

def synodref1_Writer_Bytes.f (k : Nat) (x0_0 : List UInt8) (x0_1 : Int) (x1 : List UInt8) (x2 : Int) : Option (List UInt8 × Int) := if x0_1 = (0 : Int) then (if max x2 (0 : Int) < (x1.length : Int) then (some (x0_0, 3)) else ((synodref1_Writer_Int.f k x0_0 x0_1 (x1.length : Int)).bind fun s5v => (if (s5v.1.length + x1.length) * 1 ≤ 140737488355328 then (some (s5v.1 ++ x1, s5v.2)) else none))) else (some (x0_0, x0_1))
theorem synodref1_Writer_Bytes.calls (W : World) (F : HA) (k : Nat) (b0 : Nat) (a0_0 : Option Addr) (c0_0 : Nat) (x0_0 : List UInt8) (x0_1 : Int) (a1 : Option Addr) (c1 : Nat) (x1 : List UInt8) (x2 : Int) (h1 : Rd F a1 (encB x1)) (hc1 : x1.length ≤ c1) (hm1 : c1 ≤ maxLen) :
    Fn Try.prog W 70 [.pointer (some ⟨b0, 0, none⟩), .slice a1 x1.length c1, .int .i64 x2] [obj b0 117 [.slice a0_0 x0_0.length c0_0, .int .i64 x0_1], Row 5 1 a0_0 x0_0.length c0_0 (encB x0_0)] F (synodref1_Writer_Bytes.f k x0_0 x0_1 x1 x2) (fun (r : List UInt8 × Int) (y : Option Addr × Nat) => .tuple #[]) (fun r y => [obj b0 117 [.slice y.1 r.1.length y.2, .int .i64 r.2], Row 5 1 y.1 r.1.length y.2 (encB r.1)]) := by
 unfold synodref1_Writer_Bytes.f
 refine fn_intro 32 Try.func70 rfl Try.ntmps70 rfl ?_
 refine sim_seq (sr ?_)
 refine vm rfl rfl ?_
 refine vn rfl rfl ?_
 refine vq (q_fa rfl rfl Try.underlying117 rfl rfl Try.sizeOf3 rfl) rfl ?_
 refine vq (q_load rfl rfl Try.isAgg3 (.obj 0 rfl rfl)) rfl ?_
 refine vq (q_neq rfl rfl rfl) rfl (simL_nil (nrm_then ?_))
 refine sim_condn rfl (fun h1v => ?_) (fun h2v => ?_)
 refine sim_skip ?_
 refine nrm_then (sim_seq (sr ?_))
 refine vm rfl rfl ?_
 refine vq (q_len rfl rfl rfl Try.underlying35) rfl ?_
 refine vm rfl rfl ?_
 refine vq (q_max rfl rfl rfl) rfl ?_
 refine vq (q_gtr rfl rfl rfl) rfl (simL_nil (nrm_then ?_))
 refine sim_cond rfl (fun h3v => ?_) (fun h4v => ?_)
 refine sr ?_
 refine vm rfl rfl ?_
 refine vn rfl rfl ?_
 refine vq (q_fa rfl rfl Try.underlying117 rfl rfl Try.sizeOf3 rfl) rfl ?_
 refine simL_do (re_store 0 rfl rfl rfl Try.sizeOf3 rfl rfl (one_of (by rfl)) rfl rfl) rfl rfl ?_
 intro _
 refine simL_nil (nrm_then (sim_rtn ?_))
 refine rtn_then ?_
 exact rtn_fn (a0_0, c0_0) rfl rfl rfl (.sel 0 rfl (.sel 0 rfl (.sel 0 rfl (.nil _))))
 refine sim_skip ?_
 refine nrm_then (sr ?_)
 refine vm rfl rfl ?_
 refine vm rfl rfl ?_
 refine vq (q_len rfl rfl rfl Try.underlying35) rfl ?_
 refine simL_bind (fun s5v hs6v => ?_)
 refine simL_eff (re_call (vs := [.pointer (some ⟨b0, 0, none⟩), .int .i64 (x1.length : Int)]) (cap := []) (A := [obj b0 117 [.slice a0_0 x0_0.length c0_0, .int .i64 x0_1], Row 5 1 a0_0 x0_0.length c0_0 (encB x0_0)]) (rst := [F]) rfl rfl rfl rfl rfl rfl Try.call58 (.sel 0 rfl (.sel 0 rfl (.sel 0 rfl (.nil _)))) (synodref1_Writer_Int.calls _ _ k b0 a0_0 c0_0 x0_0 x0_1 (x1.length : Int) ) hs6v) rfl rfl rfl ?_
 intro y7v
 refine ny ?_
 refine vm rfl rfl ?_
 refine vm rfl rfl ?_
 refine vn rfl rfl ?_
 refine vq (q_fa rfl rfl Try.underlying117 rfl rfl Try.sizeOf35 rfl) rfl ?_
 refine vq (q_load rfl rfl Try.isAgg35 (.obj 0 rfl rfl)) rfl ?_
 refine vm rfl rfl ?_
 refine simL_ask (fun hb9v => ?_)
 refine simL_eff (re_appendb 1 rfl rfl rfl Try.underlying35 elt5 rfl (h1.rds 1 rfl) hb9v) rfl rfl rfl ?_
 intro y8v
 refine vn rfl rfl ?_
 refine vq (q_fa rfl rfl Try.underlying117 rfl rfl Try.sizeOf35 rfl) rfl ?_
 refine simL_do (re_store 0 rfl rfl rfl Try.sizeOf35 rfl rfl (one_of (by rfl)) rfl rfl) rfl rfl ?_
 intro _
 refine simL_nil ?_
 exact nrm_fn (y8v.1, y8v.2) rfl rfl rfl (.sel 0 rfl (.sel 0 rfl (.sel 0 rfl (.nil _))))
 refine sim_rtn ?_
 refine rtn_then ?_
 exact rtn_fn (a0_0, c0_0) rfl rfl rfl (.sel 0 rfl (.sel 0 rfl (.sel 0 rfl (.nil _))))

def synodref1_Writer_Text.f (k : Nat) (x0_0 : List UInt8) (x0_1 : Int) (x1 : List UInt8) (x2 : Int) : Option (List UInt8 × Int) := if x1.length ≤ 140737488355328 then ((synodref1_Writer_Bytes.f k x0_0 x0_1 x1 x2).bind fun s7v => (some (s7v.1, s7v.2))) else none
theorem synodref1_Writer_Text.calls (W : World) (F : HA) (k : Nat) (b0 : Nat) (a0_0 : Option Addr) (c0_0 : Nat) (x0_0 : List UInt8) (x0_1 : Int) (x1 : List UInt8) (x2 : Int)  :
    Fn Try.prog W 59 [.pointer (some ⟨b0, 0, none⟩), str x1, .int .i64 x2] [obj b0 117 [.slice a0_0 x0_0.length c0_0, .int .i64 x0_1], Row 5 1 a0_0 x0_0.length c0_0 (encB x0_0)] F (synodref1_Writer_Text.f k x0_0 x0_1 x1 x2) (fun (r : List UInt8 × Int) (y : Option Addr × Nat) => .tuple #[]) (fun r y => [obj b0 117 [.slice y.1 r.1.length y.2, .int .i64 r.2], Row 5 1 y.1 r.1.length y.2 (encB r.1)]) := by
 unfold synodref1_Writer_Text.f
 refine fn_intro 11 Try.func59 rfl Try.ntmps59 rfl ?_
 refine sim_region ?_
 refine vm rfl rfl ?_
 refine vm rfl rfl ?_
 refine simL_ask (fun hb2v => ?_)
 refine simL_eff (re_tobytes rfl rfl Try.underlying9 Try.underlying35 Try.underlying5 hb2v) rfl rfl rfl ?_
 intro y1v
 refine vm rfl rfl ?_
 refine simL_bind (fun s7v hs8v => ?_)
 refine simL_lend 0 rfl (fun hq3v hq4v hq5v hq6v => ?_)
 refine simL_eff (re_call (vs := [.pointer (some ⟨b0, 0, none⟩), .slice (some ⟨y1v.1, 0, none⟩) x1.length y1v.2, .int .i64 x2]) (cap := []) (A := [obj b0 117 [.slice a0_0 x0_0.length c0_0, .int .i64 x0_1], Row 5 1 a0_0 x0_0.length c0_0 (encB x0_0)]) (rst := [Row 5 1 (some ⟨y1v.1, 0, none⟩) x1.length y1v.2 (encB x1), F]) rfl rfl rfl rfl rfl rfl Try.call70 (.sel 1 rfl (.sel 1 rfl (.sel 0 rfl (.sel 0 rfl (.nil _))))) (synodref1_Writer_Bytes.calls _ _ k b0 a0_0 c0_0 x0_0 x0_1 (some ⟨y1v.1, 0, none⟩) y1v.2 x1 x2 (hq3v.lend 0 rfl) hq4v hq5v) hs8v) rfl rfl rfl ?_
 intro y9v
 refine simL_nil ?_
 exact nrm_fn (y9v.1, y9v.2) rfl rfl rfl (.sel 0 rfl (.sel 0 rfl (.sel 1 rfl (.nil _))))

def synodref1_Writer_Done.f (x0_0 : List UInt8) (x0_1 : Int) : Option (List UInt8 × Int) := if x0_1 = (0 : Int) then (some (x0_0, 0)) else (some (([] : List UInt8), x0_1))
theorem synodref1_Writer_Done.calls (W : World) (F : HA) (G : HA) (hG : Up G F) (b0 : Nat) (a0_0 : Option Addr) (c0_0 : Nat) (x0_0 : List UInt8) (x0_1 : Int) (h0_0 : Rd G a0_0 (encB x0_0)) (hc0_0 : x0_0.length ≤ c0_0) (hm0_0 : c0_0 ≤ maxLen) :
    Fn Try.prog W 60 [.pointer (some ⟨b0, 0, none⟩)] [obj b0 117 [.slice a0_0 x0_0.length c0_0, .int .i64 x0_1]] F (synodref1_Writer_Done.f x0_0 x0_1) (fun (r : List UInt8 × Int) (y : Option Addr × Nat) => .tuple #[.slice y.1 r.1.length y.2, .int .i64 r.2]) (fun r y => [pr (Rd (G) y.1 (encB r.1) ∧ r.1.length ≤ y.2 ∧ y.2 ≤ maxLen), obj b0 117 [.slice a0_0 x0_0.length c0_0, .int .i64 x0_1]]) := by
 unfold synodref1_Writer_Done.f
 refine fn_intro 17 Try.func60 rfl Try.ntmps60 rfl ?_
 refine sr ?_
 refine va rfl rfl ?_
 refine va rfl rfl (simL_nil (nrm_then (sim_seq (sr ?_))))
 refine vm rfl rfl ?_
 refine vn rfl rfl ?_
 refine vq (q_fa rfl rfl Try.underlying117 rfl rfl Try.sizeOf3 rfl) rfl ?_
 refine vq (q_load rfl rfl Try.isAgg3 (.obj 0 rfl rfl)) rfl ?_
 refine vq (q_neq rfl rfl rfl) rfl (simL_nil (nrm_then ?_))
 refine sim_condn rfl (fun h1v => ?_) (fun h2v => ?_)
 refine sim_skip ?_
 refine nrm_then (sr ?_)
 refine vm rfl rfl ?_
 refine vn rfl rfl ?_
 refine vq (q_fa rfl rfl Try.underlying117 rfl rfl Try.sizeOf35 rfl) rfl ?_
 refine vq (q_load rfl rfl Try.isAgg35 (.obj 0 rfl rfl)) rfl ?_
 refine va rfl rfl ?_
 refine va rfl rfl (simL_nil (nrm_then (sim_rtn ?_)))
 exact rtn_fn (a0_0, c0_0) rfl rfl rfl (.pr_in ⟨h0_0, hc0_0, hm0_0⟩ (.sel 0 rfl (.sel 0 rfl (.nil _))))
 refine sim_seq ?_
 refine sim_draw (Γ := Unit) () [[], [0], [0, 1], [0, 1, 2], [], rL 5] [] [0, 1, 2, 3, 4, 5] (fun i => [[0], [0], [0], [0], [0], [0]].getD i []) (fun i => [[], [], [], [], [], []].getD i []) (fun γ i => [.pointer (some ⟨b0, 0, none⟩), .pointer (some ⟨b0, 0, none⟩), .pointer (some ⟨b0, 1, none⟩), .int .i64 x0_1, .slice none 0 0, .int .i64 x0_1].getD i undef) (fun j γ => [[obj b0 117 [.slice a0_0 x0_0.length c0_0, .int .i64 x0_1], F]].getD j []) (fun γ => [(2, .slice none 0 0), (3, .int .i64 x0_1)]) mixed (by decide) (by decide) (by decide) (by decide) (by decide) (by decide) (by decide) 17 rfl (by decide) (by decide) (by decide) (Ent.refl _) ?_ ?_ (fun _ => ⟨rfl, rfl, trivial⟩) ?_
 exact (aq rfl (fun γ => qm rfl (.o (s := 0) rfl (by decide) .nil) rfl) (aq rfl (fun γ => qp rfl rfl (.v 0 rfl rfl .nil) (q_nil rfl rfl) rfl) (aq rfl (fun γ => qp rfl rfl (.v 1 rfl rfl .nil) (q_fa rfl rfl Try.underlying117 rfl rfl Try.sizeOf3 rfl) rfl) (aq rfl (fun γ => qp rfl rfl (.v 2 rfl rfl .nil) (q_load rfl rfl Try.isAgg3 (.obj 0 rfl rfl)) rfl) (aq rfl (fun γ => qp rfl rfl .nil (q_asg rfl rfl) rfl) (aq rfl (fun γ => qp rfl rfl (.v 3 rfl rfl .nil) (q_asg rfl rfl) rfl) zA))))))
 exact zA
 intro g3v
 refine nrm_then (sim_rtn ?_)
 refine rtn_then ?_
 exact rtn_fn (none, 0) rfl rfl rfl (.pr_in ⟨Rd.nil _ _, Nat.le_refl _, Nat.zero_le _⟩ (.sel 0 rfl (.sel 0 rfl (.nil _))))

def synodref1_Writer_Done_s_c0.f (xp0_0 : List UInt8) (xp0_1 : Int) : Option (List UInt8 × Int) := if xp0_1 = (0 : Int) then (some (xp0_0, 0)) else (some (([] : List UInt8), xp0_1))
theorem synodref1_Writer_Done_s_c0.calls (W : World) (F : HA) (G : HA) (hG : Up G F) (bp0 : Nat) (ap0_0 : Option Addr) (cp0_0 : Nat) (xp0_0 : List UInt8) (xp0_1 : Int) (hp0_0 : Rd G ap0_0 (encB xp0_0)) (hcp0_0 : xp0_0.length ≤ cp0_0) (hmp0_0 : cp0_0 ≤ maxLen) :
    Fn Try.prog W 60 [.pointer (some ⟨bp0, 0, none⟩)] [obj bp0 117 [.slice ap0_0 xp0_0.length cp0_0, .int .i64 xp0_1]] F (synodref1_Writer_Done_s_c0.f xp0_0 xp0_1) (fun (r : List UInt8 × Int) (y : Option Addr × Nat) => .tuple #[.slice y.1 r.1.length y.2, .int .i64 r.2]) (fun r y => [pr (Rd (G) y.1 (encB r.1) ∧ r.1.length ≤ y.2 ∧ y.2 ≤ maxLen), obj bp0 117 [.slice ap0_0 xp0_0.length cp0_0, .int .i64 xp0_1]]) := by
 unfold synodref1_Writer_Done_s_c0.f
 refine fn_intro 17 Try.func60 rfl Try.ntmps60 rfl ?_
 refine sr ?_
 refine va rfl rfl ?_
 refine va rfl rfl (simL_nil (nrm_then (sim_seq (sr ?_))))
 refine vm rfl rfl ?_
 refine vn rfl rfl ?_
 refine vq (q_fa rfl rfl Try.underlying117 rfl rfl Try.sizeOf3 rfl) rfl ?_
 refine vq (q_load rfl rfl Try.isAgg3 (.obj 0 rfl rfl)) rfl ?_
 refine vq (q_neq rfl rfl rfl) rfl (simL_nil (nrm_then ?_))
 refine sim_condn rfl (fun h1v => ?_) (fun h2v => ?_)
 refine sim_skip ?_
 refine nrm_then (sr ?_)
 refine vm rfl rfl ?_
 refine vn rfl rfl ?_
 refine vq (q_fa rfl rfl Try.underlying117 rfl rfl Try.sizeOf35 rfl) rfl ?_
 refine vq (q_load rfl rfl Try.isAgg35 (.obj 0 rfl rfl)) rfl ?_
 refine va rfl rfl ?_
 refine va rfl rfl (simL_nil (nrm_then (sim_rtn ?_)))
 exact rtn_fn (ap0_0, cp0_0) rfl rfl rfl (.pr_in ⟨hp0_0, hcp0_0, hmp0_0⟩ (.sel 0 rfl (.sel 0 rfl (.nil _))))
 refine sim_seq ?_
 refine sim_draw (Γ := Unit) () [[], [0], [0, 1], [0, 1, 2], [], rL 5] [] [0, 1, 2, 3, 4, 5] (fun i => [[0], [0], [0], [0], [0], [0]].getD i []) (fun i => [[], [], [], [], [], []].getD i []) (fun γ i => [.pointer (some ⟨bp0, 0, none⟩), .pointer (some ⟨bp0, 0, none⟩), .pointer (some ⟨bp0, 1, none⟩), .int .i64 xp0_1, .slice none 0 0, .int .i64 xp0_1].getD i undef) (fun j γ => [[obj bp0 117 [.slice ap0_0 xp0_0.length cp0_0, .int .i64 xp0_1], F]].getD j []) (fun γ => [(2, .slice none 0 0), (3, .int .i64 xp0_1)]) mixed (by decide) (by decide) (by decide) (by decide) (by decide) (by decide) (by decide) 17 rfl (by decide) (by decide) (by decide) (Ent.refl _) ?_ ?_ (fun _ => ⟨rfl, rfl, trivial⟩) ?_
 exact (aq rfl (fun γ => qm rfl (.o (s := 0) rfl (by decide) .nil) rfl) (aq rfl (fun γ => qp rfl rfl (.v 0 rfl rfl .nil) (q_nil rfl rfl) rfl) (aq rfl (fun γ => qp rfl rfl (.v 1 rfl rfl .nil) (q_fa rfl rfl Try.underlying117 rfl rfl Try.sizeOf3 rfl) rfl) (aq rfl (fun γ => qp rfl rfl (.v 2 rfl rfl .nil) (q_load rfl rfl Try.isAgg3 (.obj 0 rfl rfl)) rfl) (aq rfl (fun γ => qp rfl rfl .nil (q_asg rfl rfl) rfl) (aq rfl (fun γ => qp rfl rfl (.v 3 rfl rfl .nil) (q_asg rfl rfl) rfl) zA))))))
 exact zA
 intro g3v
 refine nrm_then (sim_rtn ?_)
 refine rtn_then ?_
 exact rtn_fn (none, 0) rfl rfl rfl (.pr_in ⟨Rd.nil _ _, Nat.le_refl _, Nat.zero_le _⟩ (.sel 0 rfl (.sel 0 rfl (.nil _))))

def synodref1_Writer_Done_s_c0p0.f (xp0_0 : List UInt8) (xp0_1 : Int) : Option (List UInt8 × Int) := if xp0_1 = (0 : Int) then (some (xp0_0, 0)) else (some (([] : List UInt8), xp0_1))
theorem synodref1_Writer_Done_s_c0p0.calls (W : World) (F : HA) (bp0 : Nat) (ap0_0 : Option Addr) (cp0_0 : Nat) (xp0_0 : List UInt8) (xp0_1 : Int)  :
    Fn Try.prog W 60 [.pointer (some ⟨bp0, 0, none⟩)] [obj bp0 117 [.slice ap0_0 xp0_0.length cp0_0, .int .i64 xp0_1], Row 5 1 ap0_0 xp0_0.length cp0_0 (encB xp0_0)] F (synodref1_Writer_Done_s_c0p0.f xp0_0 xp0_1) (fun (r : List UInt8 × Int) (y : Option Addr × Nat) => .tuple #[.slice y.1 r.1.length y.2, .int .i64 r.2]) (fun r y => [Row 5 1 y.1 r.1.length y.2 (encB r.1)]) := by
 unfold synodref1_Writer_Done_s_c0p0.f
 refine fn_intro 17 Try.func60 rfl Try.ntmps60 rfl ?_
 refine sr ?_
 refine va rfl rfl ?_
 refine va rfl rfl (simL_nil (nrm_then (sim_seq (sr ?_))))
 refine vm rfl rfl ?_
 refine vn rfl rfl ?_
 refine vq (q_fa rfl rfl Try.underlying117 rfl rfl Try.sizeOf3 rfl) rfl ?_
 refine vq (q_load rfl rfl Try.isAgg3 (.obj 0 rfl rfl)) rfl ?_
 refine vq (q_neq rfl rfl rfl) rfl (simL_nil (nrm_then ?_))
 refine sim_condn rfl (fun h1v => ?_) (fun h2v => ?_)
 refine sim_skip ?_
 refine nrm_then (sr ?_)
 refine vm rfl rfl ?_
 refine vn rfl rfl ?_
 refine vq (q_fa rfl rfl Try.underlying117 rfl rfl Try.sizeOf35 rfl) rfl ?_
 refine vq (q_load rfl rfl Try.isAgg35 (.obj 0 rfl rfl)) rfl ?_
 refine va rfl rfl ?_
 refine va rfl rfl (simL_nil (nrm_then (sim_rtn ?_)))
 exact rtn_fn (ap0_0, cp0_0) rfl rfl rfl (.sel 1 rfl (.sel 1 rfl (.nil _)))
 refine sim_seq ?_
 refine sim_draw (Γ := Unit) () [[], [0], [0, 1], [0, 1, 2], [], rL 5] [] [0, 1, 2, 3, 4, 5] (fun i => [[0], [0], [0], [0], [0], [0]].getD i []) (fun i => [[], [], [], [], [], []].getD i []) (fun γ i => [.pointer (some ⟨bp0, 0, none⟩), .pointer (some ⟨bp0, 0, none⟩), .pointer (some ⟨bp0, 1, none⟩), .int .i64 xp0_1, .slice none 0 0, .int .i64 xp0_1].getD i undef) (fun j γ => [[obj bp0 117 [.slice ap0_0 xp0_0.length cp0_0, .int .i64 xp0_1], Row 5 1 ap0_0 xp0_0.length cp0_0 (encB xp0_0), F]].getD j []) (fun γ => [(2, .slice none 0 0), (3, .int .i64 xp0_1)]) mixed (by decide) (by decide) (by decide) (by decide) (by decide) (by decide) (by decide) 17 rfl (by decide) (by decide) (by decide) (Ent.refl _) ?_ ?_ (fun _ => ⟨rfl, rfl, trivial⟩) ?_
 exact (aq rfl (fun γ => qm rfl (.o (s := 0) rfl (by decide) .nil) rfl) (aq rfl (fun γ => qp rfl rfl (.v 0 rfl rfl .nil) (q_nil rfl rfl) rfl) (aq rfl (fun γ => qp rfl rfl (.v 1 rfl rfl .nil) (q_fa rfl rfl Try.underlying117 rfl rfl Try.sizeOf3 rfl) rfl) (aq rfl (fun γ => qp rfl rfl (.v 2 rfl rfl .nil) (q_load rfl rfl Try.isAgg3 (.obj 0 rfl rfl)) rfl) (aq rfl (fun γ => qp rfl rfl .nil (q_asg rfl rfl) rfl) (aq rfl (fun γ => qp rfl rfl (.v 3 rfl rfl .nil) (q_asg rfl rfl) rfl) zA))))))
 exact zA
 intro g3v
 refine nrm_then (sim_rtn ?_)
 refine rtn_then ?_
 exact rtn_fn (none, 0) rfl rfl rfl (.row_nil (.sel 2 rfl (.nil _)))

def synodref11_Store_Snapshot.l1 (x0_1 : List (Ty86)) : Nat → Int → List UInt8 → Int → Option (List UInt8 × Int)
  | 0, _, _, _ => none
  | k + 1, z43v, z44v, z45v => if z43v < (x0_1.length : Int) then (if 0 ≤ z43v ∧ z43v < (x0_1.length : Int) then ((synodref1_Writer_Int.f k z44v z45v ((x0_1.getD z43v.toNat dz86).1)).bind fun s56v => (if 0 ≤ z43v ∧ z43v < (x0_1.length : Int) then ((synodref1_Writer_Int.f k s56v.1 s56v.2 ((x0_1.getD z43v.toNat dz86).2.1)).bind fun s67v => (if 0 ≤ z43v ∧ z43v < (x0_1.length : Int) then ((synodref1_Writer_Int.f k s67v.1 s67v.2 ((x0_1.getD z43v.toNat dz86).2.2.1)).bind fun s78v => (if 0 ≤ z43v ∧ z43v < (x0_1.length : Int) then ((synodref1_Writer_Text.f k s78v.1 s78v.2 ((x0_1.getD z43v.toNat dz86).2.2.2) (1024 : Int)).bind fun s89v => (synodref11_Store_Snapshot.l1 x0_1 k (IntKind.i64.wrap (z43v + 1)) s89v.1 s89v.2)) else none)) else none)) else none)) else none) else (some (z44v, z45v))
def synodref11_Store_Snapshot.l0 (x0_0 : List (Ty92)) : Nat → Int → List UInt8 → Int → Option (List UInt8 × Int)
  | 0, _, _, _ => none
  | k + 1, z9v, z10v, z11v => if z9v < (x0_0.length : Int) then (if 0 ≤ z9v ∧ z9v < (x0_0.length : Int) then ((synodref1_Writer_Text.f k z10v z11v ((x0_0.getD z9v.toNat dz92).1) (64 : Int)).bind fun s22v => (if 0 ≤ z9v ∧ z9v < (x0_0.length : Int) then ((synodref1_Writer_Text.f k s22v.1 s22v.2 ((x0_0.getD z9v.toNat dz92).2) (1024 : Int)).bind fun s33v => (synodref11_Store_Snapshot.l0 x0_0 k (IntKind.i64.wrap (z9v + 1)) s33v.1 s33v.2)) else none)) else none) else (some (z10v, z11v))
def synodref11_Store_Snapshot.f (k : Nat) (x0_0 : List (Ty92)) (x0_1 : List (Ty86)) : Option (List UInt8) := (synodref1_Writer_Int.f k ([] : List UInt8) (0 : Int) (x0_0.length : Int)).bind fun s2v => ((synodref11_Store_Snapshot.l0 x0_0 k 0 s2v.1 s2v.2).bind fun s5v => ((synodref1_Writer_Int.f k s5v.1 s5v.2 (x0_1.length : Int)).bind fun s36v => ((synodref11_Store_Snapshot.l1 x0_1 k 0 s36v.1 s36v.2).bind fun s39v => ((synodref1_Writer_Done_s_c0p0.f s39v.1 s39v.2).bind fun s92v => (some s92v.1)))))
theorem synodref11_Store_Snapshot.calls (W : World) (F : HA) (k : Nat) (b0 : Nat) (a0_0 : Option Addr) (c0_0 : Nat) (x0_0 : List (Ty92)) (a0_1 : Option Addr) (c0_1 : Nat) (x0_1 : List (Ty86)) (h0_0 : RdV F 2 (V92 tt) a0_0 x0_0) (hc0_0 : x0_0.length ≤ c0_0) (hm0_0 : c0_0 ≤ maxLen) (h0_1 : RdV F 4 (V86 tt) a0_1 x0_1) (hc0_1 : x0_1.length ≤ c0_1) (hm0_1 : c0_1 ≤ maxLen) :
    Fn Try.prog W 40 [.pointer (some ⟨b0, 0, none⟩)] [obj b0 47 [.slice a0_0 x0_0.length c0_0, .slice a0_1 x0_1.length c0_1]] F (synodref11_Store_Snapshot.f k x0_0 x0_1) (fun (r : List UInt8) (y : Option Addr × Nat) => .slice y.1 r.length y.2) (fun r y => [Row 5 1 y.1 r.length y.2 (encB r), obj b0 47 [.slice a0_0 x0_0.length c0_0, .slice a0_1 x0_1.length c0_1]]) := by
 unfold synodref11_Store_Snapshot.f
 refine fn_intro 110 Try.func40 rfl Try.ntmps40 rfl ?_
 refine sr ?_
 refine va rfl rfl (nx ?_)
 refine vq (q_build (v := .agg #[.slice none 0 0, .int .i64 0]) rfl rfl (fun _ => by kernel_rfl)) rfl ?_
 refine simL_eff (re_box rfl rfl rfl) rfl rfl rfl ?_
 intro b1v
 refine va rfl rfl (nx ?_)
 refine vm rfl rfl ?_
 refine vm rfl rfl ?_
 refine vn rfl rfl ?_
 refine vq (q_fa rfl rfl Try.underlying47 rfl rfl Try.sizeOf44 rfl) rfl ?_
 refine vq (q_load rfl rfl Try.isAgg44 (.obj 1 rfl rfl)) rfl ?_
 refine vq (q_len rfl rfl rfl Try.underlying44) rfl ?_
 refine simL_bind (fun s2v hs3v => ?_)
 refine simL_eff (re_call (vs := [.pointer (some ⟨b1v, 0, none⟩), .int .i64 (x0_0.length : Int)]) (cap := []) (A := [obj b1v 117 [.slice none 0 0, .int .i64 0], Row 5 1 none ([] : List UInt8).length 0 (encB ([] : List UInt8))]) (rst := [obj b0 47 [.slice a0_0 x0_0.length c0_0, .slice a0_1 x0_1.length c0_1], F]) rfl rfl rfl rfl rfl rfl Try.call58 (.sel 0 rfl (.row_nil (.sel 0 rfl (.sel 0 rfl (.nil _))))) (synodref1_Writer_Int.calls _ _ k b1v none 0 ([] : List UInt8) (0 : Int) (x0_0.length : Int) ) hs3v) rfl rfl rfl ?_
 intro y4v
 refine simL_nil (nrm_then ?_)
 refine sim_cut (S := List UInt8 × Int) (Option Addr × Nat) (fun s y => [(0, .pointer (some ⟨b0, 0, none⟩)), (3, .pointer (some ⟨b1v, 0, none⟩))]) (fun s y => [obj b1v 117 [.slice y.1 s.1.length y.2, .int .i64 s.2], obj b0 47 [.slice a0_0 x0_0.length c0_0, .slice a0_1 x0_1.length c0_1], Row 5 1 y.1 s.1.length y.2 (encB s.1), F]) ?_ ?_
 refine sr ?_
 refine va rfl rfl (simL_nil (nrm_then ?_))
 refine sim_block ?_
 refine sim_loop (S := Int × List UInt8 × Int) (Option Addr × Nat) (fun k s => synodref11_Store_Snapshot.l0 x0_0 k s.1 s.2.1 s.2.2) (fun s y => [(0, .pointer (some ⟨b0, 0, none⟩)), (3, .pointer (some ⟨b1v, 0, none⟩)), (4, .int .i64 s.1)]) (fun s y => [obj b1v 117 [.slice y.1 s.2.1.length y.2, .int .i64 s.2.2], obj b0 47 [.slice a0_0 x0_0.length c0_0, .slice a0_1 x0_1.length c0_1], Row 5 1 y.1 s.2.1.length y.2 (encB s.2.1), F]) (fun _ => by rw [synodref11_Store_Snapshot.l0]) ?_ k (0, s2v.1, s2v.2) (y4v.1, y4v.2) ⟨rfl, rfl, rfl, trivial⟩ (.sel 0 rfl (.sel 1 rfl (.sel 0 rfl (.sel 0 rfl (.nil _)))))
 intro k s7v y8v
 refine sim_eq (by rw [synodref11_Store_Snapshot.l0]) ?_
 refine sim_seq (sr ?_)
 refine vm rfl rfl ?_
 refine vm rfl rfl ?_
 refine vn rfl rfl ?_
 refine vq (q_fa rfl rfl Try.underlying47 rfl rfl Try.sizeOf44 rfl) rfl ?_
 refine vq (q_load rfl rfl Try.isAgg44 (.obj 1 rfl rfl)) rfl ?_
 refine vq (q_len rfl rfl rfl Try.underlying44) rfl ?_
 refine vq (q_lss rfl rfl rfl) rfl (simL_nil (nrm_then ?_))
 refine sim_cond rfl (fun h12v => ?_) (fun h13v => ?_)
 refine sim_skip ?_
 refine nrm_then (sim_seq ?_)
 refine sim_block ?_
 refine sr ?_
 refine vm rfl rfl ?_
 refine vm rfl rfl ?_
 refine vn rfl rfl ?_
 refine vq (q_fa rfl rfl Try.underlying47 rfl rfl Try.sizeOf44 rfl) rfl ?_
 refine vq (q_load rfl rfl Try.isAgg44 (.obj 1 rfl rfl)) rfl ?_
 refine vm rfl rfl ?_
 refine simL_ask (fun hi14v => ?_)
 obtain ⟨b15v, b15vo, r18v, ha16v, hV19v, hlr20v, hcell21v⟩ := RdV.pos h0_0 (Up.refl _) rfl (i := s7v.1.toNat) (by omega) dz92
 obtain rfl := hV19v
 refine vq (q_idx rfl rfl rfl ha16v Try.underlying44 Try.sizeOf92 hi14v.1 hi14v.2) rfl ?_
 refine vq (q_fa rfl rfl Try.underlying92 rfl rfl Try.sizeOf9 rfl) rfl ?_
 refine vq (q_load rfl rfl Try.isAgg9 (hcell21v 3 rfl 0 _ rfl)) rfl ?_
 refine simL_bind (fun s22v hs23v => ?_)
 refine simL_eff (re_call (vs := [.pointer (some ⟨b1v, 0, none⟩), str ((x0_0.getD s7v.1.toNat dz92).1), .int .i64 64]) (cap := []) (A := [obj b1v 117 [.slice y8v.1 s7v.2.1.length y8v.2, .int .i64 s7v.2.2], Row 5 1 y8v.1 s7v.2.1.length y8v.2 (encB s7v.2.1)]) (rst := [obj b0 47 [.slice a0_0 x0_0.length c0_0, .slice a0_1 x0_1.length c0_1], F]) rfl rfl rfl rfl rfl rfl Try.call59 (.sel 0 rfl (.sel 1 rfl (.sel 0 rfl (.sel 0 rfl (.nil _))))) (synodref1_Writer_Text.calls _ _ k b1v y8v.1 y8v.2 s7v.2.1 s7v.2.2 ((x0_0.getD s7v.1.toNat dz92).1) (64 : Int) ) hs23v) rfl rfl rfl ?_
 intro y24v
 refine ny ?_
 refine vm rfl rfl ?_
 refine vm rfl rfl ?_
 refine vn rfl rfl ?_
 refine vq (q_fa rfl rfl Try.underlying47 rfl rfl Try.sizeOf44 rfl) rfl ?_
 refine vq (q_load rfl rfl Try.isAgg44 (.obj 2 rfl rfl)) rfl ?_
 refine vm rfl rfl ?_
 refine simL_ask (fun hi25v => ?_)
 obtain ⟨b26v, b26vo, r29v, ha27v, hV30v, hlr31v, hcell32v⟩ := RdV.pos h0_0 (Up.refl _) rfl (i := s7v.1.toNat) (by omega) dz92
 obtain rfl := hV30v
 refine vq (q_idx rfl rfl rfl ha27v Try.underlying44 Try.sizeOf92 hi25v.1 hi25v.2) rfl ?_
 refine vq (q_fa rfl rfl Try.underlying92 rfl rfl Try.sizeOf9 rfl) rfl ?_
 refine vq (q_load rfl rfl Try.isAgg9 (hcell32v 3 rfl 1 _ rfl)) rfl ?_
 refine simL_bind (fun s33v hs34v => ?_)
 refine simL_eff (re_call (vs := [.pointer (some ⟨b1v, 0, none⟩), str ((x0_0.getD s7v.1.toNat dz92).2), .int .i64 1024]) (cap := []) (A := [obj b1v 117 [.slice y24v.1 s22v.1.length y24v.2, .int .i64 s22v.2], Row 5 1 y24v.1 s22v.1.length y24v.2 (encB s22v.1)]) (rst := [obj b0 47 [.slice a0_0 x0_0.length c0_0, .slice a0_1 x0_1.length c0_1], F]) rfl rfl rfl rfl rfl rfl Try.call59 (.sel 0 rfl (.sel 0 rfl (.sel 0 rfl (.sel 0 rfl (.nil _))))) (synodref1_Writer_Text.calls _ _ k b1v y24v.1 y24v.2 s22v.1 s22v.2 ((x0_0.getD s7v.1.toNat dz92).2) (1024 : Int) ) hs34v) rfl rfl rfl ?_
 intro y35v
 refine simL_nil (nrm_block (nrm_then (sim_region ?_)))
 refine vm rfl rfl ?_
 refine vq (q_add rfl rfl rfl) rfl ?_
 refine va rfl rfl (simL_nil ?_)
 exact nrm_again (s := (IntKind.i64.wrap (s7v.1 + 1), s33v.1, s33v.2)) (y35v.1, y35v.2) ⟨rfl, rfl, rfl, trivial⟩ (.sel 0 rfl (.sel 1 rfl (.sel 0 rfl (.sel 0 rfl (.nil _)))))
 refine sim_exi ?_
 refine exi_then ?_
 refine exi_loop ?_
 refine exi_here ?_
 exact nrm_cut (s := (s7v.2.1, s7v.2.2)) (y8v.1, y8v.2) ⟨rfl, rfl, trivial⟩ (.sel 0 rfl (.sel 0 rfl (.sel 0 rfl (.sel 0 rfl (.nil _)))))
 intro s5v y6v
 refine sr ?_
 refine vm rfl rfl ?_
 refine vm rfl rfl ?_
 refine vn rfl rfl ?_
 refine vq (q_fa rfl rfl Try.underlying47 rfl rfl Try.sizeOf45 rfl) rfl ?_
 refine vq (q_load rfl rfl Try.isAgg45 (.obj 1 rfl rfl)) rfl ?_
 refine vq (q_len rfl rfl rfl Try.underlying45) rfl ?_
 refine simL_bind (fun s36v hs37v => ?_)
 refine simL_eff (re_call (vs := [.pointer (some ⟨b1v, 0, none⟩), .int .i64 (x0_1.length : Int)]) (cap := []) (A := [obj b1v 117 [.slice y6v.1 s5v.1.length y6v.2, .int .i64 s5v.2], Row 5 1 y6v.1 s5v.1.length y6v.2 (encB s5v.1)]) (rst := [obj b0 47 [.slice a0_0 x0_0.length c0_0, .slice a0_1 x0_1.length c0_1], F]) rfl rfl rfl rfl rfl rfl Try.call58 (.sel 0 rfl (.sel 1 rfl (.sel 0 rfl (.sel 0 rfl (.nil _))))) (synodref1_Writer_Int.calls _ _ k b1v y6v.1 y6v.2 s5v.1 s5v.2 (x0_1.length : Int) ) hs37v) rfl rfl rfl ?_
 intro y38v
 refine simL_nil (nrm_then ?_)
 refine sim_cut (S := List UInt8 × Int) (Option Addr × Nat) (fun s y => [(3, .pointer (some ⟨b1v, 0, none⟩))]) (fun s y => [obj b1v 117 [.slice y.1 s.1.length y.2, .int .i64 s.2], obj b0 47 [.slice a0_0 x0_0.length c0_0, .slice a0_1 x0_1.length c0_1], Row 5 1 y.1 s.1.length y.2 (encB s.1), F]) ?_ ?_
 refine sr ?_
 refine va rfl rfl (simL_nil (nrm_then ?_))
 refine sim_block ?_
 refine sim_loop (S := Int × List UInt8 × Int) (Option Addr × Nat) (fun k s => synodref11_Store_Snapshot.l1 x0_1 k s.1 s.2.1 s.2.2) (fun s y => [(0, .pointer (some ⟨b0, 0, none⟩)), (3, .pointer (some ⟨b1v, 0, none⟩)), (5, .int .i64 s.1)]) (fun s y => [obj b1v 117 [.slice y.1 s.2.1.length y.2, .int .i64 s.2.2], obj b0 47 [.slice a0_0 x0_0.length c0_0, .slice a0_1 x0_1.length c0_1], Row 5 1 y.1 s.2.1.length y.2 (encB s.2.1), F]) (fun _ => by rw [synodref11_Store_Snapshot.l1]) ?_ k (0, s36v.1, s36v.2) (y38v.1, y38v.2) ⟨rfl, rfl, rfl, trivial⟩ (.sel 0 rfl (.sel 1 rfl (.sel 0 rfl (.sel 0 rfl (.nil _)))))
 intro k s41v y42v
 refine sim_eq (by rw [synodref11_Store_Snapshot.l1]) ?_
 refine sim_seq (sr ?_)
 refine vm rfl rfl ?_
 refine vm rfl rfl ?_
 refine vn rfl rfl ?_
 refine vq (q_fa rfl rfl Try.underlying47 rfl rfl Try.sizeOf45 rfl) rfl ?_
 refine vq (q_load rfl rfl Try.isAgg45 (.obj 1 rfl rfl)) rfl ?_
 refine vq (q_len rfl rfl rfl Try.underlying45) rfl ?_
 refine vq (q_lss rfl rfl rfl) rfl (simL_nil (nrm_then ?_))
 refine sim_cond rfl (fun h46v => ?_) (fun h47v => ?_)
 refine sim_skip ?_
 refine nrm_then (sim_seq ?_)
 refine sim_block ?_
 refine sr ?_
 refine vm rfl rfl ?_
 refine vm rfl rfl ?_
 refine vn rfl rfl ?_
 refine vq (q_fa rfl rfl Try.underlying47 rfl rfl Try.sizeOf45 rfl) rfl ?_
 refine vq (q_load rfl rfl Try.isAgg45 (.obj 1 rfl rfl)) rfl ?_
 refine vm rfl rfl ?_
 refine simL_ask (fun hi48v => ?_)
 obtain ⟨b49v, b49vo, r52v, ha50v, hV53v, hlr54v, hcell55v⟩ := RdV.pos h0_1 (Up.refl _) rfl (i := s41v.1.toNat) (by omega) dz86
 obtain rfl := hV53v
 refine vq (q_idx rfl rfl rfl ha50v Try.underlying45 Try.sizeOf86 hi48v.1 hi48v.2) rfl ?_
 refine vq (q_fa rfl rfl Try.underlying86 rfl rfl Try.sizeOf3 rfl) rfl ?_
 refine vq (q_load rfl rfl Try.isAgg3 (hcell55v 3 rfl 0 _ rfl)) rfl ?_
 refine simL_bind (fun s56v hs57v => ?_)
 refine simL_eff (re_call (vs := [.pointer (some ⟨b1v, 0, none⟩), .int .i64 ((x0_1.getD s41v.1.toNat dz86).1)]) (cap := []) (A := [obj b1v 117 [.slice y42v.1 s41v.2.1.length y42v.2, .int .i64 s41v.2.2], Row 5 1 y42v.1 s41v.2.1.length y42v.2 (encB s41v.2.1)]) (rst := [obj b0 47 [.slice a0_0 x0_0.length c0_0, .slice a0_1 x0_1.length c0_1], F]) rfl rfl rfl rfl rfl rfl Try.call58 (.sel 0 rfl (.sel 1 rfl (.sel 0 rfl (.sel 0 rfl (.nil _))))) (synodref1_Writer_Int.calls _ _ k b1v y42v.1 y42v.2 s41v.2.1 s41v.2.2 ((x0_1.getD s41v.1.toNat dz86).1) ) hs57v) rfl rfl rfl ?_
 intro y58v
 refine nx ?_
 refine vm rfl rfl ?_
 refine vm rfl rfl ?_
 refine vn rfl rfl ?_
 refine vq (q_fa rfl rfl Try.underlying47 rfl rfl Try.sizeOf45 rfl) rfl ?_
 refine vq (q_load rfl rfl Try.isAgg45 (.obj 2 rfl rfl)) rfl ?_
 refine vm rfl rfl ?_
 refine simL_ask (fun hi59v => ?_)
 obtain ⟨b60v, b60vo, r63v, ha61v, hV64v, hlr65v, hcell66v⟩ := RdV.pos h0_1 (Up.refl _) rfl (i := s41v.1.toNat) (by omega) dz86
 obtain rfl := hV64v
 refine vq (q_idx rfl rfl rfl ha61v Try.underlying45 Try.sizeOf86 hi59v.1 hi59v.2) rfl ?_
 refine vq (q_fa rfl rfl Try.underlying86 rfl rfl Try.sizeOf3 rfl) rfl ?_
 refine vq (q_load rfl rfl Try.isAgg3 (hcell66v 3 rfl 1 _ rfl)) rfl ?_
 refine simL_bind (fun s67v hs68v => ?_)
 refine simL_eff (re_call (vs := [.pointer (some ⟨b1v, 0, none⟩), .int .i64 ((x0_1.getD s41v.1.toNat dz86).2.1)]) (cap := []) (A := [obj b1v 117 [.slice y58v.1 s56v.1.length y58v.2, .int .i64 s56v.2], Row 5 1 y58v.1 s56v.1.length y58v.2 (encB s56v.1)]) (rst := [obj b0 47 [.slice a0_0 x0_0.length c0_0, .slice a0_1 x0_1.length c0_1], F]) rfl rfl rfl rfl rfl rfl Try.call58 (.sel 0 rfl (.sel 0 rfl (.sel 0 rfl (.sel 0 rfl (.nil _))))) (synodref1_Writer_Int.calls _ _ k b1v y58v.1 y58v.2 s56v.1 s56v.2 ((x0_1.getD s41v.1.toNat dz86).2.1) ) hs68v) rfl rfl rfl ?_
 intro y69v
 refine nx ?_
 refine vm rfl rfl ?_
 refine vm rfl rfl ?_
 refine vn rfl rfl ?_
 refine vq (q_fa rfl rfl Try.underlying47 rfl rfl Try.sizeOf45 rfl) rfl ?_
 refine vq (q_load rfl rfl Try.isAgg45 (.obj 2 rfl rfl)) rfl ?_
 refine vm rfl rfl ?_
 refine simL_ask (fun hi70v => ?_)
 obtain ⟨b71v, b71vo, r74v, ha72v, hV75v, hlr76v, hcell77v⟩ := RdV.pos h0_1 (Up.refl _) rfl (i := s41v.1.toNat) (by omega) dz86
 obtain rfl := hV75v
 refine vq (q_idx rfl rfl rfl ha72v Try.underlying45 Try.sizeOf86 hi70v.1 hi70v.2) rfl ?_
 refine vq (q_fa rfl rfl Try.underlying86 rfl rfl Try.sizeOf28 rfl) rfl ?_
 refine vq (q_fa rfl rfl Try.underlying28 rfl rfl Try.sizeOf3 rfl) rfl ?_
 refine vq (q_load rfl rfl Try.isAgg3 (hcell77v 3 rfl 2 _ rfl)) rfl ?_
 refine simL_bind (fun s78v hs79v => ?_)
 refine simL_eff (re_call (vs := [.pointer (some ⟨b1v, 0, none⟩), .int .i64 ((x0_1.getD s41v.1.toNat dz86).2.2.1)]) (cap := []) (A := [obj b1v 117 [.slice y69v.1 s67v.1.length y69v.2, .int .i64 s67v.2], Row 5 1 y69v.1 s67v.1.length y69v.2 (encB s67v.1)]) (rst := [obj b0 47 [.slice a0_0 x0_0.length c0_0, .slice a0_1 x0_1.length c0_1], F]) rfl rfl rfl rfl rfl rfl Try.call58 (.sel 0 rfl (.sel 0 rfl (.sel 0 rfl (.sel 0 rfl (.nil _))))) (synodref1_Writer_Int.calls _ _ k b1v y69v.1 y69v.2 s67v.1 s67v.2 ((x0_1.getD s41v.1.toNat dz86).2.2.1) ) hs79v) rfl rfl rfl ?_
 intro y80v
 refine ny ?_
 refine vm rfl rfl ?_
 refine vm rfl rfl ?_
 refine vn rfl rfl ?_
 refine vq (q_fa rfl rfl Try.underlying47 rfl rfl Try.sizeOf45 rfl) rfl ?_
 refine vq (q_load rfl rfl Try.isAgg45 (.obj 2 rfl rfl)) rfl ?_
 refine vm rfl rfl ?_
 refine simL_ask (fun hi81v => ?_)
 obtain ⟨b82v, b82vo, r85v, ha83v, hV86v, hlr87v, hcell88v⟩ := RdV.pos h0_1 (Up.refl _) rfl (i := s41v.1.toNat) (by omega) dz86
 obtain rfl := hV86v
 refine vq (q_idx rfl rfl rfl ha83v Try.underlying45 Try.sizeOf86 hi81v.1 hi81v.2) rfl ?_
 refine vq (q_fa rfl rfl Try.underlying86 rfl rfl Try.sizeOf28 rfl) rfl ?_
 refine vq (q_fa rfl rfl Try.underlying28 rfl rfl Try.sizeOf9 rfl) rfl ?_
 refine vq (q_load rfl rfl Try.isAgg9 (hcell88v 3 rfl 3 _ rfl)) rfl ?_
 refine simL_bind (fun s89v hs90v => ?_)
 refine simL_eff (re_call (vs := [.pointer (some ⟨b1v, 0, none⟩), str ((x0_1.getD s41v.1.toNat dz86).2.2.2), .int .i64 1024]) (cap := []) (A := [obj b1v 117 [.slice y80v.1 s78v.1.length y80v.2, .int .i64 s78v.2], Row 5 1 y80v.1 s78v.1.length y80v.2 (encB s78v.1)]) (rst := [obj b0 47 [.slice a0_0 x0_0.length c0_0, .slice a0_1 x0_1.length c0_1], F]) rfl rfl rfl rfl rfl rfl Try.call59 (.sel 0 rfl (.sel 0 rfl (.sel 0 rfl (.sel 0 rfl (.nil _))))) (synodref1_Writer_Text.calls _ _ k b1v y80v.1 y80v.2 s78v.1 s78v.2 ((x0_1.getD s41v.1.toNat dz86).2.2.2) (1024 : Int) ) hs90v) rfl rfl rfl ?_
 intro y91v
 refine simL_nil (nrm_block (nrm_then (sim_region ?_)))
 refine vm rfl rfl ?_
 refine vq (q_add rfl rfl rfl) rfl ?_
 refine va rfl rfl (simL_nil ?_)
 exact nrm_again (s := (IntKind.i64.wrap (s41v.1 + 1), s89v.1, s89v.2)) (y91v.1, y91v.2) ⟨rfl, rfl, rfl, trivial⟩ (.sel 0 rfl (.sel 1 rfl (.sel 0 rfl (.sel 0 rfl (.nil _)))))
 refine sim_exi ?_
 refine exi_then ?_
 refine exi_loop ?_
 refine exi_here ?_
 exact nrm_cut (s := (s41v.2.1, s41v.2.2)) (y42v.1, y42v.2) ⟨rfl, trivial⟩ (.sel 0 rfl (.sel 0 rfl (.sel 0 rfl (.sel 0 rfl (.nil _)))))
 intro s39v y40v
 refine sr ?_
 refine vm rfl rfl ?_
 refine simL_bind (fun s92v hs93v => ?_)
 refine simL_eff (re_call (vs := [.pointer (some ⟨b1v, 0, none⟩)]) (cap := []) (A := [obj b1v 117 [.slice y40v.1 s39v.1.length y40v.2, .int .i64 s39v.2], Row 5 1 y40v.1 s39v.1.length y40v.2 (encB s39v.1)]) (rst := [obj b0 47 [.slice a0_0 x0_0.length c0_0, .slice a0_1 x0_1.length c0_1], F]) rfl rfl rfl rfl rfl rfl Try.call60 (.sel 0 rfl (.sel 1 rfl (.sel 0 rfl (.sel 0 rfl (.nil _))))) (synodref1_Writer_Done_s_c0p0.calls _ _ b1v y40v.1 y40v.2 s39v.1 s39v.2 ) hs93v) rfl rfl rfl ?_
 intro y94v
 refine vm rfl rfl ?_
 refine vq (q_ext rfl rfl rfl) rfl ?_
 refine vq (q_ext rfl rfl rfl) rfl ?_
 refine va rfl rfl ?_
 refine va rfl rfl (nx ?_)
 refine vm rfl rfl ?_
 refine va rfl rfl (simL_nil (nrm_then (sim_rtn ?_)))
 exact rtn_fn (y94v.1, y94v.2) rfl rfl rfl (.sel 0 rfl (.sel 0 rfl (.sel 0 rfl (.nil _))))

def synodref_SameBytes.l0 (x0 : List UInt8) (x1 : List UInt8) : Nat → Int → Option ((Unit) ⊕ (Bool))
  | 0, _ => none
  | k + 1, z7v => if z7v < (x0.length : Int) then (if 0 ≤ z7v ∧ z7v < (x0.length : Int) then (if 0 ≤ z7v ∧ z7v < (x1.length : Int) then (if ((x0.getD z7v.toNat 0).toNat : Int) = ((x1.getD z7v.toNat 0).toNat : Int) then (synodref_SameBytes.l0 x0 x1 k (IntKind.i64.wrap (z7v + 1))) else (some (.inr false))) else none) else none) else (some (.inl ()))
def synodref_SameBytes.f (k : Nat) (x0 : List UInt8) (x1 : List UInt8) : Option (Bool) := if (x0.length : Int) = (x1.length : Int) then (orR (synodref_SameBytes.l0 x0 x1 k 0) fun s3v => (some true)) else (some false)
theorem synodref_SameBytes.calls (W : World) (F : HA) (k : Nat) (a0 : Option Addr) (c0 : Nat) (x0 : List UInt8) (a1 : Option Addr) (c1 : Nat) (x1 : List UInt8) (h0 : Rd F a0 (encB x0)) (hc0 : x0.length ≤ c0) (hm0 : c0 ≤ maxLen) (h1 : Rd F a1 (encB x1)) (hc1 : x1.length ≤ c1) (hm1 : c1 ≤ maxLen) :
    Fn Try.prog W 15 [.slice a0 x0.length c0, .slice a1 x1.length c1] [] F (synodref_SameBytes.f k x0 x1) (fun (r : Bool) (y : Unit) => .bool r) (fun r y => []) := by
 unfold synodref_SameBytes.f
 refine fn_intro 26 Try.func15 rfl Try.ntmps15 rfl ?_
 refine sr ?_
 refine va rfl rfl (simL_nil (nrm_then (sim_seq (sr ?_))))
 refine vm rfl rfl ?_
 refine vq (q_len rfl rfl rfl Try.underlying35) rfl ?_
 refine vm rfl rfl ?_
 refine vq (q_len rfl rfl rfl Try.underlying35) rfl ?_
 refine vq (q_neq rfl rfl rfl) rfl (simL_nil (nrm_then ?_))
 refine sim_condn rfl (fun h1v => ?_) (fun h2v => ?_)
 refine sim_skip ?_
 refine nrm_then ?_
 refine sim_cutR (S := Unit) (Unit) (fun s y => []) (fun s y => [F]) ?_ ?_
 refine sr ?_
 refine va rfl rfl (simL_nil (nrm_then ?_))
 refine sim_block ?_
 refine sim_loop (S := Int) (Unit) (fun k s => synodref_SameBytes.l0 x0 x1 k s) (fun s y => [(0, .slice a0 x0.length c0), (1, .slice a1 x1.length c1), (5, .int .i64 s)]) (fun s y => [F]) (fun _ => by rw [synodref_SameBytes.l0]) ?_ k 0 () ⟨rfl, rfl, rfl, trivial⟩ (.sel 0 rfl (.nil _))
 intro k s5v y6v
 refine sim_eq (by rw [synodref_SameBytes.l0]) ?_
 refine sim_seq (sr ?_)
 refine vm rfl rfl ?_
 refine vm rfl rfl ?_
 refine vq (q_len rfl rfl rfl Try.underlying35) rfl ?_
 refine vq (q_lss rfl rfl rfl) rfl (simL_nil (nrm_then ?_))
 refine sim_cond rfl (fun h8v => ?_) (fun h9v => ?_)
 refine sim_skip ?_
 refine nrm_then (sim_seq ?_)
 refine sim_block ?_
 refine sim_seq ?_
 refine sim_ask (fun hi10v => ?_)
 obtain ⟨b11v, b11vo, ha12v⟩ := h0.pos (encB_ne (j := s5v.toNat) (by omega))
 refine sim_ask (fun hi14v => ?_)
 obtain ⟨b15v, b15vo, ha16v⟩ := h1.pos (encB_ne (j := s5v.toNat) (by omega))
 refine sim_draw (Γ := Unit) () [[], [], [0, 1], [0, 1, 2], [], [], [4, 5], [4, 5, 6], rL 8] [] [0, 1, 2, 3, 4, 5, 6, 7, 8] (fun i => [[0], [0], [0], [0], [0], [0], [0], [0], [0]].getD i []) (fun i => [[], [], [], [], [], [], [], [], []].getD i []) (fun γ i => [.slice a0 x0.length c0, .int .i64 s5v, .pointer (some ⟨b11v, b11vo + s5v.toNat, none⟩), .int .u8 ((x0.getD s5v.toNat 0).toNat : Int), .slice a1 x1.length c1, .int .i64 s5v, .pointer (some ⟨b15v, b15vo + s5v.toNat, none⟩), .int .u8 ((x1.getD s5v.toNat 0).toNat : Int), .bool (!decide (((x0.getD s5v.toNat 0).toNat : Int) = ((x1.getD s5v.toNat 0).toNat : Int)))].getD i undef) (fun j γ => [[F]].getD j []) (fun γ => [(0, .slice a0 x0.length c0), (1, .slice a1 x1.length c1), (5, .int .i64 s5v), (25, .bool (!decide (((x0.getD s5v.toNat 0).toNat : Int) = ((x1.getD s5v.toNat 0).toNat : Int))))]) mixed (by decide) (by decide) (by decide) (by decide) (by decide) (by decide) (by decide) 26 rfl (by decide) (by decide) (by decide) (Ent.refl _) ?_ ?_ (fun _ => ⟨rfl, rfl, rfl, rfl, trivial⟩) ?_
 exact (aq rfl (fun γ => qm rfl (.o (s := 0) rfl (by decide) .nil) rfl) (aq rfl (fun γ => qm rfl (.o (s := 5) rfl (by decide) .nil) rfl) (aq rfl (fun γ => qp rfl rfl (.v 0 rfl rfl (.v 1 rfl rfl .nil)) (q_idx1 rfl rfl rfl ha12v Try.underlying35 Try.sizeOf5 hi10v.1 hi10v.2) rfl) (aq rfl (fun γ => qp rfl rfl (.v 2 rfl rfl .nil) (q_load rfl rfl Try.isAgg5 (h0.cell 0 rfl ha12v (encB_get (by omega)))) rfl) (aq rfl (fun γ => qm rfl (.o (s := 1) rfl (by decide) .nil) rfl) (aq rfl (fun γ => qm rfl (.o (s := 5) rfl (by decide) .nil) rfl) (aq rfl (fun γ => qp rfl rfl (.v 4 rfl rfl (.v 5 rfl rfl .nil)) (q_idx1 rfl rfl rfl ha16v Try.underlying35 Try.sizeOf5 hi14v.1 hi14v.2) rfl) (aq rfl (fun γ => qp rfl rfl (.v 6 rfl rfl .nil) (q_load rfl rfl Try.isAgg5 (h1.cell 0 rfl ha16v (encB_get (by omega)))) rfl) (aq rfl (fun γ => qp rfl rfl (.v 3 rfl rfl (.v 7 rfl rfl .nil)) (q_neq rfl rfl rfl) rfl) zA)))))))))
 exact zA
 intro g18v
 refine nrm_then ?_
 refine sim_condn rfl (fun h19v => ?_) (fun h20v => ?_)
 refine sim_skip ?_
 refine nrm_block (nrm_then (sim_region ?_))
 refine vm rfl rfl ?_
 refine vq (q_add rfl rfl rfl) rfl ?_
 refine va rfl rfl (simL_nil ?_)
 exact nrm_again (s := IntKind.i64.wrap (s5v + 1)) () ⟨rfl, rfl, rfl, trivial⟩ (.sel 0 rfl (.nil _))
 refine sr ?_
 refine va rfl rfl (simL_nil (nrm_then (sim_rtn ?_)))
 refine rtn_block ?_
 refine rtn_then ?_
 refine rtn_loop ?_
 refine rtn_block ?_
 refine rtn_cutR ?_
 exact rtn_fn () rfl rfl rfl (.sel 0 rfl (.nil _))
 refine sim_exi ?_
 refine exi_then ?_
 refine exi_loop ?_
 refine exi_here ?_
 exact nrm_cutR (s := ()) () trivial (.sel 0 rfl (.nil _))
 intro s3v y4v
 refine sr ?_
 refine va rfl rfl (simL_nil (nrm_then (sim_rtn ?_)))
 exact rtn_fn () rfl rfl rfl (.sel 0 rfl (.nil _))
 refine sr ?_
 refine va rfl rfl (simL_nil (nrm_then (sim_rtn ?_)))
 refine rtn_then ?_
 exact rtn_fn () rfl rfl rfl (.sel 0 rfl (.nil _))

def synodlaw11_Same.l3 : Nat → List UInt8 → Int → Option (Unit)
  | 0, _, _ => none
  | k + 1, z146v, z147v => if z147v < (z146v.length : Int) then (if 0 ≤ z147v ∧ z147v < (z146v.length : Int) then (synodlaw11_Same.l3 k (z146v.set z147v.toNat 55) (IntKind.i64.wrap (z147v + 1))) else none) else (some ())
def synodlaw11_Same.l2 : Nat → List (List UInt8) → Int → Option (Unit)
  | 0, _, _ => none
  | k + 1, z111v, z112v => if z112v < (z111v.length : Int) then (if 0 ≤ z112v ∧ z112v < (z111v.length : Int) then (synodlaw11_Same.l2 k (z111v.set z112v.toNat ([111, 118, 101, 114] : List UInt8)) (IntKind.i64.wrap (z112v + 1))) else none) else (some ())
def synodlaw11_Same.l1 : Nat → List (Ty86) → Int → Option (Unit)
  | 0, _, _ => none
  | k + 1, z93v, z94v => if z94v < (z93v.length : Int) then (if 0 ≤ z94v ∧ z94v < (z93v.length : Int) then (synodlaw11_Same.l1 k (z93v.set z94v.toNat dz86) (IntKind.i64.wrap (z94v + 1))) else none) else (some ())
def synodlaw11_Same.l0 (x0_0 : List ((List UInt8) × (List UInt8))) (x0_1 : List ((Int) × (Ty86))) (x1_0 : List (Ty92)) (s1v : List (List UInt8)) : Nat → Int → Option ((Unit) ⊕ (Bool))
  | 0, _ => none
  | k + 1, z27v => if z27v < (s1v.length : Int) then ((if 0 ≤ z27v ∧ z27v < (s1v.length : Int) then (if 0 ≤ z27v ∧ z27v < (x1_0.length : Int) then (if (s1v.getD z27v.toNat ([] : List UInt8)) = ((x1_0.getD z27v.toNat dz92).1) then (if 0 ≤ z27v ∧ z27v < (s1v.length : Int) then (if 0 ≤ z27v ∧ z27v < (x1_0.length : Int) then (some (!(decide ((kv_Store_Get.v x0_0 x0_1 (s1v.getD z27v.toNat ([] : List UInt8))).1 = (1 : Int)) && (decide (((kv_Store_Get.v x0_0 x0_1 (s1v.getD z27v.toNat ([] : List UInt8))).2) = ((x1_0.getD z27v.toNat dz92).2)))))) else none) else none) else (some true)) else none) else none).bind fun s30v => (if s30v = true then (some (.inr false)) else (synodlaw11_Same.l0 x0_0 x0_1 x1_0 s1v k (IntKind.i64.wrap (z27v + 1))))) else (some (.inl ()))
def synodlaw11_Same.f (k : Nat) (x0_0 : List ((List UInt8) × (List UInt8))) (x0_1 : List ((Int) × (Ty86))) (x1_0 : List (Ty92)) (x1_1 : List (Ty86)) : Option (Bool) := (kv_Store_Keys.f x0_0 x0_1).bind fun s1v => (if ((!decide ((s1v.length : Int) = (x1_0.length : Int))) || (!decide ((kv_Store_Len.v x0_0 x0_1) = (x1_0.length : Int)))) = true then (some false) else (orR (synodlaw11_Same.l0 x0_0 x0_1 x1_0 s1v k 0) fun s23v => ((kv_Store_Sessions.f k x0_0 x0_1).bind fun s77v => ((synodlaw11_Sessions.f k s77v x1_0 x1_1).bind fun s86v => ((synodlaw11_Same.l1 k s77v 0).bind fun s89v => ((synodlaw11_Same.l2 k s1v 0).bind fun s107v => ((kv_Store_Snapshot.f k x0_0 x0_1).bind fun s125v => ((synodref11_Store_Snapshot.f k x1_0 x1_1).bind fun s128v => ((synodref_SameBytes.f k s125v s128v).bind fun s139v => ((synodlaw11_Same.l3 k s125v 0).bind fun s142v => ((if (s86v && s139v) = true then ((kv_Store_Sessions.f k x0_0 x0_1).bind fun s157v => ((synodlaw11_Sessions.f k s157v x1_0 x1_1).bind fun s166v => (some s166v))) else (some false)).bind fun s155v => (some s155v))))))))))))
theorem synodlaw11_Same.calls (W : World) (F : HA) (k : Nat) (b0 : Nat) (m0_0 : Nat) (x0_0 : List ((List UInt8) × (List UInt8))) (m0_1 : Nat) (x0_1 : List ((Int) × (Ty86))) (b1 : Nat) (a1_0 : Option Addr) (c1_0 : Nat) (x1_0 : List (Ty92)) (a1_1 : Option Addr) (c1_1 : Nat) (x1_1 : List (Ty86)) (h1_0 : RdV F 2 (V92 tt) a1_0 x1_0) (hc1_0 : x1_0.length ≤ c1_0) (hm1_0 : c1_0 ≤ maxLen) (h1_1 : RdV F 4 (V86 tt) a1_1 x1_1) (hc1_1 : x1_1.length ≤ c1_1) (hm1_1 : c1_1 ≤ maxLen) :
    Fn Try.prog W 21 [.pointer (some ⟨b0, 0, none⟩), .pointer (some ⟨b1, 0, none⟩)] [obj b0 63 [.map (some m0_0), .map (some m0_1)], mapO m0_0 enc9 enc9 x0_0, mapO m0_1 enc3 enc42 x0_1, obj b1 47 [.slice a1_0 x1_0.length c1_0, .slice a1_1 x1_1.length c1_1]] F (synodlaw11_Same.f k x0_0 x0_1 x1_0 x1_1) (fun (r : Bool) (y : Unit) => .bool r) (fun r y => [obj b0 63 [.map (some m0_0), .map (some m0_1)], mapO m0_0 enc9 enc9 x0_0, mapO m0_1 enc3 enc42 x0_1, obj b1 47 [.slice a1_0 x1_0.length c1_0, .slice a1_1 x1_1.length c1_1]]) := by
 unfold synodlaw11_Same.f
 refine fn_intro 120 Try.func21 rfl Try.ntmps21 rfl ?_
 refine sr ?_
 refine va rfl rfl (nx ?_)
 refine vm rfl rfl ?_
 refine simL_bind (fun s1v hs2v => ?_)
 refine simL_eff (re_call (vs := [.pointer (some ⟨b0, 0, none⟩)]) (cap := []) (A := [obj b0 63 [.map (some m0_0), .map (some m0_1)], mapO m0_0 enc9 enc9 x0_0, mapO m0_1 enc3 enc42 x0_1]) (rst := [obj b1 47 [.slice a1_0 x1_0.length c1_0, .slice a1_1 x1_1.length c1_1], F]) rfl rfl rfl rfl rfl rfl Try.call38 (.sel 0 rfl (.sel 0 rfl (.sel 0 rfl (.sel 0 rfl (.sel 0 rfl (.nil _)))))) (kv_Store_Keys.calls _ _ b0 m0_0 x0_0 m0_1 x0_1 ) hs2v) rfl rfl rfl ?_
 intro y3v
 refine va rfl rfl (simL_nil (nrm_then (sim_seq (sim_seq ?_))))
 refine sim_openV 0 rfl (fun rs4v hl5v => ?_)
 refine sim_draw (Γ := Unit) () [[], [0], [], [2], [2, 3], [2, 3, 4], [2, 3, 4, 5], rL 7, rL 8, rL 9, rL 10, rL 9, [0, 1, 2, 3, 4, 5, 6, 7, 8, 11], [0, 1, 2, 3, 4, 5, 6, 7, 8, 11, 12], [0, 1, 2, 3, 4, 5, 6, 7, 8, 11, 12, 13], [0, 1, 2, 3, 4, 5, 6, 7, 8, 11, 12, 13, 14], rL 16, rL 17] [] [0, 1, 2, 3, 4, 5, 6, 7, 8, 9, 10, 11, 12, 13, 14, 15, 16, 17] (fun i => [[0], [0], [0], [0], [0], [0], [0], [0], [0], [0], [0], [0], [0], [0], [0], [0], [0], [0]].getD i []) (fun i => [[], [], [], [], [], [], [], [], [], [], [], [], [], [], [], [], [], []].getD i []) (fun γ i => [.slice y3v.1 s1v.length y3v.2, .int .i64 (s1v.length : Int), .pointer (some ⟨b1, 0, none⟩), .pointer (some ⟨b1, 0, none⟩), .pointer (some ⟨b1, 0, none⟩), .slice a1_0 x1_0.length c1_0, .int .i64 (x1_0.length : Int), .bool (!decide ((s1v.length : Int) = (x1_0.length : Int))), .bool (!decide ((s1v.length : Int) = (x1_0.length : Int))), cv ((!decide ((s1v.length : Int) = (x1_0.length : Int))) == false) (.pointer (some ⟨b0, 0, none⟩)), cv ((!decide ((s1v.length : Int) = (x1_0.length : Int))) == false) (.int .i64 (kv_Store_Len.v x0_0 x0_1)), cv ((!decide ((s1v.length : Int) = (x1_0.length : Int))) == false) (.pointer (some ⟨b1, 0, none⟩)), cv ((!decide ((s1v.length : Int) = (x1_0.length : Int))) == false) (.pointer (some ⟨b1, 0, none⟩)), cv ((!decide ((s1v.length : Int) = (x1_0.length : Int))) == false) (.pointer (some ⟨b1, 0, none⟩)), cv ((!decide ((s1v.length : Int) = (x1_0.length : Int))) == false) (.slice a1_0 x1_0.length c1_0), cv ((!decide ((s1v.length : Int) = (x1_0.length : Int))) == false) (.int .i64 (x1_0.length : Int)), cv ((!decide ((s1v.length : Int) = (x1_0.length : Int))) == false) (.bool (!decide ((kv_Store_Len.v x0_0 x0_1) = (x1_0.length : Int)))), .bool ((!decide ((s1v.length : Int) = (x1_0.length : Int))) || (!decide ((kv_Store_Len.v x0_0 x0_1) = (x1_0.length : Int))))].getD i undef) (fun j γ => [[Row 9 1 y3v.1 s1v.length y3v.2 rs4v.flatten, obj b0 63 [.map (some m0_0), .map (some m0_1)], mapO m0_0 enc9 enc9 x0_0, mapO m0_1 enc3 enc42 x0_1, obj b1 47 [.slice a1_0 x1_0.length c1_0, .slice a1_1 x1_1.length c1_1], F]].getD j []) (fun γ => [(0, .pointer (some ⟨b0, 0, none⟩)), (1, .pointer (some ⟨b1, 0, none⟩)), (5, .slice y3v.1 s1v.length y3v.2), (33, .bool ((!decide ((s1v.length : Int) = (x1_0.length : Int))) || (!decide ((kv_Store_Len.v x0_0 x0_1) = (x1_0.length : Int)))))]) mixed (by decide) (by decide) (by decide) (by decide) (by decide) (by decide) (by decide) 120 rfl (by decide) (by decide) (by decide) (Ent.refl _) ?_ ?_ (fun _ => ⟨rfl, rfl, rfl, rfl, trivial⟩) ?_
 exact (aq rfl (fun γ => qm rfl (.o (s := 5) rfl (by decide) .nil) rfl) (aq rfl (fun γ => qp rfl rfl (.v 0 rfl rfl .nil) (q_len rfl rfl rfl Try.underlying93) rfl) (aq rfl (fun γ => qm rfl (.o (s := 1) rfl (by decide) .nil) rfl) (aq rfl (fun γ => qp rfl rfl (.v 2 rfl rfl .nil) (q_nil rfl rfl) rfl) (aq rfl (fun γ => qp rfl rfl (.v 3 rfl rfl .nil) (q_fa rfl rfl Try.underlying47 rfl rfl Try.sizeOf44 rfl) rfl) (aq rfl (fun γ => qp rfl rfl (.v 4 rfl rfl .nil) (q_load rfl rfl Try.isAgg44 (.obj 4 rfl rfl)) rfl) (aq rfl (fun γ => qp rfl rfl (.v 5 rfl rfl .nil) (q_len rfl rfl rfl Try.underlying44) rfl) (aq rfl (fun γ => qp rfl rfl (.v 1 rfl rfl (.v 6 rfl rfl .nil)) (q_neq rfl rfl rfl) rfl) (aq rfl (fun γ => qm rfl (.v 7 rfl rfl .nil) rfl) (aq rfl (fun γ => QOb.grd (b := !decide ((s1v.length : Int) = (x1_0.length : Int))) [(0, .pointer (some ⟨b0, 0, none⟩)), (24, .bool (!decide ((s1v.length : Int) = (x1_0.length : Int))))] rfl rfl rfl rfl (.o (s := 0) rfl (by decide) (.v 8 rfl rfl .nil)) (fun hb9v => RQ.sub (E' := [(0, .pointer (some ⟨b0, 0, none⟩))]) ⟨rfl, trivial⟩ (q_move rfl rfl)) rfl) (aq rfl (fun γ => QOb.grd (b := !decide ((s1v.length : Int) = (x1_0.length : Int))) [(24, .bool (!decide ((s1v.length : Int) = (x1_0.length : Int)))), (25, cv ((!decide ((s1v.length : Int) = (x1_0.length : Int))) == false) (.pointer (some ⟨b0, 0, none⟩)))] rfl rfl rfl rfl (.v 8 rfl rfl (.v 9 rfl rfl .nil)) (fun hb13v => RQ.sub (E' := [(25, .pointer (some ⟨b0, 0, none⟩))]) ⟨lk_cv rfl hb13v, trivial⟩ (RE.rq (re_call (vs := [.pointer (some ⟨b0, 0, none⟩)]) (cap := []) (A := [obj b0 63 [.map (some m0_0), .map (some m0_1)], mapO m0_0 enc9 enc9 x0_0, mapO m0_1 enc3 enc42 x0_1]) (rst := [Row 9 1 y3v.1 s1v.length y3v.2 rs4v.flatten, obj b1 47 [.slice a1_0 x1_0.length c1_0, .slice a1_1 x1_1.length c1_1], F]) rfl rfl rfl rfl rfl rfl Try.call25 (.sel 1 rfl (.sel 1 rfl (.sel 1 rfl (.sel 0 rfl (.sel 0 rfl (.sel 0 rfl (.nil _))))))) (kv_Store_Len.calls _ _ b0 m0_0 x0_0 m0_1 x0_1 ) (kv_Store_Len.tot x0_0 x0_1)) (fun _ => rfl) (fun _ => (.sel 3 rfl (.sel 0 rfl (.sel 0 rfl (.sel 0 rfl (.sel 0 rfl (.sel 0 rfl (.nil _)))))))))) rfl) (aq rfl (fun γ => QOb.grd (b := !decide ((s1v.length : Int) = (x1_0.length : Int))) [(1, .pointer (some ⟨b1, 0, none⟩)), (24, .bool (!decide ((s1v.length : Int) = (x1_0.length : Int))))] rfl rfl rfl rfl (.o (s := 1) rfl (by decide) (.v 8 rfl rfl .nil)) (fun hb14v => RQ.sub (E' := [(1, .pointer (some ⟨b1, 0, none⟩))]) ⟨rfl, trivial⟩ (q_move rfl rfl)) rfl) (aq rfl (fun γ => QOb.grd (b := !decide ((s1v.length : Int) = (x1_0.length : Int))) [(24, .bool (!decide ((s1v.length : Int) = (x1_0.length : Int)))), (27, cv ((!decide ((s1v.length : Int) = (x1_0.length : Int))) == false) (.pointer (some ⟨b1, 0, none⟩)))] rfl rfl rfl rfl (.v 8 rfl rfl (.v 11 rfl rfl .nil)) (fun hb15v => RQ.sub (E' := [(27, .pointer (some ⟨b1, 0, none⟩))]) ⟨lk_cv rfl hb15v, trivial⟩ (q_nil rfl rfl)) rfl) (aq rfl (fun γ => QOb.grd (b := !decide ((s1v.length : Int) = (x1_0.length : Int))) [(24, .bool (!decide ((s1v.length : Int) = (x1_0.length : Int)))), (28, cv ((!decide ((s1v.length : Int) = (x1_0.length : Int))) == false) (.pointer (some ⟨b1, 0, none⟩)))] rfl rfl rfl rfl (.v 8 rfl rfl (.v 12 rfl rfl .nil)) (fun hb16v => RQ.sub (E' := [(28, .pointer (some ⟨b1, 0, none⟩))]) ⟨lk_cv rfl hb16v, trivial⟩ (q_fa rfl rfl Try.underlying47 rfl rfl Try.sizeOf44 rfl)) rfl) (aq rfl (fun γ => QOb.grd (b := !decide ((s1v.length : Int) = (x1_0.length : Int))) [(24, .bool (!decide ((s1v.length : Int) = (x1_0.length : Int)))), (29, cv ((!decide ((s1v.length : Int) = (x1_0.length : Int))) == false) (.pointer (some ⟨b1, 0, none⟩)))] rfl rfl rfl rfl (.v 8 rfl rfl (.v 13 rfl rfl .nil)) (fun hb17v => RQ.sub (E' := [(29, .pointer (some ⟨b1, 0, none⟩))]) ⟨lk_cv rfl hb17v, trivial⟩ (q_load rfl rfl Try.isAgg44 (.obj 4 rfl rfl))) rfl) (aq rfl (fun γ => QOb.grd (b := !decide ((s1v.length : Int) = (x1_0.length : Int))) [(24, .bool (!decide ((s1v.length : Int) = (x1_0.length : Int)))), (30, cv ((!decide ((s1v.length : Int) = (x1_0.length : Int))) == false) (.slice a1_0 x1_0.length c1_0))] rfl rfl rfl rfl (.v 8 rfl rfl (.v 14 rfl rfl .nil)) (fun hb18v => RQ.sub (E' := [(30, .slice a1_0 x1_0.length c1_0)]) ⟨lk_cv rfl hb18v, trivial⟩ (q_len rfl rfl rfl Try.underlying44)) rfl) (aq rfl (fun γ => QOb.grd (b := !decide ((s1v.length : Int) = (x1_0.length : Int))) [(24, .bool (!decide ((s1v.length : Int) = (x1_0.length : Int)))), (26, cv ((!decide ((s1v.length : Int) = (x1_0.length : Int))) == false) (.int .i64 (kv_Store_Len.v x0_0 x0_1))), (31, cv ((!decide ((s1v.length : Int) = (x1_0.length : Int))) == false) (.int .i64 (x1_0.length : Int)))] rfl rfl rfl rfl (.v 8 rfl rfl (.v 10 rfl rfl (.v 15 rfl rfl .nil))) (fun hb19v => RQ.sub (E' := [(26, .int .i64 (kv_Store_Len.v x0_0 x0_1)), (31, .int .i64 (x1_0.length : Int))]) ⟨lk_cv rfl hb19v, lk_cv rfl hb19v, trivial⟩ (q_neq rfl rfl rfl)) rfl) (aq rfl (fun γ => qp rfl rfl (.v 8 rfl rfl (.v 16 rfl rfl .nil)) (q_or rfl rfl rfl) rfl) zA))))))))))))))))))
 exact zA
 intro g20v
 refine nrm_then ?_
 refine sim_condb rfl (fun h21v => ?_) (fun h22v => ?_)
 refine sr ?_
 refine va rfl rfl (simL_nil (nrm_then (sim_rtn ?_)))
 refine rtn_then ?_
 exact rtn_fn () rfl rfl rfl (.sel 1 rfl (.sel 1 rfl (.sel 1 rfl (.sel 1 rfl (.sel 1 rfl (.nil _))))))
 refine sim_skip ?_
 refine nrm_then ?_
 refine sim_cutR (S := Unit) (Unit) (fun s y => [(0, .pointer (some ⟨b0, 0, none⟩)), (1, .pointer (some ⟨b1, 0, none⟩)), (5, .slice y3v.1 s1v.length y3v.2)]) (fun s y => [obj b0 63 [.map (some m0_0), .map (some m0_1)], obj b1 47 [.slice a1_0 x1_0.length c1_0, .slice a1_1 x1_1.length c1_1], RowV 9 1 (V9 tt) y3v.1 s1v y3v.2, mapO m0_0 enc9 enc9 x0_0, mapO m0_1 enc3 enc42 x0_1, F]) ?_ ?_
 refine sr ?_
 refine va rfl rfl (simL_nil (nrm_then ?_))
 refine sim_block ?_
 refine sim_loop (S := Int) (Unit) (fun k s => synodlaw11_Same.l0 x0_0 x0_1 x1_0 s1v k s) (fun s y => [(0, .pointer (some ⟨b0, 0, none⟩)), (1, .pointer (some ⟨b1, 0, none⟩)), (5, .slice y3v.1 s1v.length y3v.2), (6, .int .i64 s)]) (fun s y => [obj b0 63 [.map (some m0_0), .map (some m0_1)], obj b1 47 [.slice a1_0 x1_0.length c1_0, .slice a1_1 x1_1.length c1_1], RowV 9 1 (V9 tt) y3v.1 s1v y3v.2, mapO m0_0 enc9 enc9 x0_0, mapO m0_1 enc3 enc42 x0_1, F]) (fun _ => by rw [synodlaw11_Same.l0]) ?_ k 0 () ⟨rfl, rfl, rfl, rfl, trivial⟩ (.sel 1 rfl (.sel 3 rfl (.sel' 0 rfl (RowV.mk hl5v) (.sel 0 rfl (.sel 0 rfl (.sel 0 rfl (.nil _)))))))
 intro k s25v y26v
 refine sim_eq (by rw [synodlaw11_Same.l0]) ?_
 refine sim_seq (sr ?_)
 refine vm rfl rfl ?_
 refine vm rfl rfl ?_
 refine vq (q_len rfl rfl rfl Try.underlying93) rfl ?_
 refine vq (q_lss rfl rfl rfl) rfl (simL_nil (nrm_then ?_))
 refine sim_cond rfl (fun h28v => ?_) (fun h29v => ?_)
 refine sim_skip ?_
 refine nrm_then (sim_seq ?_)
 refine sim_block ?_
 refine sim_cut (S := Bool) (Unit) (fun s y => [(0, .pointer (some ⟨b0, 0, none⟩)), (1, .pointer (some ⟨b1, 0, none⟩)), (5, .slice y3v.1 s1v.length y3v.2), (6, .int .i64 s25v), (70, .bool s)]) (fun s y => [obj b0 63 [.map (some m0_0), .map (some m0_1)], obj b1 47 [.slice a1_0 x1_0.length c1_0, .slice a1_1 x1_1.length c1_1], RowV 9 1 (V9 tt) y3v.1 s1v y3v.2, mapO m0_0 enc9 enc9 x0_0, mapO m0_1 enc3 enc42 x0_1, F]) ?_ ?_
 refine sim_openV 2 rfl (fun rs32v hl33v => ?_)
 refine sim_ask (fun hi34v => ?_)
 refine sim_posV 2 rfl hl33v rfl (i := s25v.toNat) (by omega) ([] : List UInt8) (fun b35v b35vo r38v ha36v hV39v hlr40v hcell41v => ?_)
 obtain rfl := hV39v
 refine sim_ask (fun hi42v => ?_)
 obtain ⟨b43v, b43vo, r46v, ha44v, hV47v, hlr48v, hcell49v⟩ := RdV.pos h1_0 (Up.refl _) rfl (i := s25v.toNat) (by omega) dz92
 obtain rfl := hV47v
 refine sim_if (fun hk50v => ?_) (fun hk50v => ?_)
 refine sim_ask (fun hi52v => ?_)
 refine sim_posV 2 rfl hl33v rfl (i := s25v.toNat) (by omega) ([] : List UInt8) (fun b53v b53vo r56v ha54v hV57v hlr58v hcell59v => ?_)
 obtain rfl := hV57v
 refine sim_ask (fun hi63v => ?_)
 obtain ⟨b64v, b64vo, r67v, ha65v, hV68v, hlr69v, hcell70v⟩ := RdV.pos h1_0 (Up.refl _) rfl (i := s25v.toNat) (by omega) dz92
 obtain rfl := hV68v
 refine sim_draw (Γ := Unit) () [[], [], [0, 1], [0, 1, 2], [], [4], [4, 5], [4, 5, 6], [], [4, 5, 6, 7, 8], [4, 5, 6, 7, 8, 9], [4, 5, 6, 7, 8, 9, 10], rL 12, rL 13, rL 14, rL 14, rL 14, [0, 1, 2, 3, 4, 5, 6, 7, 8, 9, 10, 11, 12, 13, 15, 16], [0, 1, 2, 3, 4, 5, 6, 7, 8, 9, 10, 11, 12, 13, 15, 16, 17], rL 19, rL 14, [0, 1, 2, 3, 4, 5, 6, 7, 8, 9, 10, 11, 12, 13, 20], [0, 1, 2, 3, 4, 5, 6, 7, 8, 9, 10, 11, 12, 13, 20, 21], [0, 1, 2, 3, 4, 5, 6, 7, 8, 9, 10, 11, 12, 13, 20, 21, 22], rL 14, [0, 1, 2, 3, 4, 5, 6, 7, 8, 9, 10, 11, 12, 13, 20, 21, 22, 23, 24], [0, 1, 2, 3, 4, 5, 6, 7, 8, 9, 10, 11, 12, 13, 20, 21, 22, 23, 24, 25], [0, 1, 2, 3, 4, 5, 6, 7, 8, 9, 10, 11, 12, 13, 20, 21, 22, 23, 24, 25, 26], [0, 1, 2, 3, 4, 5, 6, 7, 8, 9, 10, 11, 12, 13, 20, 21, 22, 23, 24, 25, 26, 27], rL 29, rL 30] [] [0, 1, 2, 3, 4, 5, 6, 7, 8, 9, 10, 11, 12, 13, 14, 15, 16, 17, 18, 19, 20, 21, 22, 23, 24, 25, 26, 27, 28, 29, 30] (fun i => [[0], [0], [0], [0], [0], [0], [0], [0], [0], [0], [0], [0], [0], [0], [0], [0], [0], [0], [0], [0], [0], [0], [0], [0], [0], [0], [0], [0], [0], [0], [0]].getD i []) (fun i => [[], [], [], [], [], [], [], [], [], [], [], [], [], [], [], [], [], [], [], [], [], [], [], [], [], [], [], [], [], [], []].getD i []) (fun γ i => [.slice y3v.1 s1v.length y3v.2, .int .i64 s25v, .pointer (some ⟨b35v, b35vo + s25v.toNat * 1, none⟩), str (s1v.getD s25v.toNat ([] : List UInt8)), .pointer (some ⟨b1, 0, none⟩), .pointer (some ⟨b1, 0, none⟩), .pointer (some ⟨b1, 0, none⟩), .slice a1_0 x1_0.length c1_0, .int .i64 s25v, .pointer (some ⟨b43v, b43vo + s25v.toNat * 2, none⟩), .pointer (some ⟨b43v, b43vo + s25v.toNat * 2 + 0, none⟩), str ((x1_0.getD s25v.toNat dz92).1), .bool (!decide ((s1v.getD s25v.toNat ([] : List UInt8)) = ((x1_0.getD s25v.toNat dz92).1))), .bool (!decide ((s1v.getD s25v.toNat ([] : List UInt8)) = ((x1_0.getD s25v.toNat dz92).1))), .pointer (some ⟨b0, 0, none⟩), .slice y3v.1 s1v.length y3v.2, .int .i64 s25v, .pointer (some ⟨b53v, b53vo + s25v.toNat * 1, none⟩), str (s1v.getD s25v.toNat ([] : List UInt8)), .agg #[.int .i64 ((kv_Store_Get.v x0_0 x0_1 (s1v.getD s25v.toNat ([] : List UInt8))).1), str ((kv_Store_Get.v x0_0 x0_1 (s1v.getD s25v.toNat ([] : List UInt8))).2)], .pointer (some ⟨b1, 0, none⟩), .pointer (some ⟨b1, 0, none⟩), .pointer (some ⟨b1, 0, none⟩), .slice a1_0 x1_0.length c1_0, .int .i64 s25v, .pointer (some ⟨b64v, b64vo + s25v.toNat * 2, none⟩), .pointer (some ⟨b64v, b64vo + s25v.toNat * 2 + 1, none⟩), str ((x1_0.getD s25v.toNat dz92).2), .agg #[.int .i64 1, str ((x1_0.getD s25v.toNat dz92).2)], .bool (!(decide ((kv_Store_Get.v x0_0 x0_1 (s1v.getD s25v.toNat ([] : List UInt8))).1 = (1 : Int)) && (decide (((kv_Store_Get.v x0_0 x0_1 (s1v.getD s25v.toNat ([] : List UInt8))).2) = ((x1_0.getD s25v.toNat dz92).2))))), .bool (!(decide ((kv_Store_Get.v x0_0 x0_1 (s1v.getD s25v.toNat ([] : List UInt8))).1 = (1 : Int)) && (decide (((kv_Store_Get.v x0_0 x0_1 (s1v.getD s25v.toNat ([] : List UInt8))).2) = ((x1_0.getD s25v.toNat dz92).2)))))].getD i undef) (fun j γ => [[obj b0 63 [.map (some m0_0), .map (some m0_1)], obj b1 47 [.slice a1_0 x1_0.length c1_0, .slice a1_1 x1_1.length c1_1], Row 9 1 y3v.1 s1v.length y3v.2 rs32v.flatten, mapO m0_0 enc9 enc9 x0_0, mapO m0_1 enc3 enc42 x0_1, F]].getD j []) (fun γ => [(0, .pointer (some ⟨b0, 0, none⟩)), (1, .pointer (some ⟨b1, 0, none⟩)), (5, .slice y3v.1 s1v.length y3v.2), (6, .int .i64 s25v), (54, .pointer (some ⟨b0, 0, none⟩)), (55, .slice y3v.1 s1v.length y3v.2), (56, .int .i64 s25v), (57, .pointer (some ⟨b53v, b53vo + s25v.toNat * 1, none⟩)), (58, str (s1v.getD s25v.toNat ([] : List UInt8))), (59, .agg #[.int .i64 ((kv_Store_Get.v x0_0 x0_1 (s1v.getD s25v.toNat ([] : List UInt8))).1), str ((kv_Store_Get.v x0_0 x0_1 (s1v.getD s25v.toNat ([] : List UInt8))).2)]), (60, .pointer (some ⟨b1, 0, none⟩)), (61, .pointer (some ⟨b1, 0, none⟩)), (62, .pointer (some ⟨b1, 0, none⟩)), (63, .slice a1_0 x1_0.length c1_0), (64, .int .i64 s25v), (65, .pointer (some ⟨b64v, b64vo + s25v.toNat * 2, none⟩)), (66, .pointer (some ⟨b64v, b64vo + s25v.toNat * 2 + 1, none⟩)), (67, str ((x1_0.getD s25v.toNat dz92).2)), (68, .agg #[.int .i64 1, str ((x1_0.getD s25v.toNat dz92).2)]), (69, .bool (!(decide ((kv_Store_Get.v x0_0 x0_1 (s1v.getD s25v.toNat ([] : List UInt8))).1 = (1 : Int)) && (decide (((kv_Store_Get.v x0_0 x0_1 (s1v.getD s25v.toNat ([] : List UInt8))).2) = ((x1_0.getD s25v.toNat dz92).2)))))), (70, .bool (!(decide ((kv_Store_Get.v x0_0 x0_1 (s1v.getD s25v.toNat ([] : List UInt8))).1 = (1 : Int)) && (decide (((kv_Store_Get.v x0_0 x0_1 (s1v.getD s25v.toNat ([] : List UInt8))).2) = ((x1_0.getD s25v.toNat dz92).2))))))]) mixed (by decide) (by decide) (by decide) (by decide) (by decide) (by decide) (by decide) 120 rfl (by decide) (by decide) (by decide) (Ent.refl _) ?_ ?_ (fun _ => ⟨rfl, rfl, rfl, rfl, rfl, rfl, rfl, rfl, rfl, rfl, rfl, rfl, rfl, rfl, rfl, rfl, rfl, rfl, rfl, rfl, rfl, trivial⟩) ?_
 exact (aq rfl (fun γ => qm rfl (.o (s := 5) rfl (by decide) .nil) rfl) (aq rfl (fun γ => qm rfl (.o (s := 6) rfl (by decide) .nil) rfl) (aq rfl (fun γ => qp rfl rfl (.v 0 rfl rfl (.v 1 rfl rfl .nil)) (q_idx rfl rfl rfl ha36v Try.underlying93 Try.sizeOf9 hi34v.1 hi34v.2) rfl) (aq rfl (fun γ => qp rfl rfl (.v 2 rfl rfl .nil) (q_load rfl rfl Try.isAgg9 (hcell41v 2 rfl 0 _ rfl)) rfl) (aq rfl (fun γ => qm rfl (.o (s := 1) rfl (by decide) .nil) rfl) (aq rfl (fun γ => qp rfl rfl (.v 4 rfl rfl .nil) (q_nil rfl rfl) rfl) (aq rfl (fun γ => qp rfl rfl (.v 5 rfl rfl .nil) (q_fa rfl rfl Try.underlying47 rfl rfl Try.sizeOf44 rfl) rfl) (aq rfl (fun γ => qp rfl rfl (.v 6 rfl rfl .nil) (q_load rfl rfl Try.isAgg44 (.obj 1 rfl rfl)) rfl) (aq rfl (fun γ => qm rfl (.o (s := 6) rfl (by decide) .nil) rfl) (aq rfl (fun γ => qp rfl rfl (.v 7 rfl rfl (.v 8 rfl rfl .nil)) (q_idx rfl rfl rfl ha44v Try.underlying44 Try.sizeOf92 hi42v.1 hi42v.2) rfl) (aq rfl (fun γ => qp rfl rfl (.v 9 rfl rfl .nil) (q_fa rfl rfl Try.underlying92 rfl rfl Try.sizeOf9 rfl) rfl) (aq rfl (fun γ => qp rfl rfl (.v 10 rfl rfl .nil) (q_load rfl rfl Try.isAgg9 (hcell49v 5 rfl 0 _ rfl)) rfl) (aq rfl (fun γ => qp rfl rfl (.v 3 rfl rfl (.v 11 rfl rfl .nil)) (q_nes rfl rfl rfl) rfl) (aq rfl (fun γ => qm rfl (.v 12 rfl rfl .nil) rfl) (aq rfl (fun γ => qy rfl rfl (.o (s := 0) rfl (by decide) (.v 13 rfl rfl .nil)) rfl rfl (beq_no (ndec_no hk50v)) (q_move rfl rfl) rfl) (aq rfl (fun γ => qy rfl rfl (.o (s := 5) rfl (by decide) (.v 13 rfl rfl .nil)) rfl rfl (beq_no (ndec_no hk50v)) (q_move rfl rfl) rfl) (aq rfl (fun γ => qy rfl rfl (.o (s := 6) rfl (by decide) (.v 13 rfl rfl .nil)) rfl rfl (beq_no (ndec_no hk50v)) (q_move rfl rfl) rfl) (aq rfl (fun γ => qy rfl rfl (.v 13 rfl rfl (.v 15 rfl rfl (.v 16 rfl rfl .nil))) rfl rfl (beq_no (ndec_no hk50v)) (q_idx rfl rfl rfl ha54v Try.underlying93 Try.sizeOf9 hi52v.1 hi52v.2) rfl) (aq rfl (fun γ => qy rfl rfl (.v 13 rfl rfl (.v 17 rfl rfl .nil)) rfl rfl (beq_no (ndec_no hk50v)) (q_load rfl rfl Try.isAgg9 (hcell59v 2 rfl 0 _ rfl)) rfl) (aq rfl (fun γ => qy rfl rfl (.v 13 rfl rfl (.v 14 rfl rfl (.v 18 rfl rfl .nil))) rfl rfl (beq_no (ndec_no hk50v)) (RE.rq (re_call (vs := [.pointer (some ⟨b0, 0, none⟩), str (s1v.getD s25v.toNat ([] : List UInt8))]) (cap := []) (A := [obj b0 63 [.map (some m0_0), .map (some m0_1)], mapO m0_0 enc9 enc9 x0_0, mapO m0_1 enc3 enc42 x0_1]) (rst := [obj b1 47 [.slice a1_0 x1_0.length c1_0, .slice a1_1 x1_1.length c1_1], Row 9 1 y3v.1 s1v.length y3v.2 rs32v.flatten, F]) rfl rfl rfl rfl rfl rfl Try.call19 (.sel 0 rfl (.sel 2 rfl (.sel 2 rfl (.sel 0 rfl (.sel 0 rfl (.sel 0 rfl (.nil _))))))) (kv_Store_Get.calls _ _ b0 m0_0 x0_0 m0_1 x0_1 (s1v.getD s25v.toNat ([] : List UInt8)) ) (kv_Store_Get.tot x0_0 x0_1 (s1v.getD s25v.toNat ([] : List UInt8)))) (fun _ => rfl) (fun _ => (.sel 0 rfl (.sel 2 rfl (.sel 2 rfl (.sel 0 rfl (.sel 0 rfl (.sel 0 rfl (.nil _))))))))) rfl) (aq rfl (fun γ => qy rfl rfl (.o (s := 1) rfl (by decide) (.v 13 rfl rfl .nil)) rfl rfl (beq_no (ndec_no hk50v)) (q_move rfl rfl) rfl) (aq rfl (fun γ => qy rfl rfl (.v 13 rfl rfl (.v 20 rfl rfl .nil)) rfl rfl (beq_no (ndec_no hk50v)) (q_nil rfl rfl) rfl) (aq rfl (fun γ => qy rfl rfl (.v 13 rfl rfl (.v 21 rfl rfl .nil)) rfl rfl (beq_no (ndec_no hk50v)) (q_fa rfl rfl Try.underlying47 rfl rfl Try.sizeOf44 rfl) rfl) (aq rfl (fun γ => qy rfl rfl (.v 13 rfl rfl (.v 22 rfl rfl .nil)) rfl rfl (beq_no (ndec_no hk50v)) (q_load rfl rfl Try.isAgg44 (.obj 1 rfl rfl)) rfl) (aq rfl (fun γ => qy rfl rfl (.o (s := 6) rfl (by decide) (.v 13 rfl rfl .nil)) rfl rfl (beq_no (ndec_no hk50v)) (q_move rfl rfl) rfl) (aq rfl (fun γ => qy rfl rfl (.v 13 rfl rfl (.v 23 rfl rfl (.v 24 rfl rfl .nil))) rfl rfl (beq_no (ndec_no hk50v)) (q_idx rfl rfl rfl ha65v Try.underlying44 Try.sizeOf92 hi63v.1 hi63v.2) rfl) (aq rfl (fun γ => qy rfl rfl (.v 13 rfl rfl (.v 25 rfl rfl .nil)) rfl rfl (beq_no (ndec_no hk50v)) (q_fa rfl rfl Try.underlying92 rfl rfl Try.sizeOf9 rfl) rfl) (aq rfl (fun γ => qy rfl rfl (.v 13 rfl rfl (.v 26 rfl rfl .nil)) rfl rfl (beq_no (ndec_no hk50v)) (q_load rfl rfl Try.isAgg9 (hcell70v 5 rfl 1 _ rfl)) rfl) (aq rfl (fun γ => qy rfl rfl (.v 13 rfl rfl (.v 27 rfl rfl .nil)) rfl rfl (beq_no (ndec_no hk50v)) (q_build (v := .agg #[.int .i64 1, str ((x1_0.getD s25v.toNat dz92).2)]) rfl rfl (fun _ => by kernel_rfl)) rfl) (aq rfl (fun γ => qy rfl rfl (.v 13 rfl rfl (.v 19 rfl rfl (.v 28 rfl rfl .nil))) rfl rfl (beq_no (ndec_no hk50v)) (q_neagg rfl rfl rfl (by kernel_rfl) (fun d w => eqi_struct Try.underlying28 (by kernel_rfl) (eqf_cons (by rfl) (part_of Try.isAgg3 rfl) (part_of Try.isAgg3 rfl) (eqi_int Try.underlying3) (eqf_last (by rfl) (part_of Try.isAgg9 rfl) (part_of Try.isAgg9 rfl) (eqi_str Try.underlying9))))) rfl) (aq rfl (fun γ => qp rfl rfl (.v 13 rfl rfl (.v 29 rfl rfl .nil)) (q_pick rfl rfl rfl rfl (bif_no (ndec_no hk50v) _ _)) rfl) zA)))))))))))))))))))))))))))))))
 exact zA
 intro g74v
 exact nrm_cut (s := !(decide ((kv_Store_Get.v x0_0 x0_1 (s1v.getD s25v.toNat ([] : List UInt8))).1 = (1 : Int)) && (decide (((kv_Store_Get.v x0_0 x0_1 (s1v.getD s25v.toNat ([] : List UInt8))).2) = ((x1_0.getD s25v.toNat dz92).2))))) () ⟨rfl, rfl, rfl, rfl, rfl, trivial⟩ (.sel 0 rfl (.sel 0 rfl (.sel' 0 rfl (RowV.mk hl33v) (.sel 0 rfl (.sel 0 rfl (.sel 0 rfl (.nil _)))))))
 refine sim_draw (Γ := Unit) () [[], [], [0, 1], [0, 1, 2], [], [4], [4, 5], [4, 5, 6], [], [4, 5, 6, 7, 8], [4, 5, 6, 7, 8, 9], [4, 5, 6, 7, 8, 9, 10], rL 12, rL 13, rL 14, rL 14, rL 14, [0, 1, 2, 3, 4, 5, 6, 7, 8, 9, 10, 11, 12, 13, 15, 16], [0, 1, 2, 3, 4, 5, 6, 7, 8, 9, 10, 11, 12, 13, 15, 16, 17], rL 19, rL 14, [0, 1, 2, 3, 4, 5, 6, 7, 8, 9, 10, 11, 12, 13, 20], [0, 1, 2, 3, 4, 5, 6, 7, 8, 9, 10, 11, 12, 13, 20, 21], [0, 1, 2, 3, 4, 5, 6, 7, 8, 9, 10, 11, 12, 13, 20, 21, 22], rL 14, [0, 1, 2, 3, 4, 5, 6, 7, 8, 9, 10, 11, 12, 13, 20, 21, 22, 23, 24], [0, 1, 2, 3, 4, 5, 6, 7, 8, 9, 10, 11, 12, 13, 20, 21, 22, 23, 24, 25], [0, 1, 2, 3, 4, 5, 6, 7, 8, 9, 10, 11, 12, 13, 20, 21, 22, 23, 24, 25, 26], [0, 1, 2, 3, 4, 5, 6, 7, 8, 9, 10, 11, 12, 13, 20, 21, 22, 23, 24, 25, 26, 27], rL 29, rL 30] [] [0, 1, 2, 3, 4, 5, 6, 7, 8, 9, 10, 11, 12, 13, 14, 15, 16, 17, 18, 19, 20, 21, 22, 23, 24, 25, 26, 27, 28, 29, 30] (fun i => [[0], [0], [0], [0], [0], [0], [0], [0], [0], [0], [0], [0], [0], [0], [0], [0], [0], [0], [0], [0], [0], [0], [0], [0], [0], [0], [0], [0], [0], [0], [0]].getD i []) (fun i => [[], [], [], [], [], [], [], [], [], [], [], [], [], [], [], [], [], [], [], [], [], [], [], [], [], [], [], [], [], [], []].getD i []) (fun γ i => [.slice y3v.1 s1v.length y3v.2, .int .i64 s25v, .pointer (some ⟨b35v, b35vo + s25v.toNat * 1, none⟩), str (s1v.getD s25v.toNat ([] : List UInt8)), .pointer (some ⟨b1, 0, none⟩), .pointer (some ⟨b1, 0, none⟩), .pointer (some ⟨b1, 0, none⟩), .slice a1_0 x1_0.length c1_0, .int .i64 s25v, .pointer (some ⟨b43v, b43vo + s25v.toNat * 2, none⟩), .pointer (some ⟨b43v, b43vo + s25v.toNat * 2 + 0, none⟩), str ((x1_0.getD s25v.toNat dz92).1), .bool (!decide ((s1v.getD s25v.toNat ([] : List UInt8)) = ((x1_0.getD s25v.toNat dz92).1))), .bool (!decide ((s1v.getD s25v.toNat ([] : List UInt8)) = ((x1_0.getD s25v.toNat dz92).1))), undef, undef, undef, undef, undef, undef, undef, undef, undef, undef, undef, undef, undef, undef, undef, undef, .bool true].getD i undef) (fun j γ => [[obj b0 63 [.map (some m0_0), .map (some m0_1)], obj b1 47 [.slice a1_0 x1_0.length c1_0, .slice a1_1 x1_1.length c1_1], Row 9 1 y3v.1 s1v.length y3v.2 rs32v.flatten, mapO m0_0 enc9 enc9 x0_0, mapO m0_1 enc3 enc42 x0_1, F]].getD j []) (fun γ => [(0, .pointer (some ⟨b0, 0, none⟩)), (1, .pointer (some ⟨b1, 0, none⟩)), (5, .slice y3v.1 s1v.length y3v.2), (6, .int .i64 s25v), (54, undef), (55, undef), (56, undef), (57, undef), (58, undef), (59, undef), (60, undef), (61, undef), (62, undef), (63, undef), (64, undef), (65, undef), (66, undef), (67, undef), (68, undef), (69, undef), (70, .bool true)]) mixed (by decide) (by decide) (by decide) (by decide) (by decide) (by decide) (by decide) 120 rfl (by decide) (by decide) (by decide) (Ent.refl _) ?_ ?_ (fun _ => ⟨rfl, rfl, rfl, rfl, rfl, rfl, rfl, rfl, rfl, rfl, rfl, rfl, rfl, rfl, rfl, rfl, rfl, rfl, rfl, rfl, rfl, trivial⟩) ?_
 exact (aq rfl (fun γ => qm rfl (.o (s := 5) rfl (by decide) .nil) rfl) (aq rfl (fun γ => qm rfl (.o (s := 6) rfl (by decide) .nil) rfl) (aq rfl (fun γ => qp rfl rfl (.v 0 rfl rfl (.v 1 rfl rfl .nil)) (q_idx rfl rfl rfl ha36v Try.underlying93 Try.sizeOf9 hi34v.1 hi34v.2) rfl) (aq rfl (fun γ => qp rfl rfl (.v 2 rfl rfl .nil) (q_load rfl rfl Try.isAgg9 (hcell41v 2 rfl 0 _ rfl)) rfl) (aq rfl (fun γ => qm rfl (.o (s := 1) rfl (by decide) .nil) rfl) (aq rfl (fun γ => qp rfl rfl (.v 4 rfl rfl .nil) (q_nil rfl rfl) rfl) (aq rfl (fun γ => qp rfl rfl (.v 5 rfl rfl .nil) (q_fa rfl rfl Try.underlying47 rfl rfl Try.sizeOf44 rfl) rfl) (aq rfl (fun γ => qp rfl rfl (.v 6 rfl rfl .nil) (q_load rfl rfl Try.isAgg44 (.obj 1 rfl rfl)) rfl) (aq rfl (fun γ => qm rfl (.o (s := 6) rfl (by decide) .nil) rfl) (aq rfl (fun γ => qp rfl rfl (.v 7 rfl rfl (.v 8 rfl rfl .nil)) (q_idx rfl rfl rfl ha44v Try.underlying44 Try.sizeOf92 hi42v.1 hi42v.2) rfl) (aq rfl (fun γ => qp rfl rfl (.v 9 rfl rfl .nil) (q_fa rfl rfl Try.underlying92 rfl rfl Try.sizeOf9 rfl) rfl) (aq rfl (fun γ => qp rfl rfl (.v 10 rfl rfl .nil) (q_load rfl rfl Try.isAgg9 (hcell49v 5 rfl 0 _ rfl)) rfl) (aq rfl (fun γ => qp rfl rfl (.v 3 rfl rfl (.v 11 rfl rfl .nil)) (q_nes rfl rfl rfl) rfl) (aq rfl (fun γ => qm rfl (.v 12 rfl rfl .nil) rfl) (aq rfl (fun γ => qn rfl rfl (.o (s := 0) rfl (by decide) (.v 13 rfl rfl .nil)) rfl rfl (beq_yes' (ndec_yes hk50v)) rfl) (aq rfl (fun γ => qn rfl rfl (.o (s := 5) rfl (by decide) (.v 13 rfl rfl .nil)) rfl rfl (beq_yes' (ndec_yes hk50v)) rfl) (aq rfl (fun γ => qn rfl rfl (.o (s := 6) rfl (by decide) (.v 13 rfl rfl .nil)) rfl rfl (beq_yes' (ndec_yes hk50v)) rfl) (aq rfl (fun γ => qn rfl rfl (.v 13 rfl rfl (.v 15 rfl rfl (.v 16 rfl rfl .nil))) rfl rfl (beq_yes' (ndec_yes hk50v)) rfl) (aq rfl (fun γ => qn rfl rfl (.v 13 rfl rfl (.v 17 rfl rfl .nil)) rfl rfl (beq_yes' (ndec_yes hk50v)) rfl) (aq rfl (fun γ => qn rfl rfl (.v 13 rfl rfl (.v 14 rfl rfl (.v 18 rfl rfl .nil))) rfl rfl (beq_yes' (ndec_yes hk50v)) rfl) (aq rfl (fun γ => qn rfl rfl (.o (s := 1) rfl (by decide) (.v 13 rfl rfl .nil)) rfl rfl (beq_yes' (ndec_yes hk50v)) rfl) (aq rfl (fun γ => qn rfl rfl (.v 13 rfl rfl (.v 20 rfl rfl .nil)) rfl rfl (beq_yes' (ndec_yes hk50v)) rfl) (aq rfl (fun γ => qn rfl rfl (.v 13 rfl rfl (.v 21 rfl rfl .nil)) rfl rfl (beq_yes' (ndec_yes hk50v)) rfl) (aq rfl (fun γ => qn rfl rfl (.v 13 rfl rfl (.v 22 rfl rfl .nil)) rfl rfl (beq_yes' (ndec_yes hk50v)) rfl) (aq rfl (fun γ => qn rfl rfl (.o (s := 6) rfl (by decide) (.v 13 rfl rfl .nil)) rfl rfl (beq_yes' (ndec_yes hk50v)) rfl) (aq rfl (fun γ => qn rfl rfl (.v 13 rfl rfl (.v 23 rfl rfl (.v 24 rfl rfl .nil))) rfl rfl (beq_yes' (ndec_yes hk50v)) rfl) (aq rfl (fun γ => qn rfl rfl (.v 13 rfl rfl (.v 25 rfl rfl .nil)) rfl rfl (beq_yes' (ndec_yes hk50v)) rfl) (aq rfl (fun γ => qn rfl rfl (.v 13 rfl rfl (.v 26 rfl rfl .nil)) rfl rfl (beq_yes' (ndec_yes hk50v)) rfl) (aq rfl (fun γ => qn rfl rfl (.v 13 rfl rfl (.v 27 rfl rfl .nil)) rfl rfl (beq_yes' (ndec_yes hk50v)) rfl) (aq rfl (fun γ => qn rfl rfl (.v 13 rfl rfl (.v 19 rfl rfl (.v 28 rfl rfl .nil))) rfl rfl (beq_yes' (ndec_yes hk50v)) rfl) (aq rfl (fun γ => qp rfl rfl (.v 13 rfl rfl (.v 29 rfl rfl .nil)) (q_pick rfl rfl rfl rfl (bif_yes (ndec_yes hk50v) _ _)) rfl) zA)))))))))))))))))))))))))))))))
 exact zA
 intro g51v
 exact nrm_cut (s := true) () ⟨rfl, rfl, rfl, rfl, rfl, trivial⟩ (.sel 0 rfl (.sel 0 rfl (.sel' 0 rfl (RowV.mk hl33v) (.sel 0 rfl (.sel 0 rfl (.sel 0 rfl (.nil _)))))))
 intro s30v y31v
 refine sim_condb rfl (fun h75v => ?_) (fun h76v => ?_)
 refine sr ?_
 refine va rfl rfl (simL_nil (nrm_then (sim_rtn ?_)))
 refine rtn_block ?_
 refine rtn_then ?_
 refine rtn_loop ?_
 refine rtn_block ?_
 refine rtn_cutR ?_
 exact rtn_fn () rfl rfl rfl (.sel 0 rfl (.sel 2 rfl (.sel 2 rfl (.sel 0 rfl (.sel 1 rfl (.nil _))))))
 refine sim_skip ?_
 refine nrm_block (nrm_then (sim_region ?_))
 refine vm rfl rfl ?_
 refine vq (q_add rfl rfl rfl) rfl ?_
 refine va rfl rfl (simL_nil ?_)
 exact nrm_again (s := IntKind.i64.wrap (s25v + 1)) () ⟨rfl, rfl, rfl, rfl, trivial⟩ (.sel 0 rfl (.sel 0 rfl (.sel 0 rfl (.sel 0 rfl (.sel 0 rfl (.sel 0 rfl (.nil _)))))))
 refine sim_exi ?_
 refine exi_then ?_
 refine exi_loop ?_
 refine exi_here ?_
 exact nrm_cutR (s := ()) () ⟨rfl, rfl, rfl, trivial⟩ (.sel 0 rfl (.sel 0 rfl (.sel 0 rfl (.sel 0 rfl (.sel 0 rfl (.sel 0 rfl (.nil _)))))))
 intro s23v y24v
 refine sr ?_
 refine vm rfl rfl ?_
 refine simL_bind (fun s77v hs78v => ?_)
 refine simL_eff (re_call (vs := [.pointer (some ⟨b0, 0, none⟩)]) (cap := []) (A := [obj b0 63 [.map (some m0_0), .map (some m0_1)], mapO m0_0 enc9 enc9 x0_0, mapO m0_1 enc3 enc42 x0_1]) (rst := [obj b1 47 [.slice a1_0 x1_0.length c1_0, .slice a1_1 x1_1.length c1_1], RowV 9 1 (V9 tt) y3v.1 s1v y3v.2, F]) rfl rfl rfl rfl rfl rfl Try.call17 (.sel 0 rfl (.sel 2 rfl (.sel 2 rfl (.sel 0 rfl (.sel 0 rfl (.sel 0 rfl (.nil _))))))) (kv_Store_Sessions.calls _ _ k b0 m0_0 x0_0 m0_1 x0_1 ) hs78v) rfl rfl rfl ?_
 intro y79v
 refine va rfl rfl (nx ?_)
 refine vm rfl rfl ?_
 refine vm rfl rfl ?_
 refine simL_openV 0 rfl (fun rs80v hl81v => ?_)
 refine simL_bind (fun s86v hs87v => ?_)
 refine simL_lend 0 rfl (fun hq82v hq83v hq84v hq85v => ?_)
 refine simL_eff (re_call (vs := [.slice y79v.1 s77v.length y79v.2, .pointer (some ⟨b1, 0, none⟩)]) (cap := []) (A := [obj b1 47 [.slice a1_0 x1_0.length c1_0, .slice a1_1 x1_1.length c1_1]]) (rst := [Row 42 4 y79v.1 s77v.length y79v.2 rs80v.flatten, obj b0 63 [.map (some m0_0), .map (some m0_1)], mapO m0_0 enc9 enc9 x0_0, mapO m0_1 enc3 enc42 x0_1, RowV 9 1 (V9 tt) y3v.1 s1v y3v.2, F]) rfl rfl rfl rfl rfl rfl Try.call39 (.sel 4 rfl (.sel 0 rfl (.sel 0 rfl (.sel 0 rfl (.sel 0 rfl (.sel 0 rfl (.sel 0 rfl (.nil _)))))))) (synodlaw11_Sessions.calls _ _ k y79v.1 y79v.2 s77v b1 a1_0 c1_0 x1_0 a1_1 c1_1 x1_1 ((Rd.asV hl81v hq82v).up (Up.lend 0 rfl) (fun _ _ h => h)) hq83v hq84v (h1_0.up (Up.lend 5 rfl) (fun _ _ h => h)) hc1_0 hm1_0 (h1_1.up (Up.lend 5 rfl) (fun _ _ h => h)) hc1_1 hm1_1) hs87v) rfl rfl rfl ?_
 intro y88v
 refine va rfl rfl (simL_nil (nrm_then ?_))
 refine sim_cut (S := Unit) (Unit) (fun s y => [(0, .pointer (some ⟨b0, 0, none⟩)), (1, .pointer (some ⟨b1, 0, none⟩)), (5, .slice y3v.1 s1v.length y3v.2), (8, .bool s86v)]) (fun s y => [obj b1 47 [.slice a1_0 x1_0.length c1_0, .slice a1_1 x1_1.length c1_1], obj b0 63 [.map (some m0_0), .map (some m0_1)], RowV 9 1 (V9 tt) y3v.1 s1v y3v.2, mapO m0_0 enc9 enc9 x0_0, mapO m0_1 enc3 enc42 x0_1, F]) ?_ ?_
 refine sr ?_
 refine va rfl rfl (simL_nil (nrm_then ?_))
 refine sim_block ?_
 refine sim_loop (S := (List (Ty86)) × Int) (Unit) (fun k s => synodlaw11_Same.l1 k s.1 s.2) (fun s y => [(0, .pointer (some ⟨b0, 0, none⟩)), (1, .pointer (some ⟨b1, 0, none⟩)), (5, .slice y3v.1 s1v.length y3v.2), (7, .slice y79v.1 s.1.length y79v.2), (8, .bool s86v), (9, .int .i64 s.2)]) (fun s y => [obj b1 47 [.slice a1_0 x1_0.length c1_0, .slice a1_1 x1_1.length c1_1], obj b0 63 [.map (some m0_0), .map (some m0_1)], RowV 9 1 (V9 tt) y3v.1 s1v y3v.2, RowV 42 4 (V42 tt) y79v.1 s.1 y79v.2, mapO m0_0 enc9 enc9 x0_0, mapO m0_1 enc3 enc42 x0_1, F]) (fun _ => by rw [synodlaw11_Same.l1]) ?_ k (s77v, 0) () ⟨rfl, rfl, rfl, rfl, rfl, rfl, trivial⟩ (.sel 0 rfl (.sel 1 rfl (.sel 3 rfl (.sel' 0 rfl (RowV.mk hl81v) (.sel 0 rfl (.sel 0 rfl (.sel 0 rfl (.nil _))))))))
 intro k s91v y92v
 refine sim_eq (by rw [synodlaw11_Same.l1]) ?_
 refine sim_seq (sr ?_)
 refine vm rfl rfl ?_
 refine vm rfl rfl ?_
 refine vq (q_len rfl rfl rfl Try.underlying39) rfl ?_
 refine vq (q_lss rfl rfl rfl) rfl (simL_nil (nrm_then ?_))
 refine sim_cond rfl (fun h95v => ?_) (fun h96v => ?_)
 refine sim_skip ?_
 refine nrm_then (sim_seq ?_)
 refine sim_block ?_
 refine sim_region ?_
 refine vm rfl rfl ?_
 refine vm rfl rfl ?_
 refine vq (q_build (v := .agg #[.int .i64 0, .int .i64 0, .int .i64 0, str ([] : List UInt8)]) rfl rfl (fun _ => by kernel_rfl)) rfl ?_
 refine simL_openV 3 rfl (fun rs105v hl106v => ?_)
 refine simL_ask (fun hi97v => ?_)
 refine simL_posV 3 rfl hl106v rfl (i := s91v.2.toNat) (by omega) dz86 (fun b98v b98vo r101v ha99v hV102v hlr103v hcell104v => ?_)
 obtain rfl := hV102v
 refine vq (q_idx rfl rfl rfl ha99v Try.underlying39 Try.sizeOf42 hi97v.1 hi97v.2) rfl ?_
 refine simL_do (re_storeV (V := (V42 tt)) dz86 0 dz86 3 rfl rfl rfl Try.sizeOf42 rfl rfl (one_of (by rfl)) rfl hl106v ha99v (by omega) rfl (fun r hr _ _ => by cases (show r = _ from hr); exact rfl)) rfl rfl ?_
 intro _
 refine simL_ren (.slice y79v.1 ((s91v.1.set s91v.2.toNat dz86).length) y79v.2) (d := 7) rfl (slc_len (by simp)) ?_
 refine simL_ren (.slice y79v.1 ((s91v.1.set s91v.2.toNat dz86).length) y79v.2) (d := 77) rfl (slc_len (by simp)) ?_
 refine simL_ren (.slice y79v.1 ((s91v.1.set s91v.2.toNat dz86).length) y79v.2) (d := 82) rfl (slc_len (by simp)) ?_
 refine simL_nil (nrm_block (nrm_then (sim_region ?_)))
 refine vm rfl rfl ?_
 refine vq (q_add rfl rfl rfl) rfl ?_
 refine va rfl rfl (simL_nil ?_)
 exact nrm_again (s := (s91v.1.set s91v.2.toNat dz86, IntKind.i64.wrap (s91v.2 + 1))) () ⟨rfl, rfl, rfl, rfl, rfl, rfl, trivial⟩ (.sel 0 rfl (.sel 0 rfl (.sel 0 rfl (.sel 0 rfl (.sel 0 rfl (.sel 0 rfl (.sel 0 rfl (.nil _))))))))
 refine sim_exi ?_
 refine exi_then ?_
 refine exi_loop ?_
 refine exi_here ?_
 exact nrm_cut (s := ()) () ⟨rfl, rfl, rfl, rfl, trivial⟩ (.sel 0 rfl (.sel 0 rfl (.sel 0 rfl (.sel 1 rfl (.sel 1 rfl (.sel 1 rfl (.nil _)))))))
 intro s89v y90v
 refine sim_cut (S := Unit) (Unit) (fun s y => [(0, .pointer (some ⟨b0, 0, none⟩)), (1, .pointer (some ⟨b1, 0, none⟩)), (8, .bool s86v)]) (fun s y => [obj b1 47 [.slice a1_0 x1_0.length c1_0, .slice a1_1 x1_1.length c1_1], obj b0 63 [.map (some m0_0), .map (some m0_1)], mapO m0_0 enc9 enc9 x0_0, mapO m0_1 enc3 enc42 x0_1, F]) ?_ ?_
 refine sr ?_
 refine va rfl rfl (simL_nil (nrm_then ?_))
 refine sim_block ?_
 refine sim_loop (S := List (List UInt8) × Int) (Unit) (fun k s => synodlaw11_Same.l2 k s.1 s.2) (fun s y => [(0, .pointer (some ⟨b0, 0, none⟩)), (1, .pointer (some ⟨b1, 0, none⟩)), (5, .slice y3v.1 s.1.length y3v.2), (8, .bool s86v), (10, .int .i64 s.2)]) (fun s y => [obj b1 47 [.slice a1_0 x1_0.length c1_0, .slice a1_1 x1_1.length c1_1], obj b0 63 [.map (some m0_0), .map (some m0_1)], RowV 9 1 (V9 tt) y3v.1 s.1 y3v.2, mapO m0_0 enc9 enc9 x0_0, mapO m0_1 enc3 enc42 x0_1, F]) (fun _ => by rw [synodlaw11_Same.l2]) ?_ k (s1v, 0) () ⟨rfl, rfl, rfl, rfl, rfl, trivial⟩ (.sel 0 rfl (.sel 0 rfl (.sel 0 rfl (.sel 0 rfl (.sel 0 rfl (.sel 0 rfl (.nil _)))))))
 intro k s109v y110v
 refine sim_eq (by rw [synodlaw11_Same.l2]) ?_
 refine sim_seq (sr ?_)
 refine vm rfl rfl ?_
 refine vm rfl rfl ?_
 refine vq (q_len rfl rfl rfl Try.underlying93) rfl ?_
 refine vq (q_lss rfl rfl rfl) rfl (simL_nil (nrm_then ?_))
 refine sim_cond rfl (fun h113v => ?_) (fun h114v => ?_)
 refine sim_skip ?_
 refine nrm_then (sim_seq ?_)
 refine sim_block ?_
 refine sim_region ?_
 refine vm rfl rfl ?_
 refine vm rfl rfl ?_
 refine simL_openV 2 rfl (fun rs123v hl124v => ?_)
 refine simL_ask (fun hi115v => ?_)
 refine simL_posV 2 rfl hl124v rfl (i := s109v.2.toNat) (by omega) ([] : List UInt8) (fun b116v b116vo r119v ha117v hV120v hlr121v hcell122v => ?_)
 obtain rfl := hV120v
 refine vq (q_idx rfl rfl rfl ha117v Try.underlying93 Try.sizeOf9 hi115v.1 hi115v.2) rfl ?_
 refine simL_do (re_storeV (V := (V9 tt)) ([111, 118, 101, 114] : List UInt8) 0 ([] : List UInt8) 2 rfl rfl rfl Try.sizeOf9 rfl rfl (one_of (by rfl)) rfl hl124v ha117v (by omega) rfl (fun r hr _ _ => by cases (show r = _ from hr); exact rfl)) rfl rfl ?_
 intro _
 refine simL_ren (.slice y3v.1 ((s109v.1.set s109v.2.toNat ([111, 118, 101, 114] : List UInt8)).length) y3v.2) (d := 5) rfl (slc_len (by simp)) ?_
 refine simL_ren (.slice y3v.1 ((s109v.1.set s109v.2.toNat ([111, 118, 101, 114] : List UInt8)).length) y3v.2) (d := 87) rfl (slc_len (by simp)) ?_
 refine simL_ren (.slice y3v.1 ((s109v.1.set s109v.2.toNat ([111, 118, 101, 114] : List UInt8)).length) y3v.2) (d := 92) rfl (slc_len (by simp)) ?_
 refine simL_nil (nrm_block (nrm_then (sim_region ?_)))
 refine vm rfl rfl ?_
 refine vq (q_add rfl rfl rfl) rfl ?_
 refine va rfl rfl (simL_nil ?_)
 exact nrm_again (s := (s109v.1.set s109v.2.toNat ([111, 118, 101, 114] : List UInt8), IntKind.i64.wrap (s109v.2 + 1))) () ⟨rfl, rfl, rfl, rfl, rfl, trivial⟩ (.sel 0 rfl (.sel 0 rfl (.sel 0 rfl (.sel 0 rfl (.sel 0 rfl (.sel 0 rfl (.nil _)))))))
 refine sim_exi ?_
 refine exi_then ?_
 refine exi_loop ?_
 refine exi_here ?_
 exact nrm_cut (s := ()) () ⟨rfl, rfl, rfl, trivial⟩ (.sel 0 rfl (.sel 0 rfl (.sel 1 rfl (.sel 1 rfl (.sel 1 rfl (.nil _))))))
 intro s107v y108v
 refine sr ?_
 refine vm rfl rfl ?_
 refine simL_bind (fun s125v hs126v => ?_)
 refine simL_eff (re_call (vs := [.pointer (some ⟨b0, 0, none⟩)]) (cap := []) (A := [obj b0 63 [.map (some m0_0), .map (some m0_1)], mapO m0_0 enc9 enc9 x0_0, mapO m0_1 enc3 enc42 x0_1]) (rst := [obj b1 47 [.slice a1_0 x1_0.length c1_0, .slice a1_1 x1_1.length c1_1], F]) rfl rfl rfl rfl rfl rfl Try.call14 (.sel 1 rfl (.sel 1 rfl (.sel 1 rfl (.sel 0 rfl (.sel 0 rfl (.nil _)))))) (kv_Store_Snapshot.calls _ _ k b0 m0_0 x0_0 m0_1 x0_1 ) hs126v) rfl rfl rfl ?_
 intro y127v
 refine va rfl rfl (nx ?_)
 refine vm rfl rfl ?_
 refine vm rfl rfl ?_
 refine simL_bind (fun s128v hs129v => ?_)
 refine simL_eff (re_call (vs := [.pointer (some ⟨b1, 0, none⟩)]) (cap := []) (A := [obj b1 47 [.slice a1_0 x1_0.length c1_0, .slice a1_1 x1_1.length c1_1]]) (rst := [Row 5 1 y127v.1 s125v.length y127v.2 (encB s125v), obj b0 63 [.map (some m0_0), .map (some m0_1)], mapO m0_0 enc9 enc9 x0_0, mapO m0_1 enc3 enc42 x0_1, F]) rfl rfl rfl rfl rfl rfl Try.call40 (.sel 4 rfl (.sel 0 rfl (.sel 0 rfl (.sel 0 rfl (.sel 0 rfl (.sel 0 rfl (.nil _))))))) (synodref11_Store_Snapshot.calls _ _ k b1 a1_0 c1_0 x1_0 a1_1 c1_1 x1_1 (h1_0.up (Up.lend 4 rfl) (fun _ _ h => h)) hc1_0 hm1_0 (h1_1.up (Up.lend 4 rfl) (fun _ _ h => h)) hc1_1 hm1_1) hs129v) rfl rfl rfl ?_
 intro y130v
 refine simL_bind (fun s139v hs140v => ?_)
 refine simL_lend 2 rfl (fun hq131v hq132v hq133v hq134v => ?_)
 refine simL_lend 0 rfl (fun hq135v hq136v hq137v hq138v => ?_)
 refine simL_eff (re_call (vs := [.slice y127v.1 s125v.length y127v.2, .slice y130v.1 s128v.length y130v.2]) (cap := []) (A := []) (rst := [Row 5 1 y130v.1 s128v.length y130v.2 (encB s128v), obj b1 47 [.slice a1_0 x1_0.length c1_0, .slice a1_1 x1_1.length c1_1], Row 5 1 y127v.1 s125v.length y127v.2 (encB s125v), obj b0 63 [.map (some m0_0), .map (some m0_1)], mapO m0_0 enc9 enc9 x0_0, mapO m0_1 enc3 enc42 x0_1, F]) rfl rfl rfl rfl rfl rfl Try.call15 (.sel 0 rfl (.sel 0 rfl (.sel 0 rfl (.sel 0 rfl (.sel 0 rfl (.sel 0 rfl (.sel 0 rfl (.nil _)))))))) (synodref_SameBytes.calls _ _ k y127v.1 y127v.2 s125v y130v.1 y130v.2 s128v (hq131v.lend 2 rfl) hq132v hq133v (hq135v.lend 0 rfl) hq136v hq137v) hs140v) rfl rfl rfl ?_
 intro y141v
 refine va rfl rfl (simL_nil (nrm_then ?_))
 refine sim_cut (S := Unit) (Unit) (fun s y => [(0, .pointer (some ⟨b0, 0, none⟩)), (1, .pointer (some ⟨b1, 0, none⟩)), (8, .bool s86v), (12, .bool s139v)]) (fun s y => [obj b1 47 [.slice a1_0 x1_0.length c1_0, .slice a1_1 x1_1.length c1_1], obj b0 63 [.map (some m0_0), .map (some m0_1)], mapO m0_0 enc9 enc9 x0_0, mapO m0_1 enc3 enc42 x0_1, F]) ?_ ?_
 refine sr ?_
 refine va rfl rfl (simL_nil (nrm_then ?_))
 refine sim_block ?_
 refine sim_loop (S := List UInt8 × Int) (Unit) (fun k s => synodlaw11_Same.l3 k s.1 s.2) (fun s y => [(0, .pointer (some ⟨b0, 0, none⟩)), (1, .pointer (some ⟨b1, 0, none⟩)), (8, .bool s86v), (11, .slice y127v.1 s.1.length y127v.2), (12, .bool s139v), (13, .int .i64 s.2)]) (fun s y => [obj b1 47 [.slice a1_0 x1_0.length c1_0, .slice a1_1 x1_1.length c1_1], obj b0 63 [.map (some m0_0), .map (some m0_1)], Row 5 1 y127v.1 s.1.length y127v.2 (encB s.1), mapO m0_0 enc9 enc9 x0_0, mapO m0_1 enc3 enc42 x0_1, F]) (fun _ => by rw [synodlaw11_Same.l3]) ?_ k (s125v, 0) () ⟨rfl, rfl, rfl, rfl, rfl, rfl, trivial⟩ (.sel 1 rfl (.sel 2 rfl (.sel 1 rfl (.sel 1 rfl (.sel 1 rfl (.sel 1 rfl (.nil _)))))))
 intro k s144v y145v
 refine sim_eq (by rw [synodlaw11_Same.l3]) ?_
 refine sim_seq (sr ?_)
 refine vm rfl rfl ?_
 refine vm rfl rfl ?_
 refine vq (q_len rfl rfl rfl Try.underlying35) rfl ?_
 refine vq (q_lss rfl rfl rfl) rfl (simL_nil (nrm_then ?_))
 refine sim_cond rfl (fun h148v => ?_) (fun h149v => ?_)
 refine sim_skip ?_
 refine nrm_then (sim_seq ?_)
 refine sim_block ?_
 refine sim_region ?_
 refine vm rfl rfl ?_
 refine vm rfl rfl ?_
 refine simL_ask (fun hi150v => ?_)
 refine simL_row 2 rfl (encB_ne (j := s144v.2.toNat) (by omega)) (fun b151v b151vo ha152v => ?_)
 refine vq (q_idx1 rfl rfl rfl ha152v Try.underlying35 Try.sizeOf5 hi150v.1 hi150v.2) rfl ?_
 refine simL_do (re_storeb 55 2 rfl rfl rfl Try.sizeOf5 rfl ha152v hi150v.2 hi150v.1 rfl) rfl rfl ?_
 intro _
 refine simL_ren (.slice y127v.1 ((s144v.1.set s144v.2.toNat 55).length) y127v.2) (d := 11) rfl (slc_len (by simp)) ?_
 refine simL_ren (.slice y127v.1 ((s144v.1.set s144v.2.toNat 55).length) y127v.2) (d := 102) rfl (slc_len (by simp)) ?_
 refine simL_ren (.slice y127v.1 ((s144v.1.set s144v.2.toNat 55).length) y127v.2) (d := 107) rfl (slc_len (by simp)) ?_
 refine simL_nil (nrm_block (nrm_then (sim_region ?_)))
 refine vm rfl rfl ?_
 refine vq (q_add rfl rfl rfl) rfl ?_
 refine va rfl rfl (simL_nil ?_)
 exact nrm_again (s := (s144v.1.set s144v.2.toNat 55, IntKind.i64.wrap (s144v.2 + 1))) () ⟨rfl, rfl, rfl, rfl, rfl, rfl, trivial⟩ (.sel 0 rfl (.sel 0 rfl (.sel 0 rfl (.sel 0 rfl (.sel 0 rfl (.sel 0 rfl (.nil _)))))))
 refine sim_exi ?_
 refine exi_then ?_
 refine exi_loop ?_
 refine exi_here ?_
 exact nrm_cut (s := ()) () ⟨rfl, rfl, rfl, rfl, trivial⟩ (.sel 0 rfl (.sel 0 rfl (.sel 1 rfl (.sel 1 rfl (.sel 1 rfl (.nil _))))))
 intro s142v y143v
 refine sr ?_
 refine vm rfl rfl ?_
 refine vm rfl rfl ?_
 refine simL_valc (b := s86v) (fun hb171v => RQ.sub (E' := [(12, .bool s139v)]) ⟨rfl, trivial⟩ (q_move rfl rfl)) rfl rfl rfl rfl rfl ?_
 refine vq (q_and rfl rfl rfl) rfl ?_
 refine vm rfl rfl ?_
 refine simL_cut' 5 (S := Bool) (Unit) (fun s y => [(119, .bool s)]) (fun s y => [obj b1 47 [.slice a1_0 x1_0.length c1_0, .slice a1_1 x1_1.length c1_1], obj b0 63 [.map (some m0_0), .map (some m0_1)], mapO m0_0 enc9 enc9 x0_0, mapO m0_1 enc3 enc42 x0_1, F]) ?_ ?_
 refine simL_caseb (fun hb169v => ?_) (fun hb170v => ?_)
 rw [hb169v]
 refine simL_valg (q_move rfl rfl) rfl rfl rfl rfl rfl rfl ?_
 refine simL_bind (fun s157v hs158v => ?_)
 refine simL_effg (re_call (vs := [.pointer (some ⟨b0, 0, none⟩)]) (cap := []) (A := [obj b0 63 [.map (some m0_0), .map (some m0_1)], mapO m0_0 enc9 enc9 x0_0, mapO m0_1 enc3 enc42 x0_1]) (rst := [obj b1 47 [.slice a1_0 x1_0.length c1_0, .slice a1_1 x1_1.length c1_1], F]) rfl rfl rfl rfl rfl rfl Try.call17 (.sel 1 rfl (.sel 1 rfl (.sel 1 rfl (.sel 0 rfl (.sel 0 rfl (.nil _)))))) (kv_Store_Sessions.calls _ _ k b0 m0_0 x0_0 m0_1 x0_1 ) hs158v) rfl rfl rfl rfl rfl rfl ?_
 intro y159v
 refine simL_valg (q_move rfl rfl) rfl rfl rfl rfl rfl rfl ?_
 refine simL_openV 0 rfl (fun rs160v hl161v => ?_)
 refine simL_bind (fun s166v hs167v => ?_)
 refine simL_lend 0 rfl (fun hq162v hq163v hq164v hq165v => ?_)
 refine simL_effg (re_call (vs := [.slice y159v.1 s157v.length y159v.2, .pointer (some ⟨b1, 0, none⟩)]) (cap := []) (A := [obj b1 47 [.slice a1_0 x1_0.length c1_0, .slice a1_1 x1_1.length c1_1]]) (rst := [Row 42 4 y159v.1 s157v.length y159v.2 rs160v.flatten, obj b0 63 [.map (some m0_0), .map (some m0_1)], mapO m0_0 enc9 enc9 x0_0, mapO m0_1 enc3 enc42 x0_1, F]) rfl rfl rfl rfl rfl rfl Try.call39 (.sel 4 rfl (.sel 0 rfl (.sel 0 rfl (.sel 0 rfl (.sel 0 rfl (.sel 0 rfl (.nil _))))))) (synodlaw11_Sessions.calls _ _ k y159v.1 y159v.2 s157v b1 a1_0 c1_0 x1_0 a1_1 c1_1 x1_1 ((Rd.asV hl161v hq162v).up (Up.lend 0 rfl) (fun _ _ h => h)) hq163v hq164v (h1_0.up (Up.lend 4 rfl) (fun _ _ h => h)) hc1_0 hm1_0 (h1_1.up (Up.lend 4 rfl) (fun _ _ h => h)) hc1_1 hm1_1) hs167v) rfl rfl rfl rfl rfl rfl ?_
 intro y168v
 refine vq (q_pick rfl rfl rfl rfl rfl) rfl (simL_nil ?_)
 exact nrm_cut (s := s166v) () ⟨rfl, trivial⟩ (.sel 0 rfl (.sel 1 rfl (.sel 1 rfl (.sel 1 rfl (.sel 1 rfl (.nil _))))))
 rw [hb170v]
 refine simL_skipd rfl rfl rfl rfl rfl rfl ?_
 refine simL_skipd rfl rfl rfl rfl rfl rfl ?_
 refine simL_skipd rfl rfl rfl rfl rfl rfl ?_
 refine simL_skipd rfl rfl rfl rfl rfl rfl ?_
 refine vq (q_pick rfl rfl rfl rfl rfl) rfl (simL_nil ?_)
 exact nrm_cut (s := false) () ⟨rfl, trivial⟩ (.sel 0 rfl (.sel 0 rfl (.sel 0 rfl (.sel 0 rfl (.sel 0 rfl (.nil _))))))
 intro s155v y156v
 refine va rfl rfl (simL_nil (nrm_then (sim_rtn ?_)))
 exact rtn_fn () rfl rfl rfl (.sel 1 rfl (.sel 1 rfl (.sel 1 rfl (.sel 0 rfl (.sel 0 rfl (.nil _))))))

def kv_Store_Each_1_s_2_g.l0 {S : Type} (go : S → Bool) (step : S → (Ty92) → Option S) (s1v : List ((List UInt8) × (List UInt8))) (s7v : List (List UInt8)) : Nat → Int → S → Option (S)
  | 0, _, _ => none
  | k + 1, z12v, z13v => if z12v < (s7v.length : Int) then (if 0 ≤ z12v ∧ z12v < (s7v.length : Int) then (if go z13v = true then ((step z13v ((s7v.getD z12v.toNat ([] : List UInt8)), ((mget s1v (s7v.getD z12v.toNat ([] : List UInt8))).getD ([] : List UInt8)))).bind fun s26v => (if (!(go s26v)) = true then (some s26v) else (kv_Store_Each_1_s_2_g.l0 go step s1v s7v k (IntKind.i64.wrap (z12v + 1)) s26v))) else none) else none) else (some z13v)
def kv_Store_Each_1_s_2_g.f {S : Type} (k : Nat) (go : S → Bool) (step : S → (Ty92) → Option S) (s0 : S) (xp1_0 : List ((List UInt8) × (List UInt8))) (xp1_1 : List ((Int) × (Ty86))) : Option (S) := (maps_Clone_map_string_string_string_string.f xp1_0).bind fun s1v => ((maps_Keys_map_string_string_string_string.f).bind fun s4v => ((slices_Sorted_string_maps_Keys_map_string_string_string_string_1.f s1v).bind fun s7v => (kv_Store_Each_1_s_2_g.l0 go step s1v s7v k 0 s0)))
theorem kv_Store_Each_1_s_2_g.calls (W : World) (F : HA) (k : Nat) (S Y : Type) (l : Nat) (go : S → Bool) (step : S → List UInt8 × List UInt8 → Option S) (A : S → Y → HA) (s0 : S) (y0 : Y) (bp0 : Nat) (bp1 : Nat) (mp1_0 : Nat) (xp1_0 : List ((List UInt8) × (List UInt8))) (mp1_1 : Nat) (xp1_1 : List ((Int) × (Ty86))) (hY : YieldOkG Try.prog W l (fun (x : List UInt8 × List UInt8) => [str x.1, str x.2]) go step A) :
    Fn Try.prog W 49 [.func (.yield l) #[] #[], .pointer (some ⟨bp0, 0, none⟩)] [A s0 y0, obj bp1 63 [.map (some mp1_0), .map (some mp1_1)], mapO mp1_0 enc9 enc9 xp1_0, mapO mp1_1 enc3 enc42 xp1_1, obj bp0 25 [.pointer (some ⟨bp1, 0, none⟩)]] F (kv_Store_Each_1_s_2_g.f k go step s0 xp1_0 xp1_1) (fun (r : S) (y : Y) => .tuple #[]) (fun r y => [A r y, obj bp1 63 [.map (some mp1_0), .map (some mp1_1)], mapO mp1_0 enc9 enc9 xp1_0, mapO mp1_1 enc3 enc42 xp1_1, obj bp0 25 [.pointer (some ⟨bp1, 0, none⟩)]]) := by
 unfold kv_Store_Each_1_s_2_g.f
 refine fn_intro 27 Try.func49 rfl Try.ntmps49 rfl ?_
 refine sr ?_
 refine vq (q_load rfl rfl Try.isAgg25 (.obj 4 rfl rfl)) rfl ?_
 refine vn rfl rfl ?_
 refine vq (q_fa rfl rfl Try.underlying63 rfl rfl Try.sizeOf60 rfl) rfl ?_
 refine vq (q_load rfl rfl Try.isAgg60 (.obj 1 rfl rfl)) rfl ?_
 refine simL_bind (fun s1v hs2v => ?_)
 refine simL_eff (re_call (vs := [.map (some mp1_0)]) (cap := []) (A := [mapO mp1_0 enc9 enc9 xp1_0]) (rst := [A s0 y0, obj bp1 63 [.map (some mp1_0), .map (some mp1_1)], mapO mp1_1 enc3 enc42 xp1_1, obj bp0 25 [.pointer (some ⟨bp1, 0, none⟩)], F]) rfl rfl rfl rfl rfl rfl Try.call41 (.sel 2 rfl (.sel 0 rfl (.sel 0 rfl (.sel 0 rfl (.sel 0 rfl (.sel 0 rfl (.nil _))))))) (maps_Clone_map_string_string_string_string.calls _ _ mp1_0 xp1_0 ) hs2v) rfl rfl rfl ?_
 intro y3v
 refine va rfl rfl (nx ?_)
 refine vm rfl rfl ?_
 refine simL_bind (fun s4v hs5v => ?_)
 refine simL_eff (re_call (vs := [.map (some y3v)]) (cap := []) (A := []) (rst := [mapO y3v enc9 enc9 s1v, mapO mp1_0 enc9 enc9 xp1_0, A s0 y0, obj bp1 63 [.map (some mp1_0), .map (some mp1_1)], mapO mp1_1 enc3 enc42 xp1_1, obj bp0 25 [.pointer (some ⟨bp1, 0, none⟩)], F]) rfl rfl rfl rfl rfl rfl Try.call51 (.sel 0 rfl (.sel 0 rfl (.sel 0 rfl (.sel 0 rfl (.sel 0 rfl (.sel 0 rfl (.sel 0 rfl (.nil _)))))))) (maps_Keys_map_string_string_string_string.calls _ _ y3v ) hs5v) rfl rfl rfl ?_
 intro y6v
 refine simL_bind (fun s7v hs8v => ?_)
 refine simL_eff (re_call (vs := [.func (.func 65) #[] #[.pointer (some ⟨y6v, 0, none⟩)]]) (cap := []) (A := [obj y6v 60 [.map (some y3v)], mapO y3v enc9 enc9 s1v]) (rst := [mapO mp1_0 enc9 enc9 xp1_0, A s0 y0, obj bp1 63 [.map (some mp1_0), .map (some mp1_1)], mapO mp1_1 enc3 enc42 xp1_1, obj bp0 25 [.pointer (some ⟨bp1, 0, none⟩)], F]) rfl rfl rfl rfl rfl rfl Try.call50 (.sel 0 rfl (.sel 0 rfl (.sel 0 rfl (.sel 0 rfl (.sel 0 rfl (.sel 0 rfl (.sel 0 rfl (.sel 0 rfl (.nil _))))))))) (slices_Sorted_string_maps_Keys_map_string_string_string_string_1.calls _ _ y6v y3v s1v ) hs8v) rfl rfl rfl ?_
 intro y9v
 refine vq (q_len rfl rfl rfl Try.underlying93) rfl ?_
 refine vm rfl rfl (simL_nil (nrm_then ?_))
 refine sim_block ?_
 refine sim_loop (S := Int × S) (Y) (fun k s => kv_Store_Each_1_s_2_g.l0 go step s1v s7v k s.1 s.2) (fun s y => [(0, .func (.yield l) #[] #[]), (3, .map (some y3v)), (13, .slice y9v.1 s7v.length y9v.2), (14, .int .i64 (s7v.length : Int)), (15, .int .i64 s.1)]) (fun s y => [obj bp1 63 [.map (some mp1_0), .map (some mp1_1)], obj bp0 25 [.pointer (some ⟨bp1, 0, none⟩)], mapO y3v enc9 enc9 s1v, RowV 9 1 (V9 tt) y9v.1 s7v y9v.2, mapO mp1_0 enc9 enc9 xp1_0, mapO mp1_1 enc3 enc42 xp1_1, A s.2 y, F]) (fun _ => by rw [kv_Store_Each_1_s_2_g.l0]) ?_ k (0, s0) y0 ⟨rfl, rfl, rfl, rfl, rfl, trivial⟩ (.sel 5 rfl (.sel 6 rfl (.sel 2 rfl (.sel 0 rfl (.sel 1 rfl (.sel 2 rfl (.sel 1 rfl (.sel 1 rfl (.nil _)))))))))
 intro k s10v y11v
 refine sim_eq (by rw [kv_Store_Each_1_s_2_g.l0]) ?_
 refine sr ?_
 refine vq (q_lss rfl rfl rfl) rfl (simL_nil (nrm_then (sim_seq ?_)))
 refine sim_cond rfl (fun h14v => ?_) (fun h15v => ?_)
 refine sim_skip ?_
 refine nrm_then (sim_seq ?_)
 refine sim_block ?_
 refine sr ?_
 refine simL_openV 3 rfl (fun rs24v hl25v => ?_)
 refine simL_ask (fun hi16v => ?_)
 refine simL_posV 3 rfl hl25v rfl (i := s10v.1.toNat) (by omega) ([] : List UInt8) (fun b17v b17vo r20v ha18v hV21v hlr22v hcell23v => ?_)
 obtain rfl := hV21v
 refine vq (q_idx rfl rfl rfl ha18v Try.underlying93 Try.sizeOf9 hi16v.1 hi16v.2) rfl ?_
 refine vq (q_load rfl rfl Try.isAgg9 (hcell23v 3 rfl 0 _ rfl)) rfl ?_
 refine va rfl rfl (nx ?_)
 refine vm rfl rfl ?_
 refine vm rfl rfl ?_
 refine vm rfl rfl ?_
 refine vm rfl rfl ?_
 refine vq ((q_mlook (ek := enc9) (ev := enc9) (z := ([] : List UInt8)) 2 (s7v.getD s10v.1.toNat ([] : List UInt8)) rfl rfl rfl Try.underlying60 key9 Try.zeroValue9 rfl : RQ _ _ _ _ (str ((mget s1v (s7v.getD s10v.1.toNat ([] : List UInt8))).getD ([] : List UInt8))))) rfl ?_
 refine simL_ask (fun hg31v => ?_)
 refine simL_bind (fun s26v hs28v => ?_)
 refine simL_eff (re_yieldG ((s7v.getD s10v.1.toNat ([] : List UInt8)), ((mget s1v (s7v.getD s10v.1.toNat ([] : List UInt8))).getD ([] : List UInt8))) 6 rfl rfl rfl rfl rfl rfl hY rfl hg31v hs28v) rfl rfl rfl ?_
 intro y27v
 refine vq (q_not rfl rfl) rfl (simL_nil (nrm_then ?_))
 refine sim_condb rfl (fun h29v => ?_) (fun h30v => ?_)
 refine sim_rtn ?_
 refine rtn_block ?_
 refine rtn_then ?_
 refine rtn_loop ?_
 refine rtn_block ?_
 exact rtn_fn y27v rfl rfl rfl (.sel 6 rfl (.sel 0 rfl (.sel 3 rfl (.sel 3 rfl (.sel 0 rfl (.sel 2 rfl (.nil _)))))))
 refine sim_skip ?_
 refine nrm_block (nrm_then (sim_region ?_))
 refine vq (q_add rfl rfl rfl) rfl ?_
 refine vm rfl rfl (simL_nil ?_)
 exact nrm_again (s := (IntKind.i64.wrap (s10v.1 + 1), s26v)) y27v ⟨rfl, rfl, rfl, rfl, rfl, trivial⟩ (.sel 0 rfl (.sel 0 rfl (.sel 0 rfl (.sel' 0 rfl (RowV.mk hl25v) (.sel 0 rfl (.sel 0 rfl (.sel 0 rfl (.sel 0 rfl (.nil _)))))))))
 refine sim_exi ?_
 refine exi_then ?_
 refine exi_loop ?_
 refine exi_here ?_
 exact nrm_fn y11v rfl rfl rfl (.sel 6 rfl (.sel 0 rfl (.sel 3 rfl (.sel 3 rfl (.sel 0 rfl (.sel 2 rfl (.nil _)))))))
end Go.Proofs.Ytdaedoklkmdhcaa

/- Texts that lead to the law WalRecovers: G2, G3. Conditions: as each says. -/
import Derived.Test.YtndjkejhacfpdaaGreatDoorM3
set_option linter.unusedVariables false
set_option linter.unusedSimpArgs false
set_option linter.unusedSectionVars false
namespace Go.Proofs.YtndjkejhacfpdaaGreatDoor
open Go.RowKit _root_.Go.Proofs.Tryz
set_option maxRecDepth 20000
set_option maxHeartbeats 20000000
def eI.l0 {S : Type} (step : S → (Int × List UInt8) → Option S) (a : List UInt8) : Nat → Int → S → Option (S)
  | 0, _, _ => none
  | k + 1, c, d => if c < (a.length : Int) then ((ka.f k a c).bind fun e => ((if e.2.2 = (0 : Int) then ((step d (c, e.1)).bind fun g => (some (false, g))) else (some (true, d))).bind fun b => (if b.1 = true then (some b.2) else (eI.l0 step a k (IntKind.i64.wrap (c + e.2.1)) b.2)))) else (some d)
def eI.f {S : Type} (k : Nat) (step : S → (Int × List UInt8) → Option S) (s0 : S) (a : List UInt8) : Option (S) := eI.l0 step a k 0 s0
theorem eI.calls (W : World) (F : HA) (k : Nat) (S Y : Type) (l : Nat) (step : S → Int × Lb → Option S) (A : S → Y → HA) (s0 : S) (y0 : Y) (b1 : Nat) (g : Option Addr) (e : Nat) (d : Lb) (hY : pW Tryz.prog W l (fun (x : Int × Lb) (γ : Option Addr × Nat) => [Iv x.1, .slice γ.1 x.2.length γ.2]) (fun (x : Int × Lb) (γ : Option Addr × Nat) => Row 5 1 γ.1 x.2.length γ.2 (aL x.2)) step A) (v : Rd F g (aL d)) (m : d.length ≤ e) (n : e ≤ maxLen) :
    Fn Tryz.prog W 93 [.func (.yield l) #[] #[], Pt b1] [A s0 y0, obj b1 33 [.slice g d.length e]] F (eI.f k step s0 d) (fun r (y : Y) => .tuple #[]) (fun r y => [A r y, obj b1 33 [.slice g d.length e]]) := by
 unfold eI.f
 refine aX 30 Tryz.func93 O Tryz.ntmps93 O (sr (oA O (oT (aZ ?_))))
 refine da (S := Int × S) Y (fun k s => eI.l0 step d k s.1 s.2) (fun s y => [(0, .func (.yield l) #[] #[]), (1, Pt b1), (3, Iv s.1)]) (fun s y => [obj b1 33 [.slice g d.length e], A s.2 y, F]) (fun _ => by rw [eI.l0]) ?_ k (0, s0) y0 ⟨O, O, O, trivial⟩ (.b (.a (.a .n)))
 intro k h t
 refine dW (by rw [eI.l0]) (ap (sr (oM O (vq (oL O cP 0 O) O (vq (bL O O O aH) O (vq (dG O O O) O (oT ?_)))))))
 refine bu O (fun al => ?_) (fun an => ?_)
 refine aA (ai (aZ (sr (vq (oL O cP 0 O) O (oM O (aj (fun i w => (oE (oC (vs := [.slice g d.length e, Iv h.1]) (cap := []) (A := []) O call68 (.a (.a (.a .n))) (ka.calls _ _ k g e d h.1 (v.lend 2 O) m n) w) O ?_))))))))
 intro u
 refine oM O (vq (bY O O O) O (vq (bY O O O) O (vq (bY O O O) O (oA O (oA O (oA O (oT (ap (sr (oM O (vq (ej O O O) O (oM O ?_))))))))))))
 refine eG 6 (S := Bool × S) Y (fun s y => [(0, .func (.yield l) #[] #[]), (1, Pt b1), (3, Iv h.1), (5, Iv i.2.1), (26, .bool s.1)]) (fun s y => [obj b1 33 [.slice g d.length e], A s.2 y, F]) ?_ ?_
 refine so (fun o => ?_) (fun p => ?_)
 rw [o]
 refine oS O (oS O (oS O (oS O (oS O (vq (bZ O O O O O) O (aw ?_))))))
 exact aF (s := (true, h.2)) t ⟨O, O, O, O, O, trivial⟩ (.b (.b (.b .n)))
 rw [p]
 refine aK (am O O) O O O O O O (aK (am O O) O O O O O O (aK (am O O) O O O O O O (aj (fun z q => (gj (zL (γ := Option Addr × Nat) (h.1, i.1) u [obj b1 33 [.slice g d.length e], F] O O O O O O hY (.c (.a (.a (.a .n)))) q) O O O O O O ?_)))))
 intro ab
 refine aK (iB O O) O O O O O O (vq (bZ O O O O O) O (aw ?_))
 exact aF (s := (false, z)) ab ⟨O, O, O, O, O, trivial⟩ (.b (.a (.a .n)))
 intro ad j
 refine oT ?_
 refine bm O (fun af => ?_) (fun ag => ?_)
 refine ay (aY (bI (ij (bI ?_))))
 exact aJ j O O O (.b (.a (.a .n)))
 refine aA (ai (aG (oM O (oM O (vq (cn O O O) O (oA O (aw (bz ?_))))))))
 exact bT (s := (IntKind.i64.wrap (h.1 + i.2.1), ad.2)) j ⟨O, O, O, trivial⟩ (.a (.a (.a .n)))
 refine dt (cK (cU (cN ?_)))
 exact gw t O O O (.b (.a (.a .n)))

def kS.f  : Option (Unit) := some ()
theorem kS.calls (W : World) (F : HA) (a0 : Option Addr) (c0 : Nat) (x0 : Lb)  :
    Fn Tryz.prog W 67 [.slice a0 x0.length c0] [] F (kS.f ) (fun r (y : Nat) => .func (.func 93) #[] #[Pt y]) (fun r y => [obj y 33 [.slice a0 x0.length c0]]) := by
 unfold kS.f
 refine aX 4 Tryz.func67 O Tryz.ntmps67 O (sr (oE (cH O O O) O ?_))
 intro b
 refine oA O (nx (vq (jj O O O) O (oA O (oT (ay ?_)))))
 exact aJ b O O O (.a (.a .n))

def ll.f (k : Nat) (x0 : List UInt8) : Option (List (List UInt8) × Int × Int) := (kS.f).bind fun e => ((eI.f k (fun (c : Int × List (List UInt8)) (b : Int × List UInt8) => if (c.2.length + ([b.2] : List (List UInt8)).length) * 24 ≤ 140737488355328 then (some (IntKind.i64.wrap ((IntKind.i64.wrap (b.1 + 8)) + (b.2.length : Int)), c.2 ++ ([b.2] : List (List UInt8)))) else none) (0, ([] : List (List UInt8))) x0).bind fun a => (if a.1 = (x0.length : Int) then (some (a.2, a.1, 0)) else ((ka.f k x0 a.1).bind fun d => (some (a.2, a.1, d.2.2)))))
theorem ll.calls (W : World) (F : HA) (k : Nat) (a0 : Option Addr) (c0 : Nat) (x0 : Lb) (h0 : Rd F a0 (aL x0)) (a3 : x0.length ≤ c0) (a4 : c0 ≤ maxLen) :
    Fn Tryz.prog W 27 [.slice a0 x0.length c0] [] F (ll.f k x0) (fun r (y : Option Addr × Nat × HA) => .tuple #[.slice y.1 r.1.length y.2.1, Iv r.2.1, Iv r.2.2]) (fun r y => [ah 33 1 (V33 y.2.2) y.1 r.1 y.2.1, y.2.2]) := by
 unfold ll.f
 refine tF 41 Tryz.func27 O Tryz.ntmps27 O (sr (oA O (oA O (oA O (nx (oE (bX O zeroValue64 O) O ?_))))))
 intro p
 refine nx (oE (bX O zeroValue3 O) O ?_)
 intro q
 refine bg (aI 0 O O O aa O O (aM (by rfl)) O O) O O ?_
 intro _
 refine oT (ap (sr (oM O (aj (fun br a5 => (oE (oC (vs := [.slice a0 x0.length c0]) (cap := []) (A := []) O call67 (.a (.a (.a .n))) (kS.calls _ _ a0 c0 x0 ) a5) O ?_))))))
 intro v
 refine oT (aZ ?_)
 refine yF (γ := Option Addr × Nat) (S := Int × List Lb) (Y := HA × Option Addr × Nat) (R' := (Int × List Lb)) (Y' := (HA × Option Addr × Nat)) (ps := [14, 15]) (Cap := [obj v 33 [.slice a0 x0.length c0]]) (rst := [F]) (CapB := fun r y => [obj v 33 [.slice a0 x0.length c0]]) (enc := fun (x : Int × Lb) (γ : Option Addr × Nat) => [Iv x.1, .slice γ.1 x.2.length γ.2]) (own := fun (x : Int × Lb) (γ : Option Addr × Nat) => Row 5 1 γ.1 x.2.length γ.2 (aL x.2)) (oN := eI.f k (fun (n : Int × List Lb) (h : Int × Lb) => if (n.2.length + ([h.2] : List Lb).length) * 24 ≤ 140737488355328 then (some (IntKind.i64.wrap ((IntKind.i64.wrap (h.1 + 8)) + (h.2.length : Int)), n.2 ++ ([h.2] : List Lb))) else none) (0, ([] : List Lb)) x0) (fun s y => [obj q 3 [Iv s.1], obj p 64 [.slice y.2.1 s.2.length y.2.2], ah 33 1 (V33 y.1) y.2.1 s.2 y.2.2, y.1]) (0, ([] : List Lb)) (tt, none, 0) (fun n h g i => [(5, Pt p), (6, Pt q), (7, Iv h.1), (8, .slice g.1 h.2.length g.2)]) (fun r => r) (fun r y => y) O O call93 (fun l A hY X => eI.calls _ _ k _ _ l _ A _ _ v a0 c0 x0 hY (h0.lend 1 O) a3 a4) O (fun _ _ => O) (.b (.b (.rowV_nil (.tt_in (.a (.a .n)))))) ?_ ?_ ?_
 intro l n h g i Fr
 refine gq (H' := [obj q 3 [Iv n.1], obj p 64 [.slice i.2.1 n.2.length i.2.2], ah 33 1 (V33 i.1) i.2.1 n.2 i.2.2, i.1, Row 5 1 g.1 h.2.length g.2 (aL h.2), Fr]) (Ent.refl _) (sr (oA O (ny (oA O (aw ?_)))))
 exact aF () ⟨O, O, O, O, trivial⟩ (Ent.refl _)
 intro l n h g i Fr
 refine gq (H' := [obj q 3 [Iv n.1], obj p 64 [.slice i.2.1 n.2.length i.2.2], ah 33 1 (V33 i.1) i.2.1 n.2 i.2.2, i.1, Row 5 1 g.1 h.2.length g.2 (aL h.2), Fr]) (Ent.refl _) (aZ (sr (vq (oL O ig 1 O) O (oM O (bw 4 O (fun ad af ag a7 => ?_))))))
 have t : bW 1 (V33 (Row 5 1 g.1 h.2.length g.2 (aL h.2))) ([h.2] : List Lb) [[.slice g.1 h.2.length g.2]] := ⟨⟨rfl, aM (by rfl), ⟨g.1, g.2, rfl, ⟨ad, af, ag⟩⟩⟩, trivial⟩
 refine oE (eW (V := (V33 (Row 5 1 g.1 h.2.length g.2 (aL h.2)))) (xs := ([h.2] : List Lb)) [[.slice g.1 h.2.length g.2]] O O cz mT O (by kernel_rfl) O t O O) O ?_
 intro z
 refine bk 3 O (fun w al => (cl (H' := [bl [Row 5 1 g.1 h.2.length g.2 (aL h.2), i.1], Row 33 1 (some ⟨z, 0, none⟩) ([h.2] : List Lb).length 1 [[.slice g.1 h.2.length g.2]].flatten, obj q 3 [Iv n.1], obj p 64 [.slice i.2.1 n.2.length i.2.2], Row 33 1 i.2.1 n.2.length i.2.2 w.flatten, Fr]) (Ent.trans (m := [Row 5 1 g.1 h.2.length g.2 (aL h.2), i.1, Row 33 1 (some ⟨z, 0, none⟩) ([h.2] : List Lb).length 1 [[.slice g.1 h.2.length g.2]].flatten, obj q 3 [Iv n.1], obj p 64 [.slice i.2.1 n.2.length i.2.2], Row 33 1 i.2.1 n.2.length i.2.2 w.flatten, Fr]) (.f (.e (.a (.a (.a (.a (.a .n))))))) (jv [Row 5 1 g.1 h.2.length g.2 (aL h.2), i.1] _)) (bo (fun an => (oE (eV 4 O O O cz mT O (al.mono (V33.up (Up.lend (l := [Row 5 1 g.1 h.2.length g.2 (aL h.2), i.1]) 1 O))) (hQ.row (t.mono (V33.up (Up.lend (l := [Row 5 1 g.1 h.2.length g.2 (aL h.2), i.1]) 0 O))) 1 O) an) O ?_)))))
 intro ab
 refine bg (aI 3 O O O gF O O (aM (by rfl)) O O) O O ?_
 intro _
 refine ny (oM O (vq (cn O O O) O (oM O (vq (bL O O O aH) O (vq (cn O O O) O (bg (aI 2 O O O aa O O (aM (by rfl)) O O) O O ?_))))))
 intro _
 refine aw (bz ?_)
 exact aF (s := (IntKind.i64.wrap ((IntKind.i64.wrap (h.1 + 8)) + (h.2.length : Int)), n.2 ++ ([h.2] : List Lb))) (bl [Row 5 1 g.1 h.2.length g.2 (aL h.2), i.1], ab) trivial (.c (.c (.c (.a (.b .n)))))
 intro u o j
 refine qK (H' := [mW u, obj q 3 [Iv o.1], obj p 64 [.slice j.2.1 o.2.length j.2.2], ah 33 1 (V33 j.1) j.2.1 o.2 j.2.2, j.1, obj v 33 [.slice a0 x0.length c0], F]) (Ent.refl _) (bz (ai (ap (sr (vq (oL O ae 1 O) O (oM O (vq (bL O O O aH) O (vq (cr O O O) O (oT ?_)))))))))
 refine bu O (fun bc => ?_) (fun bd => ?_)
 refine ap (bq 3 O (fun a8 az => (bK [[], [], [0], [0, 1, 2], rL 4] 41 O mixed (by decide) (dl 0 [5] O O O (oL O ig 2 O) (dl 1 [6] O O O (oL O ae 1 O) (dq 2 O O O (dx O O) (dq 3 O O O (dx O O) (dq 4 O O O (dx O O) (.fin [(2, .slice j.2.1 o.2.length j.2.2), (3, Iv o.1), (4, Iv 0)] O ⟨O, O, O, trivial⟩ (ai (ay (aY ?_))))))))))))
 exact qQ [u] (j.2.1, j.2.2, j.1) O O O (.a (.sel' 2 O (ah.mk az) (.c (.d .n))))
 refine aA (ai (sr (oM O (vq (oL O ae 1 O) O (aj (fun a6 a1 => (oE (oC (vs := [.slice a0 x0.length c0, Iv o.1]) (cap := []) (A := []) O call68 (.a (.a (.a (.a (.a (.a (.a .n))))))) (ka.calls _ _ k a0 c0 x0 o.1 (h0.lend 6 O) a3 a4) a1) O ?_)))))))
 intro be
 refine oM O (vq (bY O O O) O (vq (bY O O O) O (vq (bY O O O) O (oA O (oA O (oA O (oT (ap (bq 4 O (fun a9 a2 => (bK [[], [], [], [0], [0, 1, 3], rL 5] 41 O mixed (by decide) (dl 0 [5] O O O (oL O ig 3 O) (dl 1 [6] O O O (oL O ae 2 O) (dqo 2 [11] O O O (am O O) (dq 3 O O O (dx O O) (dq 4 O O O (dx O O) (dq 5 O O O (dx O O) (.fin [(2, .slice j.2.1 o.2.length j.2.2), (3, Iv o.1), (4, Iv a6.2.2)] O ⟨O, O, O, trivial⟩ (ai (ay ?_))))))))))))))))))))
 exact qQ [u] (j.2.1, j.2.2, j.1) O O O (.b (.sel' 3 O (ah.mk a2) (.d (.e .n))))

def iR.f (a : List ((List UInt8) × (List UInt8 × Int))) (c : List UInt8) (d : Int) (b : Bool) (x1 : List UInt8) (x2 : Int) : Option (Int × (List ((List UInt8) × (List UInt8 × Int))) × List UInt8 × Int × Bool) := if (aW a x1).isSome = true then (if b = true then (some (11, a, c, d, b)) else (if ((decide (x2 < (0 : Int))) || (decide (((((aW a x1).getD (([] : List UInt8), (0 : Int))).1).length : Int) < x2))) = true then (some (1, a, c, d, b)) else ((cD.f a c d b).bind fun e => (if e.1 = true then (some (11, a, e.2.1, e.2.2.1, e.2.2.2)) else (if 0 ≤ (0 : Int) ∧ (0 : Int) ≤ x2 ∧ x2 ≤ ((((aW a x1).getD (([] : List UInt8), (0 : Int))).1).length : Int) then (some (0, bE a x1 (cut (((aW a x1).getD (([] : List UInt8), (0 : Int))).1) (0 : Int) x2, min (((aW a x1).getD (([] : List UInt8), (0 : Int))).2) x2), e.2.1, e.2.2.1, e.2.2.2)) else none))))) else (if b = true then (some (11, a, c, d, b)) else (some (8, a, c, d, b)))
theorem iR.calls (W : World) (F : HA) (b0 h : Nat) (e : Kps) (g : List (Lb × (Lb × Int))) (k : Lb) (m : Int) (n : Bool) (x1 : Lb) (x2 : Int)  :
    Fn Tryz.prog W 74 [Pt b0, str x1, Iv x2] [W0 b0 h k m n, ax (au h aB ar e) ak e g] F (iR.f g k m n x1 x2) (fun r (y : Nat × Kps) => Iv r.1) (fun r y => [W1 b0 y.1 r.2.2, ax (au y.1 aB ar y.2) ak y.2 r.2.1]) := by
 unfold iR.f
 refine aX 55 Tryz.func74 O Tryz.ntmps74 O (sr (oA O (oT (ap ?_))))
 refine ji (fun j => ?_) (fun j => ?_)
 refine aG (oM O (oN O (vq (oF O bD O fx O) O (vq (oL O fL 0 O) O (oM O (vq ((nX (ek := aB) x1 (lc 1 O) j O O O ey nB : RQ _ _ _ _ (.pointer (some ⟨(dS e x1), 0, none⟩)))) O (oA O (oT (ap (aZ (sr (oM O (oN O (vq (oF O bD O cM O) O (vq (oL O dY 0 O) O (oA O (oT ?_)))))))))))))))))
 refine bm O (fun bd => ?_) (fun be => ?_)
 refine sr (oA O (oT (ay (bI (aY ?_)))))
 exact aJ (h, e) O O O (.a (.a (.a .n)))
 refine sr (oM O (vq (pC O O O fH) O (oA O (oT (jE O (ap (kA (v := ((aW g x1).getD (([] : Lb), (0 : Int)))) 1 O (jn j) (fun i => (gq (H' := [obj (dS e x1) 109 [.slice i.1 ((((aW g x1).getD (([] : Lb), (0 : Int))).1).length) i.2, Iv (((aW g x1).getD (([] : Lb), (0 : Int))).2)], Row 5 1 i.1 (((aW g x1).getD (([] : Lb), (0 : Int))).1).length i.2 (aL (((aW g x1).getD (([] : Lb), (0 : Int))).1)), lE (au h aB ar e) ak e g x1, W0 b0 h k m n, F]) (Ent.refl _) (aG (oM O (vq (dG O O O) O (oM O (ao (b := decide (x2 < (0 : Int))) (fun a0 => RQ.sub (E' := [(2, Iv x2)]) ⟨O, trivial⟩ (am O O)) O O O O O (ao (b := decide (x2 < (0 : Int))) (fun a1 => RQ.sub (E' := [(7, .pointer (some ⟨(dS e x1), 0, none⟩))]) ⟨O, trivial⟩ (am O O)) O O O O O (ao (b := decide (x2 < (0 : Int))) (fun z => RQ.sub (E' := [(27, .pointer (some ⟨(dS e x1), 0, none⟩))]) ⟨aN O z, trivial⟩ (bi O O)) O O O O O (ao (b := decide (x2 < (0 : Int))) (fun ab => RQ.sub (E' := [(28, .pointer (some ⟨(dS e x1), 0, none⟩))]) ⟨aN O ab, trivial⟩ (oF O dp O bM O)) O O O O O (ao (b := decide (x2 < (0 : Int))) (fun ad => RQ.sub (E' := [(29, .pointer (some ⟨(dS e x1), 0, none⟩))]) ⟨aN O ad, trivial⟩ (oL O cP 0 O)) O O O O O (ao (b := decide (x2 < (0 : Int))) (fun af => RQ.sub (E' := [(30, .slice i.1 ((((aW g x1).getD (([] : Lb), (0 : Int))).1).length) i.2)]) ⟨aN O af, trivial⟩ (bL O O O aH)) O O O O O (ao (b := decide (x2 < (0 : Int))) (fun t => RQ.sub (E' := [(26, Iv x2), (31, Iv ((((aW g x1).getD (([] : Lb), (0 : Int))).1).length : Int))]) ⟨aN O t, aN O t, trivial⟩ (dO O O O)) O O O O O (vq (ik O O O) O (oA O (oT ?_)))))))))))))))))))))))
 refine bm O (fun br => ?_) (fun bs => ?_)
 refine sr (oA O (oT (ay (bI (aY ?_)))))
 exact aJ (h, e) O O O (.d (.foldF0 (x := x1) (p := (dS e x1)) (v := ((aW g x1).getD (([] : Lb), (0 : Int)))) i O (jn j) (.c (.a (.a (.a .n))))))
 refine sr (oM O (cl (H' := [ax (au h aB ar e) ak e g, W0 b0 h k m n, F]) ((.foldF0 (x := x1) (p := (dS e x1)) (v := ((aW g x1).getD (([] : Lb), (0 : Int)))) i O (jn j) (.c (.a (.a (.a (.a .n))))))) (aj (fun w al => (oE (oC (vs := [Pt b0]) (cap := []) (A := [W0 b0 h k m n, ax (au h aB ar e) ak e g]) O call58 (.b (.a (.a .n))) (cD.calls _ _ b0 h e g k m n ) al) O ?_)))))
 intro bt
 refine oA O (oT ?_)
 refine bm O (fun a7 => ?_) (fun a8 => ?_)
 refine sr (oA O (oT (ay (bI (aY ?_)))))
 exact aJ (h, e) O O O (.a (.a (.a .n)))
 refine aA (bz (ai (ap (kA (v := ((aW g x1).getD (([] : Lb), (0 : Int)))) 1 O (jn j) (fun o => (gq (H' := [obj (dS e x1) 109 [.slice o.1 ((((aW g x1).getD (([] : Lb), (0 : Int))).1).length) o.2, Iv (((aW g x1).getD (([] : Lb), (0 : Int))).2)], Row 5 1 o.1 (((aW g x1).getD (([] : Lb), (0 : Int))).1).length o.2 (aL (((aW g x1).getD (([] : Lb), (0 : Int))).1)), lE (au h aB ar e) ak e g x1, W1 b0 h w.2, F]) (Ent.refl _) (aG (oM O (oM O (oN O (vq (oF O dp O bM O) O (vq (oL O cP 0 O) O (oM O (bo (fun q => (bw 1 O (fun ag s a2 a3 => ?_)))))))))))))))))
 obtain ⟨an, az, u, a4, a5, a6⟩ := lf (lo := (0 : Int)) (hi := x2) ag s q
 refine vq (lS (l := (((aW g x1).getD (([] : Lb), (0 : Int))).1)) (lo' := (0 : Int)) (hi' := x2) O O O O aH fB (.inr ⟨_, O⟩) (.inl ⟨O, O⟩) q s u) O (oN O (vq (oF O dp O bM O) O (bg (RE.ent (Ent.cutB 1 O u q s) (aI 0 O O O bM O O (aM (by rfl)) O O)) O O ?_)))
 intro _
 refine nx (oM O (oM O (oN O (vq (oF O dp O aa O) O (vq (oL O ae 0 O) O (oM O (vq (lK O O O) O (oN O (vq (oF O dp O aa O) O (bg (aI 0 O O O aa O O (aM (by rfl)) O O) O O ?_))))))))))
 intro _
 refine nx (oA O (oT (ay ?_)))
 exact aJ (h, e) O O O (.d (.foldF (x := x1) (p := (dS e x1)) (v := (cut (((aW g x1).getD (([] : Lb), (0 : Int))).1) (0 : Int) x2, min (((aW g x1).getD (([] : Lb), (0 : Int))).2) x2)) (an, az) O (.c (.a (.a (.a .n))))))
 refine aG (oM O (oN O (vq (oF O bD O fx O) O (vq (oL O fL 0 O) O (oM O (vq (nY (ek := aB) x1 (lc 1 O) (md j) O O O ey nB ke) O (oA O (oT (ap (aZ (sr (oM O (oN O (vq (oF O bD O cM O) O (vq (oL O dY 0 O) O (oA O (oT ?_)))))))))))))))))
 refine bm O (fun a9 => ?_) (fun bc => ?_)
 refine sr (oA O (oT (ay (bI (aY ?_)))))
 exact aJ (h, e) O O O (.a (.a (.a .n)))
 refine sr (oM O (vq (nT O O O fH) O (oA O (oT (ix O (sr (oA O (oT (ay (bI (aY ?_)))))))))))
 exact aJ (h, e) O O O (.a (.a (.a .n)))

def gd.f (a : List ((List UInt8) × (List UInt8 × Int))) (d : List UInt8) (e : Int) (c : Bool) (x1 : List UInt8) : Option (Int × (List ((List UInt8) × (List UInt8 × Int))) × List UInt8 × Int × Bool) := if c = true then (some (11, a, d, e, c)) else ((eH.f a d e c x1).bind fun h => (if (!h) = true then (some (8, a, d, e, c)) else ((cD.f a d e c).bind fun b => (if b.1 = true then (some (11, a, b.2.1, b.2.2.1, b.2.2.2)) else ((if b.2.1 = x1 then (some ([] : List UInt8)) else (some b.2.1)).bind fun g => (some (0, fj a x1, g, b.2.2.1, b.2.2.2)))))))
theorem gd.calls (W : World) (F : HA) (b0 b : Nat) (c : Kps) (d : List (Lb × (Lb × Int))) (e : Lb) (g : Int) (h : Bool) (x1 : Lb)  :
    Fn Tryz.prog W 64 [Pt b0, str x1] [W0 b0 b e g h, ax (au b aB ar c) ak c d] F (gd.f d e g h x1) (fun r (y : Nat × Kps) => Iv r.1) (fun r y => [W1 b0 y.1 r.2.2, ax (au y.1 aB ar y.2) ak y.2 r.2.1]) := by
 unfold gd.f
 refine aX 32 Tryz.func64 O Tryz.ntmps64 O (sr (oA O (oT (ap (aZ (sr (oM O (oN O (vq (oF O bD O cM O) O (vq (oL O dY 0 O) O (oA O (oT ?_))))))))))))
 refine bm O (fun u => ?_) (fun v => ?_)
 refine sr (oA O (oT (ay (bI (aY ?_)))))
 exact aJ (b, c) O O O (.a (.a (.a .n)))
 refine sr (oM O (oM O (aj (fun w j => (oE (oC (vs := [Pt b0, str x1]) (cap := []) (A := [W0 b0 b e g h, ax (au b aB ar c) ak c d]) O call57 (.a (.a (.a .n))) (eH.calls _ _ b0 b c d e g h x1 ) j) O ?_)))))
 intro x
 refine vq (iB O O) O (oA O (oT ?_))
 refine bm O (fun z => ?_) (fun ab => ?_)
 refine sr (oA O (oT (ay (bI (aY ?_)))))
 exact aJ (b, c) O O O (.a (.a (.a .n)))
 refine sr (oM O (aj (fun i k => (oE (oC (vs := [Pt b0]) (cap := []) (A := [W0 b0 b e g h, ax (au b aB ar c) ak c d]) O call58 (.a (.a (.a .n))) (cD.calls _ _ b0 b c d e g h ) k) O ?_))))
 intro l
 refine oA O (oT ?_)
 refine bm O (fun m => ?_) (fun n => ?_)
 refine sr (oA O (oT (ay (bI (aY ?_)))))
 exact aJ (b, c) O O O (.a (.a (.a .n)))
 refine aA (bz (ai (sr (oM O (oN O (vq (oF O bD O fx O) O (vq (oL O fL 0 O) O (oM O (bg (AP (ek := aB) 1 x1 O O O O ey nB O) O O ?_)))))))))
 intro _
 refine oT ?_
 refine bP (S := Lb) Unit (fun s y => []) (fun s y => [W0 b0 b s i.2.2.1 i.2.2.2, ax (au b aB ar (fj c x1)) ak (fj c x1) (fj d x1), F]) ?_ ?_
 refine sr (oM O (oN O (vq (oF O bD O iz O) O (vq (oL O isAgg9 0 O) O (oM O (vq (yb O O O) O (oT ?_)))))))
 refine bu O (fun o => ?_) (fun p => ?_)
 refine aG (oM O (oN O (vq (oF O bD O iz O) O (bg (aI 0 O O O iz O O (aM (by rfl)) O O) O O ?_))))
 intro _
 refine aw ?_
 exact aF (s := ([] : Lb)) () trivial (.a (.a (.a .n)))
 refine aA ?_
 exact aF (s := i.2.1) () trivial (.a (.a (.a .n)))
 intro q t
 refine sr (oA O (oT (ay ?_)))
 exact aJ (b, fj c x1) O O O (.a (.a (.a .n)))

def gO.f (x0 : List UInt8) : Option (List UInt8 × Int × Int) := (iH.f x0).bind fun a => (some (a, 0, 0))
theorem gO.calls (W : World) (F : HA) (a0 : Option Addr) (c0 : Nat) (x0 : Lb) (h0 : Rd F a0 (aL x0)) (d : x0.length ≤ c0) (e : c0 ≤ maxLen) :
    Fn Tryz.prog W 100 [.slice a0 x0.length c0] [] F (gO.f x0) (fun r (y : Nat × Option Addr × Nat) => Pt y.1) (fun r y => [W23 y.1 r y.2.1 y.2.2, Row 5 1 y.2.1 r.1.length y.2.2 (aL r.1)]) := by
 unfold gO.f
 refine aX 7 Tryz.func100 O Tryz.ntmps100 O (sr (oA O (nx (oM O (aj (fun g c => (oE (oC (vs := [.slice a0 x0.length c0]) (cap := []) (A := []) O call110 (.a .n) (iH.calls _ _ a0 c0 x0 (h0.lend 0 O) d e) c) O ?_)))))))
 intro b
 refine vq (cW (v := .agg #[.slice b.1 g.length b.2, Iv 0, Iv 0]) O O (fun _ => by kernel_rfl)) O (oE (cH O O O) O ?_)
 intro h
 refine oA O (oT (ay ?_))
 exact aJ (h, b) O O O (.a (.a (.a .n)))

def gU.l0 (x0 : List UInt8) (x1 : Int) : Nat → Int → Int → Option ((Unit) ⊕ (Int × Int × Int))
  | 0, _, _ => none
  | k + 1, b, a => if a < (9 : Int) then (if IntKind.i64.wrap ((x0.length : Int) - x1) ≤ a then (some (.inr (0, 0, 2))) else (if 0 ≤ IntKind.i64.wrap (x1 + a) ∧ IntKind.i64.wrap (x1 + a) < (x0.length : Int) then (if 0 ≤ IntKind.i64.wrap (7 * a) then (if (128 : Int) ≤ ((x0.getD (IntKind.i64.wrap (x1 + a)).toNat 0).toNat : Int) then (gU.l0 x0 x1 k (df .or .i64 b (IntKind.i64.wrap ((IntKind.i64.wrap (df .and .u8 ((x0.getD (IntKind.i64.wrap (x1 + a)).toNat 0).toNat : Int) 127)) * 2 ^ (min (IntKind.i64.wrap (7 * a)).toNat IntKind.i64.bits)))) (IntKind.i64.wrap (a + 1))) else (if ((decide (((x0.getD (IntKind.i64.wrap (x1 + a)).toNat 0).toNat : Int) = (0 : Int))) && (decide ((0 : Int) < a))) = true then (some (.inr (0, 0, 4))) else (if (4611686018427387904 : Int) < df .or .i64 b (IntKind.i64.wrap ((IntKind.i64.wrap (df .and .u8 ((x0.getD (IntKind.i64.wrap (x1 + a)).toNat 0).toNat : Int) 127)) * 2 ^ (min (IntKind.i64.wrap (7 * a)).toNat IntKind.i64.bits))) then (some (.inr (0, 0, 1))) else (some (.inr (df .or .i64 b (IntKind.i64.wrap ((IntKind.i64.wrap (df .and .u8 ((x0.getD (IntKind.i64.wrap (x1 + a)).toNat 0).toNat : Int) 127)) * 2 ^ (min (IntKind.i64.wrap (7 * a)).toNat IntKind.i64.bits))), IntKind.i64.wrap (a + 1), 0)))))) else none) else none)) else (some (.inl ()))
def gU.f (k : Nat) (x0 : List UInt8) (x1 : Int) : Option (Int × Int × Int) := if ((decide (x1 < (0 : Int))) || (decide ((x0.length : Int) ≤ x1))) = true then (some (0, 0, 2)) else (orR (gU.l0 x0 x1 k 0 0) fun a => (some (0, 0, 4)))
theorem gU.calls (W : World) (F : HA) (k : Nat) (a0 : Option Addr) (c0 : Nat) (x0 : Lb) (x1 : Int) (h0 : Rd F a0 (aL x0)) (ag : x0.length ≤ c0) (al : c0 ≤ maxLen) :
    Fn Tryz.prog W 143 [.slice a0 x0.length c0, Iv x1] [] F (gU.f k x0 x1) (fun r (y : Unit) => .tuple #[Iv r.1, Iv r.2.1, Iv r.2.2]) (fun r y => []) := by
 unfold gU.f
 refine aX 55 Tryz.func143 O Tryz.ntmps143 O (sr (oA O (oA O (oA O (oT (ap (sr (oM O (vq (dG O O O) O (oM O (ao (b := decide (x1 < (0 : Int))) (fun m => RQ.sub (E' := [(1, Iv x1)]) ⟨O, trivial⟩ (am O O)) O O O O O (ao (b := decide (x1 < (0 : Int))) (fun n => RQ.sub (E' := [(0, .slice a0 x0.length c0)]) ⟨O, trivial⟩ (am O O)) O O O O O (ao (b := decide (x1 < (0 : Int))) (fun h => RQ.sub (E' := [(14, .slice a0 x0.length c0)]) ⟨aN O h, trivial⟩ (bL O O O aH)) O O O O O (ao (b := decide (x1 < (0 : Int))) (fun d => RQ.sub (E' := [(13, Iv x1), (15, Iv (x0.length : Int))]) ⟨aN O d, aN O d, trivial⟩ (lw O O O)) O O O O O (vq (ik O O O) O (oT ?_))))))))))))))))
 refine bm O (fun an => ?_) (fun az => ?_)
 refine sr (oA O (oA O (oA O (oT (ay (aY ?_))))))
 exact aJ () O O O (.a .n)
 refine aA (ai (sr (oA O (oT ?_))))
 refine iA (S := Unit) Unit (fun s y => []) (fun s y => [F]) ?_ ?_
 refine sr (oA O (oT (aZ ?_)))
 refine da (S := Int × Int) Unit (fun k s => gU.l0 x0 x1 k s.1 s.2) (fun s y => [(0, .slice a0 x0.length c0), (1, Iv x1), (7, Iv s.1), (8, Iv s.2)]) (fun s y => [F]) (fun _ => by rw [gU.l0]) ?_ k (0, 0) () ⟨O, O, O, O, trivial⟩ (.a .n)
 intro k c a1
 refine dW (by rw [gU.l0]) (ap (sr (oM O (vq (dG O O O) O (oT ?_)))))
 refine bu O (fun a2 => ?_) (fun q => ?_)
 refine aA (ai (ap (aZ (ap (sr (oM O (oM O (vq (bL O O O aH) O (oM O (vq (eL O O O) O (vq (lw O O O) O (oT ?_))))))))))))
 refine bu O (fun t => ?_) (fun u => ?_)
 refine sr (oA O (oA O (oA O (oT (ay (aY (bI (aY (ij (bI (gP ?_)))))))))))
 exact aJ () O O O (.a .n)
 refine aA (ai (sr (oM O (oM O (oM O (vq (cn O O O) O (bo (fun e => ?_))))))))
 obtain ⟨v, o, g⟩ := h0.pos (lu (j := (IntKind.i64.wrap (x1 + c.2)).toNat) (by omega))
 refine vq (mj O O O g aH fB e.1 e.2) O (vq (dR O O isAgg5 (h0.cell 0 O g (kD (by omega)))) O (oA O (nx (oM O (oM O (vq (vf O O O) O (vq (jN O O eP fi) O (oM O (vq (A6 O O O) O (bo (fun i => (vq (uz O O O i) O (vq (sq O O O) O (oA O (oT (ap (sr (oM O (vq (lw O O O) O (oT ?_))))))))))))))))))))
 refine bu O (fun w => ?_) (fun x => ?_)
 refine dt (cK (cN (ai (aG (oM O (vq (cn O O O) O (oA O (aw ?_))))))))
 exact bT (s := (df .or .i64 c.1 (IntKind.i64.wrap ((IntKind.i64.wrap (df .and .u8 ((x0.getD (IntKind.i64.wrap (x1 + c.2)).toNat 0).toNat : Int) 127)) * 2 ^ (min (IntKind.i64.wrap (7 * c.2)).toNat IntKind.i64.bits))), IntKind.i64.wrap (c.2 + 1))) () ⟨O, O, O, O, trivial⟩ (.a .n)
 refine aA (ai (ap (sr (oM O (vq (cr O O O) O (oM O (ao (b := decide (((x0.getD (IntKind.i64.wrap (x1 + c.2)).toNat 0).toNat : Int) = (0 : Int))) (fun p => RQ.sub (E' := [(8, Iv c.2)]) ⟨O, trivial⟩ (am O O)) O O O O O (ao (b := decide (((x0.getD (IntKind.i64.wrap (x1 + c.2)).toNat 0).toNat : Int) = (0 : Int))) (fun l => RQ.sub (E' := [(47, Iv c.2)]) ⟨aN O l, trivial⟩ (dO O O O)) O O O O O (vq (fN O O O) O (oT ?_))))))))))
 refine bm O (fun z => ?_) (fun ab => ?_)
 refine sr (oA O (oA O (oA O (oT (ay (aY (bI (aY (ij (bI (gP ?_)))))))))))
 exact aJ () O O O (.a .n)
 refine aA (ai (ap (sr (oM O (vq (dO O O O) O (oT ?_))))))
 refine bu O (fun ad => ?_) (fun af => ?_)
 refine sr (oA O (oA O (oA O (oT (ay (aY (bI (aY (ij (bI (gP ?_)))))))))))
 exact aJ () O O O (.a .n)
 refine aA (ai (sr (oM O (oM O (vq (cn O O O) O (oA O (oA O (oA O (oT (ay (bI (aY (ij (bI (gP ?_)))))))))))))))
 exact aJ () O O O (.a .n)
 refine dt (cK (cU (cN ?_)))
 exact gx (s := ()) () trivial (.a .n)
 intro a3 a4
 refine sr (oA O (oA O (oA O (oT (ay ?_)))))
 exact aJ () O O O (.a .n)

def gf.f (k : Nat) (d : List UInt8) (a c : Int) : Option (Int × Int × Bool × Int × Int) := if c = (0 : Int) then ((gU.f k d a).bind fun b => (some (b.1, b.2.1, decide (b.2.2 = (0 : Int)), a, b.2.2))) else (some (0, 0, false, a, c))
theorem gf.calls (W : World) (F : HA) (k b0 : Nat) (d : Option Addr) (c : Nat) (b : Lb) (e g : Int) (l : Rd F d (aL b)) (i : b.length ≤ c) (j : c ≤ maxLen) :
    Fn Tryz.prog W 123 [Pt b0] [W24 b0 b e g d c] F (gf.f k b e g) (fun r (y : Unit) => .tuple #[Iv r.1, Iv r.2.1, .bool r.2.2.1]) (fun r y => [W24 b0 b r.2.2.2.1 r.q4 d c]) := by
 unfold gf.f
 refine aX 34 Tryz.func123 O Tryz.ntmps123 O (sr (oA O (oA O (oA O (oT (ap (sr (oM O (oN O (vq (oF O db O cT O) O (vq (oL O eX 0 O) O (vq (ej O O O) O (oT ?_)))))))))))))
 refine eN O (fun o => ?_) (fun p => ?_)
 refine aA (ai (ap (bC (fun h m => (bK [[], [0], [0, 1], [0, 1, 2], [], [4], [4, 5], [4, 5, 6], rL 8, rL 9, rL 10, rL 10, rL 10, rL 11, [0, 1, 2, 3, 4, 5, 6, 7, 8, 9, 10, 11, 13], rL 15] 34 O mixed (by decide) (dqo 0 [0] O O O (am O O) (dq 1 O O O (bi O O) (dq 2 O O O (oF O db O bM O) (dl 3 [] O O O (oL O cP 0 O) (dqo 4 [0] O O O (am O O) (dq 5 O O O (bi O O) (dq 6 O O O (oF O db O aa O) (dl 7 [] O O O (oL O ae 0 O) (de 8 [] O O O O (oC (vs := [.slice d b.length c, Iv e]) (cap := []) (A := []) O call143 (.a (.a .n)) (gU.calls _ _ k d c b e (l.lend 1 O) i j) m) (fun n => zA) (fun n => (dq 9 O O O (am O O) (dq 10 O O O (bY O O O) (dq 11 O O O (bY O O O) (dq 12 O O O (bY O O O) (dq 13 O O O (dx O O) (dq 14 O O O (dx O O) (dq 15 O O O (dx O O) (.fin [(0, Pt b0), (5, Iv h.1), (6, Iv h.2.1), (7, Iv h.2.2)] O ⟨O, O, O, O, trivial⟩ (ai (sr (oM O (oM O (oN O (vq (oF O db O cT O) O (bg (aI 0 O O O cT O O (aM (by rfl)) O O) O O ?_))))))))))))))))))))))))))))))
 intro _
 refine nx (oM O (oM O (oM O (vq (cr O O O) O (oA O (oA O (oA O (oT (ay ?_)))))))))
 exact aJ () O O O (.a (.a .n))
 refine sr (oA O (oA O (oA O (oT (ay (aY ?_))))))
 exact aJ () O O O (.a (.a .n))

def cc.f (k : Nat) (b : List UInt8) (c d : Int) : Option (Int × Int × Int) := (gf.f k b c d).bind fun a => (if (!a.2.2.1) = true then (some (0, a.2.2.2.1, a.2.2.2.2)) else (some (a.1, IntKind.i64.wrap (a.2.2.2.1 + a.2.1), a.2.2.2.2)))
theorem cc.calls (W : World) (F : HA) (k b0 : Nat) (d : Option Addr) (c : Nat) (b : Lb) (e g : Int) (j : Rd F d (aL b)) (h : b.length ≤ c) (i : c ≤ maxLen) :
    Fn Tryz.prog W 101 [Pt b0] [W24 b0 b e g d c] F (cc.f k b e g) (fun r (y : Unit) => Iv r.1) (fun r y => [W24 b0 b r.2.1 r.2.2 d c]) := by
 unfold cc.f
 refine aX 23 Tryz.func101 O Tryz.ntmps101 O (sr (oA O (nx (oM O (aj (fun m l => (oE (oC (vs := [Pt b0]) (cap := []) (A := [W24 b0 b e g d c]) O call123 (.a (.a .n)) (gf.calls _ _ k b0 d c b e g (j.lend 0 O) h i) l) O ?_)))))))
 intro n
 refine oM O (vq (bY O O O) O (vq (bY O O O) O (vq (bY O O O) O (oA O (oA O (oA O (oT (ap (sr (oM O (vq (iB O O) O (oT ?_))))))))))))
 refine bm O (fun o => ?_) (fun p => ?_)
 refine sr (oA O (oT (ay (aY ?_))))
 exact aJ () O O O (.a (.a .n))
 refine aA (ai (sr (oM O (oN O (vq (oF O db O aa O) O (vq (oL O ae 0 O) O (oM O (vq (cn O O O) O (oN O (vq (oF O db O aa O) O (bg (aI 0 O O O aa O O (aM (by rfl)) O O) O O ?_)))))))))))
 intro _
 refine nx (oM O (oA O (oT (ay ?_))))
 exact aJ () O O O (.a (.a .n))

def fh.f (b a c : Int) : Option (Int) := (dF.f b (0 : Int)).bind fun d => ((if (!d) = true then (some true) else ((dF.f c (0 : Int)).bind fun e => (some (!e)))).bind fun g => (if ((g || (decide (a < (0 : Int)))) || (decide ((7 : Int) < a))) = true then (some 1) else (if ((!decide (a = (0 : Int))) && (decide (b = (0 : Int)))) = true then (some 4) else (some 0))))
theorem fh.calls (W : World) (F : HA) (d c g : Int)  :
    Fn Tryz.prog W 78 [.agg #[], .agg #[Iv d, Iv c, Iv g]] [] F (fh.f d c g) (fun r (y : Unit) => Iv r) (fun r y => []) := by
 unfold fh.f
 refine aX 35 Tryz.func78 O Tryz.ntmps78 O (sr (oE (cH O O O) O ?_))
 intro al
 refine oE (cH O O O) O ?_
 intro e
 refine oA O (oT (ap (aZ (sr (vq (oF O bH O aa O) O (vq (oL O ae 0 O) O (aj (fun an q => (oE (oC (vs := [Iv d, Iv 0]) (cap := []) (A := []) O call105 (.a (.a (.a .n))) (dF.calls _ _ d (0 : Int) ) q) O ?_)))))))))
 intro az
 refine vq (iB O O) O (oM O ?_)
 refine eG 5 (S := Bool) Unit (fun s y => [(3, Pt e), (15, .bool s)]) (fun s y => [W16 e d c g, F]) ?_ ?_
 refine ii (fun i => ?_) (fun j => ?_)
 rw [i]
 refine oS O (oS O (oS O (oS O (vq (bZ O O O O O) O (aw ?_)))))
 exact aF (s := true) () ⟨O, O, trivial⟩ (.a (.b .n))
 rw [j]
 refine aK (oF O bH O aa O) O O O O O O (aK (oL O ae 0 O) O O O O O O (aj (fun u t => (gj (oC (vs := [Iv g, Iv 0]) (cap := []) (A := []) O call105 (.a (.a (.a .n))) (dF.calls _ _ g (0 : Int) ) t) O O O O O O ?_))))
 intro z
 refine aK (iB O O) O O O O O O (vq (bZ O O O O O) O (aw ?_))
 exact aF (s := !u) () ⟨O, O, trivial⟩ (.a (.b .n))
 intro h a0
 refine oM O (ao (b := h) (fun v => RQ.sub (E' := [(3, Pt e)]) ⟨O, trivial⟩ (oF O bH O aa O)) O O O O O (ao (b := h) (fun k => RQ.sub (E' := [(17, .pointer (some ⟨e, 1, none⟩))]) ⟨aN O k, trivial⟩ (oL O ae 0 O)) O O O O O (ao (b := h) (fun l => RQ.sub (E' := [(18, Iv c)]) ⟨aN O l, trivial⟩ (dG O O O)) O O O O O (vq (ik O O O) O (oM O (ao (b := h || (decide (c < (0 : Int)))) (fun w => RQ.sub (E' := [(3, Pt e)]) ⟨O, trivial⟩ (oF O bH O aa O)) O O O O O (ao (b := h || (decide (c < (0 : Int)))) (fun m => RQ.sub (E' := [(22, .pointer (some ⟨e, 1, none⟩))]) ⟨aN O m, trivial⟩ (oL O ae 0 O)) O O O O O (ao (b := h || (decide (c < (0 : Int)))) (fun n => RQ.sub (E' := [(23, Iv c)]) ⟨aN O n, trivial⟩ (dO O O O)) O O O O O (vq (ik O O O) O (oA O (oT ?_)))))))))))
 refine bm O (fun ab => ?_) (fun ad => ?_)
 refine sr (oA O (oT (ay (bI (aY ?_)))))
 exact aJ () O O O (.b .n)
 refine sr (vq (oF O bH O aa O) O (vq (oL O ae 0 O) O (vq (ej O O O) O (oM O (ao (b := !decide (c = (0 : Int))) (fun x => RQ.sub (E' := [(3, Pt e)]) ⟨O, trivial⟩ (oF O bH O aa O)) O O O O O (ao (b := !decide (c = (0 : Int))) (fun o => RQ.sub (E' := [(31, Pt e)]) ⟨aN O o, trivial⟩ (oL O ae 0 O)) O O O O O (ao (b := !decide (c = (0 : Int))) (fun p => RQ.sub (E' := [(32, Iv d)]) ⟨aN O p, trivial⟩ (cr O O O)) O O O O O (vq (fN O O O) O (oA O (oT ?_))))))))))
 refine bm O (fun af => ?_) (fun ag => ?_)
 refine sr (oA O (oT (ay (bI (aY ?_)))))
 exact aJ () O O O (.b .n)
 refine aA (bz (ai (sr (oA O (oT (ay ?_))))))
 exact aJ () O O O (.b .n)

def fe.f (k : Nat) (b : List UInt8) (c d x1 : Int) : Option (List UInt8 × Int × Int) := (gf.f k b c d).bind fun a => (if (!a.2.2.1) = true then (some (([] : List UInt8), a.2.2.2.1, a.2.2.2.2)) else (if max x1 (0 : Int) < a.1 then (some (([] : List UInt8), a.2.2.2.1, 3)) else (if IntKind.i64.wrap ((IntKind.i64.wrap ((b.length : Int) - a.2.2.2.1)) - a.2.1) < a.1 then (some (([] : List UInt8), a.2.2.2.1, 2)) else (if 0 ≤ IntKind.i64.wrap (a.2.2.2.1 + a.2.1) ∧ IntKind.i64.wrap (a.2.2.2.1 + a.2.1) ≤ IntKind.i64.wrap ((IntKind.i64.wrap (a.2.2.2.1 + a.2.1)) + a.1) ∧ IntKind.i64.wrap ((IntKind.i64.wrap (a.2.2.2.1 + a.2.1)) + a.1) ≤ (b.length : Int) then ((iH.f (cut b (IntKind.i64.wrap (a.2.2.2.1 + a.2.1)) (IntKind.i64.wrap ((IntKind.i64.wrap (a.2.2.2.1 + a.2.1)) + a.1)))).bind fun e => (some (e, IntKind.i64.wrap ((IntKind.i64.wrap (a.2.2.2.1 + a.2.1)) + a.1), a.2.2.2.2))) else none))))
theorem fe.calls (W : World) (F : HA) (k b0 : Nat) (e : Option Addr) (d : Nat) (c : Lb) (h i x1 : Int) (o : Rd F e (aL c)) (j : c.length ≤ d) (m : d ≤ maxLen) :
    Fn Tryz.prog W 103 [Pt b0, Iv x1] [W24 b0 c h i e d] F (fe.f k c h i x1) (fun r (y : Option Addr × Nat) => .slice y.1 r.1.length y.2) (fun r y => [Row 5 1 y.1 r.1.length y.2 (aL r.1), W24 b0 c r.2.1 r.2.2 e d]) := by
 unfold fe.f
 refine aX 67 Tryz.func103 O Tryz.ntmps103 O (sr (oA O (nx (oM O (aj (fun b x => (oE (oC (vs := [Pt b0]) (cap := []) (A := [W24 b0 c h i e d]) O call123 (.a (.a .n)) (gf.calls _ _ k b0 e d c h i (o.lend 0 O) j m) x) O ?_)))))))
 intro ab
 refine oM O (vq (bY O O O) O (vq (bY O O O) O (vq (bY O O O) O (oA O (oA O (oA O (oT (ap (aZ (sr (oM O (vq (iB O O) O (oA O (oT ?_))))))))))))))
 refine bm O (fun ad => ?_) (fun af => ?_)
 refine sr (oA O (oT (ay (bI (aY ?_)))))
 exact aJ (none, 0) O O O (.row_nil (.a (.a .n)))
 refine sr (oM O (oM O (vq (qJ O O O) O (vq (dO O O O) O (oA O (oT ?_))))))
 refine bu O (fun ag => ?_) (fun al => ?_)
 refine sr (oM O (oN O (vq (oF O db O cT O) O (bg (aI 0 O O O cT O O (aM (by rfl)) O O) O O ?_))))
 intro _
 refine nx (oA O (oT (ay (bI (aY ?_)))))
 exact aJ (none, 0) O O O (.row_nil (.a (.a .n)))
 refine ap (bK [[], [], [1], [1, 2], [1, 2, 3], [1, 2, 3, 4], [], [6], [6, 7], [6, 7, 8], [1, 2, 3, 4, 5, 6, 7, 8, 9], [], [1, 2, 3, 4, 5, 6, 7, 8, 9, 10, 11], rL 13, rL 14] 67 O mixed (by decide) (dqo 0 [5] O O O (am O O) (dqo 1 [0] O O O (am O O) (dq 2 O O O (bi O O) (dq 3 O O O (oF O db O bM O) (dl 4 [] O O O (oL O cP 0 O) (dq 5 O O O (bL O O O aH) (dqo 6 [0] O O O (am O O) (dq 7 O O O (bi O O) (dq 8 O O O (oF O db O aa O) (dl 9 [] O O O (oL O ae 0 O) (dq 10 O O O (eL O O O) (dqo 11 [6] O O O (am O O) (dq 12 O O O (eL O O O) (dq 13 O O O (dO O O O) (dq 14 O O O (dx O O) (.fin [(0, Pt b0), (5, Iv b.1), (6, Iv b.2.1), (26, .bool (decide (IntKind.i64.wrap ((IntKind.i64.wrap ((c.length : Int) - b.2.2.2.1)) - b.2.1) < b.1)))] O ⟨O, O, O, O, trivial⟩ (ai ?_))))))))))))))))))
 refine bu O (fun an => ?_) (fun az => ?_)
 refine sr (oM O (oN O (vq (oF O db O cT O) O (bg (aI 0 O O O cT O O (aM (by rfl)) O O) O O ?_))))
 intro _
 refine nx (oA O (oT (ay (bI (aY ?_)))))
 exact aJ (none, 0) O O O (.row_nil (.a (.a .n)))
 refine aA (bz (ai (sr (oM O (oN O (vq (oF O db O aa O) O (vq (oL O ae 0 O) O (oM O (vq (cn O O O) O (oA O (nx (oM O (oM O (oM O (vq (cn O O O) O (oN O (vq (oF O db O aa O) O (bg (aI 0 O O O aa O O (aM (by rfl)) O O) O O ?_))))))))))))))))))
 intro _
 refine oT (ap (dh (fun n => ?_)))
 obtain ⟨p, q, s, t, u, v⟩ := lf (lo := IntKind.i64.wrap (b.2.2.2.1 + b.2.1)) (hi := IntKind.i64.wrap ((IntKind.i64.wrap (b.2.2.2.1 + b.2.1)) + b.1)) o j n
 refine bC (fun z w => (bK [[], [0], [0, 1], [0, 1, 2], [], [], [5], [5, 6], [5, 6, 7], rL 9, rL 10, rL 11] 67 O mixed (by decide) (dqo 0 [0] O O O (am O O) (dq 1 O O O (bi O O) (dq 2 O O O (oF O db O bM O) (dl 3 [] O O O (oL O cP 0 O) (dqo 4 [8] O O O (am O O) (dqo 5 [0] O O O (am O O) (dq 6 O O O (bi O O) (dq 7 O O O (oF O db O aa O) (dl 8 [] O O O (oL O ae 0 O) (dq 9 O O O (lS (l := c) (lo' := IntKind.i64.wrap (b.2.2.2.1 + b.2.1)) (hi' := IntKind.i64.wrap ((IntKind.i64.wrap (b.2.2.2.1 + b.2.1)) + b.1)) O O O O aH fB (.inr ⟨_, O⟩) (.inr ⟨_, O⟩) n j s) (de 10 [] O O O O (kQ (vs := [.slice p ((cut c (IntKind.i64.wrap (b.2.2.2.1 + b.2.1)) (IntKind.i64.wrap ((IntKind.i64.wrap (b.2.2.2.1 + b.2.1)) + b.1))).length) q]) (cap := []) (A := []) O O O O O O call110 (.a (.a .n)) (iH.calls _ _ p q (cut c (IntKind.i64.wrap (b.2.2.2.1 + b.2.1)) (IntKind.i64.wrap ((IntKind.i64.wrap (b.2.2.2.1 + b.2.1)) + b.1))) (t.lend 1 O) u (Nat.le_trans v m)) w) (fun g => zA) (fun g => (dq 11 O O O (dx O O) (.fin [(4, .slice g.1 z.length g.2)] O ⟨O, trivial⟩ (ai (ay ?_))))))))))))))))))
 exact aJ g O O O (.a (.a (.a .n)))

def dV.f (a : List UInt8) (b c : Int) : Option (Int) := some (IntKind.i64.wrap ((a.length : Int) - b))
theorem dV.calls (W : World) (F : HA) (b0 : Nat) (e : Option Addr) (c : Nat) (b : Lb) (d g : Int) (j : Rd F e (aL b)) (h : b.length ≤ c) (i : c ≤ maxLen) :
    Fn Tryz.prog W 125 [Pt b0] [W24 b0 b d g e c] F (dV.f b d g) (fun r (y : Unit) => Iv r) (fun r y => [W24 b0 b d g e c]) := by
 unfold dV.f
 refine aX 13 Tryz.func125 O Tryz.ntmps125 O (sr (oA O (oT (ap (bK [[], [0], [0, 1], [0, 1, 2], rL 4, [], [5], [5, 6], [5, 6, 7], rL 9, rL 10] 13 O mixed (by decide) (dqo 0 [0] O O O (am O O) (dq 1 O O O (bi O O) (dq 2 O O O (oF O db O bM O) (dl 3 [] O O O (oL O cP 0 O) (dq 4 O O O (bL O O O aH) (dqo 5 [0] O O O (am O O) (dq 6 O O O (bi O O) (dq 7 O O O (oF O db O aa O) (dl 8 [] O O O (oL O ae 0 O) (dq 9 O O O (eL O O O) (dq 10 O O O (dx O O) (.fin [(2, Iv (IntKind.i64.wrap ((b.length : Int) - d)))] O ⟨O, trivial⟩ (ai (ay ?_)))))))))))))))))))
 exact aJ () O O O (.a (.a .n))
def dV.v (a : List UInt8) (b c : Int) : Int := (dV.f a b c).getD 0
theorem dV.tot (a : Lb) (b c : Int) : dV.f a b c = some (dV.v a b c) := by
  have h : ∃ r, dV.f a b c = some r := by
    unfold dV.f
    repeat' (first | exact ⟨_, rfl⟩ | split | simp only [Option.bind_some])
  obtain ⟨r, h⟩ := h
  unfold dV.v
  rw [h]; rfl

def cf.f (b : List UInt8) (c a : Int) : Option (Int) := (if a = (0 : Int) then ((dV.f b c a).bind fun d => (some (decide ((0 : Int) < d)))) else (some false)).bind fun e => (if e = true then (some 3) else (some a))
theorem cf.calls (W : World) (F : HA) (b0 : Nat) (d : Option Addr) (c : Nat) (b : Lb) (e g : Int) (j : Rd F d (aL b)) (h : b.length ≤ c) (i : c ≤ maxLen) :
    Fn Tryz.prog W 104 [Pt b0] [W24 b0 b e g d c] F (cf.f b e g) (fun r (y : Unit) => Iv r) (fun r y => [W24 b0 b e g d c]) := by
 unfold cf.f
 refine aX 17 Tryz.func104 O Tryz.ntmps104 O (sr (oA O (oT (ap (sr (oM O (oN O (vq (oF O db O cT O) O (vq (oL O eX 0 O) O (vq (cr O O O) O (oM O ?_)))))))))))
 refine eG 4 (S := Bool) Unit (fun s y => [(0, Pt b0), (12, .bool s)]) (fun s y => [W24 b0 b e g d c, F]) ?_ ?_
 refine iD (fun k => ?_) (fun l => ?_)
 rw [k]
 refine aK (am O O) O O O O O O (aj (fun n m => (gj (oC (vs := [Pt b0]) (cap := []) (A := [W24 b0 b e g d c]) O call125 (.a (.a .n)) (dV.calls _ _ b0 d c b e g (j.lend 0 O) h i) m) O O O O O O ?_)))
 intro o
 refine aK (dO O O O) O O O O O O (vq (bZ O O O O O) O (aw ?_))
 exact aF (s := decide ((0 : Int) < n)) () ⟨O, O, trivial⟩ (.a (.a .n))
 rw [l]
 refine oS O (oS O (oS O (vq (bZ O O O O O) O (aw ?_))))
 exact aF (s := false) () ⟨O, O, trivial⟩ (.a (.a .n))
 intro p q
 refine oT ?_
 refine bm O (fun t => ?_) (fun u => ?_)
 refine sr (oA O (oT (ay (aY ?_))))
 exact aJ () O O O (.a (.a .n))
 refine aA (ai (sr (oM O (oN O (vq (oF O db O cT O) O (vq (oL O eX 0 O) O (oA O (oT (ay ?_)))))))))
 exact aJ () O O O (.a (.a .n))
def cf.v (a : List UInt8) (b c : Int) : Int := (cf.f a b c).getD 0
theorem cf.tot (a : Lb) (b c : Int) : cf.f a b c = some (cf.v a b c) := by
  have h : ∃ r, cf.f a b c = some r := by
    unfold cf.f
    repeat' (first | exact ⟨_, rfl⟩ | split | simp only [Option.bind_some, dV.tot])
  obtain ⟨r, h⟩ := h
  unfold cf.v
  rw [h]; rfl

def jR.f (e : List UInt8) (g h a b c : Int) (d : List UInt8) : Option (aP) := (cf.f e g h).bind fun i => ((if i = (0 : Int) then ((ce.f a b c d).bind fun k => (some k)) else (some i)).bind fun j => (if j = (0 : Int) then (some (a, b, c, d, 0)) else (some (0, 0, 0, ([] : List UInt8), j))))
theorem jR.calls (W : World) (F G : HA) (hG : Up G F) (q : Nat) (h : Option Addr) (g : Nat) (e : Lb) (i j n o p : Int) (m : Option Addr) (k : Nat) (l : Lb) (ad : Rd G h (aL e)) (w : e.length ≤ g) (x : g ≤ maxLen) (z : Rd G m (aL l)) (u : l.length ≤ k) (v : k ≤ maxLen) :
    Fn Tryz.prog W 124 [Pt q, .iface 131 (.agg #[]), .agg #[Iv n, Iv o, Iv p, .slice m l.length k]] [W24 q e i j h g] F (jR.f e i j n o p l) (fun r (y : Option Addr × Nat) => .tuple #[.agg #[Iv r.1, Iv r.2.1, Iv r.2.2.1, .slice y.1 r.2.2.2.1.length y.2], Iv r.q4]) (fun r y => [pr (Rd G y.1 (aL r.2.2.2.1) ∧ r.2.2.2.1.length ≤ y.2 ∧ y.2 ≤ maxLen), W24 q e i j h g]) := by
 unfold jR.f
 refine aX 22 Tryz.func124 O Tryz.ntmps124 O (sr (oE (cH O O O) O ?_))
 intro ab
 refine oE (bX O dy O) O ?_
 intro t
 refine oA O (nx (oM O (aj (fun an ag => (oE (oC (vs := [Pt q]) (cap := []) (A := [W24 q e i j h g]) O call104 (.c (.a (.a (.a .n)))) (cf.calls _ _ q h g e i j ((ad.up hG).lend 2 O) w x) ag) O ?_)))))
 intro a4
 refine oA O (oT ?_)
 refine bP (S := Int) Unit (fun s y => [(5, Pt ab), (6, Pt t), (8, Iv s)]) (fun s y => [W24 q e i j h g, obj t 35 [Iv 0, Iv 0, Iv 0, .slice none 0 0], W8 ab n o p l m k, F]) ?_ ?_
 refine sr (oM O (vq (cr O O O) O (oT ?_)))
 refine bu O (fun a5 => ?_) (fun a6 => ?_)
 refine aG (oM O (vq (cF 2 O O cy aR O O) O (aj (fun al af => (oE (ul (vs := [.agg #[Iv n, Iv o, Iv p, .slice m l.length k]]) (A := []) (rst := [W24 q e i j h g, obj t 35 [Iv 0, Iv 0, Iv 0, .slice none 0 0], W8 ab n o p l m k, F]) O O O O O (fun _ => by kernel_rfl) call79 (.a (.a (.a (.a .n)))) (ce.calls _ _ n o p m k l ((z.up hG).lend 3 O) u v) af) O ?_)))))
 intro a0
 refine oA O (aw ?_)
 exact aF (s := al) () ⟨O, O, O, trivial⟩ (.a (.a (.a (.a .n))))
 refine aA ?_
 exact aF (s := an) () ⟨O, O, O, trivial⟩ (.a (.a (.a (.a .n))))
 intro az a7
 refine ap (sr (oM O (vq (ej O O O) O (oT ?_))))
 refine eN O (fun a1 => ?_) (fun a2 => ?_)
 refine aA (ai (sr (vq (cF 2 O O cy aR O O) O (bg (aI 1 O O O aR O O (aM (by rfl)) O O) O O ?_))))
 intro _
 refine oA O (oT (ay ?_))
 exact lx (vs := [.agg #[Iv n, Iv o, Iv p, .slice m l.length k], Iv 0]) (m, k) O ⟨⟨t, O, kE 1 cy aR O O⟩, O, trivial⟩ O (.pr_in ⟨z, u, v⟩ (.a (.c .n)))
 refine sr (oE (bX O dy O) O ?_)
 intro a3
 refine nx (vq (cF 0 O O cy aR O O) O (oM O (bg (aI 2 O O O aR O O (aM (by rfl)) O O) O O ?_)))
 intro _
 refine oA O (oT (ay (aY ?_)))
 exact lx (vs := [.agg #[Iv 0, Iv 0, Iv 0, .slice none 0 0], Iv az]) (none, 0) O ⟨⟨t, O, kE 2 cy aR O O⟩, O, trivial⟩ O (.pr_in ⟨Rd.nil _ _, Nat.le_refl _, Nat.zero_le _⟩ (.b (.d .n)))

def fv.f (e : List UInt8) (g h a b c : Int) (d : List UInt8) : Option (aP) := (cf.f e g h).bind fun i => ((if i = (0 : Int) then ((ce.f a b c d).bind fun k => (some k)) else (some i)).bind fun j => (if j = (0 : Int) then (some (a, b, c, d, 0)) else (some (0, 0, 0, ([] : List UInt8), j))))
theorem fv.calls (W : World) (F : HA) (t : Nat) (l : Option Addr) (i : Nat) (h : Lb) (m n o p q : Int) (j : Option Addr) (k : Nat) (g : Lb) (z : Rd F l (aL h)) (v : h.length ≤ i) (w : i ≤ maxLen) :
    Fn Tryz.prog W 124 [Pt t, .iface 131 (.agg #[]), .agg #[Iv o, Iv p, Iv q, .slice j g.length k]] [W24 t h m n l i, Row 5 1 j g.length k (aL g)] F (fv.f h m n o p q g) (fun r (y : Option Addr × Nat) => .tuple #[.agg #[Iv r.1, Iv r.2.1, Iv r.2.2.1, .slice y.1 r.2.2.2.1.length y.2], Iv r.q4]) (fun r y => [Row 5 1 y.1 r.2.2.2.1.length y.2 (aL r.2.2.2.1), W24 t h m n l i]) := by
 unfold fv.f
 refine aX 22 Tryz.func124 O Tryz.ntmps124 O (sr (oE (cH O O O) O ?_))
 intro x
 refine oE (bX O dy O) O ?_
 intro u
 refine oA O (nx (oM O (aj (fun az al => (oE (oC (vs := [Pt t]) (cap := []) (A := [W24 t h m n l i]) O call104 (.c (.a (.a (.a (.a .n))))) (cf.calls _ _ t l i h m n (z.lend 3 O) v w) al) O ?_)))))
 intro a6
 refine oA O (oT ?_)
 refine bP (S := Int) Unit (fun s y => [(5, Pt x), (6, Pt u), (8, Iv s)]) (fun s y => [W24 t h m n l i, obj u 35 [Iv 0, Iv 0, Iv 0, .slice none 0 0], W8 x o p q g j k, Row 5 1 j g.length k (aL g), F]) ?_ ?_
 refine sr (oM O (vq (cr O O O) O (oT ?_)))
 refine bu O (fun a7 => ?_) (fun a8 => ?_)
 refine aG (oM O (vq (cF 2 O O cy aR O O) O (aj (fun an ab => (bw 3 O (fun ad af ag a1 => (oE (ul (vs := [.agg #[Iv o, Iv p, Iv q, .slice j g.length k]]) (A := []) (rst := [W24 t h m n l i, obj u 35 [Iv 0, Iv 0, Iv 0, .slice none 0 0], W8 x o p q g j k, Row 5 1 j g.length k (aL g), F]) O O O O O (fun _ => by kernel_rfl) call79 (.a (.a (.a (.a (.a .n))))) (ce.calls _ _ o p q j k g (ad.lend 3 O) af ag) ab) O ?_)))))))
 intro a2
 refine oA O (aw ?_)
 exact aF (s := an) () ⟨O, O, O, trivial⟩ (.a (.a (.a (.a (.a .n)))))
 refine aA ?_
 exact aF (s := az) () ⟨O, O, O, trivial⟩ (.a (.a (.a (.a (.a .n)))))
 intro a0 a9
 refine ap (sr (oM O (vq (ej O O O) O (oT ?_))))
 refine eN O (fun a3 => ?_) (fun a4 => ?_)
 refine aA (ai (sr (vq (cF 2 O O cy aR O O) O (bg (aI 1 O O O aR O O (aM (by rfl)) O O) O O ?_))))
 intro _
 refine oA O (oT (ay ?_))
 exact lx (vs := [.agg #[Iv o, Iv p, Iv q, .slice j g.length k], Iv 0]) (j, k) O ⟨⟨u, O, kE 1 cy aR O O⟩, O, trivial⟩ O (.d (.a (.c .n)))
 refine sr (oE (bX O dy O) O ?_)
 intro a5
 refine nx (vq (cF 0 O O cy aR O O) O (oM O (bg (aI 2 O O O aR O O (aM (by rfl)) O O) O O ?_)))
 intro _
 refine oA O (oT (ay (aY ?_)))
 exact lx (vs := [.agg #[Iv 0, Iv 0, Iv 0, .slice none 0 0], Iv a0]) (none, 0) O ⟨⟨u, O, kE 2 cy aR O O⟩, O, trivial⟩ O (.row_nil (.b (.e .n)))

def gT.f (k : Nat) (x1 : List UInt8) : Option (aP) := (gO.f x1).bind fun a => ((cc.f k a.1 a.2.1 a.2.2).bind fun c => ((cc.f k a.1 c.2.1 c.2.2).bind fun d => ((cc.f k a.1 d.2.1 d.2.2).bind fun e => ((fe.f k a.1 e.2.1 e.2.2 (4096 : Int)).bind fun g => ((fv.f a.1 g.2.1 g.2.2 c.1 d.1 e.1 g.1).bind fun b => (some (b.1, b.2.1, b.2.2.1, b.2.2.2.1, b.2.2.2.2)))))))
theorem gT.calls (W : World) (F : HA) (k : Nat) (a1 : Option Addr) (c1 : Nat) (x1 : Lb) (h1 : Rd F a1 (aL x1)) (a6 : x1.length ≤ c1) (a7 : c1 ≤ maxLen) :
    Fn Tryz.prog W 102 [.agg #[], .slice a1 x1.length c1] [] F (gT.f k x1) (fun r (y : Option Addr × Nat) => .tuple #[.agg #[Iv r.1, Iv r.2.1, Iv r.2.2.1, .slice y.1 r.2.2.2.1.length y.2], Iv r.q4]) (fun r y => [Row 5 1 y.1 r.2.2.2.1.length y.2 (aL r.2.2.2.1)]) := by
 unfold gT.f
 refine aX 26 Tryz.func102 O Tryz.ntmps102 O (sr (oE (cH O O O) O ?_))
 intro b2
 refine oE (bX O dy O) O ?_
 intro a8
 refine oA O (nx (oM O (aj (fun e a2 => (oE (oC (vs := [.slice a1 x1.length c1]) (cap := []) (A := []) O call100 (.a (.a (.a .n))) (gO.calls _ _ a1 c1 x1 (h1.lend 2 O) a6 a7) a2) O ?_)))))
 intro d
 refine oA O (nx (oM O (aj (fun i o => (bw 1 O (fun a3 a4 a5 br => (oE (oC (vs := [Pt d.1]) (cap := []) (A := [W23 d.1 e d.2.1 d.2.2]) O je (.a (.a (.a (.a (.a .n))))) (cc.calls _ _ k d.1 d.2.1 d.2.2 e.1 e.2.1 e.2.2 (a3.lend 0 O) a4 a5) o) O ?_)))))))
 intro bs
 refine oM O (aj (fun j p => (bw 1 O (fun q s t a9 => (oE (oC (vs := [Pt d.1]) (cap := []) (A := [W24 d.1 e.1 i.2.1 i.2.2 d.2.1 d.2.2]) O je (.a (.a (.a (.a (.a .n))))) (cc.calls _ _ k d.1 d.2.1 d.2.2 e.1 i.2.1 i.2.2 (q.lend 0 O) s t) p) O ?_)))))
 intro bt
 refine oM O (aj (fun l u => (bw 1 O (fun w x z bc => (oE (oC (vs := [Pt d.1]) (cap := []) (A := [W24 d.1 e.1 j.2.1 j.2.2 d.2.1 d.2.2]) O je (.a (.a (.a (.a (.a .n))))) (cc.calls _ _ k d.1 d.2.1 d.2.2 e.1 j.2.1 j.2.2 (w.lend 0 O) x z) u) O ?_)))))
 intro b0
 refine oM O (aj (fun g ab => (bw 1 O (fun ad af ag bd => (oE (oC (vs := [Pt d.1, Iv 4096]) (cap := []) (A := [W24 d.1 e.1 l.2.1 l.2.2 d.2.1 d.2.2]) O call103 (.a (.a (.a (.a (.a .n))))) (fe.calls _ _ k d.1 d.2.1 d.2.2 e.1 l.2.1 l.2.2 (4096 : Int) (ad.lend 0 O) af ag) ab) O ?_)))))
 intro h
 refine vq (cW (v := .agg #[Iv i.1, Iv j.1, Iv l.1, .slice h.1 g.1.length h.2]) O O (fun _ => by kernel_rfl)) O (oE (bX O dy O) O ?_)
 intro b1
 refine bg (aI 0 O O O aR O O (aM (by rfl)) O O) O O ?_
 intro _
 refine nx (oM O (vq (cF 5 O O isAgg131 sizeOf131 O O) O (vq (yX O O underlying131 O) O (vq (cF 0 O O cy aR O O) O (aj (fun m al => (bw 3 O (fun an az a0 be => (oE (oC (vs := [Pt d.1, .iface 131 (.agg #[]), .agg #[Iv i.1, Iv j.1, Iv l.1, .slice h.1 g.1.length h.2]]) (cap := []) (A := [W24 d.1 e.1 g.2.1 g.2.2 d.2.1 d.2.2, Row 5 1 h.1 g.1.length h.2 (aL g.1)]) O call124 (.c (.b (.a (.a (.a (.a (.a .n))))))) (fv.calls _ _ d.1 d.2.1 d.2.2 e.1 g.2.1 g.2.2 i.1 j.1 l.1 h.1 h.2 g.1 (an.lend 1 O) az a0) al) O ?_)))))))))
 intro n
 refine vq (bY O O O) O (vq (bY O O O) O (bg (aI 4 O O O aR O O (aM (by rfl)) O O) O O ?_))
 intro _
 refine oA O (oT (ay ?_))
 exact lx (vs := [.agg #[Iv m.1, Iv m.2.1, Iv m.2.2.1, .slice n.1 m.2.2.2.1.length n.2], Iv m.q4]) n O ⟨⟨a8, O, kE 4 cy aR O O⟩, O, trivial⟩ O (.a (.f .n))

def gE.f (k : Nat) (x0 : List UInt8) : Option (Int × Int × Int × Int × Int × Int × Int × Int × Int × Int × List UInt8 × Bool) := (gO.f x0).bind fun c => ((cc.f k c.1 c.2.1 c.2.2).bind fun a => ((if a.1 = (0 : Int) then ((cc.f k c.1 a.2.1 a.2.2).bind fun o => (some (o.2.1, o.2.2, o.1))) else (some (a.2.1, a.2.2, 0))).bind fun h => ((if ((decide (a.1 = (0 : Int))) || (decide (a.1 = (1 : Int)))) = true then ((cc.f k c.1 h.1 h.2.1).bind fun i => ((cc.f k c.1 i.2.1 i.2.2).bind fun j => ((cc.f k c.1 j.2.1 j.2.2).bind fun l => ((fh.f i.1 j.1 l.1).bind fun q => (some (decide (q = (0 : Int)), l.2.1, l.2.2, i.1, j.1, l.1)))))) else (some (decide (a.1 ≤ (3 : Int)), h.1, h.2.1, 0, 0, 0))).bind fun b => ((if ((decide (a.1 = (0 : Int))) || (decide (a.1 = (3 : Int)))) = true then ((cc.f k c.1 b.2.1 b.2.2.1).bind fun m => ((cc.f k c.1 m.2.1 m.2.2).bind fun n => ((if b.1 = true then ((if a.1 = (0 : Int) then (some true) else (some ((decide ((0 : Int) < m.1)) && (decide ((0 : Int) < n.1))))).bind fun r => (some r)) else (some false)).bind fun s => (some (s, n.2.1, n.2.2, m.1, n.1))))) else (some (b.1, b.2.1, b.2.2.1, 0, 0))).bind fun d => ((if a.1 = (2 : Int) then ((fe.f k c.1 d.2.1 d.2.2.1 (8192 : Int)).bind fun p => ((gT.f k p.1).bind fun g => (some (decide (g.2.2.2.2 = (0 : Int)), p.2.1, p.2.2, g.1, g.2.1, g.2.2.1, g.2.2.2.1)))) else (some (d.1, d.2.1, d.2.2.1, 0, 0, 0, ([] : List UInt8)))).bind fun e => (some (a.1, h.2.2, b.2.2.2.1, b.2.2.2.2.1, b.2.2.2.2.2, d.2.2.2.1, d.2.2.2.2, e.2.2.2.1, e.2.2.2.2.1, e.2.2.2.2.2.1, e.2.2.2.2.2.2, e.1 && (decide ((cf.v c.1 e.2.1 e.2.2.1) = (0 : Int))))))))))
theorem gE.calls (W : World) (F : HA) (k : Nat) (a0 : Option Addr) (c0 : Nat) (x0 : Lb) (h0 : Rd F a0 (aL x0)) (ei : x0.length ≤ c0) (ek : c0 ≤ maxLen) :
    Fn Tryz.prog W 76 [.slice a0 x0.length c0] [] F (gE.f k x0) (fun r (y : Option Addr × Nat) => .tuple #[.agg #[Iv r.1, Iv r.2.1, Iv r.2.2.1, Iv r.2.2.2.1, Iv r.q4.1, Iv r.q4.2.1, Iv r.q4.2.2.1, Iv r.q4.2.2.2.1, Iv r.q8.1, Iv r.q8.2.1, .slice y.1 r.q8.2.2.1.length y.2], .bool r.q8.2.2.2]) (fun r y => [Row 5 1 y.1 r.q8.2.2.1.length y.2 (aL r.q8.2.2.1)]) := by
 unfold gE.f
 refine aX 95 Tryz.func76 O Tryz.ntmps76 O (sr (oE (bX O iF O) O ?_))
 intro q
 refine oA O (nx (oM O (aj (fun h ea => (oE (oC (vs := [.slice a0 x0.length c0]) (cap := []) (A := []) O call100 (.a (.a .n)) (gO.calls _ _ a0 c0 x0 (h0.lend 1 O) ei ek) ea) O ?_)))))
 intro g
 refine oA O (nx (oM O (aj (fun l a6 => (bw 1 O (fun eb ec ed e6 => (oE (oC (vs := [Pt g.1]) (cap := []) (A := [W23 g.1 h g.2.1 g.2.2]) O je (.a (.a (.a (.a .n)))) (cc.calls _ _ k g.1 g.2.1 g.2.2 h.1 h.2.1 h.2.2 (eb.lend 0 O) ec ed) a6) O ?_)))))))
 intro e7
 refine vq (cW (v := .agg #[Iv l.1, Iv 0, Iv 0, Iv 0, Iv 0, Iv 0, Iv 0, Iv 0, Iv 0, Iv 0, .slice none 0 0]) O O (fun _ => by kernel_rfl)) O (oE (bX O iF O) O ?_)
 intro j
 refine bg (aI 0 O O O bV O O (aM (by rfl)) O O) O O ?_
 intro _
 refine cl (H' := [obj j 102 [Iv l.1, Iv 0, Iv 0, Iv 0, Iv 0, Iv 0, Iv 0, Iv 0, Iv 0, Iv 0, .slice none 0 0], W24 g.1 h.1 l.2.1 l.2.2 g.2.1 g.2.2, Row 5 1 g.2.1 h.1.length g.2.2 (aL h.1), obj q 102 [Iv 0, Iv 0, Iv 0, Iv 0, Iv 0, Iv 0, Iv 0, Iv 0, Iv 0, Iv 0, .slice none 0 0], F]) (Ent.refl _) (nx (vq (oF O aT O aa O) O (vq (oL O ae 0 O) O (vq (lv O O O) O (oA O (oT ?_))))))
 refine bP (S := Int × Int × Int) Unit (fun s y => [(2, Pt q), (4, Pt g.1), (5, Pt j), (6, .bool (decide (l.1 ≤ (3 : Int))))]) (fun s y => [W24 g.1 h.1 s.1 s.2.1 g.2.1 g.2.2, obj j 102 [Iv l.1, Iv s.2.2, Iv 0, Iv 0, Iv 0, Iv 0, Iv 0, Iv 0, Iv 0, Iv 0, .slice none 0 0], obj q 102 [Iv 0, Iv 0, Iv 0, Iv 0, Iv 0, Iv 0, Iv 0, Iv 0, Iv 0, Iv 0, .slice none 0 0], Row 5 1 g.2.1 h.1.length g.2.2 (aL h.1), F]) ?_ ?_
 refine sr (vq (oF O aT O aa O) O (vq (oL O ae 0 O) O (vq (cr O O O) O (oT ?_))))
 refine bu O (fun e8 => ?_) (fun e9 => ?_)
 refine aG (oM O (aj (fun af a7 => (bw 2 O (fun a8 a9 bc eA => (oE (oC (vs := [Pt g.1]) (cap := []) (A := [W24 g.1 h.1 l.2.1 l.2.2 g.2.1 g.2.2]) O je (.b (.a (.a (.a (.a .n))))) (cc.calls _ _ k g.1 g.2.1 g.2.2 h.1 l.2.1 l.2.2 (a8.lend 1 O) a9 bc) a7) O ?_))))))
 intro fl
 refine vq (oF O aT O aa O) O (bg (aI 1 O O O aa O O (aM (by rfl)) O O) O O ?_)
 intro _
 refine cl (H' := [W24 g.1 h.1 af.2.1 af.2.2 g.2.1 g.2.2, obj j 102 [Iv l.1, Iv af.1, Iv 0, Iv 0, Iv 0, Iv 0, Iv 0, Iv 0, Iv 0, Iv 0, .slice none 0 0], Row 5 1 g.2.1 h.1.length g.2.2 (aL h.1), obj q 102 [Iv 0, Iv 0, Iv 0, Iv 0, Iv 0, Iv 0, Iv 0, Iv 0, Iv 0, Iv 0, .slice none 0 0], F]) (Ent.refl _) (aw ?_)
 exact aF (s := (af.2.1, af.2.2, af.1)) () ⟨O, O, O, O, trivial⟩ (.a (.a (.b (.a (.a .n)))))
 refine aA ?_
 exact aF (s := (l.2.1, l.2.2, 0)) () ⟨O, O, O, O, trivial⟩ (.b (.a (.b (.a (.a .n)))))
 intro o fn
 refine bP (S := Bool × Int × Int × Int × Int × Int) Unit (fun s y => [(2, Pt q), (4, Pt g.1), (5, Pt j), (6, .bool s.1)]) (fun s y => [W24 g.1 h.1 s.2.1 s.2.2.1 g.2.1 g.2.2, obj j 102 [Iv l.1, Iv o.2.2, Iv s.2.2.2.1, Iv s.q4.1, Iv s.q4.2, Iv 0, Iv 0, Iv 0, Iv 0, Iv 0, .slice none 0 0], obj q 102 [Iv 0, Iv 0, Iv 0, Iv 0, Iv 0, Iv 0, Iv 0, Iv 0, Iv 0, Iv 0, .slice none 0 0], Row 5 1 g.2.1 h.1.length g.2.2 (aL h.1), F]) ?_ ?_
 refine sr (vq (oF O aT O aa O) O (vq (oL O ae 1 O) O (vq (cr O O O) O (oM O (ao (b := decide (l.1 = (0 : Int))) (fun eB => RQ.sub (E' := [(5, Pt j)]) ⟨O, trivial⟩ (oF O aT O aa O)) O O O O O (ao (b := decide (l.1 = (0 : Int))) (fun bd => RQ.sub (E' := [(27, Pt j)]) ⟨aN O bd, trivial⟩ (oL O ae 1 O)) O O O O O (ao (b := decide (l.1 = (0 : Int))) (fun be => RQ.sub (E' := [(28, Iv l.1)]) ⟨aN O be, trivial⟩ (cr O O O)) O O O O O (vq (ik O O O) O (oT ?_)))))))))
 refine bm O (fun fp => ?_) (fun fr => ?_)
 refine sr (oM O (aj (fun x br => (bw 3 O (fun bs bt b0 eD => (oE (oC (vs := [Pt g.1]) (cap := []) (A := [W24 g.1 h.1 o.1 o.2.1 g.2.1 g.2.2]) O je (.a (.a (.a (.a (.a .n))))) (cc.calls _ _ k g.1 g.2.1 g.2.2 h.1 o.1 o.2.1 (bs.lend 2 O) bt b0) br) O ?_))))))
 intro fs
 refine oM O (aj (fun z b1 => (bw 3 O (fun b2 b3 b4 eF => (oE (oC (vs := [Pt g.1]) (cap := []) (A := [W24 g.1 h.1 x.2.1 x.2.2 g.2.1 g.2.2]) O je (.a (.a (.a (.a (.a .n))))) (cc.calls _ _ k g.1 g.2.1 g.2.2 h.1 x.2.1 x.2.2 (b2.lend 2 O) b3 b4) b1) O ?_)))))
 intro ft
 refine oM O (aj (fun ab b5 => (bw 3 O (fun b6 b7 b8 e0 => (oE (oC (vs := [Pt g.1]) (cap := []) (A := [W24 g.1 h.1 z.2.1 z.2.2 g.2.1 g.2.2]) O je (.a (.a (.a (.a (.a .n))))) (cc.calls _ _ k g.1 g.2.1 g.2.2 h.1 z.2.1 z.2.2 (b6.lend 2 O) b7 b8) b5) O ?_)))))
 intro fz
 refine vq (cW (v := .agg #[Iv x.1, Iv z.1, Iv ab.1]) O O (fun _ => by kernel_rfl)) O (vq (oF O aT O aU O) O (bg (aI 1 O O O aU O O (aM (by rfl)) O O) O O ?_))
 intro _
 refine cl (H' := [W24 g.1 h.1 ab.2.1 ab.2.2 g.2.1 g.2.2, obj j 102 [Iv l.1, Iv o.2.2, Iv x.1, Iv z.1, Iv ab.1, Iv 0, Iv 0, Iv 0, Iv 0, Iv 0, .slice none 0 0], obj q 102 [Iv 0, Iv 0, Iv 0, Iv 0, Iv 0, Iv 0, Iv 0, Iv 0, Iv 0, Iv 0, .slice none 0 0], Row 5 1 g.2.1 h.1.length g.2.2 (aL h.1), F]) (Ent.refl _) (ny (vq (cW (v := .agg #[]) O O (fun _ => by kernel_rfl)) O (vq (oF O aT O aU O) O (vq (cw (vs := [Iv x.1, Iv z.1, Iv ab.1]) O O dm aU O (dc 1 O (cL O))) O (aj (fun ee b9 => (oE (oC (vs := [.agg #[], .agg #[Iv x.1, Iv z.1, Iv ab.1]]) (cap := []) (A := []) O call78 (.a (.a (.a (.a (.a .n))))) (fh.calls _ _ x.1 z.1 ab.1 ) b9) O ?_)))))))
 intro go
 refine vq (cr O O O) O (oA O (aw ?_))
 exact aF (s := (decide (ee = (0 : Int)), ab.2.1, ab.2.2, x.1, z.1, ab.1)) () ⟨O, O, O, O, trivial⟩ (.a (.a (.a (.a (.a .n)))))
 refine aA ?_
 exact aF (s := (decide (l.1 ≤ (3 : Int)), o.1, o.2.1, 0, 0, 0)) () ⟨O, O, O, O, trivial⟩ (.a (.a (.a (.a (.a .n)))))
 intro i gs
 refine bP (S := Bool × Int × Int × Int × Int) Unit (fun s y => [(2, Pt q), (4, Pt g.1), (5, Pt j), (6, .bool s.1)]) (fun s y => [W24 g.1 h.1 s.2.1 s.2.2.1 g.2.1 g.2.2, obj j 102 [Iv l.1, Iv o.2.2, Iv i.2.2.2.1, Iv i.q4.1, Iv i.q4.2, Iv s.2.2.2.1, Iv s.q4, Iv 0, Iv 0, Iv 0, .slice none 0 0], obj q 102 [Iv 0, Iv 0, Iv 0, Iv 0, Iv 0, Iv 0, Iv 0, Iv 0, Iv 0, Iv 0, .slice none 0 0], Row 5 1 g.2.1 h.1.length g.2.2 (aL h.1), F]) ?_ ?_
 refine sr (vq (oF O aT O aa O) O (vq (oL O ae 1 O) O (vq (cr O O O) O (oM O (ao (b := decide (l.1 = (0 : Int))) (fun e1 => RQ.sub (E' := [(5, Pt j)]) ⟨O, trivial⟩ (oF O aT O aa O)) O O O O O (ao (b := decide (l.1 = (0 : Int))) (fun cd => RQ.sub (E' := [(48, Pt j)]) ⟨aN O cd, trivial⟩ (oL O ae 1 O)) O O O O O (ao (b := decide (l.1 = (0 : Int))) (fun ch => RQ.sub (E' := [(49, Iv l.1)]) ⟨aN O ch, trivial⟩ (cr O O O)) O O O O O (vq (ik O O O) O (oT ?_)))))))))
 refine bm O (fun gy => ?_) (fun g0 => ?_)
 refine sr (oM O (aj (fun t cs => (bw 3 O (fun c1 c2 c3 e2 => (oE (oC (vs := [Pt g.1]) (cap := []) (A := [W24 g.1 h.1 i.2.1 i.2.2.1 g.2.1 g.2.2]) O je (.a (.a (.a (.a (.a .n))))) (cc.calls _ _ k g.1 g.2.1 g.2.2 h.1 i.2.1 i.2.2.1 (c1.lend 2 O) c2 c3) cs) O ?_))))))
 intro g1
 refine oM O (aj (fun p c4 => (bw 3 O (fun c5 c6 c7 e3 => (oE (oC (vs := [Pt g.1]) (cap := []) (A := [W24 g.1 h.1 t.2.1 t.2.2 g.2.1 g.2.2]) O je (.a (.a (.a (.a (.a .n))))) (cc.calls _ _ k g.1 g.2.1 g.2.2 h.1 t.2.1 t.2.2 (c5.lend 2 O) c6 c7) c4) O ?_)))))
 intro g2
 refine vq (oF O aT O aa O) O (bg (aI 1 O O O aa O O (aM (by rfl)) O O) O O ?_)
 intro _
 refine cl (H' := [W24 g.1 h.1 p.2.1 p.2.2 g.2.1 g.2.2, obj j 102 [Iv l.1, Iv o.2.2, Iv i.2.2.2.1, Iv i.q4.1, Iv i.q4.2, Iv t.1, Iv 0, Iv 0, Iv 0, Iv 0, .slice none 0 0], obj q 102 [Iv 0, Iv 0, Iv 0, Iv 0, Iv 0, Iv 0, Iv 0, Iv 0, Iv 0, Iv 0, .slice none 0 0], Row 5 1 g.2.1 h.1.length g.2.2 (aL h.1), F]) (Ent.refl _) (vq (oF O aT O aa O) O (bg (aI 1 O O O aa O O (aM (by rfl)) O O) O O ?_))
 intro _
 refine cl (H' := [W24 g.1 h.1 p.2.1 p.2.2 g.2.1 g.2.2, obj j 102 [Iv l.1, Iv o.2.2, Iv i.2.2.2.1, Iv i.q4.1, Iv i.q4.2, Iv t.1, Iv p.1, Iv 0, Iv 0, Iv 0, .slice none 0 0], obj q 102 [Iv 0, Iv 0, Iv 0, Iv 0, Iv 0, Iv 0, Iv 0, Iv 0, Iv 0, Iv 0, .slice none 0 0], Row 5 1 g.2.1 h.1.length g.2.2 (aL h.1), F]) (Ent.refl _) (ny (oM O (oM O ?_)))
 refine eG 14 (S := Bool) Unit (fun s y => [(2, Pt q), (4, Pt g.1), (5, Pt j), (73, .bool s)]) (fun s y => [W24 g.1 h.1 p.2.1 p.2.2 g.2.1 g.2.2, obj j 102 [Iv l.1, Iv o.2.2, Iv i.2.2.2.1, Iv i.q4.1, Iv i.q4.2, Iv t.1, Iv p.1, Iv 0, Iv 0, Iv 0, .slice none 0 0], obj q 102 [Iv 0, Iv 0, Iv 0, Iv 0, Iv 0, Iv 0, Iv 0, Iv 0, Iv 0, Iv 0, .slice none 0 0], Row 5 1 g.2.1 h.1.length g.2.2 (aL h.1), F]) ?_ ?_
 refine ii (fun c8 => ?_) (fun c9 => ?_)
 rw [c8]
 refine aK (oF O aT O aa O) O O O O O O (aK (oL O ae 1 O) O O O O O O (aK (cr O O O) O O O O O O (aK (am O O) O O O O O O ?_)))
 refine eG 9 (S := Bool) Unit (fun s y => [(2, Pt q), (4, Pt g.1), (5, Pt j), (59, .bool true), (72, .bool s)]) (fun s y => [W24 g.1 h.1 p.2.1 p.2.2 g.2.1 g.2.2, obj j 102 [Iv l.1, Iv o.2.2, Iv i.2.2.2.1, Iv i.q4.1, Iv i.q4.2, Iv t.1, Iv p.1, Iv 0, Iv 0, Iv 0, .slice none 0 0], obj q 102 [Iv 0, Iv 0, Iv 0, Iv 0, Iv 0, Iv 0, Iv 0, Iv 0, Iv 0, Iv 0, .slice none 0 0], Row 5 1 g.2.1 h.1.length g.2.2 (aL h.1), F]) ?_ ?_
 refine iD (fun ds => ?_) (fun dz => ?_)
 rw [ds]
 refine oS O (oS O (oS O (oS O (cQ O O O O O (cQ O O O O O (cQ O O O O O (oS O (aK (bZ O O O O O) O O O O O O (aw ?_)))))))))
 exact aF (s := true) () ⟨O, O, O, O, O, trivial⟩ (.a (.a (.a (.a (.a .n)))))
 rw [dz]
 refine aK (oF O aT O aa O) O O O O O O (aK (oL O ae 1 O) O O O O O O (aK (dO O O O) O O O O O O (aK (am O O) O O O O O O (ao (b := decide ((0 : Int) < t.1)) (fun e4 => RQ.sub (E' := [(5, Pt j)]) ⟨O, trivial⟩ (oF O aT O aa O)) O O O O O (ao (b := decide ((0 : Int) < t.1)) (fun d1 => RQ.sub (E' := [(68, .pointer (some ⟨j, 6, none⟩))]) ⟨aN O d1, trivial⟩ (oL O ae 1 O)) O O O O O (ao (b := decide ((0 : Int) < t.1)) (fun d2 => RQ.sub (E' := [(69, Iv p.1)]) ⟨aN O d2, trivial⟩ (dO O O O)) O O O O O (aK (fN O O O) O O O O O O (aK (bZ O O O O O) O O O O O O (aw ?_)))))))))
 exact aF (s := (decide ((0 : Int) < t.1)) && (decide ((0 : Int) < p.1))) () ⟨O, O, O, O, O, trivial⟩ (.a (.a (.a (.a (.a .n)))))
 intro ef g3
 refine vq (bZ O O O O O) O (aw ?_)
 exact aF (s := ef) () ⟨O, O, O, O, trivial⟩ (.a (.a (.a (.a (.a .n)))))
 rw [c9]
 refine oS O (oS O (oS O (oS O (cQ O O O O O (cQ O O O O O (cQ O O O O O (cQ O O O O O (cQ O O O O O (cQ O O O O O (cQ O O O O O (cQ O O O O O (oS O (vq (bZ O O O O O) O (aw ?_))))))))))))))
 exact aF (s := false) () ⟨O, O, O, O, trivial⟩ (.a (.a (.a (.a (.a .n)))))
 intro eg g4
 refine oA O (aw ?_)
 exact aF (s := (eg, p.2.1, p.2.2, t.1, p.1)) () ⟨O, O, O, O, trivial⟩ (.a (.a (.a (.a (.a .n)))))
 refine aA ?_
 exact aF (s := (i.1, i.2.1, i.2.2.1, 0, 0)) () ⟨O, O, O, O, trivial⟩ (.a (.a (.a (.a (.a .n)))))
 intro u g5
 refine bP (S := Bool × Int × Int × Int × Int × Int × Lb) (Option Addr × Nat) (fun s y => [(2, Pt q), (4, Pt g.1), (5, Pt j), (6, .bool s.1)]) (fun s y => [W24 g.1 h.1 s.2.1 s.2.2.1 g.2.1 g.2.2, W19 j l.1 o.2.2 i.2.2.2.1 i.q4.1 i.q4.2 u.2.2.2.1 u.q4 s.2.2.2.1 s.q4.1 s.q4.2.1 s.q4.2.2 y.1 y.2, obj q 102 [Iv 0, Iv 0, Iv 0, Iv 0, Iv 0, Iv 0, Iv 0, Iv 0, Iv 0, Iv 0, .slice none 0 0], Row 5 1 g.2.1 h.1.length g.2.2 (aL h.1), Row 5 1 y.1 s.q4.2.2.length y.2 (aL s.q4.2.2), F]) ?_ ?_
 refine sr (vq (oF O aT O aa O) O (vq (oL O ae 1 O) O (vq (cr O O O) O (oT ?_))))
 refine bu O (fun g6 => ?_) (fun g7 => ?_)
 refine sr (vq (cW (v := .agg #[]) O O (fun _ => by kernel_rfl)) O (oM O (aj (fun ad d3 => (bw 3 O (fun d4 d5 d6 e5 => (oE (oC (vs := [Pt g.1, Iv 8192]) (cap := []) (A := [W24 g.1 h.1 u.2.1 u.2.2.1 g.2.1 g.2.2]) O call103 (.a (.a (.a (.a (.a .n))))) (fe.calls _ _ k g.1 g.2.1 g.2.2 h.1 u.2.1 u.2.2.1 (8192 : Int) (d4.lend 2 O) d5 d6) d3) O ?_)))))))
 intro ag
 refine aj (fun n an => (bw 0 O (fun d7 d8 az el => (oE (oC (vs := [.agg #[], .slice ag.1 ad.1.length ag.2]) (cap := []) (A := []) O call102 (.a (.a (.a (.a (.a (.a .n)))))) (gT.calls _ _ k ag.1 ag.2 ad.1 (d7.lend 0 O) d8 az) an) O ?_))))
 intro w
 refine oM O (vq (bY O O O) O (vq (bY O O O) O (oE (bX O dy O) O ?_)))
 intro d9
 refine bg (aI 0 O O O aR O O (aM (by rfl)) O O) O O ?_
 intro _
 refine oA O (ny (vq (cF 0 O O cy aR O O) O (oM O (vq (cr O O O) O (vq (oF O aT O aR O) O (bg (aI 4 O O O aR O O (aM (by rfl)) O O) O O ?_))))))
 intro _
 refine cl (H' := [W18 d9 n w.1 w.2, Row 5 1 w.1 n.2.2.2.1.length w.2 (aL n.2.2.2.1), Row 5 1 ag.1 ad.1.length ag.2 (aL ad.1), W24 g.1 h.1 ad.2.1 ad.2.2 g.2.1 g.2.2, W19 j l.1 o.2.2 i.2.2.2.1 i.q4.1 i.q4.2 u.2.2.2.1 u.q4 n.1 n.2.1 n.2.2.1 n.2.2.2.1 w.1 w.2, obj q 102 [Iv 0, Iv 0, Iv 0, Iv 0, Iv 0, Iv 0, Iv 0, Iv 0, Iv 0, Iv 0, .slice none 0 0], Row 5 1 g.2.1 h.1.length g.2.2 (aL h.1), F]) (Ent.refl _) (oA O (aw ?_))
 exact aF (s := (decide (n.q4 = (0 : Int)), ad.2.1, ad.2.2, n.1, n.2.1, n.2.2.1, n.2.2.2.1)) w ⟨O, O, O, O, trivial⟩ (.d (.d (.d (.d (.b (.c .n))))))
 refine aA ?_
 exact aF (s := (u.1, u.2.1, u.2.2.1, 0, 0, 0, ([] : Lb))) (none, 0) ⟨O, O, O, O, trivial⟩ (.a (.a (.a (.a (.row_nil (.a .n))))))
 intro m al
 refine ap (kj 3 O (fun em en er es => (kj 3 O (fun a1 a2 a3 et => (bK [[], [], [1], [1, 2], [1, 2, 3], [1, 2, 3, 4], [1, 2, 3, 4, 5], rL 5, rL 8] 95 O mixed (by decide) (dl 0 [5] O O O (cF 1 O O dH bV O O) (dqo 1 [6] O O O (am O O) (dq 2 O O O (am O O) (dqg 3 [4] m.1 O O O O O (fun ex => RQ.sub (E' := [(4, Pt g.1)]) ⟨O, trivial⟩ (am O O)) (dlg 4 [] m.1 O O O O O (fun a4 => RQ.sub (E' := [(91, Pt g.1)]) ⟨aN O a4, trivial⟩ (RE.rq (oC (vs := [Pt g.1]) (cap := []) (A := [W24 g.1 h.1 m.2.1 m.2.2.1 g.2.1 g.2.2]) O call104 (.a (.a (.a (.a (.a (.a .n)))))) (cf.calls _ _ g.1 g.2.1 g.2.2 h.1 m.2.1 m.2.2.1 (a1.lend 2 O) a2 a3) (cf.tot h.1 m.2.1 m.2.2.1)) (fun _ => O) (fun _ => (.a (.a (.a (.a (.a (.a .n))))))))) (dqg 5 [] m.1 O O O O O (fun a5 => RQ.sub (E' := [(92, Iv (cf.v h.1 m.2.1 m.2.2.1))]) ⟨aN O a5, trivial⟩ (cr O O O)) (dq 6 O O O (fN O O O) (de 7 [2] O O O O (aI 2 O O O bV O O (aM (by rfl)) O O) (fun _ => zA) (fun _ => (dq 8 O O O (dx O O) (.fin [(2, Pt q), (3, .bool (m.1 && (decide ((cf.v h.1 m.2.1 m.2.2.1) = (0 : Int)))))] O ⟨O, O, trivial⟩ (ai (ay ?_))))))))))))))))))
 exact lx (vs := [.agg #[Iv l.1, Iv o.2.2, Iv i.2.2.2.1, Iv i.q4.1, Iv i.q4.2, Iv u.2.2.2.1, Iv u.q4, Iv m.2.2.2.1, Iv m.q4.1, Iv m.q4.2.1, .slice al.1 m.q4.2.2.length al.2], .bool (m.1 && (decide ((cf.v h.1 m.2.1 m.2.2.1) = (0 : Int))))]) al O ⟨⟨q, O, kE 2 dH bV O O⟩, O, trivial⟩ O (.e (.e .n))

def kL.f (h i j a b : Int) (k : List (aP)) (l m c d e n o p q r : Int) (g : List UInt8) (x2 : Int) : Option (Bool × Int × Int × Int × Int × Int) := some (true, c, d, e, a, b)
theorem kL.calls (W : World) (F : HA) (b0 : Nat) (v w x l m : Int) (j : Option Addr) (e : Nat) (c : List aP) (n o g h i p q s t u : Int) (k : Option Addr) (d : Nat) (a : Lb) (x2 : Int) (an : RdV F 5 (ba F) j c) (af : c.length ≤ e) (ag : e ≤ maxLen) (al : Rd F k (aL a)) (z : a.length ≤ d) (ab : d ≤ maxLen) :
    Fn Tryz.prog W 112 [Pt b0, .agg #[Iv n, Iv o, Iv g, Iv h, Iv i, Iv p, Iv q, Iv s, Iv t, Iv u, .slice k a.length d], Iv x2] [W15 b0 v w x l m c j e] F (kL.f v w x l m c n o g h i p q s t u a x2) (fun r (y : Unit) => .bool r.1) (fun r y => [W15 b0 r.2.1 r.2.2.1 r.2.2.2.1 r.q4.1 r.q4.2 c j e]) := by
 unfold kL.f
 refine aX 12 Tryz.func112 O Tryz.ntmps112 O (sr (oE (cH O O O) O ?_))
 intro ad
 refine oA O (nx (oM O (vq (oF O aT O aU O) O (vq (cw (vs := [Iv g, Iv h, Iv i]) O O dm aU O (dc 0 O (cL O))) O (oN O (vq (oF O aC O aU O) O (bg (aI 1 O O O aU O O (aM (by rfl)) O O) O O ?_)))))))
 intro _
 refine cl (H' := [W19 ad n o g h i p q s t u a k d, W15 b0 g h i l m c j e, F]) (Ent.refl _) (nx (oA O (oT (ay ?_))))
 exact aJ () O O O (.b (.b .n))

def kM.f (g h i c j : Int) (d : List (aP)) (m n o p q r s k a l : Int) (e : List UInt8) (x2 : Int) : Option (Bool × Int × Int × Int × Int × Int × (List (aP))) := if IntKind.i64.wrap ((IntKind.i64.wrap (c + (d.length : Int))) + 1) < a then (some (false, g, h, i, c, j, d)) else ((if a ≤ c then (some (IntKind.i64.wrap (a - 1), 0, ([] : List (aP)))) else (some (c, j, d))).bind fun b => (if 0 ≤ (0 : Int) ∧ (0 : Int) ≤ IntKind.i64.wrap ((IntKind.i64.wrap (a - b.1)) - 1) ∧ IntKind.i64.wrap ((IntKind.i64.wrap (a - b.1)) - 1) ≤ (b.2.2.length : Int) then (if ((cut b.2.2 (0 : Int) (IntKind.i64.wrap ((IntKind.i64.wrap (a - b.1)) - 1))).length + ([(k, a, l, e, x2)] : List (aP)).length) * 56 ≤ 140737488355328 then (some (true, g, h, i, b.1, b.2.1, (cut b.2.2 (0 : Int) (IntKind.i64.wrap ((IntKind.i64.wrap (a - b.1)) - 1))) ++ ([(k, a, l, e, x2)] : List (aP)))) else none) else none))
theorem kM.calls (W : World) (F : HA) (b0 : Nat) (q t u z a0 : Int) (o : Option Addr) (p : Nat) (n : List aP) (m : HA) (ab ad af ag al an az j d k : Int) (i : Option Addr) (g : Nat) (e : Lb) (x2 : Int) (br : Rd m i (aL e)) (a8 : e.length ≤ g) (a9 : g ≤ maxLen) :
    Fn Tryz.prog W 113 [Pt b0, .agg #[Iv ab, Iv ad, Iv af, Iv ag, Iv al, Iv an, Iv az, Iv j, Iv d, Iv k, .slice i e.length g], Iv x2] [W15 b0 q t u z a0 n o p, ah 144 5 (ba m) o n p, m] F (kM.f q t u z a0 n ab ad af ag al an az j d k e x2) (fun r (y : Option Addr × Nat × HA) => .bool r.1) (fun r y => [pr (Up m y.2.2), W17 b0 r.2 y.1 y.2.1, ah 144 5 (ba y.2.2) y.1 r.q4.2.2 y.2.1, y.2.2]) := by
 unfold kM.f
 refine aX 64 Tryz.func113 O Tryz.ntmps113 O (sr (oE (cH O O O) O ?_))
 intro bc
 refine oA O (nx (vq (oF O aT O aR O) O (vq (cw (vs := [Iv j, Iv d, Iv k, .slice i e.length g]) O O cy aR O (dc 0 O (cL O))) O (oE (bX O dy O) O ?_))))
 intro w
 refine bg (aI 0 O O O aR O O (aM (by rfl)) O O) O O ?_
 intro _
 refine oT (ap (ap (bq 3 O (fun a4 bd => (bK [[], [0], [], [2], [2, 3], [2, 3, 4], [], [6], [6, 7], [6, 7, 8], [6, 7, 8, 9], [2, 3, 4, 5, 6, 7, 8, 9, 10], [2, 3, 4, 5, 6, 7, 8, 9, 10, 11], rL 13] 64 O mixed (by decide) (dqo 0 [7] O O O (oF O bj O aa O) (dl 1 [] O O O (oL O ae 0 O) (dqo 2 [0] O O O (am O O) (dq 3 O O O (bi O O) (dq 4 O O O (oF O aC O aa O) (dl 5 [] O O O (oL O ae 2 O) (dqo 6 [0] O O O (am O O) (dq 7 O O O (bi O O) (dq 8 O O O (oF O aC O bR O) (dl 9 [] O O O (oL O dn 2 O) (dq 10 O O O (bL O O O bJ) (dq 11 O O O (cn O O O) (dq 12 O O O (cn O O O) (dq 13 O O O (dO O O O) (.fin [(0, Pt b0), (2, Iv x2), (7, Pt w), (23, .bool (decide (IntKind.i64.wrap ((IntKind.i64.wrap (z + (n.length : Int))) + 1) < d)))] O ⟨O, O, O, O, trivial⟩ (ai ?_)))))))))))))))))))))
 refine bu O (fun ch => ?_) (fun cs => ?_)
 refine sr (oA O (oT (ay (aY ?_))))
 exact aJ (o, p, m) O O O (.pr_in (Up.refl _) (.c (.sel' 2 O (ah.mk bd) (.c (.c .n)))))
 refine aA (ai ?_)
 refine bP (S := Int × Int × (List aP)) (Option Addr × Nat) (fun s y => [(0, Pt b0), (2, Iv x2), (7, Pt w)]) (fun s y => [W8 w j d k e i g, W15 b0 q t u s.1 s.2.1 s.2.2 y.1 y.2, ah 144 5 (ba m) y.1 s.2.2 y.2, m, F]) ?_ ?_
 refine ap (bK [[], [0], [], [2], [2, 3], [2, 3, 4], rL 6] 64 O mixed (by decide) (dqo 0 [7] O O O (oF O bj O aa O) (dl 1 [] O O O (oL O ae 0 O) (dqo 2 [0] O O O (am O O) (dq 3 O O O (bi O O) (dq 4 O O O (oF O aC O aa O) (dl 5 [] O O O (oL O ae 2 O) (dq 6 O O O (lv O O O) (.fin [(0, Pt b0), (2, Iv x2), (7, Pt w), (30, .bool (decide (d ≤ z)))] O ⟨O, O, O, O, trivial⟩ (ai ?_))))))))))
 refine bu O (fun c0 => ?_) (fun cd => ?_)
 refine aG (oM O (oM O (oM O (vq (oF O bj O aa O) O (vq (oL O ae 0 O) O (vq (eL O O O) O (oN O (vq (oF O aC O aa O) O (bg (aI 2 O O O aa O O (aM (by rfl)) O O) O O ?_)))))))))
 intro _
 refine cl (H' := [W8 w j d k e i g, W19 bc ab ad af ag al an az j d k e i g, W15 b0 q t u (IntKind.i64.wrap (d - 1)) a0 n o p, Row 144 5 o n.length p a4.flatten, m, F]) (Ent.refl _) (oN O (vq (oF O aC O aa O) O (bg (aI 2 O O O aa O O (aM (by rfl)) O O) O O ?_)))
 intro _
 refine cl (H' := [W8 w j d k e i g, W19 bc ab ad af ag al an az j d k e i g, W15 b0 q t u (IntKind.i64.wrap (d - 1)) 0 n o p, Row 144 5 o n.length p a4.flatten, m, F]) (Ent.refl _) (oN O (vq (oF O aC O bR O) O (bg (aI 2 O O O bR O O (aM (by rfl)) O O) O O ?_)))
 intro _
 refine cl (H' := [W8 w j d k e i g, W19 bc ab ad af ag al an az j d k e i g, obj b0 89 [Iv q, Iv t, Iv u, Iv (IntKind.i64.wrap (d - 1)), Iv 0, .slice none 0 0], Row 144 5 o n.length p a4.flatten, m, F]) (Ent.refl _) (aw ?_)
 exact aF (s := (IntKind.i64.wrap (d - 1), 0, ([] : List aP))) (none, 0) ⟨O, O, O, trivial⟩ (.a (.b (.rowV_nil (.c (.c .n)))))
 refine aA ?_
 exact aF (s := (z, a0, n)) (o, p) ⟨O, O, O, trivial⟩ (.a (.b (.sel' 1 O (ah.mk bd) (.b (.b .n)))))
 intro x b1
 refine ap (bq 2 O (fun b4 a6 => (kj 2 O (fun bs a1 b5 b6 => (dh (fun a2 => ?_))))))
 obtain ⟨b2, b3, a7, b7, b8, b9⟩ := jY (lo := (0 : Int)) (hi := IntKind.i64.wrap ((IntKind.i64.wrap (d - x.1)) - 1)) (Rd.asV a6 bs) a1 a2
 have a3 : bW 5 (ba m) ([(j, d, k, e, x2)] : List aP) [[Iv j, Iv d, Iv k, .slice i e.length g, Iv x2]] := ⟨⟨rfl, aM (by rfl), ⟨i, g, rfl, ⟨br, a8, a9⟩⟩⟩, trivial⟩
 refine dh (fun bt => (bK [[], [], [1], [1, 2], [1, 2, 3], [], [5], [], [7], [7, 8], [7, 8, 9], [5, 6, 7, 8, 9, 10], [5, 6, 7, 8, 9, 10, 11], [1, 2, 3, 4, 5, 6, 7, 8, 9, 10, 11, 12], [], [], [14, 15], [14, 15, 16], [1, 2, 3, 4, 5, 6, 7, 8, 9, 10, 11, 12, 13, 14, 15, 16, 17], rL 19, rL 20, rL 21] 64 O mixed (by decide) (dqo 0 [0] O O O (am O O) (dqo 1 [0] O O O (am O O) (dq 2 O O O (bi O O) (dq 3 O O O (oF O aC O bR O) (dl 4 [] O O O (oL O dn 1 O) (dqo 5 [7] O O O (oF O bj O aa O) (dl 6 [] O O O (oL O ae 0 O) (dqo 7 [0] O O O (am O O) (dq 8 O O O (bi O O) (dq 9 O O O (oF O aC O aa O) (dl 10 [] O O O (oL O ae 1 O) (dq 11 O O O (eL O O O) (dq 12 O O O (eL O O O) (dq 13 O O O (gV (l := x.2.2) (lo' := (0 : Int)) (hi' := IntKind.i64.wrap ((IntKind.i64.wrap (d - x.1)) - 1)) O O O O bJ dX (.inr ⟨_, O⟩) (.inl ⟨O, O⟩) a2 a1 a7) (dl 14 [7] O O O (cF 0 O O cy aR O O) (dqo 15 [2] O O O (am O O) (dq 16 O O O (cW (v := .agg #[Iv j, Iv d, Iv k, .slice i e.length g, Iv x2]) O O (fun _ => by kernel_rfl)) (de 17 [] O O O O (eW (V := (ba m)) (xs := ([(j, d, k, e, x2)] : List aP)) [[Iv j, Iv d, Iv k, .slice i e.length g, Iv x2]] O O bJ pb O (by kernel_rfl) O a3 O O) (fun be => (ac (px [] O O O O (oL O ae 2 O)) (ac (px [] O O O O (oL O ae 1 O)) (ac (px [] O O O O (oL O dn 2 O)) zA)))) (fun be => (de 18 [] O O O O (RE.ent (H1 := [Row 144 5 (some ⟨be, 0, none⟩) ([(j, d, k, e, x2)] : List aP).length 1 [[Iv j, Iv d, Iv k, .slice i e.length g, Iv x2]].flatten, W8 w j d k e i g, W15 b0 q t u x.1 x.2.1 x.2.2 b1.1 b1.2, ah 144 5 (ba m) b2 (cut x.2.2 (0 : Int) (IntKind.i64.wrap ((IntKind.i64.wrap (d - x.1)) - 1))) b3, m, F]) (Ent.set' 3 O (fun _ h => xB a6 a7 a2 a1 h)) (jD 3 O O O bJ pb O  (hQ.row a3 0 O) bt)) (fun a5 => zA) (fun a5 => (dq 19 O O O (bi O O) (dq 20 O O O (oF O aC O bR O) (de 21 [] O O O O (aI 2 O O O bR O O (aM (by rfl)) O O) (fun _ => zA) (fun _ => (.fin [] O trivial (ai (sr (oA O (oT (ay ?_)))))))))))))))))))))))))))))))))
 exact aJ (a5.1, a5.2, m) O O O (.pr_in (Up.refl _) (.c (.c (.c (.c .n)))))

def kN.f (e g h a c : Int) (b : List (aP)) (x1 x2 : Int) : Option (Bool) := if x1 = a then (some (decide (x2 = c))) else ((if ((decide (a < x1)) && (decide (IntKind.i64.wrap (x1 - a) ≤ (b.length : Int)))) = true then (if 0 ≤ IntKind.i64.wrap ((IntKind.i64.wrap (x1 - a)) - 1) ∧ IntKind.i64.wrap ((IntKind.i64.wrap (x1 - a)) - 1) < (b.length : Int) then (some (decide ((b.getD (IntKind.i64.wrap ((IntKind.i64.wrap (x1 - a)) - 1)).toNat aD).1 = x2))) else none) else (some false)).bind fun d => (some d))
theorem kN.calls (W : World) (F : HA) (b0 : Nat) (h j k c l : Int) (g : Option Addr) (e : Nat) (d : List aP) (x1 x2 : Int) (a2 : RdV F 5 (ba F) g d) (a5 : d.length ≤ e) (a6 : e ≤ maxLen) :
    Fn Tryz.prog W 80 [Pt b0, Iv x1, Iv x2] [W15 b0 h j k c l d g e] F (kN.f h j k c l d x1 x2) (fun r (y : Unit) => .bool r) (fun r y => [W15 b0 h j k c l d g e]) := by
 unfold kN.f
 refine aX 58 Tryz.func80 O Tryz.ntmps80 O (sr (oA O (oT (ap (sr (oM O (oM O (oN O (vq (oF O aC O aa O) O (vq (oL O ae 0 O) O (vq (cr O O O) O (oT ?_))))))))))))
 refine bu O (fun b5 => ?_) (fun b6 => ?_)
 refine sr (oM O (oM O (oN O (vq (oF O aC O aa O) O (vq (oL O ae 0 O) O (vq (cr O O O) O (oA O (oT (ay (aY ?_))))))))))
 exact aJ () O O O (.a (.a .n))
 refine aA (ai ?_)
 refine bP (S := Bool) Unit (fun s y => [(6, .bool s)]) (fun s y => [W15 b0 h j k c l d g e, F]) ?_ ?_
 refine ji (fun b => ?_) (fun b => ?_)
 refine dh (fun q => ?_)
 obtain ⟨b7, b1, b2, a3, t, a4, hcell13v⟩ := RdV.pos a2 (Up.refl _) rfl (i := (IntKind.i64.wrap ((IntKind.i64.wrap (x1 - c)) - 1)).toNat) (by omega) aD
 obtain ⟨b3, b4, rfl, ⟨a7, a8, a9⟩⟩ := t
 refine bK [[], [], [1], [1, 2], [1, 2, 3], rL 5, rL 6, rL 7, rL 7, [0, 1, 2, 3, 4, 5, 6, 8], [0, 1, 2, 3, 4, 5, 6, 8, 9], [0, 1, 2, 3, 4, 5, 6, 8, 9, 10], rL 12, rL 7, [0, 1, 2, 3, 4, 5, 6, 13], [0, 1, 2, 3, 4, 5, 6, 13, 14], [0, 1, 2, 3, 4, 5, 6, 13, 14, 15], [0, 1, 2, 3, 4, 5, 6, 13, 14, 15, 16], rL 18, rL 19, rL 20, rL 21, rL 22, rL 23, rL 24, rL 21, rL 21, [0, 1, 2, 3, 4, 5, 6, 7, 8, 9, 10, 11, 12, 13, 14, 15, 16, 17, 18, 19, 20, 26], [0, 1, 2, 3, 4, 5, 6, 7, 8, 9, 10, 11, 12, 13, 14, 15, 16, 17, 18, 19, 20, 26, 27], [0, 1, 2, 3, 4, 5, 6, 7, 8, 9, 10, 11, 12, 13, 14, 15, 16, 17, 18, 19, 20, 26, 27, 28], [0, 1, 2, 3, 4, 5, 6, 7, 8, 9, 10, 11, 12, 13, 14, 15, 16, 17, 18, 19, 20, 25, 26, 27, 28, 29], [0, 1, 2, 3, 4, 5, 6, 7, 8, 9, 10, 11, 12, 13, 14, 15, 16, 17, 18, 19, 20, 25, 26, 27, 28, 29, 30], rL 32, rL 33, rL 34, rL 35, rL 21, rL 37, rL 38, rL 39] 58 O mixed (by decide) (dqo 0 [1] O O O (am O O) (dqo 1 [0] O O O (am O O) (dq 2 O O O (bi O O) (dq 3 O O O (oF O aC O aa O) (dl 4 [] O O O (oL O ae 0 O) (dq 5 O O O (dO O O O) (dq 6 O O O (am O O) (dqg 7 [1] (decide (c < x1)) O O O O O (fun bc => RQ.sub (E' := [(1, Iv x1)]) ⟨O, trivial⟩ (am O O)) (dqg 8 [0] (decide (c < x1)) O O O O O (fun bd => RQ.sub (E' := [(0, Pt b0)]) ⟨O, trivial⟩ (am O O)) (dqg 9 [] (decide (c < x1)) O O O O O (fun u => RQ.sub (E' := [(27, Pt b0)]) ⟨aN O u, trivial⟩ (bi O O)) (dqg 10 [] (decide (c < x1)) O O O O O (fun v => RQ.sub (E' := [(28, Pt b0)]) ⟨aN O v, trivial⟩ (oF O aC O aa O)) (dlg 11 [] (decide (c < x1)) O O O O O (fun w => RQ.sub (E' := [(29, .pointer (some ⟨b0, 3, none⟩))]) ⟨aN O w, trivial⟩ (oL O ae 0 O)) (dqg 12 [] (decide (c < x1)) O O O O O (fun m => RQ.sub (E' := [(26, Iv x1), (30, Iv c)]) ⟨aN O m, aN O m, trivial⟩ (eL O O O)) (dqg 13 [0] (decide (c < x1)) O O O O O (fun be => RQ.sub (E' := [(0, Pt b0)]) ⟨O, trivial⟩ (am O O)) (dqg 14 [] (decide (c < x1)) O O O O O (fun x => RQ.sub (E' := [(32, Pt b0)]) ⟨aN O x, trivial⟩ (bi O O)) (dqg 15 [] (decide (c < x1)) O O O O O (fun z => RQ.sub (E' := [(33, Pt b0)]) ⟨aN O z, trivial⟩ (oF O aC O bR O)) (dlg 16 [] (decide (c < x1)) O O O O O (fun ab => RQ.sub (E' := [(34, .pointer (some ⟨b0, 5, none⟩))]) ⟨aN O ab, trivial⟩ (oL O dn 0 O)) (dqg 17 [] (decide (c < x1)) O O O O O (fun ad => RQ.sub (E' := [(35, .slice g d.length e)]) ⟨aN O ad, trivial⟩ (bL O O O bJ)) (dqg 18 [] (decide (c < x1)) O O O O O (fun n => RQ.sub (E' := [(31, Iv (IntKind.i64.wrap (x1 - c))), (36, Iv (d.length : Int))]) ⟨aN O n, aN O n, trivial⟩ (lv O O O)) (dq 19 O O O (fN O O O) (dq 20 O O O (am O O) (dqy 21 [0] O O O O O (cg b) (am O O) (dqy 22 [] O O O O O (cg b) (bi O O) (dqy 23 [] O O O O O (cg b) (oF O aC O bR O) (dly 24 [] O O O O O (cg b) (oL O dn 0 O) (dqy 25 [1] O O O O O (cg b) (am O O) (dqy 26 [0] O O O O O (cg b) (am O O) (dqy 27 [] O O O O O (cg b) (bi O O) (dqy 28 [] O O O O O (cg b) (oF O aC O aa O) (dly 29 [] O O O O O (cg b) (oL O ae 0 O) (dqy 30 [] O O O O O (cg b) (eL O O O) (dqy 31 [] O O O O O (cg b) (eL O O O) (dqy 32 [] O O O O O (cg b) (dM O O O a3 bJ dX q.1 q.2) (dqy 33 [] O O O O O (cg b) (oF O fc O aR O) (dqy 34 [] O O O O O (cg b) (oF O bj O aa O) (dly 35 [] O O O O O (cg b) (dR O O ae (hcell13v 1 O 0 _ O)) (dqy 36 [2] O O O O O (cg b) (am O O) (dqy 37 [] O O O O O (cg b) (cr O O O) (dq 38 O O O (bZ O O O O (oZ b _ _)) (dq 39 O O O (dx O O) (.fin [(6, .bool (decide ((d.getD (IntKind.i64.wrap ((IntKind.i64.wrap (x1 - c)) - 1)).toNat aD).1 = x2)))] O ⟨O, trivial⟩ ?_)))))))))))))))))))))))))))))))))))))))))
 exact aF (s := decide ((d.getD (IntKind.i64.wrap ((IntKind.i64.wrap (x1 - c)) - 1)).toNat aD).1 = x2)) () ⟨O, trivial⟩ (.a (.a .n))
 refine bK [[], [], [1], [1, 2], [1, 2, 3], rL 5, rL 6, rL 7, rL 7, [0, 1, 2, 3, 4, 5, 6, 8], [0, 1, 2, 3, 4, 5, 6, 8, 9], [0, 1, 2, 3, 4, 5, 6, 8, 9, 10], rL 12, rL 7, [0, 1, 2, 3, 4, 5, 6, 13], [0, 1, 2, 3, 4, 5, 6, 13, 14], [0, 1, 2, 3, 4, 5, 6, 13, 14, 15], [0, 1, 2, 3, 4, 5, 6, 13, 14, 15, 16], rL 18, rL 19, rL 20, rL 21, rL 22, rL 23, rL 24, rL 21, rL 21, [0, 1, 2, 3, 4, 5, 6, 7, 8, 9, 10, 11, 12, 13, 14, 15, 16, 17, 18, 19, 20, 26], [0, 1, 2, 3, 4, 5, 6, 7, 8, 9, 10, 11, 12, 13, 14, 15, 16, 17, 18, 19, 20, 26, 27], [0, 1, 2, 3, 4, 5, 6, 7, 8, 9, 10, 11, 12, 13, 14, 15, 16, 17, 18, 19, 20, 26, 27, 28], [0, 1, 2, 3, 4, 5, 6, 7, 8, 9, 10, 11, 12, 13, 14, 15, 16, 17, 18, 19, 20, 25, 26, 27, 28, 29], [0, 1, 2, 3, 4, 5, 6, 7, 8, 9, 10, 11, 12, 13, 14, 15, 16, 17, 18, 19, 20, 25, 26, 27, 28, 29, 30], rL 32, rL 33, rL 34, rL 35, rL 21, rL 37, rL 38, rL 39] 58 O mixed (by decide) (dqo 0 [1] O O O (am O O) (dqo 1 [0] O O O (am O O) (dq 2 O O O (bi O O) (dq 3 O O O (oF O aC O aa O) (dl 4 [] O O O (oL O ae 0 O) (dq 5 O O O (dO O O O) (dq 6 O O O (am O O) (dqg 7 [1] (decide (c < x1)) O O O O O (fun br => RQ.sub (E' := [(1, Iv x1)]) ⟨O, trivial⟩ (am O O)) (dqg 8 [0] (decide (c < x1)) O O O O O (fun bs => RQ.sub (E' := [(0, Pt b0)]) ⟨O, trivial⟩ (am O O)) (dqg 9 [] (decide (c < x1)) O O O O O (fun af => RQ.sub (E' := [(27, Pt b0)]) ⟨aN O af, trivial⟩ (bi O O)) (dqg 10 [] (decide (c < x1)) O O O O O (fun ag => RQ.sub (E' := [(28, Pt b0)]) ⟨aN O ag, trivial⟩ (oF O aC O aa O)) (dlg 11 [] (decide (c < x1)) O O O O O (fun al => RQ.sub (E' := [(29, .pointer (some ⟨b0, 3, none⟩))]) ⟨aN O al, trivial⟩ (oL O ae 0 O)) (dqg 12 [] (decide (c < x1)) O O O O O (fun o => RQ.sub (E' := [(26, Iv x1), (30, Iv c)]) ⟨aN O o, aN O o, trivial⟩ (eL O O O)) (dqg 13 [0] (decide (c < x1)) O O O O O (fun bt => RQ.sub (E' := [(0, Pt b0)]) ⟨O, trivial⟩ (am O O)) (dqg 14 [] (decide (c < x1)) O O O O O (fun an => RQ.sub (E' := [(32, Pt b0)]) ⟨aN O an, trivial⟩ (bi O O)) (dqg 15 [] (decide (c < x1)) O O O O O (fun az => RQ.sub (E' := [(33, Pt b0)]) ⟨aN O az, trivial⟩ (oF O aC O bR O)) (dlg 16 [] (decide (c < x1)) O O O O O (fun a0 => RQ.sub (E' := [(34, .pointer (some ⟨b0, 5, none⟩))]) ⟨aN O a0, trivial⟩ (oL O dn 0 O)) (dqg 17 [] (decide (c < x1)) O O O O O (fun a1 => RQ.sub (E' := [(35, .slice g d.length e)]) ⟨aN O a1, trivial⟩ (bL O O O bJ)) (dqg 18 [] (decide (c < x1)) O O O O O (fun p => RQ.sub (E' := [(31, Iv (IntKind.i64.wrap (x1 - c))), (36, Iv (d.length : Int))]) ⟨aN O p, aN O p, trivial⟩ (lv O O O)) (dq 19 O O O (fN O O O) (dq 20 O O O (am O O) (dqn 21 [0] O O O O O (ci (eq_false_of_ne_true b)) (dqn 22 [] O O O O O (ci (eq_false_of_ne_true b)) (dqn 23 [] O O O O O (ci (eq_false_of_ne_true b)) (dqn 24 [] O O O O O (ci (eq_false_of_ne_true b)) (dqn 25 [1] O O O O O (ci (eq_false_of_ne_true b)) (dqn 26 [0] O O O O O (ci (eq_false_of_ne_true b)) (dqn 27 [] O O O O O (ci (eq_false_of_ne_true b)) (dqn 28 [] O O O O O (ci (eq_false_of_ne_true b)) (dqn 29 [] O O O O O (ci (eq_false_of_ne_true b)) (dqn 30 [] O O O O O (ci (eq_false_of_ne_true b)) (dqn 31 [] O O O O O (ci (eq_false_of_ne_true b)) (dqn 32 [] O O O O O (ci (eq_false_of_ne_true b)) (dqn 33 [] O O O O O (ci (eq_false_of_ne_true b)) (dqn 34 [] O O O O O (ci (eq_false_of_ne_true b)) (dqn 35 [] O O O O O (ci (eq_false_of_ne_true b)) (dqn 36 [2] O O O O O (ci (eq_false_of_ne_true b)) (dqn 37 [] O O O O O (ci (eq_false_of_ne_true b)) (dq 38 O O O (bZ O O O O (qf (eq_false_of_ne_true b) _ _)) (dq 39 O O O (dx O O) (.fin [(6, .bool false)] O ⟨O, trivial⟩ ?_)))))))))))))))))))))))))))))))))))))))))
 exact aF (s := false) () ⟨O, trivial⟩ (.a (.a .n))
 intro b8 b9
 refine ay ?_
 exact aJ () O O O (.a (.a .n))

def kO.f (a b c d e : Int) (g : List (aP)) (m n o p q h i r s t : Int) (l : List UInt8) (x2 : Int) : Option (Bool × Int × Int × Int × Int × Int × (List (aP))) := ((kN.f a b c d e g h i).bind fun k => (if (!k) = true then (some (h, i, ([] : List (aP)))) else (some (d, e, g)))).bind fun j => (some (true, a, b, c, j.1, j.2.1, j.2.2))
theorem kO.calls (W : World) (F : HA) (b0 : Nat) (h i j k l : Int) (m : Option Addr) (n : Nat) (e : List aP) (d : HA) (u v w x z o p ab ad af : Int) (t : Option Addr) (q : Nat) (g : Lb) (x2 : Int) (a4 : Rd d t (aL g)) (a2 : g.length ≤ q) (a3 : q ≤ maxLen) :
    Fn Tryz.prog W 114 [Pt b0, .agg #[Iv u, Iv v, Iv w, Iv x, Iv z, Iv o, Iv p, Iv ab, Iv ad, Iv af, .slice t g.length q], Iv x2] [W15 b0 h i j k l e m n, ah 144 5 (ba d) m e n, d] F (kO.f h i j k l e u v w x z o p ab ad af g x2) (fun r (y : Option Addr × Nat × HA) => .bool r.1) (fun r y => [pr (Up d y.2.2), W17 b0 r.2 y.1 y.2.1, ah 144 5 (ba y.2.2) y.1 r.q4.2.2 y.2.1, y.2.2]) := by
 unfold kO.f
 refine aX 27 Tryz.func114 O Tryz.ntmps114 O (sr (oE (cH O O O) O ?_))
 intro bd
 refine oA O (oT ?_)
 refine bP (S := Int × Int × (List aP)) (Option Addr × Nat) (fun s y => []) (fun s y => [W15 b0 h i j s.1 s.2.1 s.2.2 y.1 y.2, ah 144 5 (ba d) y.1 s.2.2 y.2, d, F]) ?_ ?_
 refine sr (oM O (vq (oF O aT O aa O) O (vq (oL O ae 0 O) O (vq (oF O aT O aa O) O (vq (oL O ae 0 O) O (bk 2 O (fun a5 ag => (aj (fun a6 al => (bw 2 O (fun az a0 a1 a7 => (oE (oC (vs := [Pt b0, Iv o, Iv p]) (cap := []) (A := [W15 b0 h i j k l e m n]) O call80 (.b (.a (.a (.a (.a .n))))) (kN.calls _ _ b0 h i j k l m n e o p ((Rd.asV ag az).up (Up.lend 1 O) (ba.up (Up.lend 2 O))) a0 a1) al) O ?_))))))))))))
 intro a8
 refine vq (iB O O) O (oT ?_)
 refine bm O (fun a9 => ?_) (fun bc => ?_)
 refine bK [[], [], [], [], [3], [], [5], [0, 3, 4], [0, 3, 4, 7], [0, 3, 4, 7, 8], [0, 1, 3, 4, 5, 6, 7, 8, 9], [0, 1, 3, 4, 5, 6, 7, 8, 9, 10], [0, 1, 3, 4, 5, 6, 7, 8, 9, 10, 11], rL 13, rL 14, rL 15] 27 O mixed (by decide) (dqo 0 [0] O O O (am O O) (dqo 1 [0] O O O (am O O) (dqo 2 [0] O O O (am O O) (dqo 3 [4] O O O (oF O aT O aa O) (dl 4 [] O O O (oL O ae 1 O) (dqo 5 [4] O O O (oF O aT O aa O) (dl 6 [] O O O (oL O ae 1 O) (dq 7 O O O (bi O O) (dq 8 O O O (oF O aC O aa O) (de 9 [] O O O O (aI 0 O O O aa O O (aM (by rfl)) O O) (fun _ => (ac (px [] O O O O (oL O ae 1 O)) zA)) (fun _ => (dq 10 O O O (bi O O) (dq 11 O O O (oF O aC O aa O) (de 12 [] O O O O (aI 0 O O O aa O O (aM (by rfl)) O O) (fun _ => zA) (fun _ => (dq 13 O O O (bi O O) (dq 14 O O O (oF O aC O bR O) (de 15 [] O O O O (aI 0 O O O bR O O (aM (by rfl)) O O) (fun _ => zA) (fun _ => (.fin [] O trivial ?_))))))))))))))))))))
 exact aF (s := (o, p, ([] : List aP))) (none, 0) trivial (.a (.rowV_nil (.c (.c .n))))
 refine aA ?_
 exact aF (s := (k, l, e)) (m, n) trivial (.a (.sel' 1 O (ah.mk ag) (.b (.b .n))))
 intro be an
 refine sr (oA O (oT (ay ?_)))
 exact aJ (an.1, an.2, d) O O O (.pr_in (Up.refl _) (.a (.a (.a (.a .n)))))

def eS.f  : Option (Unit) := some ()
theorem eS.calls (W : World) (F : HA)   :
    Fn Tryz.prog W 89 [] [] F (eS.f ) (fun r (y : Nat) => .map (some y)) (fun r y => [au y nA kZ (bE (bE (bE ([] : List (Int × (Option Nat))) (1 : Int) (some 112)) (2 : Int) (some 113)) (3 : Int) (some 114))]) := by
 unfold eS.f
 refine aX 3 Tryz.func89 O Tryz.ntmps89 O (sr (oA O (nx (oE (uW (ek := nA) (ev := kZ) O) O ?_))))
 intro b
 refine bg (tf (ek := nA) (ev := kZ) 0 (1 : Int) (some 112) O O O O ga pF O) O O ?_
 intro _
 refine bg (tf (ek := nA) (ev := kZ) 0 (2 : Int) (some 113) O O O O ga pF O) O O ?_
 intro _
 refine bg (tf (ek := nA) (ev := kZ) 0 (3 : Int) (some 114) O O O O ga pF O) O O ?_
 intro _
 refine oM O (oA O (oT (ay ?_)))
 exact aJ b O O O (.a (.a .n))

def mR.f (i j k l m : Int) (g : List (aP)) (c n o p q r s t u v : Int) (h : List UInt8) (x2 : Int) : Option (Bool × Int × Int × Int × Int × Int × (List (aP))) := (if c = (1 : Int) then ((eS.f).bind fun y => ((kL.f i j k l m g c n o p q r s t u v h x2).bind fun d => (some (d.1, d.2.1, d.2.2.1, d.2.2.2.1, d.2.2.2.2.1, d.2.2.2.2.2, g)))) else (if c = (2 : Int) then ((eS.f).bind fun w => ((kM.f i j k l m g c n o p q r s t u v h x2).bind fun a => (some (a.1, a.2.1, a.2.2.1, a.2.2.2.1, a.2.2.2.2.1, a.2.2.2.2.2.1, a.2.2.2.2.2.2)))) else (if c = (3 : Int) then ((eS.f).bind fun x => ((kO.f i j k l m g c n o p q r s t u v h x2).bind fun b => (some (b.1, b.2.1, b.2.2.1, b.2.2.2.1, b.2.2.2.2.1, b.2.2.2.2.2.1, b.2.2.2.2.2.2)))) else (none)))).bind fun e => (some (e.1, e.2.1, e.2.2.1, e.2.2.2.1, e.2.2.2.2.1, e.2.2.2.2.2.1, e.2.2.2.2.2.2))
theorem mR.calls (W : World) (F : HA) (b0 : Nat) (n o p q t : Int) (j : Option Addr) (k : Nat) (g : List aP) (h : HA) (l u v w x ab ad af ag al : Int) (m : Option Addr) (i : Nat) (e : Lb) (x2 : Int) (a3 : Rd h m (aL e)) (a1 : e.length ≤ i) (a2 : i ≤ maxLen) :
    Fn Tryz.prog W 53 [Pt b0, .agg #[Iv l, Iv u, Iv v, Iv w, Iv x, Iv ab, Iv ad, Iv af, Iv ag, Iv al, .slice m e.length i], Iv x2] [W15 b0 n o p q t g j k, ah 144 5 (ba h) j g k, h] F (mR.f n o p q t g l u v w x ab ad af ag al e x2) (fun r (y : Option Addr × Nat × HA) => .bool r.1) (fun r y => [pr (Up h y.2.2), W17 b0 r.2 y.1 y.2.1, ah 144 5 (ba y.2.2) y.1 r.q4.2.2 y.2.1, y.2.2]) := by
 unfold mR.f
 refine aX 15 Tryz.func53 O Tryz.ntmps53 O (sr (oE (cH O O O) O ?_))
 intro c7
 refine oA O (oT ?_)
 refine bP (S := Bool × Int × Int × Int × Int × Int × (List aP)) (HA × Option Addr × Nat) (fun s y => [(6, .bool s.1)]) (fun s y => [pr (Up h y.1), W17 b0 s.2 y.2.1 y.2.2, ah 144 5 (ba y.1) y.2.1 s.q4.2.2 y.2.2, y.1, F]) ?_ ?_
 refine ji (fun a8 => ?_) (fun a8 => ?_)
 refine bq 2 O (fun c4 a9 => (bC (fun c8 b9 => (bC (fun a0 bd => (bK [[], [], [1], [0, 1, 2], [], [], [], rL 7, rL 8] 15 O mixed (by decide) (dqo 1 [4] O O O (oF O aT O aa O) (dl 2 [] O O O (oL O ae 0 O) (dqo 4 [0] O O O (am O O) (dl 5 [4] O O O (cF 0 O O dH bV O O) (dqo 6 [2] O O O (am O O) (de 0 [] O O O O (oC (vs := []) (cap := []) (A := []) O call89 (.a (.a (.a (.a (.a .n))))) (eS.calls _ _ ) b9) (fun c0 => (ac (px [4] O O O O (cF 1 O O dH bV O O)) (ac (px [] O O O O (oL O ae 1 O)) zA))) (fun c0 => (dl 3 [] O O O ((RQ.eq (by rw [a8]; rfl) (nP (ek := nA) (ev := kZ) (z := none) 0 l O O O ga pF js O) : RQ _ _ _ _ (.func (.func 112) #[] #[]))) (de 7 [] O O O O (RE.lend 3 O (fun be br bs c1 => oC (vs := [Pt b0, .agg #[Iv l, Iv u, Iv v, Iv w, Iv x, Iv ab, Iv ad, Iv af, Iv ag, Iv al, .slice m e.length i], Iv x2]) (cap := []) (A := [W15 b0 n o p q t g j k]) O call112 (.c (.a (.a (.a (.a (.a .n)))))) (kL.calls _ _ b0 n o p q t j k g l u v w x ab ad af ag al m i e x2 ((Rd.asV a9 be).up (Up.lend 2 O) (ba.up (Up.lend 3 O))) br bs (a3.lend 3 O) a1 a2) bd)) (fun cd => zA) (fun cd => (dq 8 O O O (dx O O) (.fin [(6, .bool a0.1)] O ⟨O, trivial⟩ ?_))))))))))))))))))
 exact aF (s := (a0.1, a0.2.1, a0.2.2.1, a0.2.2.2.1, a0.q4.1, a0.q4.2, g)) (h, j, k) ⟨O, trivial⟩ (.pr_in (Up.refl _) (.a (.sel' 2 O (ah.mk a9) (.c (.c .n)))))
 refine ji (fun a6 => ?_) (fun a6 => ?_)
 refine bq 2 O (fun c2 bt => (bC (fun c5 b1 => (bC (fun an b2 => (bK [[], [], [1], [0, 1, 2], [], [], [], rL 7, rL 8] 15 O mixed (by decide) (dqo 1 [4] O O O (oF O aT O aa O) (dl 2 [] O O O (oL O ae 0 O) (dqo 4 [0] O O O (am O O) (dl 5 [4] O O O (cF 0 O O dH bV O O) (dqo 6 [2] O O O (am O O) (de 0 [] O O O O (oC (vs := []) (cap := []) (A := []) O call89 (.a (.a (.a (.a (.a .n))))) (eS.calls _ _ ) b1) (fun ch => (ac (px [4] O O O O (cF 1 O O dH bV O O)) (ac (px [] O O O O (oL O ae 1 O)) zA))) (fun ch => (dl 3 [] O O O ((RQ.eq (by rw [a6]; rfl) (nP (ek := nA) (ev := kZ) (z := none) 0 l O O O ga pF js O) : RQ _ _ _ _ (.func (.func 113) #[] #[]))) (de 7 [] O O O O (oC (vs := [Pt b0, .agg #[Iv l, Iv u, Iv v, Iv w, Iv x, Iv ab, Iv ad, Iv af, Iv ag, Iv al, .slice m e.length i], Iv x2]) (cap := []) (A := [W15 b0 n o p q t g j k, ah 144 5 (ba h) j g k, h]) O call113 (.c (.sel' 2 O (ah.mk bt) (.c (.a (.a (.a .n)))))) (kM.calls _ _ b0 n o p q t j k g h l u v w x ab ad af ag al m i e x2 a3 a1 a2) b2) (fun a4 => zA) (fun a4 => (.prk 0 O (fun b3 => (dq 8 O O O (dx O O) (.fin [(6, .bool an.1)] O ⟨O, trivial⟩ ?_))))))))))))))))))))
 exact aF (s := an) (a4.2.2, a4.1, a4.2.1) ⟨O, trivial⟩ (.pr_in b3 (.b (.b (.b (.d .n)))))
 refine ji (fun a7 => ?_) (fun a7 => ?_)
 refine bq 2 O (fun c3 b4 => (bC (fun c6 b5 => (bC (fun az b6 => (bK [[], [], [1], [0, 1, 2], [], [], [], rL 7, rL 8] 15 O mixed (by decide) (dqo 1 [4] O O O (oF O aT O aa O) (dl 2 [] O O O (oL O ae 0 O) (dqo 4 [0] O O O (am O O) (dl 5 [4] O O O (cF 0 O O dH bV O O) (dqo 6 [2] O O O (am O O) (de 0 [] O O O O (oC (vs := []) (cap := []) (A := []) O call89 (.a (.a (.a (.a (.a .n))))) (eS.calls _ _ ) b5) (fun cs => (ac (px [4] O O O O (cF 1 O O dH bV O O)) (ac (px [] O O O O (oL O ae 1 O)) zA))) (fun cs => (dl 3 [] O O O ((RQ.eq (by rw [a7]; rfl) (nP (ek := nA) (ev := kZ) (z := none) 0 l O O O ga pF js O) : RQ _ _ _ _ (.func (.func 114) #[] #[]))) (de 7 [] O O O O (oC (vs := [Pt b0, .agg #[Iv l, Iv u, Iv v, Iv w, Iv x, Iv ab, Iv ad, Iv af, Iv ag, Iv al, .slice m e.length i], Iv x2]) (cap := []) (A := [W15 b0 n o p q t g j k, ah 144 5 (ba h) j g k, h]) O call114 (.c (.sel' 2 O (ah.mk b4) (.c (.a (.a (.a .n)))))) (kO.calls _ _ b0 n o p q t j k g h l u v w x ab ad af ag al m i e x2 a3 a1 a2) b6) (fun a5 => zA) (fun a5 => (.prk 0 O (fun b7 => (dq 8 O O O (dx O O) (.fin [(6, .bool az.1)] O ⟨O, trivial⟩ ?_))))))))))))))))))))
 exact aF (s := az) (a5.2.2, a5.1, a5.2.1) ⟨O, trivial⟩ (.pr_in b7 (.b (.b (.b (.d .n)))))
 exact lQ
 intro c9 bc
 refine qg (fun b8 => (ay ?_))
 exact aJ (bc.2.1, bc.2.2, bc.1) O O O (.pr_in b8 (.a (.a (.a (.a .n)))))

def jO.f  : Option (Int) := some 0
theorem jO.calls (W : World) (F : HA)   :
    Fn Tryz.prog W 41 [.nilIface] [] F (jO.f ) (fun r (y : Unit) => Iv r) (fun r y => []) := by
 unfold jO.f
 refine aX 13 Tryz.func41 O Tryz.ntmps41 O (sr (oA O (oT (ap (sr (oM O (oT (aZ (sr (vq (Ca (ok := true) (T := 0) (y := 0) O O underlying20) O (oT (ix O (sr (oA O (nx (oA O (oT (ay (bI (aY ?_))))))))))))))))))))
 exact aJ () O O O (.a .n)

theorem sB.quiet (b0 b1 b2 : Nat) : qu Tryz.prog 40 [Pt b0, Pt b1, Pt b2] := by
  refine tL 9 Tryz.func40 O Tryz.ntmps40 O (fun _ _ => O) O O O ((jO.f).bind fun b => (if b = (0 : Int) then (some ()) else none)) (by rfl) (fun W F => ?_)
  refine aj (fun b c => ?_)
  refine oE (oC (vs := [.nilIface]) (cap := []) (A := []) O call41 (.a .n) (jO.calls _ _ ) c) O ?_
  intro d
  refine oA O ?_
  refine aw ?_
  refine ai ?_
  refine ap ?_
  refine aG ?_
  refine oM O ?_
  refine vq (ej O O O) O ?_
  refine aw ?_
  refine ai ?_
  refine eN O (fun e => ?_) (fun g => ?_)
  refine aA ?_
  exact gw () O O O (.a .n)
  exact lQ
end Go.Proofs.YtndjkejhacfpdaaGreatDoor

namespace Go.Proofs.YtndjkejhacfpdaaGreatDoor
open Go.RowKit _root_.Go.Proofs.Tryz
set_option maxRecDepth 20000
set_option maxHeartbeats 20000000
def dr.f (e : List ((List UInt8) × (List UInt8 × Int))) (g : List UInt8) (h : Int) (i : Bool) (j : Int) (k : List Int) (l m n o b c : Int) (a : List (aP)) (d : Bool) : Option (Int × Int) := if (0 : Int) < (a.length : Int) then (if 0 ≤ IntKind.i64.wrap ((a.length : Int) - 1) ∧ IntKind.i64.wrap ((a.length : Int) - 1) < (a.length : Int) then (some ((a.getD (IntKind.i64.wrap ((a.length : Int) - 1)).toNat aD).2.1, (a.getD (IntKind.i64.wrap ((a.length : Int) - 1)).toNat aD).1)) else none) else (some (b, c))
theorem dr.calls (W : World) (F : HA) (ag af e : Nat) (g : Kps) (o : List (Lb × (Lb × Int))) (p : Lb) (q : Int) (s : Bool) (t : Int) (u : Option Addr) (h : Nat) (d : List Int) (w x z ab k l : Int) (ad : Option Addr) (m : Nat) (c : List aP) (n : Bool) (a7 : RdV F 1 (V3 tt) u d) (a3 : d.length ≤ h) (a4 : h ≤ maxLen) (an : RdV F 5 (ba F) ad c) (a5 : c.length ≤ m) (a6 : m ≤ maxLen) :
    Fn Tryz.prog W 61 [.pointer (some ⟨ag, 4, none⟩)] [W0 af e p q s, ax (au e aB ar g) ak g o, W7 ag af t d w x z ab k l c n u h ad m] F (dr.f o p q s t d w x z ab k l c n) (fun r (y : Unit) => .tuple #[Iv r.1, Iv r.2]) (fun r y => [W0 af e p q s, ax (au e aB ar g) ak g o, W7 ag af t d w x z ab k l c n u h ad m]) := by
 unfold dr.f
 refine aX 34 Tryz.func61 O Tryz.ntmps61 O (sr (oA O (oA O (oT (ap (sr (oM O (oN O (vq (oF O aC O bR O) O (vq (oL O dn 2 O) O (vq (bL O O O bJ) O (oA O (nx (oM O (vq (dO O O O) O (oT ?_))))))))))))))))
 refine bu O (fun bs => ?_) (fun bt => ?_)
 refine sr (oM O (oN O (vq (oF O aC O bR O) O (vq (oL O dn 2 O) O (oM O (vq (eL O O O) O (bo (fun al => ?_))))))))
 obtain ⟨b0, be, b1, az, a0, a8, hcell10v⟩ := RdV.pos an (Up.refl _) rfl (i := (IntKind.i64.wrap ((c.length : Int) - 1)).toNat) (by omega) aD
 obtain ⟨a1, a2, rfl, ⟨a9, bc, bd⟩⟩ := a0
 refine vq (dM O O O az bJ dX al.1 al.2) O (vq (oF O fc O aR O) O (vq (cw (vs := [Iv ((c.getD (IntKind.i64.wrap ((c.length : Int) - 1)).toNat aD).1), Iv ((c.getD (IntKind.i64.wrap ((c.length : Int) - 1)).toNat aD).2.1), Iv ((c.getD (IntKind.i64.wrap ((c.length : Int) - 1)).toNat aD).2.2.1), .slice a1 (((c.getD (IntKind.i64.wrap ((c.length : Int) - 1)).toNat aD).2.2.2.1).length) a2]) O O cy aR O (fun j v hj => nE (hcell10v 3 O (0 + j) v (cL (off := 0) O j v hj)))) O (oE (bX O dy O) O ?_)))
 intro br
 refine bg (aI 0 O O O aR O O (aM (by rfl)) O O) O O ?_
 intro _
 refine oT (ap (bK [[], [0], [], [2], [0, 1], rL 5] 34 O mixed (by decide) (dqo 0 [5] O O O (oF O bj O aa O) (dl 1 [] O O O (oL O ae 0 O) (dqo 2 [5] O O O (oF O bj O aa O) (dl 3 [] O O O (oL O ae 0 O) (dq 4 O O O (dx O O) (dq 5 O O O (dx O O) (.fin [(2, Iv ((c.getD (IntKind.i64.wrap ((c.length : Int) - 1)).toNat aD).2.1)), (3, Iv ((c.getD (IntKind.i64.wrap ((c.length : Int) - 1)).toNat aD).1))] O ⟨O, O, trivial⟩ (ai (ay (aY ?_))))))))))))
 exact aJ () O O O (.b (.b (.b (.b .n))))
 refine aA (ai (ap (bK [[], [0], [0, 1], [0, 1, 2], [], [4], [4, 5], [4, 5, 6], rL 4, rL 9] 34 O mixed (by decide) (dqo 0 [0] O O O (am O O) (dq 1 O O O (bi O O) (dq 2 O O O (oF O aC O aa O) (dl 3 [] O O O (oL O ae 2 O) (dqo 4 [0] O O O (am O O) (dq 5 O O O (bi O O) (dq 6 O O O (oF O aC O aa O) (dl 7 [] O O O (oL O ae 2 O) (dq 8 O O O (dx O O) (dq 9 O O O (dx O O) (.fin [(2, Iv k), (3, Iv l)] O ⟨O, O, trivial⟩ (ai (ay ?_))))))))))))))))
 exact aJ () O O O (.a (.a (.a (.a .n))))

def iS.f (k : Nat) (i : List ((List UInt8) × (List UInt8 × Int))) (j : List UInt8) (l : Int) (m : Bool) (n : Int) (c : List Int) (t d e g o p : Int) (q : List (aP)) (h : Bool) (x1 : Int) : Option ((List ((List UInt8) × (List UInt8 × Int))) × List UInt8 × Int × Bool × Int × List Int × Int × Int × Int × Int × Int × Int × (List (aP)) × Bool) := (dr.f i j l m n c t d e g o p q h).bind fun r => ((dT.f k (0 : Int) x1 d e g r.1 r.2 (0 : Int) (0 : Int) (0 : Int) ([] : List UInt8)).bind fun s => ((cA.f k x1).bind fun u => ((eO.f i j l m u s).bind fun a => ((cm.f a.1).bind fun w => ((cA.f k x1).bind fun v => ((cX.f a.2.1 a.2.2.1 a.2.2.2.1 a.2.2.2.2 v).bind fun b => ((cm.f b.1).bind fun x => (if (c.length + ([x1] : List Int).length) * 8 ≤ 140737488355328 then (some (b.2.1, b.2.2.1, b.2.2.2.1, b.2.2.2.2, n, c ++ ([x1] : List Int), (s.length : Int), d, e, g, o, p, q, h)) else none))))))))
theorem iS.calls (W : World) (F : HA) (k a0 i q : Nat) (s : Kps) (ab : List (Lb × (Lb × Int))) (ad : Lb) (af : Int) (ag : Bool) (al : Int) (a5 : Option Addr) (a6 : Nat) (l : List Int) (a2 d e g an az : Int) (m : Option Addr) (n : Nat) (o : List aP) (a3 : HA) (x : Bool) (x1 : Int) (hgl : Glb Tryz.prog F) :
    Fn Tryz.prog W 73 [Pt a0, Iv x1] [W0 i q ad af ag, ax (au q aB ar s) ak s ab, W7 a0 i al l a2 d e g an az o x a5 a6 m n, ah 3 1 (V3 tt) a5 l a6, ah 144 5 (ba a3) m o n, a3] F (iS.f k ab ad af ag al l a2 d e g an az o x x1) (fun r (y : Nat × Kps × Option Addr × Nat × Option Addr × Nat × HA) => .tuple #[]) (fun r y => [W11 i y.1 r.2, ax (au y.1 aB ar y.2.1) ak y.2.1 r.1, W12 a0 i r.q4 y.2.2.1 y.2.2.2.1 y.q4.1 y.q4.2.1, ah 3 1 (V3 tt) y.2.2.1 r.q4.2.1 y.2.2.2.1, ah 144 5 (ba y.q4.2.2) y.q4.1 r.q8.q4.1 y.q4.2.1, y.q4.2.2]) := by
 unfold iS.f
 refine aX 56 Tryz.func73 O Tryz.ntmps73 O (sr (oM O (oN O (vq (oF O av O fb O) O (bk 3 O (fun c9 a8 => (bk 4 O (fun a9 bc => (aj (fun a4 bs => (bw 3 O (fun cs c0 c1 ds => (bw 4 O (fun c2 bt b0 c7 => (oE (oC (vs := [.pointer (some ⟨a0, 4, none⟩)]) (cap := []) (A := [W0 i q ad af ag, ax (au q aB ar s) ak s ab, W7 a0 i al l a2 d e g an az o x a5 a6 m n]) O call61 (.a (.a (.a (.a (.a (.a (.a .n))))))) (dr.calls _ _ a0 i q s ab ad af ag al a5 a6 l a2 d e g an az m n o x ((Rd.asV a8 cs).up (Up.lend 0 O) (fun _ _ h => h)) c0 c1 ((Rd.asV bc c2).up (Up.lend 1 O) (ba.up (Up.lend 2 O))) bt b0) bs) O ?_)))))))))))))))
 intro dz
 refine oM O (vq (bY O O O) O (vq (bY O O O) O (oA O (oA O (nx (oM O (oM O (oN O (vq (oF O av O fb O) O (vq (oF O aC O aU O) O (vq (cw (vs := [Iv d, Iv e, Iv g]) O O dm aU O (dc 2 O (cL O))) O (oM O (oM O (vq (cW (v := .agg #[Iv 0, Iv x1, Iv d, Iv e, Iv g, Iv a4.1, Iv a4.2, Iv 0, Iv 0, Iv 0, .slice none 0 0]) O O (fun _ => by kernel_rfl)) O (aj (fun z b1 => (oE (oC (vs := [.agg #[Iv 0, Iv x1, Iv d, Iv e, Iv g, Iv a4.1, Iv a4.2, Iv 0, Iv 0, Iv 0, .slice none 0 0]]) (cap := []) (A := []) O call52 (.a (.a (.a (.a (.a (.a (.a .n))))))) (dT.calls _ _ k (0 : Int) x1 d e g a4.1 a4.2 (0 : Int) (0 : Int) (0 : Int) none 0 ([] : Lb) (Rd.nil _ _) (Nat.le_refl _) (Nat.zero_le _)) b1) O ?_)))))))))))))))))
 intro j
 refine oA O (oT (ap (bC (fun bd b2 => (bC (fun t b3 => (bC (fun d1 b4 => (bK [[], [0], [0, 1], [0, 1, 2], [], [4], [], rL 7, rL 8] 56 O mixed (by decide) (dqo 0 [0] O O O (am O O) (dq 1 O O O (bi O O) (dq 2 O O O (oF O av O eR O) (dl 3 [] O O O (oL O co 3 O) (dqo 4 [1] O O O (am O O) (dqo 6 [6] O O O (am O O) (de 5 [] O O O O (oC (vs := [Iv x1]) (cap := []) (A := []) O fE (.a (.a (.a (.a (.a (.a (.a (.a .n)))))))) (cA.calls _ _ k x1 (hgl.lend 7 O)) b2) (fun c3 => (ac (px [] O O O O (oL O co 3 O)) zA)) (fun c3 => (de 7 [] O O O O (RE.lend 0 O (fun b5 b6 b7 c8 => oC (vs := [Pt i, str bd, .slice j.1 z.length j.2]) (cap := []) (A := [W0 i q ad af ag, ax (au q aB ar s) ak s ab]) O call22 (.b (.b (.a (.a (.a (.a (.a (.a .n)))))))) (eO.calls _ _ i q s ab ad af ag bd j.1 j.2 z (b5.lend 0 O) b6 b7) b3)) (fun a1 => zA) (fun a1 => (de 8 [] O O O O (oC (vs := [Iv t.1]) (cap := []) (A := []) O dN (.a (.a (.a (.a (.a (.a (.a (.a .n)))))))) (cm.calls _ _ t.1 ) b4) (fun c4 => zA) (fun c4 => (.fin [(0, Pt a0), (1, Iv x1), (6, .slice j.1 z.length j.2)] O ⟨O, O, O, trivial⟩ (ai (ap (bC (fun be b8 => (bC (fun u b9 => (bC (fun d2 cd => (bK [[], [0], [0, 1], [0, 1, 2], [], [4], rL 6, rL 7] 56 O mixed (by decide) (dqo 0 [0] O O O (am O O) (dq 1 O O O (bi O O) (dq 2 O O O (oF O av O eR O) (dl 3 [] O O O (oL O co 3 O) (dqo 4 [1] O O O (am O O) (de 5 [] O O O O (oC (vs := [Iv x1]) (cap := []) (A := []) O fE (.a (.a (.a (.a (.a (.a (.a (.a .n)))))))) (cA.calls _ _ k x1 (hgl.lend 7 O)) b8) (fun c5 => (ac (px [] O O O O (oL O co 3 O)) zA)) (fun c5 => (de 6 [] O O O O (oC (vs := [Pt i, str be]) (cap := []) (A := [W1 i a1.1 t.2.2, ax (au a1.1 aB ar a1.2) ak a1.2 t.2.1]) O call46 (.a (.a (.a (.a (.a (.a (.a (.a .n)))))))) (cX.calls _ _ i a1.1 a1.2 t.2.1 t.2.2.1 t.2.2.2.1 t.q4 be ) b9) (fun p => zA) (fun p => (de 7 [] O O O O (oC (vs := [Iv u.1]) (cap := []) (A := []) O dN (.a (.a (.a (.a (.a (.a (.a (.a .n)))))))) (cm.calls _ _ u.1 ) cd) (fun c6 => zA) (fun c6 => (.fin [(0, Pt a0), (1, Iv x1), (6, .slice j.1 z.length j.2)] O ⟨O, O, O, trivial⟩ (ai (sr (oM O (oM O (oN O (vq (oF O av O bp O) O (vq (oL O bO 3 O) O (oM O ?_)))))))))))))))))))))))))))))))))))))))))))))))))))
 have a7 : bW 1 (V3 tt) ([x1] : List Int) [[Iv x1]] := ⟨⟨rfl, aM (by rfl), rfl⟩, trivial⟩
 refine oE (eW (V := (V3 tt)) (xs := ([x1] : List Int)) [[Iv x1]] O O aO lF O (by kernel_rfl) O a7 O O) O ?_
 intro br
 refine bo (fun ch => (oE (eV 5 O O O aO lF O a8 (hQ.row a7 0 O) ch) O ?_))
 intro w
 refine oN O (vq (oF O av O bp O) O (bg (aI 4 O O O bp O O (aM (by rfl)) O O) O O ?_))
 intro _
 refine cl (H' := [Row 3 1 (some ⟨br, 0, none⟩) ([x1] : List Int).length 1 [[Iv x1]].flatten, W1 i p.1 u.2.2, ax (au p.1 aB ar p.2) ak p.2 u.2.1, Row 5 1 j.1 z.length j.2 (aL z), W7 a0 i al (l ++ ([x1] : List Int)) a2 d e g an az o x w.1 w.2 m n, ah 3 1 (V3 tt) w.1 (l ++ ([x1] : List Int)) w.2, Row 144 5 m o.length n a9.flatten, a3, F]) (Ent.refl _) (ny (oM O (oM O (vq (bL O O O aH) O (oN O (vq (oF O av O aa O) O (bg (aI 4 O O O aa O O (aM (by rfl)) O O) O O ?_)))))))
 intro _
 refine cl (H' := [Row 3 1 (some ⟨br, 0, none⟩) ([x1] : List Int).length 1 [[Iv x1]].flatten, W1 i p.1 u.2.2, ax (au p.1 aB ar p.2) ak p.2 u.2.1, Row 5 1 j.1 z.length j.2 (aL z), W7 a0 i al (l ++ ([x1] : List Int)) (z.length : Int) d e g an az o x w.1 w.2 m n, ah 3 1 (V3 tt) w.1 (l ++ ([x1] : List Int)) w.2, Row 144 5 m o.length n a9.flatten, a3, F]) (Ent.refl _) (aw ?_)
 exact gw (p.1, p.2, w.1, w.2, m, n, a3) O O O (.b (.b (.c (.c (.sel' 2 O (ah.mk bc) (.c (.c .n)))))))

def fU.f (k : Nat) (d : List ((List UInt8) × (List UInt8 × Int))) (e : List UInt8) (g : Int) (h : Bool) (i : Int) (j : List Int) (l m n o p q : Int) (r : List (aP)) (c : Bool) (x1 : Int) : Option ((List ((List UInt8) × (List UInt8 × Int))) × List UInt8 × Int × Bool × Int × List Int × Int × Int × Int × Int × Int × Int × (List (aP)) × Bool) := (cA.f k x1).bind fun s => ((fZ.f k d e g h s).bind fun b => ((cm.f b.1).bind fun t => ((iS.f k b.2.1 b.2.2.1 b.2.2.2.1 b.2.2.2.2 i j l m n o p q r c x1).bind fun a => (some (a.1, a.2.1, a.2.2.1, a.2.2.2.1, a.2.2.2.2.1, a.2.2.2.2.2.1, a.2.2.2.2.2.2.1, a.2.2.2.2.2.2.2.1, a.2.2.2.2.2.2.2.2.1, a.2.2.2.2.2.2.2.2.2.1, a.2.2.2.2.2.2.2.2.2.2.1, a.2.2.2.2.2.2.2.2.2.2.2.1, a.2.2.2.2.2.2.2.2.2.2.2.2.1, a.2.2.2.2.2.2.2.2.2.2.2.2.2)))))
theorem fU.calls (W : World) (F : HA) (k al d i : Nat) (j : Kps) (s : List (Lb × (Lb × Int))) (t : Lb) (u : Int) (v : Bool) (w : Int) (l : Option Addr) (m : Nat) (b : List Int) (x z ab ad af ag : Int) (n : Option Addr) (o : Nat) (c : List aP) (p : HA) (q : Bool) (x1 : Int) (hgl : Glb Tryz.prog F) :
    Fn Tryz.prog W 42 [Pt al, Iv x1] [W0 d i t u v, ax (au i aB ar j) ak j s, W7 al d w b x z ab ad af ag c q l m n o, ah 3 1 (V3 tt) l b m, ah 144 5 (ba p) n c o, p] F (fU.f k s t u v w b x z ab ad af ag c q x1) (fun r (y : Nat × Kps × Option Addr × Nat × Option Addr × Nat × HA) => .tuple #[]) (fun r y => [W11 d y.1 r.2, ax (au y.1 aB ar y.2.1) ak y.2.1 r.1, W12 al d r.q4 y.2.2.1 y.2.2.2.1 y.q4.1 y.q4.2.1, ah 3 1 (V3 tt) y.2.2.1 r.q4.2.1 y.2.2.2.1, ah 144 5 (ba y.q4.2.2) y.q4.1 r.q8.q4.1 y.q4.2.1, y.q4.2.2]) := by
 unfold fU.f
 refine aX 15 Tryz.func42 O Tryz.ntmps42 O (ap (bq 3 O (fun a7 a1 => (bq 4 O (fun a8 a2 => (bC (fun a0 a3 => (bC (fun e a4 => (bC (fun a9 an => (bK [[], [0], [0, 1], [0, 1, 2], [], [4], rL 6, rL 7] 15 O mixed (by decide) (dqo 0 [0] O O O (am O O) (dq 1 O O O (bi O O) (dq 2 O O O (oF O av O eR O) (dl 3 [] O O O (oL O co 2 O) (dqo 4 [1] O O O (am O O) (de 5 [] O O O O (oC (vs := [Iv x1]) (cap := []) (A := []) O fE (.a (.a (.a (.a (.a (.a (.a .n))))))) (cA.calls _ _ k x1 (hgl.lend 6 O)) a3) (fun a6 => (ac (px [] O O O O (oL O co 2 O)) zA)) (fun a6 => (de 6 [] O O O O (oC (vs := [Pt d, str a0]) (cap := []) (A := [W0 d i t u v, ax (au i aB ar j) ak j s]) O call21 (.a (.a (.a (.a (.a (.a (.a .n))))))) (fZ.calls _ _ k d i j s t u v a0 ) a4) (fun g => zA) (fun g => (de 7 [] O O O O (oC (vs := [Iv e.1]) (cap := []) (A := []) O dN (.a (.a (.a (.a (.a (.a (.a .n))))))) (cm.calls _ _ e.1 ) an) (fun a5 => zA) (fun a5 => (.fin [(0, Pt al), (1, Iv x1)] O ⟨O, O, trivial⟩ (ai (aG (oM O (oM O (aj (fun bc az => (oE (oC (vs := [Pt al, Iv x1]) (cap := []) (A := [W1 d g.1 e.2.2, ax (au g.1 aB ar g.2) ak g.2 e.2.1, W7 al d w b x z ab ad af ag c q l m n o, ah 3 1 (V3 tt) l b m, ah 144 5 (ba p) n c o, p]) O call73 (.a (.a (.a (.sel' 0 O (ah.mk a1) (.sel' 0 O (ah.mk a2) (.a (.a .n))))))) (iS.calls _ _ k al d g.1 g.2 e.2.1 e.2.2.1 e.2.2.2.1 e.q4 w l m b x z ab ad af ag n o c p q x1 (hgl.lend 0 O)) az) O ?_)))))))))))))))))))))))))))))))
 intro h
 refine aw ?_
 exact gw h O O O (.a (.a (.a (.a (.a (.a (.a .n)))))))

def ju.f (k : Nat) (e : List ((List UInt8) × (List UInt8 × Int))) (g : List UInt8) (h : Int) (i : Bool) (j : Int) (b : List Int) (l m n o p q : Int) (r : List (aP)) (d : Bool) (x1 : Int) : Option ((List ((List UInt8) × (List UInt8 × Int))) × List UInt8 × Int × Bool × Int × List Int × Int × Int × Int × Int × Int × Int × (List (aP)) × Bool) := if (1 : Int) < (b.length : Int) then ((cA.f k x1).bind fun s => ((gd.f e g h i s).bind fun c => ((cm.f c.1).bind fun t => (if 0 ≤ (0 : Int) ∧ (0 : Int) ≤ IntKind.i64.wrap ((b.length : Int) - 1) ∧ IntKind.i64.wrap ((b.length : Int) - 1) ≤ (b.length : Int) then (some (c.2.1, c.2.2.1, c.2.2.2.1, c.2.2.2.2, j, cut b (0 : Int) (IntKind.i64.wrap ((b.length : Int) - 1)), l, m, n, o, p, q, r, d)) else none)))) else ((if x1 = (1 : Int) then (some ()) else ((cm.f (12 : Int)).bind fun u => (some ()))).bind fun v => ((iS.f k e g h i j ([] : List Int) l m n o p q r d x1).bind fun a => (some (a.1, a.2.1, a.2.2.1, a.2.2.2.1, a.2.2.2.2.1, a.2.2.2.2.2.1, a.2.2.2.2.2.2.1, a.2.2.2.2.2.2.2.1, a.2.2.2.2.2.2.2.2.1, a.2.2.2.2.2.2.2.2.2.1, a.2.2.2.2.2.2.2.2.2.2.1, a.2.2.2.2.2.2.2.2.2.2.2.1, a.2.2.2.2.2.2.2.2.2.2.2.2.1, a.2.2.2.2.2.2.2.2.2.2.2.2.2))))
theorem ju.calls (W : World) (F : HA) (k af m c : Nat) (d : Kps) (n : List (Lb × (Lb × Int))) (o : Lb) (p : Int) (q : Bool) (u : Int) (al : Option Addr) (an : Nat) (j : List Int) (v w x z ab ad : Int) (e : Option Addr) (g : Nat) (h : List aP) (i : HA) (t : Bool) (x1 : Int) (hgl : Glb Tryz.prog F) :
    Fn Tryz.prog W 75 [Pt af, Iv x1] [W0 m c o p q, ax (au c aB ar d) ak d n, W7 af m u j v w x z ab ad h t al an e g, ah 3 1 (V3 tt) al j an, ah 144 5 (ba i) e h g, i] F (ju.f k n o p q u j v w x z ab ad h t x1) (fun r (y : Nat × Kps × Option Addr × Nat × Option Addr × Nat × HA) => .tuple #[]) (fun r y => [W11 m y.1 r.2, ax (au y.1 aB ar y.2.1) ak y.2.1 r.1, W12 af m r.q4 y.2.2.1 y.2.2.2.1 y.q4.1 y.q4.2.1, ah 3 1 (V3 tt) y.2.2.1 r.q4.2.1 y.2.2.2.1, ah 144 5 (ba y.q4.2.2) y.q4.1 r.q8.q4.1 y.q4.2.1, y.q4.2.2]) := by
 unfold ju.f
 refine aX 41 Tryz.func75 O Tryz.ntmps75 O (ap (sr (oM O (oN O (vq (oF O av O bp O) O (vq (oL O bO 2 O) O (vq (bL O O O aO) O (vq (dO O O O) O (oT ?_)))))))))
 refine bu O (fun c5 => ?_) (fun c6 => ?_)
 refine ap (bq 3 O (fun b8 a3 => (bq 4 O (fun b9 be => (bC (fun bd br => (bC (fun a4 a5 => (bC (fun cd a6 => (bK [[], [0], [0, 1], [0, 1, 2], [], [4], rL 6, rL 7] 41 O mixed (by decide) (dqo 0 [0] O O O (am O O) (dq 1 O O O (bi O O) (dq 2 O O O (oF O av O eR O) (dl 3 [] O O O (oL O co 2 O) (dqo 4 [1] O O O (am O O) (de 5 [] O O O O (oC (vs := [Iv x1]) (cap := []) (A := []) O fE (.a (.a (.a (.a (.a (.a (.a .n))))))) (cA.calls _ _ k x1 (hgl.lend 6 O)) br) (fun b1 => (ac (px [] O O O O (oL O co 2 O)) zA)) (fun b1 => (de 6 [] O O O O (oC (vs := [Pt m, str bd]) (cap := []) (A := [W0 m c o p q, ax (au c aB ar d) ak d n]) O call64 (.a (.a (.a (.a (.a (.a (.a .n))))))) (gd.calls _ _ m c d n o p q bd ) a5) (fun a1 => zA) (fun a1 => (de 7 [] O O O O (oC (vs := [Iv a4.1]) (cap := []) (A := []) O dN (.a (.a (.a (.a (.a (.a (.a .n))))))) (cm.calls _ _ a4.1 ) a6) (fun bs => zA) (fun bs => (.fin [(0, Pt af)] O ⟨O, trivial⟩ (ai (ap (kj 3 O (fun a7 az b2 b3 => (dh (fun a0 => ?_)))))))))))))))))))))))))))))
 obtain ⟨bt, b0, a2, b4, b5, b6⟩ := jY (lo := (0 : Int)) (hi := IntKind.i64.wrap ((j.length : Int) - 1)) (Rd.asV a3 a7) az a0
 refine bK [[], [], [1], [1, 2], [1, 2, 3], [], [5], [5, 6], [5, 6, 7], [5, 6, 7, 8], [5, 6, 7, 8, 9], [1, 2, 3, 4, 5, 6, 7, 8, 9, 10], rL 12, rL 13, rL 14] 41 O mixed (by decide) (dqo 0 [0] O O O (am O O) (dqo 1 [0] O O O (am O O) (dq 2 O O O (bi O O) (dq 3 O O O (oF O av O bp O) (dl 4 [] O O O (oL O bO 2 O) (dqo 5 [0] O O O (am O O) (dq 6 O O O (bi O O) (dq 7 O O O (oF O av O bp O) (dl 8 [] O O O (oL O bO 2 O) (dq 9 O O O (bL O O O aO) (dq 10 O O O (eL O O O) (dq 11 O O O (gV (l := j) (lo' := (0 : Int)) (hi' := IntKind.i64.wrap ((j.length : Int) - 1)) O O O O aO aa (.inr ⟨_, O⟩) (.inl ⟨O, O⟩) a0 az a2) (dq 12 O O O (bi O O) (dq 13 O O O (oF O av O bp O) (de 14 [] O O O O (RE.ent (Ent.cutV 3 O a3 a2 a0 az) (aI 2 O O O bp O O (aM (by rfl)) O O)) (fun _ => zA) (fun _ => (.fin [] O trivial (ai (ay (aY ?_))))))))))))))))))))
 exact aJ (a1.1, a1.2, bt, b0, e, g, i) O O O (.a (.a (.a (.a (.sel' 0 O (ah.mk be) (.a (.a .n)))))))
 refine aA (ai ?_)
 refine bP (S := Unit) Unit (fun s y => [(0, Pt af), (1, Iv x1)]) (fun s y => [W0 m c o p q, W7 af m u j v w x z ab ad h t al an e g, ax (au c aB ar d) ak d n, ah 3 1 (V3 tt) al j an, ah 144 5 (ba i) e h g, i, F]) ?_ ?_
 refine sr (oM O (vq (ej O O O) O (oT ?_)))
 refine eN O (fun ch => ?_) (fun cs => ?_)
 refine aA ?_
 exact aF (s := ()) () ⟨O, O, trivial⟩ (.a (.b (.a (.a (.a (.a (.a .n)))))))
 refine aG (aj (fun c0 a8 => (oE (oC (vs := [Iv 12]) (cap := []) (A := []) O dN (.a (.a (.a (.a (.a (.a (.a .n))))))) (cm.calls _ _ (12 : Int) ) a8) O ?_)))
 intro c1
 refine aw ?_
 exact aF (s := ()) () ⟨O, O, trivial⟩ (.a (.b (.a (.a (.a (.a (.a .n)))))))
 intro c2 c3
 refine sr (oM O (oN O (vq (oF O av O bp O) O (bg (aI 1 O O O bp O O (aM (by rfl)) O O) O O ?_))))
 intro _
 refine cl (H' := [W0 m c o p q, obj af 91 [Pt m, Iv u, .slice none 0 0, Iv v, Iv w, Iv x, Iv z, Iv ab, Iv ad, .slice e h.length g, .bool t], ax (au c aB ar d) ak d n, ah 3 1 (V3 tt) al j an, ah 144 5 (ba i) e h g, i, F]) (Ent.refl _) (ny (oM O (oM O (bk 4 O (fun b7 a9 => (aj (fun c4 bc => (oE (oC (vs := [Pt af, Iv x1]) (cap := []) (A := [W0 m c o p q, ax (au c aB ar d) ak d n, obj af 91 [Pt m, Iv u, .slice none 0 0, Iv v, Iv w, Iv x, Iv z, Iv ab, Iv ad, .slice e h.length g, .bool t], ah 3 1 (V3 tt) none ([] : List Int) 0, ah 144 5 (ba i) e h g, i]) O call73 (.a (.b (.a (.rowV_nil (.sel' 1 O (ah.mk a9) (.b (.a (.a .n)))))))) (iS.calls _ _ k af m c d n o p q u none 0 ([] : List Int) v w x z ab ad e g h i t x1 (hgl.lend 1 O)) bc) O ?_))))))))
 intro ag
 refine aw ?_
 exact gw ag O O O (.a (.a (.a (.a (.a (.a (.b .n)))))))

def jc.f (o : List ((List UInt8) × (List UInt8 × Int))) (p : List UInt8) (q : Int) (r : Bool) (b : Int) (s : List Int) (c d e g h i : Int) (t : List (aP)) (a : Bool) (w x j k l m n y z ab : Int) (v : List UInt8) (x2 : Bool) : Option (Bool × Int × Int × Int × Int × Int × Int × Int × Bool) := if x2 = true then (some (true, b, c, j, k, l, m, n, a)) else ((dr.f o p q r b s c d e g h i t a).bind fun u => (some (((decide (j = d) && (decide (k = e) && (decide (l = g)))) && (decide (m = u.1))) && (decide (n = u.2)), b, c, d, e, g, h, i, a)))
theorem jc.calls (W : World) (F : HA) (a2 a1 l : Nat) (m : Kps) (u : List (Lb × (Lb × Int))) (v : Lb) (x : Int) (z : Bool) (ag : Int) (ab : Option Addr) (q : Nat) (n : List Int) (al c e g an az : Int) (ad : Option Addr) (s : Nat) (o : List aP) (af : Bool) (a9 bc i j k p a3 bd be br : Int) (a5 : Option Addr) (a4 : Nat) (a0 : Lb) (x2 : Bool) (b2 : RdV F 1 (V3 tt) ab n) (bs : n.length ≤ q) (bt : q ≤ maxLen) (b3 : RdV F 5 (ba F) ad o) (b0 : o.length ≤ s) (b1 : s ≤ maxLen) (b9 : Rd F a5 (aL a0)) (b7 : a0.length ≤ a4) (b8 : a4 ≤ maxLen) :
    Fn Tryz.prog W 77 [Pt a2, .agg #[Iv a9, Iv bc, Iv i, Iv j, Iv k, Iv p, Iv a3, Iv bd, Iv be, Iv br, .slice a5 a0.length a4], .bool x2] [W0 a1 l v x z, ax (au l aB ar m) ak m u, W7 a2 a1 ag n al c e g an az o af ab q ad s] F (jc.f u v x z ag n al c e g an az o af a9 bc i j k p a3 bd be br a0 x2) (fun r (y : Unit) => .bool r.1) (fun r y => [W0 a1 l v x z, ax (au l aB ar m) ak m u, W7 a2 a1 r.2.1 n r.2.2.1 r.2.2.2.1 r.q4.1 r.q4.2.1 r.q4.2.2.1 r.q4.2.2.2.1 o r.q8 ab q ad s]) := by
 unfold jc.f
 refine aX 53 Tryz.func77 O Tryz.ntmps77 O (sr (oE (cH O O O) O ?_))
 intro a6
 refine oA O (nx (oM O (oN O (vq (oF O av O fb O) O (oA O (oT (ap (sr (oM O (oT ?_))))))))))
 refine bm O (fun c1 => ?_) (fun c2 => ?_)
 refine ap (bK [[], [], [], [], [3], [], [5], [], [7], [0, 3, 4], [0, 3, 4, 9], [0, 3, 4, 9, 10], [0, 1, 3, 4, 5, 6, 9, 10, 11], [0, 1, 3, 4, 5, 6, 9, 10, 11, 12], [0, 1, 3, 4, 5, 6, 9, 10, 11, 12, 13], rL 15, rL 16, rL 17] 53 O mixed (by decide) (dqo 0 [7] O O O (am O O) (dqo 1 [7] O O O (am O O) (dqo 2 [7] O O O (am O O) (dqo 3 [4] O O O (oF O aT O aU O) (dl 4 [] O O O (cw (vs := [Iv i, Iv j, Iv k]) O O dm aU O (dc 0 O (cL O))) (dqo 5 [4] O O O (oF O aT O aa O) (dl 6 [] O O O (oL O ae 0 O) (dqo 7 [4] O O O (oF O aT O aa O) (dl 8 [] O O O (oL O ae 0 O) (dq 9 O O O (bi O O) (dq 10 O O O (oF O aC O aU O) (de 11 [] O O O O (aI 3 O O O aU O O (aM (by rfl)) O O) (fun _ => (ac (px [] O O O O (oL O ae 0 O)) (ac (px [] O O O O (oL O ae 0 O)) zA))) (fun _ => (dq 12 O O O (bi O O) (dq 13 O O O (oF O aC O aa O) (de 14 [] O O O O (aI 3 O O O aa O O (aM (by rfl)) O O) (fun _ => (ac (px [] O O O O (oL O ae 0 O)) zA)) (fun _ => (dq 15 O O O (bi O O) (dq 16 O O O (oF O aC O aa O) (de 17 [] O O O O (aI 3 O O O aa O O (aM (by rfl)) O O) (fun _ => zA) (fun _ => (.fin [] O trivial (ai (sr (oA O (oT (ay (aY ?_)))))))))))))))))))))))))))))
 exact aJ () O O O (.b (.b (.b (.b .n))))
 refine aA (ai (sr (oM O (aj (fun t b5 => (oE (oC (vs := [.pointer (some ⟨a2, 4, none⟩)]) (cap := []) (A := [W0 a1 l v x z, ax (au l aB ar m) ak m u, W7 a2 a1 ag n al c e g an az o af ab q ad s]) O call61 (.b (.b (.b (.a (.a .n))))) (dr.calls _ _ a2 a1 l m u v x z ag ab q n al c e g an az ad s o af (b2.up (Up.lend 1 O) (fun _ _ h => h)) bs bt (b3.up (Up.lend 1 O) (ba.up (Up.lend 1 O))) b0 b1) b5) O ?_))))))
 intro c3
 refine oM O (vq (bY O O O) O (vq (bY O O O) O (oA O (oA O (oT (ap (bK [[], [0], [], [2], [2, 3], [2, 3, 4], rL 6, rL 7, rL 8, rL 9, rL 8, rL 11, rL 12, rL 13, rL 14, rL 15, rL 14, rL 17, rL 18, rL 19] 53 O mixed (by decide) (dqo 0 [4] O O O (oF O aT O aU O) (dl 1 [] O O O (cw (vs := [Iv i, Iv j, Iv k]) O O dm aU O (dc 3 O (cL O))) (dqo 2 [7] O O O (am O O) (dq 3 O O O (bi O O) (dq 4 O O O (oF O aC O aU O) (dl 5 [] O O O (cw (vs := [Iv c, Iv e, Iv g]) O O dm aU O (dc 2 O (cL O))) (dq 6 O O O (BX O O O (by kernel_rfl) (fun d w => sh bH (by kernel_rfl) (pz (by rfl) (jU ae O) (jU ae O) (nN fi) (pz (by rfl) (jU ae O) (jU ae O) (nN fi) (uP (by rfl) (jU ae O) (jU ae O) (nN fi)))))) (dq 7 O O O (am O O) (dqg 8 [4] (decide (i = c) && (decide (j = e) && (decide (k = g)))) O O O O O (fun cs => RQ.sub (E' := [(4, Pt a6)]) ⟨O, trivial⟩ (oF O aT O aa O)) (dlg 9 [] (decide (i = c) && (decide (j = e) && (decide (k = g)))) O O O O O (fun b6 => RQ.sub (E' := [(42, .pointer (some ⟨a6, 5, none⟩))]) ⟨aN O b6, trivial⟩ (oL O ae 3 O)) (dqg 10 [8] (decide (i = c) && (decide (j = e) && (decide (k = g)))) O O O O O (fun c0 => RQ.sub (E' := [(8, Iv t.1)]) ⟨O, trivial⟩ (am O O)) (dqg 11 [] (decide (i = c) && (decide (j = e) && (decide (k = g)))) O O O O O (fun a7 => RQ.sub (E' := [(43, Iv p), (44, Iv t.1)]) ⟨aN O a7, aN O a7, trivial⟩ (cr O O O)) (dq 12 O O O (fN O O O) (dq 13 O O O (am O O) (dqg 14 [4] ((decide (i = c) && (decide (j = e) && (decide (k = g)))) && (decide (p = t.1))) O O O O O (fun cd => RQ.sub (E' := [(4, Pt a6)]) ⟨O, trivial⟩ (oF O aT O aa O)) (dlg 15 [] ((decide (i = c) && (decide (j = e) && (decide (k = g)))) && (decide (p = t.1))) O O O O O (fun b4 => RQ.sub (E' := [(48, .pointer (some ⟨a6, 6, none⟩))]) ⟨aN O b4, trivial⟩ (oL O ae 3 O)) (dqg 16 [9] ((decide (i = c) && (decide (j = e) && (decide (k = g)))) && (decide (p = t.1))) O O O O O (fun ch => RQ.sub (E' := [(9, Iv t.2)]) ⟨O, trivial⟩ (am O O)) (dqg 17 [] ((decide (i = c) && (decide (j = e) && (decide (k = g)))) && (decide (p = t.1))) O O O O O (fun a8 => RQ.sub (E' := [(49, Iv a3), (50, Iv t.2)]) ⟨aN O a8, aN O a8, trivial⟩ (cr O O O)) (dq 18 O O O (fN O O O) (dq 19 O O O (dx O O) (.fin [(6, .bool (((decide (i = c) && (decide (j = e) && (decide (k = g)))) && (decide (p = t.1))) && (decide (a3 = t.2))))] O ⟨O, trivial⟩ (ai (ay ?_))))))))))))))))))))))))))))))
 exact aJ () O O O (.a (.a (.a (.b .n))))

def kh.f (j : List ((List UInt8) × (List UInt8 × Int))) (k : List UInt8) (l : Int) (m : Bool) (b : Int) (n : List Int) (c o p q d e : Int) (r : List (aP)) (a : Bool) (t u g h i v w x y z : Int) (s : List UInt8) (x2 : Int) : Option (Bool × Int × Int × Int × Int × Int × Int × Int × Bool) := some (true, b, c, g, h, i, d, e, a)
theorem kh.calls (W : World) (F : HA) (a2 v a : Nat) (c : Kps) (j : List (Lb × (Lb × Int))) (k : Lb) (l : Int) (m : Bool) (w : Int) (n : Option Addr) (g : Nat) (d : List Int) (x a3 a4 a5 z ab : Int) (o : Option Addr) (h : Nat) (e : List aP) (q : Bool) (af ag s t u al an az a0 a1 : Int) (ad : Option Addr) (p : Nat) (i : Lb) (x2 : Int) (br : RdV F 1 (V3 tt) n d) (a6 : d.length ≤ g) (a7 : g ≤ maxLen) (bs : RdV F 5 (ba F) o e) (a8 : e.length ≤ h) (a9 : h ≤ maxLen) (bt : Rd F ad (aL i)) (bc : i.length ≤ p) (bd : p ≤ maxLen) :
    Fn Tryz.prog W 112 [.pointer (some ⟨a2, 4, none⟩), .agg #[Iv af, Iv ag, Iv s, Iv t, Iv u, Iv al, Iv an, Iv az, Iv a0, Iv a1, .slice ad i.length p], Iv x2] [W0 v a k l m, ax (au a aB ar c) ak c j, W7 a2 v w d x a3 a4 a5 z ab e q n g o h] F (kh.f j k l m w d x a3 a4 a5 z ab e q af ag s t u al an az a0 a1 i x2) (fun r (y : Unit) => .bool r.1) (fun r y => [W0 v a k l m, ax (au a aB ar c) ak c j, W7 a2 v r.2.1 d r.2.2.1 r.2.2.2.1 r.q4.1 r.q4.2.1 r.q4.2.2.1 r.q4.2.2.2.1 e r.q8 n g o h]) := by
 unfold kh.f
 refine aX 12 Tryz.func112 O Tryz.ntmps112 O (sr (oE (cH O O O) O ?_))
 intro be
 refine oA O (nx (oM O (vq (oF O aT O aU O) O (vq (cw (vs := [Iv s, Iv t, Iv u]) O O dm aU O (dc 0 O (cL O))) O (oN O (vq (oF O aC O aU O) O (bg (aI 3 O O O aU O O (aM (by rfl)) O O) O O ?_)))))))
 intro _
 refine cl (H' := [W19 be af ag s t u al an az a0 a1 i ad p, W0 v a k l m, ax (au a aB ar c) ak c j, W7 a2 v w d x s t u z ab e q n g o h, F]) (Ent.refl _) (nx (oA O (oT (ay ?_))))
 exact aJ () O O O (.b (.b (.b (.b .n))))

def iI.f (q : List ((List UInt8) × (List UInt8 × Int))) (r : List UInt8) (s : Int) (t : Bool) (g : Int) (h : List Int) (i j k l c m : Int) (d : List (aP)) (e : Bool) (u v w x y z ab o a p : Int) (n : List UInt8) (x2 : Int) : Option (Bool × Int × List Int × Int × Int × Int × Int × Int × Int × (List (aP)) × Bool) := if IntKind.i64.wrap ((IntKind.i64.wrap (c + (d.length : Int))) + 1) < a then (some (false, g, h, i, j, k, l, c, m, d, e)) else ((if a ≤ c then (some (IntKind.i64.wrap (a - 1), 0, ([] : List (aP)))) else (some (c, m, d))).bind fun b => (if 0 ≤ (0 : Int) ∧ (0 : Int) ≤ IntKind.i64.wrap ((IntKind.i64.wrap (a - b.1)) - 1) ∧ IntKind.i64.wrap ((IntKind.i64.wrap (a - b.1)) - 1) ≤ (b.2.2.length : Int) then (if ((cut b.2.2 (0 : Int) (IntKind.i64.wrap ((IntKind.i64.wrap (a - b.1)) - 1))).length + ([(o, a, p, n, x2)] : List (aP)).length) * 56 ≤ 140737488355328 then (some (true, g, h, i, j, k, l, b.1, b.2.1, (cut b.2.2 (0 : Int) (IntKind.i64.wrap ((IntKind.i64.wrap (a - b.1)) - 1))) ++ ([(o, a, p, n, x2)] : List (aP)), e)) else none) else none))
theorem iI.calls (W : World) (F : HA) (a4 ad o : Nat) (p : Kps) (af : List (Lb × (Lb × Int))) (ag : Lb) (al : Int) (an : Bool) (az : Int) (q : Option Addr) (t : Nat) (u : List Int) (a0 a1 a2 a3 a5 a8 : Int) (x : Option Addr) (z : Nat) (w : List aP) (k : HA) (ab : Bool) (a9 bc bd be br bs bt m e n : Int) (j : Option Addr) (i : Nat) (g : Lb) (x2 : Int) (c2 : Rd k j (aL g)) (b9 : g.length ≤ i) (cd : i ≤ maxLen) :
    Fn Tryz.prog W 113 [.pointer (some ⟨a4, 4, none⟩), .agg #[Iv a9, Iv bc, Iv bd, Iv be, Iv br, Iv bs, Iv bt, Iv m, Iv e, Iv n, .slice j g.length i], Iv x2] [W0 ad o ag al an, ax (au o aB ar p) ak p af, W7 a4 ad az u a0 a1 a2 a3 a5 a8 w ab q t x z, ah 3 1 (V3 tt) q u t, ah 144 5 (ba k) x w z, k] F (iI.f af ag al an az u a0 a1 a2 a3 a5 a8 w ab a9 bc bd be br bs bt m e n g x2) (fun r (y : Option Addr × Nat × Option Addr × Nat × HA) => .bool r.1) (fun r y => [pr (Up k y.q4), W0 ad o ag al an, ax (au o aB ar p) ak p af, W12 a4 ad r.2 y.1 y.2.1 y.2.2.1 y.2.2.2.1, ah 3 1 (V3 tt) y.1 r.2.2.1 y.2.1, ah 144 5 (ba y.q4) y.2.2.1 r.q8.2.1 y.2.2.2.1, y.q4]) := by
 unfold iI.f
 refine aX 64 Tryz.func113 O Tryz.ntmps113 O (sr (oE (cH O O O) O ?_))
 intro ch
 refine oA O (nx (vq (oF O aT O aR O) O (vq (cw (vs := [Iv m, Iv e, Iv n, .slice j g.length i]) O O cy aR O (dc 0 O (cL O))) O (oE (bX O dy O) O ?_))))
 intro a6
 refine bg (aI 0 O O O aR O O (aM (by rfl)) O O) O O ?_
 intro _
 refine oT (ap (ap (bq 5 O (fun b3 b4 => (bq 6 O (fun b5 cs => (bK [[], [0], [], [2], [2, 3], [2, 3, 4], [], [6], [6, 7], [6, 7, 8], [6, 7, 8, 9], [2, 3, 4, 5, 6, 7, 8, 9, 10], [2, 3, 4, 5, 6, 7, 8, 9, 10, 11], rL 13] 64 O mixed (by decide) (dqo 0 [7] O O O (oF O bj O aa O) (dl 1 [] O O O (oL O ae 0 O) (dqo 2 [0] O O O (am O O) (dq 3 O O O (bi O O) (dq 4 O O O (oF O aC O aa O) (dl 5 [] O O O (oL O ae 4 O) (dqo 6 [0] O O O (am O O) (dq 7 O O O (bi O O) (dq 8 O O O (oF O aC O bR O) (dl 9 [] O O O (oL O dn 4 O) (dq 10 O O O (bL O O O bJ) (dq 11 O O O (cn O O O) (dq 12 O O O (cn O O O) (dq 13 O O O (dO O O O) (.fin [(0, .pointer (some ⟨a4, 4, none⟩)), (2, Iv x2), (7, Pt a6), (23, .bool (decide (IntKind.i64.wrap ((IntKind.i64.wrap (a5 + (w.length : Int))) + 1) < e)))] O ⟨O, O, O, O, trivial⟩ (ai ?_)))))))))))))))))))))))
 refine bu O (fun d6 => ?_) (fun d7 => ?_)
 refine sr (oA O (oT (ay (aY ?_))))
 exact aJ (q, t, x, z, k) O O O (.pr_in (Up.refl _) (.c (.c (.c (.sel' 2 O (ah.mk b4) (.sel' 2 O (ah.mk cs) (.c (.c .n))))))))
 refine aA (ai ?_)
 refine bP (S := Int × Int × (List aP)) (Option Addr × Nat) (fun s y => [(0, .pointer (some ⟨a4, 4, none⟩)), (2, Iv x2), (7, Pt a6)]) (fun s y => [W8 a6 m e n g j i, W0 ad o ag al an, W7 a4 ad az u a0 a1 a2 a3 s.1 s.2.1 s.2.2 ab q t y.1 y.2, ax (au o aB ar p) ak p af, ah 3 1 (V3 tt) q u t, ah 144 5 (ba k) y.1 s.2.2 y.2, k, F]) ?_ ?_
 refine ap (bK [[], [0], [], [2], [2, 3], [2, 3, 4], rL 6] 64 O mixed (by decide) (dqo 0 [7] O O O (oF O bj O aa O) (dl 1 [] O O O (oL O ae 0 O) (dqo 2 [0] O O O (am O O) (dq 3 O O O (bi O O) (dq 4 O O O (oF O aC O aa O) (dl 5 [] O O O (oL O ae 4 O) (dq 6 O O O (lv O O O) (.fin [(0, .pointer (some ⟨a4, 4, none⟩)), (2, Iv x2), (7, Pt a6), (30, .bool (decide (e ≤ a5)))] O ⟨O, O, O, O, trivial⟩ (ai ?_))))))))))
 refine bu O (fun d4 => ?_) (fun d5 => ?_)
 refine aG (oM O (oM O (oM O (vq (oF O bj O aa O) O (vq (oL O ae 0 O) O (vq (eL O O O) O (oN O (vq (oF O aC O aa O) O (bg (aI 4 O O O aa O O (aM (by rfl)) O O) O O ?_)))))))))
 intro _
 refine cl (H' := [W8 a6 m e n g j i, W19 ch a9 bc bd be br bs bt m e n g j i, W0 ad o ag al an, ax (au o aB ar p) ak p af, W7 a4 ad az u a0 a1 a2 a3 (IntKind.i64.wrap (e - 1)) a8 w ab q t x z, Row 3 1 q u.length t b3.flatten, Row 144 5 x w.length z b5.flatten, k, F]) (Ent.refl _) (oN O (vq (oF O aC O aa O) O (bg (aI 4 O O O aa O O (aM (by rfl)) O O) O O ?_)))
 intro _
 refine cl (H' := [W8 a6 m e n g j i, W19 ch a9 bc bd be br bs bt m e n g j i, W0 ad o ag al an, ax (au o aB ar p) ak p af, W7 a4 ad az u a0 a1 a2 a3 (IntKind.i64.wrap (e - 1)) 0 w ab q t x z, Row 3 1 q u.length t b3.flatten, Row 144 5 x w.length z b5.flatten, k, F]) (Ent.refl _) (oN O (vq (oF O aC O bR O) O (bg (aI 4 O O O bR O O (aM (by rfl)) O O) O O ?_)))
 intro _
 refine cl (H' := [W8 a6 m e n g j i, W19 ch a9 bc bd be br bs bt m e n g j i, W0 ad o ag al an, ax (au o aB ar p) ak p af, obj a4 91 [Pt ad, Iv az, .slice q u.length t, Iv a0, Iv a1, Iv a2, Iv a3, Iv (IntKind.i64.wrap (e - 1)), Iv 0, .slice none 0 0, .bool ab], Row 3 1 q u.length t b3.flatten, Row 144 5 x w.length z b5.flatten, k, F]) (Ent.refl _) (aw ?_)
 exact aF (s := (IntKind.i64.wrap (e - 1), 0, ([] : List aP))) (none, 0) ⟨O, O, O, trivial⟩ (.a (.b (.c (.b (.sel' 1 O (ah.mk b4) (.rowV_nil (.c (.c .n))))))))
 refine aA ?_
 exact aF (s := (a5, a8, w)) (x, z) ⟨O, O, O, trivial⟩ (.a (.b (.c (.b (.sel' 1 O (ah.mk b4) (.sel' 1 O (ah.mk cs) (.b (.b .n))))))))
 intro a7 c0
 refine ap (bq 4 O (fun c3 c4 => (bq 5 O (fun c9 b7 => (kj 5 O (fun c5 b0 ds dz => (dh (fun b1 => ?_))))))))
 obtain ⟨c7, c8, b8, d1, d2, d3⟩ := jY (lo := (0 : Int)) (hi := IntKind.i64.wrap ((IntKind.i64.wrap (e - a7.1)) - 1)) (Rd.asV b7 c5) b0 b1
 have b2 : bW 5 (ba k) ([(m, e, n, g, x2)] : List aP) [[Iv m, Iv e, Iv n, .slice j g.length i, Iv x2]] := ⟨⟨rfl, aM (by rfl), ⟨j, i, rfl, ⟨c2, b9, cd⟩⟩⟩, trivial⟩
 refine dh (fun c6 => (bK [[], [], [1], [1, 2], [1, 2, 3], [], [5], [], [7], [7, 8], [7, 8, 9], [5, 6, 7, 8, 9, 10], [5, 6, 7, 8, 9, 10, 11], [1, 2, 3, 4, 5, 6, 7, 8, 9, 10, 11, 12], [], [], [14, 15], [14, 15, 16], [1, 2, 3, 4, 5, 6, 7, 8, 9, 10, 11, 12, 13, 14, 15, 16, 17], rL 19, rL 20, rL 21] 64 O mixed (by decide) (dqo 0 [0] O O O (am O O) (dqo 1 [0] O O O (am O O) (dq 2 O O O (bi O O) (dq 3 O O O (oF O aC O bR O) (dl 4 [] O O O (oL O dn 2 O) (dqo 5 [7] O O O (oF O bj O aa O) (dl 6 [] O O O (oL O ae 0 O) (dqo 7 [0] O O O (am O O) (dq 8 O O O (bi O O) (dq 9 O O O (oF O aC O aa O) (dl 10 [] O O O (oL O ae 2 O) (dq 11 O O O (eL O O O) (dq 12 O O O (eL O O O) (dq 13 O O O (gV (l := a7.2.2) (lo' := (0 : Int)) (hi' := IntKind.i64.wrap ((IntKind.i64.wrap (e - a7.1)) - 1)) O O O O bJ dX (.inr ⟨_, O⟩) (.inl ⟨O, O⟩) b1 b0 b8) (dl 14 [7] O O O (cF 0 O O cy aR O O) (dqo 15 [2] O O O (am O O) (dq 16 O O O (cW (v := .agg #[Iv m, Iv e, Iv n, .slice j g.length i, Iv x2]) O O (fun _ => by kernel_rfl)) (de 17 [] O O O O (eW (V := (ba k)) (xs := ([(m, e, n, g, x2)] : List aP)) [[Iv m, Iv e, Iv n, .slice j g.length i, Iv x2]] O O bJ pb O (by kernel_rfl) O b2 O O) (fun c1 => (ac (px [] O O O O (oL O ae 3 O)) (ac (px [] O O O O (oL O ae 1 O)) (ac (px [] O O O O (oL O dn 3 O)) zA)))) (fun c1 => (de 18 [] O O O O (RE.ent (H1 := [Row 144 5 (some ⟨c1, 0, none⟩) ([(m, e, n, g, x2)] : List aP).length 1 [[Iv m, Iv e, Iv n, .slice j g.length i, Iv x2]].flatten, W8 a6 m e n g j i, W0 ad o ag al an, W7 a4 ad az u a0 a1 a2 a3 a7.1 a7.2.1 a7.2.2 ab q t c0.1 c0.2, ax (au o aB ar p) ak p af, Row 3 1 q u.length t c3.flatten, ah 144 5 (ba k) c7 (cut a7.2.2 (0 : Int) (IntKind.i64.wrap ((IntKind.i64.wrap (e - a7.1)) - 1))) c8, k, F]) (Ent.set' 6 O (fun _ h => xB b7 b8 b1 b0 h)) (jD 6 O O O bJ pb O  (hQ.row b2 0 O) c6)) (fun b6 => zA) (fun b6 => (dq 19 O O O (bi O O) (dq 20 O O O (oF O aC O bR O) (de 21 [] O O O O (aI 3 O O O bR O O (aM (by rfl)) O O) (fun _ => zA) (fun _ => (.fin [] O trivial (ai (sr (oA O (oT (ay ?_)))))))))))))))))))))))))))))))))
 exact aJ (q, t, b6.1, b6.2, k) O O O (.pr_in (Up.refl _) (.c (.d (.c (.sel' 2 O (ah.mk c4) (.c (.c (.c .n))))))))

def fa.f (g : List ((List UInt8) × (List UInt8 × Int))) (h : List UInt8) (i : Int) (j : Bool) (k : Int) (l : List Int) (m n o p a c : Int) (b : List (aP)) (d : Bool) (x1 x2 : Int) : Option (Bool) := if x1 = a then (some (decide (x2 = c))) else ((if ((decide (a < x1)) && (decide (IntKind.i64.wrap (x1 - a) ≤ (b.length : Int)))) = true then (if 0 ≤ IntKind.i64.wrap ((IntKind.i64.wrap (x1 - a)) - 1) ∧ IntKind.i64.wrap ((IntKind.i64.wrap (x1 - a)) - 1) < (b.length : Int) then (some (decide ((b.getD (IntKind.i64.wrap ((IntKind.i64.wrap (x1 - a)) - 1)).toNat aD).1 = x2))) else none) else (some false)).bind fun e => (some e))
theorem fa.calls (W : World) (F : HA) (g ag j : Nat) (k : Kps) (p : List (Lb × (Lb × Int))) (q : Lb) (t : Int) (u : Bool) (v : Int) (w : Option Addr) (n : Nat) (l : List Int) (x z ab ad c af : Int) (m : Option Addr) (h : Nat) (e : List aP) (o : Bool) (x1 x2 : Int) (b8 : RdV F 1 (V3 tt) w l) (b3 : l.length ≤ n) (b4 : n ≤ maxLen) (a2 : RdV F 5 (ba F) m e) (b5 : e.length ≤ h) (b6 : h ≤ maxLen) :
    Fn Tryz.prog W 80 [.pointer (some ⟨g, 4, none⟩), Iv x1, Iv x2] [W0 ag j q t u, ax (au j aB ar k) ak k p, W7 g ag v l x z ab ad c af e o w n m h] F (fa.f p q t u v l x z ab ad c af e o x1 x2) (fun r (y : Unit) => .bool r) (fun r y => [W0 ag j q t u, ax (au j aB ar k) ak k p, W7 g ag v l x z ab ad c af e o w n m h]) := by
 unfold fa.f
 refine aX 58 Tryz.func80 O Tryz.ntmps80 O (sr (oA O (oT (ap (sr (oM O (oM O (oN O (vq (oF O aC O aa O) O (vq (oL O ae 2 O) O (vq (cr O O O) O (oT ?_))))))))))))
 refine bu O (fun c9 => ?_) (fun ds => ?_)
 refine sr (oM O (oM O (oN O (vq (oF O aC O aa O) O (vq (oL O ae 2 O) O (vq (cr O O O) O (oA O (oT (ay (aY ?_))))))))))
 exact aJ () O O O (.a (.a (.a (.a .n))))
 refine aA (ai ?_)
 refine bP (S := Bool) Unit (fun s y => [(6, .bool s)]) (fun s y => [W0 ag j q t u, W7 g ag v l x z ab ad c af e o w n m h, ax (au j aB ar k) ak k p, F]) ?_ ?_
 refine ji (fun d => ?_) (fun d => ?_)
 refine dh (fun a1 => ?_)
 obtain ⟨dz, c5, c6, b2, a3, b7, hcell13v⟩ := RdV.pos a2 (Up.refl _) rfl (i := (IntKind.i64.wrap ((IntKind.i64.wrap (x1 - c)) - 1)).toNat) (by omega) aD
 obtain ⟨c7, c8, rfl, ⟨b9, cd, ch⟩⟩ := a3
 refine bK [[], [], [1], [1, 2], [1, 2, 3], rL 5, rL 6, rL 7, rL 7, [0, 1, 2, 3, 4, 5, 6, 8], [0, 1, 2, 3, 4, 5, 6, 8, 9], [0, 1, 2, 3, 4, 5, 6, 8, 9, 10], rL 12, rL 7, [0, 1, 2, 3, 4, 5, 6, 13], [0, 1, 2, 3, 4, 5, 6, 13, 14], [0, 1, 2, 3, 4, 5, 6, 13, 14, 15], [0, 1, 2, 3, 4, 5, 6, 13, 14, 15, 16], rL 18, rL 19, rL 20, rL 21, rL 22, rL 23, rL 24, rL 21, rL 21, [0, 1, 2, 3, 4, 5, 6, 7, 8, 9, 10, 11, 12, 13, 14, 15, 16, 17, 18, 19, 20, 26], [0, 1, 2, 3, 4, 5, 6, 7, 8, 9, 10, 11, 12, 13, 14, 15, 16, 17, 18, 19, 20, 26, 27], [0, 1, 2, 3, 4, 5, 6, 7, 8, 9, 10, 11, 12, 13, 14, 15, 16, 17, 18, 19, 20, 26, 27, 28], [0, 1, 2, 3, 4, 5, 6, 7, 8, 9, 10, 11, 12, 13, 14, 15, 16, 17, 18, 19, 20, 25, 26, 27, 28, 29], [0, 1, 2, 3, 4, 5, 6, 7, 8, 9, 10, 11, 12, 13, 14, 15, 16, 17, 18, 19, 20, 25, 26, 27, 28, 29, 30], rL 32, rL 33, rL 34, rL 35, rL 21, rL 37, rL 38, rL 39] 58 O mixed (by decide) (dqo 0 [1] O O O (am O O) (dqo 1 [0] O O O (am O O) (dq 2 O O O (bi O O) (dq 3 O O O (oF O aC O aa O) (dl 4 [] O O O (oL O ae 2 O) (dq 5 O O O (dO O O O) (dq 6 O O O (am O O) (dqg 7 [1] (decide (c < x1)) O O O O O (fun cs => RQ.sub (E' := [(1, Iv x1)]) ⟨O, trivial⟩ (am O O)) (dqg 8 [0] (decide (c < x1)) O O O O O (fun c0 => RQ.sub (E' := [(0, .pointer (some ⟨g, 4, none⟩))]) ⟨O, trivial⟩ (am O O)) (dqg 9 [] (decide (c < x1)) O O O O O (fun a4 => RQ.sub (E' := [(27, .pointer (some ⟨g, 4, none⟩))]) ⟨aN O a4, trivial⟩ (bi O O)) (dqg 10 [] (decide (c < x1)) O O O O O (fun a5 => RQ.sub (E' := [(28, .pointer (some ⟨g, 4, none⟩))]) ⟨aN O a5, trivial⟩ (oF O aC O aa O)) (dlg 11 [] (decide (c < x1)) O O O O O (fun a6 => RQ.sub (E' := [(29, .pointer (some ⟨g, 7, none⟩))]) ⟨aN O a6, trivial⟩ (oL O ae 2 O)) (dqg 12 [] (decide (c < x1)) O O O O O (fun al => RQ.sub (E' := [(26, Iv x1), (30, Iv c)]) ⟨aN O al, aN O al, trivial⟩ (eL O O O)) (dqg 13 [0] (decide (c < x1)) O O O O O (fun c1 => RQ.sub (E' := [(0, .pointer (some ⟨g, 4, none⟩))]) ⟨O, trivial⟩ (am O O)) (dqg 14 [] (decide (c < x1)) O O O O O (fun a7 => RQ.sub (E' := [(32, .pointer (some ⟨g, 4, none⟩))]) ⟨aN O a7, trivial⟩ (bi O O)) (dqg 15 [] (decide (c < x1)) O O O O O (fun a8 => RQ.sub (E' := [(33, .pointer (some ⟨g, 4, none⟩))]) ⟨aN O a8, trivial⟩ (oF O aC O bR O)) (dlg 16 [] (decide (c < x1)) O O O O O (fun a9 => RQ.sub (E' := [(34, .pointer (some ⟨g, 9, none⟩))]) ⟨aN O a9, trivial⟩ (oL O dn 2 O)) (dqg 17 [] (decide (c < x1)) O O O O O (fun bc => RQ.sub (E' := [(35, .slice m e.length h)]) ⟨aN O bc, trivial⟩ (bL O O O bJ)) (dqg 18 [] (decide (c < x1)) O O O O O (fun an => RQ.sub (E' := [(31, Iv (IntKind.i64.wrap (x1 - c))), (36, Iv (e.length : Int))]) ⟨aN O an, aN O an, trivial⟩ (lv O O O)) (dq 19 O O O (fN O O O) (dq 20 O O O (am O O) (dqy 21 [0] O O O O O (cg d) (am O O) (dqy 22 [] O O O O O (cg d) (bi O O) (dqy 23 [] O O O O O (cg d) (oF O aC O bR O) (dly 24 [] O O O O O (cg d) (oL O dn 2 O) (dqy 25 [1] O O O O O (cg d) (am O O) (dqy 26 [0] O O O O O (cg d) (am O O) (dqy 27 [] O O O O O (cg d) (bi O O) (dqy 28 [] O O O O O (cg d) (oF O aC O aa O) (dly 29 [] O O O O O (cg d) (oL O ae 2 O) (dqy 30 [] O O O O O (cg d) (eL O O O) (dqy 31 [] O O O O O (cg d) (eL O O O) (dqy 32 [] O O O O O (cg d) (dM O O O b2 bJ dX a1.1 a1.2) (dqy 33 [] O O O O O (cg d) (oF O fc O aR O) (dqy 34 [] O O O O O (cg d) (oF O bj O aa O) (dly 35 [] O O O O O (cg d) (dR O O ae (hcell13v 3 O 0 _ O)) (dqy 36 [2] O O O O O (cg d) (am O O) (dqy 37 [] O O O O O (cg d) (cr O O O) (dq 38 O O O (bZ O O O O (oZ d _ _)) (dq 39 O O O (dx O O) (.fin [(6, .bool (decide ((e.getD (IntKind.i64.wrap ((IntKind.i64.wrap (x1 - c)) - 1)).toNat aD).1 = x2)))] O ⟨O, trivial⟩ ?_)))))))))))))))))))))))))))))))))))))))))
 exact aF (s := decide ((e.getD (IntKind.i64.wrap ((IntKind.i64.wrap (x1 - c)) - 1)).toNat aD).1 = x2)) () ⟨O, trivial⟩ (.a (.b (.a (.a .n))))
 refine bK [[], [], [1], [1, 2], [1, 2, 3], rL 5, rL 6, rL 7, rL 7, [0, 1, 2, 3, 4, 5, 6, 8], [0, 1, 2, 3, 4, 5, 6, 8, 9], [0, 1, 2, 3, 4, 5, 6, 8, 9, 10], rL 12, rL 7, [0, 1, 2, 3, 4, 5, 6, 13], [0, 1, 2, 3, 4, 5, 6, 13, 14], [0, 1, 2, 3, 4, 5, 6, 13, 14, 15], [0, 1, 2, 3, 4, 5, 6, 13, 14, 15, 16], rL 18, rL 19, rL 20, rL 21, rL 22, rL 23, rL 24, rL 21, rL 21, [0, 1, 2, 3, 4, 5, 6, 7, 8, 9, 10, 11, 12, 13, 14, 15, 16, 17, 18, 19, 20, 26], [0, 1, 2, 3, 4, 5, 6, 7, 8, 9, 10, 11, 12, 13, 14, 15, 16, 17, 18, 19, 20, 26, 27], [0, 1, 2, 3, 4, 5, 6, 7, 8, 9, 10, 11, 12, 13, 14, 15, 16, 17, 18, 19, 20, 26, 27, 28], [0, 1, 2, 3, 4, 5, 6, 7, 8, 9, 10, 11, 12, 13, 14, 15, 16, 17, 18, 19, 20, 25, 26, 27, 28, 29], [0, 1, 2, 3, 4, 5, 6, 7, 8, 9, 10, 11, 12, 13, 14, 15, 16, 17, 18, 19, 20, 25, 26, 27, 28, 29, 30], rL 32, rL 33, rL 34, rL 35, rL 21, rL 37, rL 38, rL 39] 58 O mixed (by decide) (dqo 0 [1] O O O (am O O) (dqo 1 [0] O O O (am O O) (dq 2 O O O (bi O O) (dq 3 O O O (oF O aC O aa O) (dl 4 [] O O O (oL O ae 2 O) (dq 5 O O O (dO O O O) (dq 6 O O O (am O O) (dqg 7 [1] (decide (c < x1)) O O O O O (fun c2 => RQ.sub (E' := [(1, Iv x1)]) ⟨O, trivial⟩ (am O O)) (dqg 8 [0] (decide (c < x1)) O O O O O (fun c3 => RQ.sub (E' := [(0, .pointer (some ⟨g, 4, none⟩))]) ⟨O, trivial⟩ (am O O)) (dqg 9 [] (decide (c < x1)) O O O O O (fun bd => RQ.sub (E' := [(27, .pointer (some ⟨g, 4, none⟩))]) ⟨aN O bd, trivial⟩ (bi O O)) (dqg 10 [] (decide (c < x1)) O O O O O (fun be => RQ.sub (E' := [(28, .pointer (some ⟨g, 4, none⟩))]) ⟨aN O be, trivial⟩ (oF O aC O aa O)) (dlg 11 [] (decide (c < x1)) O O O O O (fun br => RQ.sub (E' := [(29, .pointer (some ⟨g, 7, none⟩))]) ⟨aN O br, trivial⟩ (oL O ae 2 O)) (dqg 12 [] (decide (c < x1)) O O O O O (fun az => RQ.sub (E' := [(26, Iv x1), (30, Iv c)]) ⟨aN O az, aN O az, trivial⟩ (eL O O O)) (dqg 13 [0] (decide (c < x1)) O O O O O (fun c4 => RQ.sub (E' := [(0, .pointer (some ⟨g, 4, none⟩))]) ⟨O, trivial⟩ (am O O)) (dqg 14 [] (decide (c < x1)) O O O O O (fun bs => RQ.sub (E' := [(32, .pointer (some ⟨g, 4, none⟩))]) ⟨aN O bs, trivial⟩ (bi O O)) (dqg 15 [] (decide (c < x1)) O O O O O (fun bt => RQ.sub (E' := [(33, .pointer (some ⟨g, 4, none⟩))]) ⟨aN O bt, trivial⟩ (oF O aC O bR O)) (dlg 16 [] (decide (c < x1)) O O O O O (fun b0 => RQ.sub (E' := [(34, .pointer (some ⟨g, 9, none⟩))]) ⟨aN O b0, trivial⟩ (oL O dn 2 O)) (dqg 17 [] (decide (c < x1)) O O O O O (fun b1 => RQ.sub (E' := [(35, .slice m e.length h)]) ⟨aN O b1, trivial⟩ (bL O O O bJ)) (dqg 18 [] (decide (c < x1)) O O O O O (fun a0 => RQ.sub (E' := [(31, Iv (IntKind.i64.wrap (x1 - c))), (36, Iv (e.length : Int))]) ⟨aN O a0, aN O a0, trivial⟩ (lv O O O)) (dq 19 O O O (fN O O O) (dq 20 O O O (am O O) (dqn 21 [0] O O O O O (ci (eq_false_of_ne_true d)) (dqn 22 [] O O O O O (ci (eq_false_of_ne_true d)) (dqn 23 [] O O O O O (ci (eq_false_of_ne_true d)) (dqn 24 [] O O O O O (ci (eq_false_of_ne_true d)) (dqn 25 [1] O O O O O (ci (eq_false_of_ne_true d)) (dqn 26 [0] O O O O O (ci (eq_false_of_ne_true d)) (dqn 27 [] O O O O O (ci (eq_false_of_ne_true d)) (dqn 28 [] O O O O O (ci (eq_false_of_ne_true d)) (dqn 29 [] O O O O O (ci (eq_false_of_ne_true d)) (dqn 30 [] O O O O O (ci (eq_false_of_ne_true d)) (dqn 31 [] O O O O O (ci (eq_false_of_ne_true d)) (dqn 32 [] O O O O O (ci (eq_false_of_ne_true d)) (dqn 33 [] O O O O O (ci (eq_false_of_ne_true d)) (dqn 34 [] O O O O O (ci (eq_false_of_ne_true d)) (dqn 35 [] O O O O O (ci (eq_false_of_ne_true d)) (dqn 36 [2] O O O O O (ci (eq_false_of_ne_true d)) (dqn 37 [] O O O O O (ci (eq_false_of_ne_true d)) (dq 38 O O O (bZ O O O O (qf (eq_false_of_ne_true d) _ _)) (dq 39 O O O (dx O O) (.fin [(6, .bool false)] O ⟨O, trivial⟩ ?_)))))))))))))))))))))))))))))))))))))))))
 exact aF (s := false) () ⟨O, trivial⟩ (.a (.b (.a (.a .n))))
 intro d1 d2
 refine ay ?_
 exact aJ () O O O (.a (.b (.a (.a .n))))

def iJ.f (o : List ((List UInt8) × (List UInt8 × Int))) (p : List UInt8) (q : Int) (r : Bool) (b : Int) (c : List Int) (d e g h i j : Int) (k : List (aP)) (a : Bool) (u v w x y l m z ab ad : Int) (t : List UInt8) (x2 : Int) : Option (Bool × Int × List Int × Int × Int × Int × Int × Int × Int × (List (aP)) × Bool) := ((fa.f o p q r b c d e g h i j k a l m).bind fun s => (if (!s) = true then (some (l, m, ([] : List (aP)))) else (some (i, j, k)))).bind fun n => (some (true, b, c, d, e, g, h, n.1, n.2.1, n.2.2, a))
theorem iJ.calls (W : World) (F : HA) (an t d : Nat) (e : Kps) (m : List (Lb × (Lb × Int))) (n : Lb) (o : Int) (p : Bool) (u : Int) (g : Option Addr) (i : Nat) (j : List Int) (v w x z ab ad : Int) (af : Option Addr) (ag : Nat) (q : List aP) (k : HA) (l : Bool) (a4 a5 a6 a7 a8 az a0 a9 bc bd : Int) (a3 : Option Addr) (a1 : Nat) (al : Lb) (x2 : Int) (b7 : Rd k a3 (aL al)) (b5 : al.length ≤ a1) (b6 : a1 ≤ maxLen) :
    Fn Tryz.prog W 114 [.pointer (some ⟨an, 4, none⟩), .agg #[Iv a4, Iv a5, Iv a6, Iv a7, Iv a8, Iv az, Iv a0, Iv a9, Iv bc, Iv bd, .slice a3 al.length a1], Iv x2] [W0 t d n o p, ax (au d aB ar e) ak e m, W7 an t u j v w x z ab ad q l g i af ag, ah 3 1 (V3 tt) g j i, ah 144 5 (ba k) af q ag, k] F (iJ.f m n o p u j v w x z ab ad q l a4 a5 a6 a7 a8 az a0 a9 bc bd al x2) (fun r (y : Option Addr × Nat × Option Addr × Nat × HA) => .bool r.1) (fun r y => [pr (Up k y.q4), W0 t d n o p, ax (au d aB ar e) ak e m, W12 an t r.2 y.1 y.2.1 y.2.2.1 y.2.2.2.1, ah 3 1 (V3 tt) y.1 r.2.2.1 y.2.1, ah 144 5 (ba y.q4) y.2.2.1 r.q8.2.1 y.2.2.2.1, y.q4]) := by
 unfold iJ.f
 refine aX 27 Tryz.func114 O Tryz.ntmps114 O (sr (oE (cH O O O) O ?_))
 intro c3
 refine oA O (oT ?_)
 refine bP (S := Int × Int × (List aP)) (Option Addr × Nat) (fun s y => []) (fun s y => [W0 t d n o p, W7 an t u j v w x z s.1 s.2.1 s.2.2 l g i y.1 y.2, ax (au d aB ar e) ak e m, ah 3 1 (V3 tt) g j i, ah 144 5 (ba k) y.1 s.2.2 y.2, k, F]) ?_ ?_
 refine sr (oM O (vq (oF O aT O aa O) O (vq (oL O ae 0 O) O (vq (oF O aT O aa O) O (vq (oL O ae 0 O) O (bk 4 O (fun cd a2 => (bk 5 O (fun ch be => (aj (fun cs br => (bw 4 O (fun b3 b4 bs b8 => (bw 5 O (fun bt b0 b1 b9 => (oE (oC (vs := [.pointer (some ⟨an, 4, none⟩), Iv az, Iv a0]) (cap := []) (A := [W0 t d n o p, ax (au d aB ar e) ak e m, W7 an t u j v w x z ab ad q l g i af ag]) O call80 (.b (.b (.b (.a (.a (.a (.a (.a .n)))))))) (fa.calls _ _ an t d e m n o p u g i j v w x z ab ad af ag q l az a0 ((Rd.asV a2 b3).up (Up.lend 1 O) (fun _ _ h => h)) b4 bs ((Rd.asV be bt).up (Up.lend 2 O) (ba.up (Up.lend 3 O))) b0 b1) br) O ?_))))))))))))))))
 intro c0
 refine vq (iB O O) O (oT ?_)
 refine bm O (fun c1 => ?_) (fun c2 => ?_)
 refine bK [[], [], [], [], [3], [], [5], [0, 3, 4], [0, 3, 4, 7], [0, 3, 4, 7, 8], [0, 1, 3, 4, 5, 6, 7, 8, 9], [0, 1, 3, 4, 5, 6, 7, 8, 9, 10], [0, 1, 3, 4, 5, 6, 7, 8, 9, 10, 11], rL 13, rL 14, rL 15] 27 O mixed (by decide) (dqo 0 [0] O O O (am O O) (dqo 1 [0] O O O (am O O) (dqo 2 [0] O O O (am O O) (dqo 3 [4] O O O (oF O aT O aa O) (dl 4 [] O O O (oL O ae 3 O) (dqo 5 [4] O O O (oF O aT O aa O) (dl 6 [] O O O (oL O ae 3 O) (dq 7 O O O (bi O O) (dq 8 O O O (oF O aC O aa O) (de 9 [] O O O O (aI 2 O O O aa O O (aM (by rfl)) O O) (fun _ => (ac (px [] O O O O (oL O ae 3 O)) zA)) (fun _ => (dq 10 O O O (bi O O) (dq 11 O O O (oF O aC O aa O) (de 12 [] O O O O (aI 2 O O O aa O O (aM (by rfl)) O O) (fun _ => zA) (fun _ => (dq 13 O O O (bi O O) (dq 14 O O O (oF O aC O bR O) (de 15 [] O O O O (aI 2 O O O bR O O (aM (by rfl)) O O) (fun _ => zA) (fun _ => (.fin [] O trivial ?_))))))))))))))))))))
 exact aF (s := (az, a0, ([] : List aP))) (none, 0) trivial (.a (.b (.a (.sel' 1 O (ah.mk a2) (.rowV_nil (.c (.c .n)))))))
 refine aA ?_
 exact aF (s := (ab, ad, q)) (af, ag) trivial (.a (.b (.a (.sel' 1 O (ah.mk a2) (.sel' 1 O (ah.mk be) (.b (.b .n)))))))
 intro c4 b2
 refine sr (oA O (oT (ay ?_)))
 exact aJ (g, i, b2.1, b2.2, k) O O O (.pr_in (Up.refl _) (.a (.b (.a (.a (.a (.a (.a .n))))))))

def eQ.f (j : List ((List UInt8) × (List UInt8 × Int))) (k : List UInt8) (l : Int) (m : Bool) (n : Int) (g : List Int) (o p q r s t : Int) (h : List (aP)) (i : Bool) (e v w x y z ab ad af ag : Int) (u : List UInt8) (x2 : Int) : Option (Bool × Int × List Int × Int × Int × Int × Int × Int × Int × (List (aP)) × Bool) := (if e = (1 : Int) then ((eS.f).bind fun az => ((kh.f j k l m n g o p q r s t h i e v w x y z ab ad af ag u x2).bind fun c => (some (c.1, c.2.1, g, c.2.2.1, c.2.2.2.1, c.2.2.2.2.1, c.2.2.2.2.2.1, c.2.2.2.2.2.2.1, c.2.2.2.2.2.2.2.1, h, c.2.2.2.2.2.2.2.2)))) else (if e = (2 : Int) then ((eS.f).bind fun al => ((iI.f j k l m n g o p q r s t h i e v w x y z ab ad af ag u x2).bind fun a => (some (a.1, a.2.1, a.2.2.1, a.2.2.2.1, a.2.2.2.2.1, a.2.2.2.2.2.1, a.2.2.2.2.2.2.1, a.2.2.2.2.2.2.2.1, a.2.2.2.2.2.2.2.2.1, a.2.2.2.2.2.2.2.2.2.1, a.2.2.2.2.2.2.2.2.2.2)))) else (if e = (3 : Int) then ((eS.f).bind fun an => ((iJ.f j k l m n g o p q r s t h i e v w x y z ab ad af ag u x2).bind fun b => (some (b.1, b.2.1, b.2.2.1, b.2.2.2.1, b.2.2.2.2.1, b.2.2.2.2.2.1, b.2.2.2.2.2.2.1, b.2.2.2.2.2.2.2.1, b.2.2.2.2.2.2.2.2.1, b.2.2.2.2.2.2.2.2.2.1, b.2.2.2.2.2.2.2.2.2.2)))) else (none)))).bind fun d => (some (d.1, d.2.1, d.2.2.1, d.2.2.2.1, d.2.2.2.2.1, d.2.2.2.2.2.1, d.2.2.2.2.2.2.1, d.2.2.2.2.2.2.2.1, d.2.2.2.2.2.2.2.2.1, d.2.2.2.2.2.2.2.2.2.1, d.2.2.2.2.2.2.2.2.2.2))
theorem eQ.calls (W : World) (F : HA) (a6 af e : Nat) (g : Kps) (p : List (Lb × (Lb × Int))) (q : Lb) (t : Int) (u : Bool) (al : Int) (l : Option Addr) (m : Nat) (i : List Int) (an az a0 a1 a2 a3 : Int) (n : Option Addr) (o : Nat) (j : List aP) (k : HA) (w : Bool) (ag a7 a8 a9 bc bd be br bs bt : Int) (a4 : Option Addr) (ad : Nat) (v : Lb) (x2 : Int) (b4 : Rd k a4 (aL v)) (b2 : v.length ≤ ad) (b3 : ad ≤ maxLen) :
    Fn Tryz.prog W 53 [.pointer (some ⟨a6, 4, none⟩), .agg #[Iv ag, Iv a7, Iv a8, Iv a9, Iv bc, Iv bd, Iv be, Iv br, Iv bs, Iv bt, .slice a4 v.length ad], Iv x2] [W0 af e q t u, ax (au e aB ar g) ak g p, W7 a6 af al i an az a0 a1 a2 a3 j w l m n o, ah 3 1 (V3 tt) l i m, ah 144 5 (ba k) n j o, k] F (eQ.f p q t u al i an az a0 a1 a2 a3 j w ag a7 a8 a9 bc bd be br bs bt v x2) (fun r (y : Option Addr × Nat × Option Addr × Nat × HA) => .bool r.1) (fun r y => [pr (Up k y.q4), W0 af e q t u, ax (au e aB ar g) ak g p, W12 a6 af r.2 y.1 y.2.1 y.2.2.1 y.2.2.2.1, ah 3 1 (V3 tt) y.1 r.2.2.1 y.2.1, ah 144 5 (ba y.q4) y.2.2.1 r.q8.2.1 y.2.2.2.1, y.q4]) := by
 unfold eQ.f
 refine aX 15 Tryz.func53 O Tryz.ntmps53 O (sr (oE (cH O O O) O ?_))
 intro en
 refine oA O (oT ?_)
 refine bP (S := Bool × Int × List Int × Int × Int × Int × Int × Int × Int × (List aP) × Bool) (Option Addr × Nat × HA × Option Addr × Nat) (fun s y => [(6, .bool s.1)]) (fun s y => [pr (Up k y.2.2.1), W0 af e q t u, W12 a6 af s.2 y.1 y.2.1 y.2.2.2.1 y.q4, ax (au e aB ar g) ak g p, ah 3 1 (V3 tt) y.1 s.2.2.1 y.2.1, ah 144 5 (ba y.2.2.1) y.2.2.2.1 s.q8.2.1 y.q4, y.2.2.1, F]) ?_ ?_
 refine ji (fun b8 => ?_) (fun b8 => ?_)
 refine bq 4 O (fun eg b9 => (bq 5 O (fun ei cd => (bC (fun er ch => (bC (fun a5 cs => (bK [[], [], [1], [0, 1, 2], [], [], [], rL 7, rL 8] 15 O mixed (by decide) (dqo 1 [4] O O O (oF O aT O aa O) (dl 2 [] O O O (oL O ae 0 O) (dqo 4 [0] O O O (am O O) (dl 5 [4] O O O (cF 0 O O dH bV O O) (dqo 6 [2] O O O (am O O) (de 0 [] O O O O (oC (vs := []) (cap := []) (A := []) O call89 (.a (.a (.a (.a (.a (.a (.a (.a .n)))))))) (eS.calls _ _ ) ch) (fun d6 => (ac (px [4] O O O O (cF 1 O O dH bV O O)) (ac (px [] O O O O (oL O ae 1 O)) zA))) (fun d6 => (dl 3 [] O O O ((RQ.eq (by rw [b8]; rfl) (nP (ek := nA) (ev := kZ) (z := none) 0 ag O O O ga pF js O) : RQ _ _ _ _ (.func (.func 112) #[] #[]))) (de 7 [] O O O O (RE.lend 5 O (fun c0 c1 c2 ea => RE.lend 6 O (fun c3 c4 c5 eb => oC (vs := [.pointer (some ⟨a6, 4, none⟩), .agg #[Iv ag, Iv a7, Iv a8, Iv a9, Iv bc, Iv bd, Iv be, Iv br, Iv bs, Iv bt, .slice a4 v.length ad], Iv x2]) (cap := []) (A := [W0 af e q t u, ax (au e aB ar g) ak g p, W7 a6 af al i an az a0 a1 a2 a3 j w l m n o]) O call112 (.c (.c (.c (.a (.a (.a (.a (.a (.a .n))))))))) (kh.calls _ _ a6 af e g p q t u al l m i an az a0 a1 a2 a3 n o j w ag a7 a8 a9 bc bd be br bs bt a4 ad v x2 ((Rd.asV b9 c0).up (Up.lend 2 O) (fun _ _ h => h)) c1 c2 ((Rd.asV cd c3).up (Up.lend 3 O) (ba.up (Up.lend 4 O))) c4 c5 (b4.lend 4 O) b2 b3) cs))) (fun d7 => zA) (fun d7 => (dq 8 O O O (dx O O) (.fin [(6, .bool a5.1)] O ⟨O, trivial⟩ ?_))))))))))))))))))))
 exact aF (s := (a5.1, a5.2.1, i, a5.2.2.1, a5.2.2.2.1, a5.q4.1, a5.q4.2.1, a5.q4.2.2.1, a5.q4.2.2.2.1, j, a5.q8)) (l, m, k, n, o) ⟨O, trivial⟩ (.pr_in (Up.refl _) (.a (.b (.a (.sel' 2 O (ah.mk b9) (.sel' 2 O (ah.mk cd) (.c (.c .n))))))))
 refine ji (fun b6 => ?_) (fun b6 => ?_)
 refine bq 4 O (fun ec c6 => (bq 5 O (fun ed c7 => (bC (fun el c8 => (bC (fun x c9 => (bK [[], [], [1], [0, 1, 2], [], [], [], rL 7, rL 8] 15 O mixed (by decide) (dqo 1 [4] O O O (oF O aT O aa O) (dl 2 [] O O O (oL O ae 0 O) (dqo 4 [0] O O O (am O O) (dl 5 [4] O O O (cF 0 O O dH bV O O) (dqo 6 [2] O O O (am O O) (de 0 [] O O O O (oC (vs := []) (cap := []) (A := []) O call89 (.a (.a (.a (.a (.a (.a (.a (.a .n)))))))) (eS.calls _ _ ) c8) (fun d8 => (ac (px [4] O O O O (cF 1 O O dH bV O O)) (ac (px [] O O O O (oL O ae 1 O)) zA))) (fun d8 => (dl 3 [] O O O ((RQ.eq (by rw [b6]; rfl) (nP (ek := nA) (ev := kZ) (z := none) 0 ag O O O ga pF js O) : RQ _ _ _ _ (.func (.func 113) #[] #[]))) (de 7 [] O O O O (oC (vs := [.pointer (some ⟨a6, 4, none⟩), .agg #[Iv ag, Iv a7, Iv a8, Iv a9, Iv bc, Iv bd, Iv be, Iv br, Iv bs, Iv bt, .slice a4 v.length ad], Iv x2]) (cap := []) (A := [W0 af e q t u, ax (au e aB ar g) ak g p, W7 a6 af al i an az a0 a1 a2 a3 j w l m n o, ah 3 1 (V3 tt) l i m, ah 144 5 (ba k) n j o, k]) O call113 (.c (.c (.c (.sel' 2 O (ah.mk c6) (.sel' 2 O (ah.mk c7) (.c (.a (.a (.a .n))))))))) (iI.calls _ _ a6 af e g p q t u al l m i an az a0 a1 a2 a3 n o j k w ag a7 a8 a9 bc bd be br bs bt a4 ad v x2 b4 b2 b3) c9) (fun b0 => zA) (fun b0 => (.prk 0 O (fun ds => (dq 8 O O O (dx O O) (.fin [(6, .bool x.1)] O ⟨O, trivial⟩ ?_))))))))))))))))))))))
 exact aF (s := x) (b0.1, b0.2.1, b0.q4, b0.2.2.1, b0.2.2.2.1) ⟨O, trivial⟩ (.pr_in ds (.b (.c (.b (.b (.b (.b (.d .n))))))))
 refine ji (fun b7 => ?_) (fun b7 => ?_)
 refine bq 4 O (fun ee dz => (bq 5 O (fun ef d1 => (bC (fun em d2 => (bC (fun ab d3 => (bK [[], [], [1], [0, 1, 2], [], [], [], rL 7, rL 8] 15 O mixed (by decide) (dqo 1 [4] O O O (oF O aT O aa O) (dl 2 [] O O O (oL O ae 0 O) (dqo 4 [0] O O O (am O O) (dl 5 [4] O O O (cF 0 O O dH bV O O) (dqo 6 [2] O O O (am O O) (de 0 [] O O O O (oC (vs := []) (cap := []) (A := []) O call89 (.a (.a (.a (.a (.a (.a (.a (.a .n)))))))) (eS.calls _ _ ) d2) (fun d9 => (ac (px [4] O O O O (cF 1 O O dH bV O O)) (ac (px [] O O O O (oL O ae 1 O)) zA))) (fun d9 => (dl 3 [] O O O ((RQ.eq (by rw [b7]; rfl) (nP (ek := nA) (ev := kZ) (z := none) 0 ag O O O ga pF js O) : RQ _ _ _ _ (.func (.func 114) #[] #[]))) (de 7 [] O O O O (oC (vs := [.pointer (some ⟨a6, 4, none⟩), .agg #[Iv ag, Iv a7, Iv a8, Iv a9, Iv bc, Iv bd, Iv be, Iv br, Iv bs, Iv bt, .slice a4 v.length ad], Iv x2]) (cap := []) (A := [W0 af e q t u, ax (au e aB ar g) ak g p, W7 a6 af al i an az a0 a1 a2 a3 j w l m n o, ah 3 1 (V3 tt) l i m, ah 144 5 (ba k) n j o, k]) O call114 (.c (.c (.c (.sel' 2 O (ah.mk dz) (.sel' 2 O (ah.mk d1) (.c (.a (.a (.a .n))))))))) (iJ.calls _ _ a6 af e g p q t u al l m i an az a0 a1 a2 a3 n o j k w ag a7 a8 a9 bc bd be br bs bt a4 ad v x2 b4 b2 b3) d3) (fun b1 => zA) (fun b1 => (.prk 0 O (fun d4 => (dq 8 O O O (dx O O) (.fin [(6, .bool ab.1)] O ⟨O, trivial⟩ ?_))))))))))))))))))))))
 exact aF (s := ab) (b1.1, b1.2.1, b1.q4, b1.2.2.1, b1.2.2.2.1) ⟨O, trivial⟩ (.pr_in d4 (.b (.c (.b (.b (.b (.b (.d .n))))))))
 exact lQ
 intro es b5
 refine qg (fun d5 => (ay ?_))
 exact aJ (b5.1, b5.2.1, b5.2.2.2.1, b5.q4, b5.2.2.1) O O O (.pr_in d5 (.a (.b (.a (.a (.a (.a (.a .n))))))))

def di.l0 (x1 : Int) (i : List (List UInt8) × Int × Int) (e : (List ((List UInt8) × (List UInt8 × Int))) × List UInt8 × Int × Bool) : Nat → Int → Int → List Int → Int → Int → Int → Int → Int → Int → List (aP) → Bool → Option (Int × List Int × Int × Int × Int × Int × Int × Int × (List (aP)) × Bool)
  | 0, _, _, _, _, _, _, _, _, _, _, _ => none
  | k + 1, g, l, h, m, n, o, p, q, r, j, s => if g < (i.1.length : Int) then (if 0 ≤ g ∧ g < (i.1.length : Int) then ((gE.f k (i.1.getD g.toNat ([] : List UInt8))).bind fun a => ((if ((!a.2.2.2.2.2.2.2.2.2.2.2) || (!((decide (a.1 = (0 : Int))) == (decide (g = (0 : Int)))))) = true then ((cm.f (12 : Int)).bind fun t => (some ())) else (some ())).bind fun u => ((if g = (0 : Int) then (if a.2.1 = x1 then (if 0 ≤ (0 : Int) ∧ (0 : Int) < (h.length : Int) then ((jc.f e.1 e.2.1 e.2.2.1 e.2.2.2 l h m n o p q r j s a.1 a.2.1 a.2.2.1 a.2.2.2.1 a.2.2.2.2.1 a.2.2.2.2.2.1 a.2.2.2.2.2.2.1 a.2.2.2.2.2.2.2.1 a.2.2.2.2.2.2.2.2.1 a.2.2.2.2.2.2.2.2.2.1 a.2.2.2.2.2.2.2.2.2.2.1 (decide (x1 = (h.getD (0 : Int).toNat (0 : Int))))).bind fun d => (some (d.1, d.2.1, h, d.2.2.1, d.2.2.2.1, d.2.2.2.2.1, d.2.2.2.2.2.1, d.2.2.2.2.2.2.1, d.2.2.2.2.2.2.2.1, j, d.2.2.2.2.2.2.2.2))) else none) else (some (false, l, h, m, n, o, p, q, r, j, s))) else ((eQ.f e.1 e.2.1 e.2.2.1 e.2.2.2 l h m n o p q r j s a.1 a.2.1 a.2.2.1 a.2.2.2.1 a.2.2.2.2.1 a.2.2.2.2.2.1 a.2.2.2.2.2.2.1 a.2.2.2.2.2.2.2.1 a.2.2.2.2.2.2.2.2.1 a.2.2.2.2.2.2.2.2.2.1 a.2.2.2.2.2.2.2.2.2.2.1 x1).bind fun c => (some (c.1, c.2.1, c.2.2.1, c.2.2.2.1, c.2.2.2.2.1, c.2.2.2.2.2.1, c.2.2.2.2.2.2.1, c.2.2.2.2.2.2.2.1, c.2.2.2.2.2.2.2.2.1, c.2.2.2.2.2.2.2.2.2.1, c.2.2.2.2.2.2.2.2.2.2)))).bind fun b => (if (!b.1) = true then ((cm.f (12 : Int)).bind fun v => (di.l0 x1 i e k (IntKind.i64.wrap (g + 1)) b.2.1 b.2.2.1 b.2.2.2.1 b.2.2.2.2.1 b.2.2.2.2.2.1 b.2.2.2.2.2.2.1 b.2.2.2.2.2.2.2.1 b.2.2.2.2.2.2.2.2.1 b.2.2.2.2.2.2.2.2.2.1 b.2.2.2.2.2.2.2.2.2.2)) else (di.l0 x1 i e k (IntKind.i64.wrap (g + 1)) b.2.1 b.2.2.1 b.2.2.2.1 b.2.2.2.2.1 b.2.2.2.2.2.1 b.2.2.2.2.2.2.1 b.2.2.2.2.2.2.2.1 b.2.2.2.2.2.2.2.2.1 b.2.2.2.2.2.2.2.2.2.1 b.2.2.2.2.2.2.2.2.2.2))))) else none) else (some (l, h, m, n, o, p, q, r, j, s))
def di.f (k : Nat) (h : List ((List UInt8) × (List UInt8 × Int))) (i : List UInt8) (j : Int) (l : Bool) (n : Int) (b : List Int) (v o p q r s : Int) (t : List (aP)) (m : Bool) (x1 : Int) : Option (Bool × (List ((List UInt8) × (List UInt8 × Int))) × List UInt8 × Int × Bool × Int × List Int × Int × Int × Int × Int × Int × Int × (List (aP)) × Bool) := if 0 ≤ IntKind.i64.wrap ((b.length : Int) - 1) ∧ IntKind.i64.wrap ((b.length : Int) - 1) < (b.length : Int) then ((cA.f k x1).bind fun w => ((fQ.f h i j l w).bind fun u => ((cm.f u.2).bind fun y => ((ll.f k u.1).bind fun e => ((if ((!decide (e.2.2 = (0 : Int))) && (!decide (x1 = (b.getD (IntKind.i64.wrap ((b.length : Int) - 1)).toNat (0 : Int))))) = true then ((cm.f (12 : Int)).bind fun z => (some ())) else (some ())).bind fun ab => ((if e.2.2 = (0 : Int) then (some (h, i, j, l)) else ((cA.f k x1).bind fun x => ((iR.f h i j l x e.2.1).bind fun g => ((cm.f g.1).bind fun ad => (some (g.2.1, g.2.2.1, g.2.2.2.1, g.2.2.2.2)))))).bind fun d => (if ((decide ((e.1.length : Int) = (0 : Int))) && (decide (x1 = (b.getD (IntKind.i64.wrap ((b.length : Int) - 1)).toNat (0 : Int))))) = true then ((ju.f k d.1 d.2.1 d.2.2.1 d.2.2.2 n b v o p q r s t m x1).bind fun a => (some (true, a.1, a.2.1, a.2.2.1, a.2.2.2.1, a.2.2.2.2.1, a.2.2.2.2.2.1, a.2.2.2.2.2.2.1, a.2.2.2.2.2.2.2.1, a.2.2.2.2.2.2.2.2.1, a.2.2.2.2.2.2.2.2.2.1, a.2.2.2.2.2.2.2.2.2.2.1, a.2.2.2.2.2.2.2.2.2.2.2.1, a.2.2.2.2.2.2.2.2.2.2.2.2.1, a.2.2.2.2.2.2.2.2.2.2.2.2.2))) else ((if (e.1.length : Int) = (0 : Int) then ((cm.f (12 : Int)).bind fun af => (some ())) else (some ())).bind fun ag => ((di.l0 x1 e d k 0 n b e.2.1 o p q r s t m).bind fun c => (some (!decide (e.2.2 = (0 : Int)), d.1, d.2.1, d.2.2.1, d.2.2.2, c.1, c.2.1, c.2.2.1, c.2.2.2.1, c.2.2.2.2.1, c.2.2.2.2.2.1, c.2.2.2.2.2.2.1, c.2.2.2.2.2.2.2.1, c.2.2.2.2.2.2.2.2.1, c.2.2.2.2.2.2.2.2.2))))))))))) else none
theorem di.calls (W : World) (F : HA) (k z x a1 : Nat) (a2 : Kps) (be : List (Lb × (Lb × Int))) (br : Lb) (bs : Int) (bt : Bool) (a6 : Int) (af : Option Addr) (ag : Nat) (v : List Int) (b0 a7 a8 a9 bc bd : Int) (al : Option Addr) (an : Nat) (ad : List aP) (az : HA) (a3 : Bool) (x1 : Int) (hgl : Glb Tryz.prog F) :
    Fn Tryz.prog W 45 [Pt z, Iv x1] [W0 x a1 br bs bt, ax (au a1 aB ar a2) ak a2 be, W7 z x a6 v b0 a7 a8 a9 bc bd ad a3 af ag al an, ah 3 1 (V3 tt) af v ag, ah 144 5 (ba az) al ad an, az] F (di.f k be br bs bt a6 v b0 a7 a8 a9 bc bd ad a3 x1) (fun r (y : Nat × Kps × Option Addr × Nat × Option Addr × Nat × HA) => .bool r.1) (fun r y => [W11 x y.1 r.2.2, ax (au y.1 aB ar y.2.1) ak y.2.1 r.2.1, W12 z x r.2.2.2.2.2 y.2.2.1 y.2.2.2.1 y.2.2.2.2.1 y.2.2.2.2.2.1, ah 3 1 (V3 tt) y.2.2.1 r.2.2.2.2.2.2.1 y.2.2.2.1, ah 144 5 (ba y.2.2.2.2.2.2) y.2.2.2.2.1 r.2.2.2.2.2.2.2.2.2.2.2.2.2.1 y.2.2.2.2.2.1, y.2.2.2.2.2.2]) := by
 unfold di.f
 refine aX 135 Tryz.func45 O Tryz.ntmps45 O (sr (oA O (oT (ap (bq 3 O (fun hM c4 => (bq 4 O (fun hO c9 => (dh (fun ds => (jJ 3 O c4 O (i := (IntKind.i64.wrap ((v.length : Int) - 1)).toNat) (by omega) (0 : Int) (fun j4 hP j5 g6 e1 hb hcell12v => ?_))))))))))))
 obtain rfl := e1
 refine bK [[], [], [1], [1, 2], [1, 2, 3], [], [5], [5, 6], [5, 6, 7], [5, 6, 7, 8], [5, 6, 7, 8, 9], [1, 2, 3, 4, 5, 6, 7, 8, 9, 10], [1, 2, 3, 4, 5, 6, 7, 8, 9, 10, 11], rL 13, rL 14] 135 O mixed (by decide) (dqo 0 [1] O O O (am O O) (dqo 1 [0] O O O (am O O) (dq 2 O O O (bi O O) (dq 3 O O O (oF O av O bp O) (dl 4 [] O O O (oL O bO 2 O) (dqo 5 [0] O O O (am O O) (dq 6 O O O (bi O O) (dq 7 O O O (oF O av O bp O) (dl 8 [] O O O (oL O bO 2 O) (dq 9 O O O (bL O O O aO) (dq 10 O O O (eL O O O) (dq 11 O O O (dM O O O g6 aO aa ds.1 ds.2) (dl 12 [] O O O (dR O O ae (hcell12v 3 O 0 _ O)) (dq 13 O O O (cr O O O) (dq 14 O O O (dx O O) (.fin [(0, Pt z), (1, Iv x1), (5, .bool (decide (x1 = (v.getD (IntKind.i64.wrap ((v.length : Int) - 1)).toNat (0 : Int)))))] O ⟨O, O, O, trivial⟩ (ai (ap (bC (fun dz e2 => (bC (fun b6 e3 => (bK [[], [0], [0, 1], [0, 1, 2], [], [4], rL 6, rL 7, rL 8, rL 8, rL 9, rL 11] 135 O mixed (by decide) (dqo 0 [0] O O O (am O O) (dq 1 O O O (bi O O) (dq 2 O O O (oF O av O eR O) (dl 3 [] O O O (oL O co 2 O) (dqo 4 [1] O O O (am O O) (de 5 [] O O O O (oC (vs := [Iv x1]) (cap := []) (A := []) O fE (.a (.a (.a (.a (.a (.a (.a .n))))))) (cA.calls _ _ k x1 (hgl.lend 6 O)) e2) (fun g7 => (ac (px [] O O O O (oL O co 2 O)) zA)) (fun g7 => (de 6 [] O O O O (oC (vs := [Pt x, str dz]) (cap := []) (A := [W0 x a1 br bs bt, ax (au a1 aB ar a2) ak a2 be]) O call26 (.a (.a (.a (.a (.a (.a (.a .n))))))) (fQ.calls _ _ x a1 a2 be br bs bt dz ) e3) (fun b3 => zA) (fun b3 => (dq 7 O O O (am O O) (dq 8 O O O (bY O O O) (dq 9 O O O (bY O O O) (dq 10 O O O (dx O O) (dq 11 O O O (dx O O) (.fin [(0, Pt z), (1, Iv x1), (5, .bool (decide (x1 = (v.getD (IntKind.i64.wrap ((v.length : Int) - 1)).toNat (0 : Int))))), (6, .slice b3.1 b6.1.length b3.2), (7, Iv b6.2)] O ⟨O, O, O, O, O, trivial⟩ (ai (sr (oM O (aj (fun hR e4 => (oE (oC (vs := [Iv b6.2]) (cap := []) (A := []) O dN (.a (.a (.a (.a (.a (.a (.a (.a .n)))))))) (cm.calls _ _ b6.2 ) e4) O ?_))))))))))))))))))))))))))))))))))))))))))))
 intro hS
 refine nx (oM O (aj (fun t e5 => (bw 0 O (fun e6 e7 e8 hp => (oE (oC (vs := [.slice b3.1 b6.1.length b3.2]) (cap := []) (A := []) O call27 (.a (.a (.a (.a (.a (.a (.a (.a .n)))))))) (ll.calls _ _ k b3.1 b3.2 b6.1 (e6.lend 0 O) e7 e8) e5) O ?_))))))
 intro p
 refine oM O (vq (bY O O O) O (vq (bY O O O) O (vq (bY O O O) O (oA O (oA O (oA O (oT ?_)))))))
 refine bP (S := Unit) Unit (fun s y => [(0, Pt z), (1, Iv x1), (5, .bool (decide (x1 = (v.getD (IntKind.i64.wrap ((v.length : Int) - 1)).toNat (0 : Int))))), (7, Iv t.2.2), (8, .slice p.1 t.1.length p.2.1), (9, Iv t.2.1)]) (fun s y => [W0 x a1 br bs bt, W7 z x a6 v b0 a7 a8 a9 bc bd ad a3 af ag al an, ah 33 1 (V33 p.2.2) p.1 t.1 p.2.1, ax (au a1 aB ar a2) ak a2 be, ah 3 1 (V3 tt) af v ag, ah 144 5 (ba az) al ad an, p.2.2, az, F]) ?_ ?_
 refine sr (oM O (vq (ej O O O) O (oM O (ao (b := !decide (t.2.2 = (0 : Int))) (fun hq => RQ.sub (E' := [(5, .bool (decide (x1 = (v.getD (IntKind.i64.wrap ((v.length : Int) - 1)).toNat (0 : Int)))))]) ⟨O, trivial⟩ (am O O)) O O O O O (ao (b := !decide (t.2.2 = (0 : Int))) (fun e9 => RQ.sub (E' := [(49, .bool (decide (x1 = (v.getD (IntKind.i64.wrap ((v.length : Int) - 1)).toNat (0 : Int)))))]) ⟨aN O e9, trivial⟩ (iB O O)) O O O O O (vq (fN O O O) O (oT ?_)))))))
 refine bm O (fun hT => ?_) (fun hU => ?_)
 refine aG (aj (fun hV fl => (oE (oC (vs := [Iv 12]) (cap := []) (A := []) O dN (.a (.a (.a (.a (.a (.a (.a (.a (.a (.a .n)))))))))) (cm.calls _ _ (12 : Int) ) fl) O ?_)))
 intro hW
 refine aw ?_
 exact aF (s := ()) () ⟨O, O, O, O, O, O, trivial⟩ (.d (.e (.a (.c (.sel' 2 O (ah.mk c4) (.sel' 2 O (ah.mk c9) (.a (.b (.b .n)))))))))
 refine aA ?_
 exact aF (s := ()) () ⟨O, O, O, O, O, O, trivial⟩ (.d (.e (.a (.c (.sel' 2 O (ah.mk c4) (.sel' 2 O (ah.mk c9) (.a (.b (.b .n)))))))))
 intro hX hY
 refine bP (S := (List (Lb × (Lb × Int))) × Lb × Int × Bool) (Nat × Kps) (fun s y => [(0, Pt z), (1, Iv x1), (5, .bool (decide (x1 = (v.getD (IntKind.i64.wrap ((v.length : Int) - 1)).toNat (0 : Int))))), (7, Iv t.2.2), (8, .slice p.1 t.1.length p.2.1), (9, Iv t.2.1)]) (fun s y => [W1 x y.1 s.2, W7 z x a6 v b0 a7 a8 a9 bc bd ad a3 af ag al an, ah 33 1 (V33 p.2.2) p.1 t.1 p.2.1, ax (au y.1 aB ar y.2) ak y.2 s.1, ah 3 1 (V3 tt) af v ag, ah 144 5 (ba az) al ad an, p.2.2, az, F]) ?_ ?_
 refine sr (oM O (vq (ej O O O) O (oT ?_)))
 refine eN O (fun hZ => ?_) (fun h0 => ?_)
 refine aA ?_
 exact aF (s := (be, br, bs, bt)) (a1, a2) ⟨O, O, O, O, O, O, trivial⟩ (.a (.a (.a (.a (.a (.a (.a (.a (.a .n)))))))))
 refine bq 2 O (fun hr fn => (bq 4 O (fun hs fp => (bq 5 O (fun ht fr => (bC (fun d1 fs => (bC (fun b7 ft => (bC (fun h2 fz => (bK [[], [0], [0, 1], [0, 1, 2], [], [4], [], rL 7, rL 8] 135 O mixed (by decide) (dqo 0 [0] O O O (am O O) (dq 1 O O O (bi O O) (dq 2 O O O (oF O av O eR O) (dl 3 [] O O O (oL O co 1 O) (dqo 4 [1] O O O (am O O) (dqo 6 [9] O O O (am O O) (de 5 [] O O O O (oC (vs := [Iv x1]) (cap := []) (A := []) O fE (.a (.a (.a (.a (.a (.a (.a (.a (.a .n))))))))) (cA.calls _ _ k x1 (hgl.lend 8 O)) fs) (fun g8 => (ac (px [] O O O O (oL O co 1 O)) zA)) (fun g8 => (de 7 [] O O O O (oC (vs := [Pt x, str d1, Iv t.2.1]) (cap := []) (A := [W0 x a1 br bs bt, ax (au a1 aB ar a2) ak a2 be]) O call74 (.a (.c (.a (.a (.a (.a (.a (.a (.a .n))))))))) (iR.calls _ _ x a1 a2 be br bs bt d1 t.2.1 ) ft) (fun c5 => zA) (fun c5 => (de 8 [] O O O O (oC (vs := [Iv b7.1]) (cap := []) (A := []) O dN (.a (.a (.a (.a (.a (.a (.a (.a (.a .n))))))))) (cm.calls _ _ b7.1 ) fz) (fun g9 => zA) (fun g9 => (.fin [(0, Pt z), (1, Iv x1), (5, .bool (decide (x1 = (v.getD (IntKind.i64.wrap ((v.length : Int) - 1)).toNat (0 : Int))))), (7, Iv t.2.2), (8, .slice p.1 t.1.length p.2.1), (9, Iv t.2.1)] O ⟨O, O, O, O, O, O, trivial⟩ ?_)))))))))))))))))))))))))
 exact aF (s := b7.2) c5 ⟨O, O, O, O, O, O, trivial⟩ (.a (.b (.sel' 1 O (ah.mk fn) (.a (.sel' 0 O (ah.mk fp) (.sel' 0 O (ah.mk fr) (.a (.a (.a .n)))))))))
 intro o q
 refine ap (sr (oM O (vq (bL O O O cz) O (vq (cr O O O) O (oM O (ao (b := decide ((t.1.length : Int) = (0 : Int))) (fun hc => RQ.sub (E' := [(5, .bool (decide (x1 = (v.getD (IntKind.i64.wrap ((v.length : Int) - 1)).toNat (0 : Int)))))]) ⟨O, trivial⟩ (am O O)) O O O O O (vq (fN O O O) O (oT ?_))))))))
 refine bm O (fun h3 => ?_) (fun h4 => ?_)
 refine sr (oM O (oM O (bk 4 O (fun hu go => (bk 5 O (fun hv gs => (aj (fun h5 gy => (oE (oC (vs := [Pt z, Iv x1]) (cap := []) (A := [W1 x q.1 o.2, ax (au q.1 aB ar q.2) ak q.2 o.1, W7 z x a6 v b0 a7 a8 a9 bc bd ad a3 af ag al an, ah 3 1 (V3 tt) af v ag, ah 144 5 (ba az) al ad an, az]) O call75 (.a (.c (.a (.sel' 1 O (ah.mk go) (.sel' 1 O (ah.mk gs) (.c (.a (.a (.a .n))))))))) (ju.calls _ _ k z x q.1 q.2 o.1 o.2.1 o.2.2.1 o.2.2.2 a6 af ag v b0 a7 a8 a9 bc bd al an ad az a3 x1 (hgl.lend 2 O)) gy) O ?_)))))))))
 intro b4
 refine nx (oA O (oT (ay (aY ?_))))
 exact aJ b4 O O O (.a (.a (.a (.a (.a (.a (.c .n)))))))
 refine aA (ai ?_)
 refine bP (S := Unit) Unit (fun s y => [(0, Pt z), (1, Iv x1), (7, Iv t.2.2), (8, .slice p.1 t.1.length p.2.1), (9, Iv t.2.1)]) (fun s y => [W1 x q.1 o.2, W7 z x a6 v b0 a7 a8 a9 bc bd ad a3 af ag al an, ah 33 1 (V33 p.2.2) p.1 t.1 p.2.1, ax (au q.1 aB ar q.2) ak q.2 o.1, ah 3 1 (V3 tt) af v ag, ah 144 5 (ba az) al ad an, p.2.2, az, F]) ?_ ?_
 refine sr (oM O (vq (bL O O O cz) O (vq (cr O O O) O (oT ?_))))
 refine bu O (fun h6 => ?_) (fun h7 => ?_)
 refine aG (aj (fun h8 g0 => (oE (oC (vs := [Iv 12]) (cap := []) (A := []) O dN (.a (.a (.a (.a (.a (.a (.a (.a (.a .n))))))))) (cm.calls _ _ (12 : Int) ) g0) O ?_)))
 intro h9
 refine aw ?_
 exact aF (s := ()) () ⟨O, O, O, O, O, trivial⟩ (.a (.a (.a (.a (.a (.a (.a (.a (.a .n)))))))))
 refine aA ?_
 exact aF (s := ()) () ⟨O, O, O, O, O, trivial⟩ (.a (.a (.a (.a (.a (.a (.a (.a (.a .n)))))))))
 intro ih it
 refine sr (oM O (oM O (oN O (vq (oF O av O aa O) O (bg (aI 1 O O O aa O O (aM (by rfl)) O O) O O ?_)))))
 intro _
 refine cl (H' := [W1 x q.1 o.2, W7 z x a6 v t.2.1 a7 a8 a9 bc bd ad a3 af ag al an, ah 33 1 (V33 p.2.2) p.1 t.1 p.2.1, ax (au q.1 aB ar q.2) ak q.2 o.1, ah 3 1 (V3 tt) af v ag, ah 144 5 (ba az) al ad an, p.2.2, az, F]) (Ent.refl _) (oT ?_)
 refine bP (S := Int × List Int × Int × Int × Int × Int × Int × Int × (List aP) × Bool) (Option Addr × Nat × HA × Option Addr × Nat) (fun s y => [(7, Iv t.2.2)]) (fun s y => [W1 x q.1 o.2, W12 z x s y.1 y.2.1 y.2.2.2.1 y.2.2.2.2, ax (au q.1 aB ar q.2) ak q.2 o.1, ah 3 1 (V3 tt) y.1 s.2.1 y.2.1, ah 144 5 (ba y.2.2.1) y.2.2.2.1 s.2.2.2.2.2.2.2.2.1 y.2.2.2.2, y.2.2.1, F]) ?_ ?_
 refine sr (oM O (vq (bL O O O cz) O (oM O (oT (aZ ?_)))))
 refine da (S := Int × Int × List Int × Int × Int × Int × Int × Int × Int × (List aP) × Bool) (Option Addr × Nat × HA × Option Addr × Nat) (fun k s => di.l0 x1 t o k s.1 s.2.1 s.2.2.1 s.2.2.2.1 s.2.2.2.2.1 s.2.2.2.2.2.1 s.2.2.2.2.2.2.1 s.2.2.2.2.2.2.2.1 s.2.2.2.2.2.2.2.2.1 s.2.2.2.2.2.2.2.2.2.1 s.2.2.2.2.2.2.2.2.2.2) (fun s y => [(0, Pt z), (1, Iv x1), (7, Iv t.2.2), (81, .slice p.1 t.1.length p.2.1), (82, Iv (t.1.length : Int)), (83, Iv s.1)]) (fun s y => [W1 x q.1 o.2, W12 z x s.2 y.1 y.2.1 y.2.2.2.1 y.2.2.2.2, ah 33 1 (V33 p.2.2) p.1 t.1 p.2.1, ax (au q.1 aB ar q.2) ak q.2 o.1, ah 3 1 (V3 tt) y.1 s.2.2.1 y.2.1, ah 144 5 (ba y.2.2.1) y.2.2.2.1 s.2.2.2.2.2.2.2.2.2.1 y.2.2.2.2, p.2.2, y.2.2.1, F]) (fun _ => by rw [di.l0]) ?_ k (0, a6, v, t.2.1, a7, a8, a9, bc, bd, ad, a3) (af, ag, az, al, an) ⟨O, O, O, O, O, O, trivial⟩ (.a (.a (.a (.a (.a (.a (.a (.a (.a .n)))))))))
 intro k j n
 refine dW (by rw [di.l0]) (sr (vq (dG O O O) O (oT (ap ?_))))
 refine bu O (fun jg => ?_) (fun j0 => ?_)
 refine aA (ai (ap (aZ (sr (oM O (bk 2 O (fun g1 cd => (bo (fun c6 => (gv 2 O cd O (i := j.1.toNat) (by omega) ([] : Lb) (fun j1 hw j2 g2 g3 he hcell97v => ?_)))))))))))
 obtain ⟨c7, c8, rfl, ⟨d2, d3, d4⟩⟩ := g3
 refine vq (dM O O O g2 cz bM c6.1 c6.2) O (vq (dR O O cP (hcell97v 2 O 0 _ O)) O (oA O (oA O (nx (oM O (aj (fun g d5 => (oE (oC (vs := [.slice c7 ((t.1.getD j.1.toNat ([] : Lb)).length) c8]) (cap := []) (A := []) O call76 (.a (.a (.a (.a (.a (.a (.a (.a (.a .n))))))))) (gE.calls _ _ k c7 c8 (t.1.getD j.1.toNat ([] : Lb)) (d2.lend 6 O) d3 d4) d5) O ?_))))))))
 intro u
 refine oM O (vq (bY O O O) O (vq (bY O O O) O (oE (bX O iF O) O ?_)))
 intro b1
 refine bg (aI 0 O O O bV O O (aM (by rfl)) O O) O O ?_
 intro _
 refine cl (H' := [W22 b1 g u.1 u.2, Row 5 1 u.1 g.2.2.2.2.2.2.2.2.2.2.1.length u.2 (aL g.2.2.2.2.2.2.2.2.2.2.1), W1 x q.1 o.2, W12 z x j.2 n.1 n.2.1 n.2.2.2.1 n.2.2.2.2, Row 33 1 p.1 t.1.length p.2.1 g1.flatten, ax (au q.1 aB ar q.2) ak q.2 o.1, ah 3 1 (V3 tt) n.1 j.2.2.1 n.2.1, ah 144 5 (ba n.2.2.1) n.2.2.2.1 j.2.2.2.2.2.2.2.2.2.1 n.2.2.2.2, p.2.2, n.2.2.1, F]) (Ent.refl _) (oA O (oT ?_))
 refine bP (S := Unit) Unit (fun s y => [(0, Pt z), (1, Iv x1), (7, Iv t.2.2), (10, Iv j.1), (12, Pt b1), (81, .slice p.1 t.1.length p.2.1), (82, Iv (t.1.length : Int)), (83, Iv j.1)]) (fun s y => [W22 b1 g u.1 u.2, W1 x q.1 o.2, W12 z x j.2 n.1 n.2.1 n.2.2.2.1 n.2.2.2.2, ah 33 1 (V33 p.2.2) p.1 t.1 p.2.1, Row 5 1 u.1 g.2.2.2.2.2.2.2.2.2.2.1.length u.2 (aL g.2.2.2.2.2.2.2.2.2.2.1), ax (au q.1 aB ar q.2) ak q.2 o.1, ah 3 1 (V3 tt) n.1 j.2.2.1 n.2.1, ah 144 5 (ba n.2.2.1) n.2.2.2.1 j.2.2.2.2.2.2.2.2.2.1 n.2.2.2.2, p.2.2, n.2.2.1, F]) ?_ ?_
 refine sr (oM O (vq (iB O O) O (oM O (ao (b := !g.2.2.2.2.2.2.2.2.2.2.2) (fun hf => RQ.sub (E' := [(12, Pt b1)]) ⟨O, trivial⟩ (oF O aT O aa O)) O O O O O (ao (b := !g.2.2.2.2.2.2.2.2.2.2.2) (fun d6 => RQ.sub (E' := [(96, Pt b1)]) ⟨aN O d6, trivial⟩ (oL O ae 0 O)) O O O O O (ao (b := !g.2.2.2.2.2.2.2.2.2.2.2) (fun d7 => RQ.sub (E' := [(97, Iv g.1)]) ⟨aN O d7, trivial⟩ (cr O O O)) O O O O O (ao (b := !g.2.2.2.2.2.2.2.2.2.2.2) (fun hg => RQ.sub (E' := [(10, Iv j.1)]) ⟨O, trivial⟩ (am O O)) O O O O O (ao (b := !g.2.2.2.2.2.2.2.2.2.2.2) (fun d8 => RQ.sub (E' := [(99, Iv j.1)]) ⟨aN O d8, trivial⟩ (cr O O O)) O O O O O (ao (b := !g.2.2.2.2.2.2.2.2.2.2.2) (fun ch => RQ.sub (E' := [(98, .bool (decide (g.1 = (0 : Int)))), (100, .bool (decide (j.1 = (0 : Int))))]) ⟨aN O ch, aN O ch, trivial⟩ (Bc O O O underlying4)) O O O O O (vq (ik O O O) O (oT ?_)))))))))))
 refine bm O (fun hx => ?_) (fun hy => ?_)
 refine aG (aj (fun hz d9 => (oE (oC (vs := [Iv 12]) (cap := []) (A := []) O dN (.a (.a (.a (.a (.a (.a (.a (.a (.a (.a (.a .n))))))))))) (cm.calls _ _ (12 : Int) ) d9) O ?_)))
 intro hA
 refine aw ?_
 exact aF (s := ()) () ⟨O, O, O, O, O, O, O, O, trivial⟩ (.a (.b (.b (.sel' 1 O (ah.mk cd) (.a (.a (.a (.a (.a (.a (.a .n)))))))))))
 refine aA ?_
 exact aF (s := ()) () ⟨O, O, O, O, O, O, O, O, trivial⟩ (.a (.b (.b (.sel' 1 O (ah.mk cd) (.a (.a (.a (.a (.a (.a (.a .n)))))))))))
 intro hB hC
 refine bP (S := Bool × Int × List Int × Int × Int × Int × Int × Int × Int × (List aP) × Bool) (Option Addr × Nat × HA × Option Addr × Nat) (fun s y => [(0, Pt z), (1, Iv x1), (7, Iv t.2.2), (13, .bool s.1), (81, .slice p.1 t.1.length p.2.1), (82, Iv (t.1.length : Int)), (83, Iv j.1)]) (fun s y => [W1 x q.1 o.2, W12 z x s.2 y.1 y.2.1 y.2.2.2.1 y.2.2.2.2, ah 33 1 (V33 p.2.2) p.1 t.1 p.2.1, ax (au q.1 aB ar q.2) ak q.2 o.1, ah 3 1 (V3 tt) y.1 s.2.2.1 y.2.1, ah 144 5 (ba y.2.2.1) y.2.2.2.1 s.2.2.2.2.2.2.2.2.2.1 y.2.2.2.2, p.2.2, y.2.2.1, F]) ?_ ?_
 refine sr (oM O (vq (cr O O O) O (oT ?_)))
 refine bu O (fun hE => ?_) (fun hF => ?_)
 refine bq 3 O (fun hh cs => (bq 6 O (fun hi b5 => (bq 7 O (fun hj b8 => ?_)))))
 refine ji (fun w => ?_) (fun w => ?_)
 refine dh (fun c0 => (jJ 6 O b5 O (i := (0 : Int).toNat) (by omega) (0 : Int) (fun g4 ea hG eb ec ha hcell140v => ?_)))
 obtain rfl := ec
 refine bC (fun a4 ed => (bK [[], [0], [], [0, 1, 2], rL 4, rL 5, rL 5, rL 5, rL 5, [0, 1, 2, 3, 4, 8], [0, 1, 2, 3, 4, 8, 9], [0, 1, 2, 3, 4, 8, 9, 10], [0, 1, 2, 3, 4, 8, 9, 10, 11], [0, 1, 2, 3, 4, 8, 9, 10, 11, 12], [0, 1, 2, 3, 4, 7, 8, 9, 10, 11, 12, 13], rL 15, rL 16, rL 17] 135 O mixed (by decide) (dqo 0 [12] O O O (oF O aT O aa O) (dl 1 [] O O O (oL O ae 0 O) (dqo 2 [1] O O O (am O O) (dq 3 O O O (cr O O O) (dq 4 O O O (am O O) (dqy 5 [0] O O O O O (cg (decide_eq_true w)) (am O O) (dly 6 [12] O O O O O (cg (decide_eq_true w)) (cF 0 O O dH bV O O) (dqy 7 [1] O O O O O (cg (decide_eq_true w)) (am O O) (dqy 8 [0] O O O O O (cg (decide_eq_true w)) (am O O) (dqy 9 [] O O O O O (cg (decide_eq_true w)) (bi O O) (dqy 10 [] O O O O O (cg (decide_eq_true w)) (oF O av O bp O) (dly 11 [] O O O O O (cg (decide_eq_true w)) (oL O bO 2 O) (dqy 12 [] O O O O O (cg (decide_eq_true w)) (dM O O O eb aO aa c0.1 c0.2) (dly 13 [] O O O O O (cg (decide_eq_true w)) (dR O O ae (hcell140v 6 O 0 _ O)) (dqy 14 [] O O O O O (cg (decide_eq_true w)) (cr O O O) (dey 15 [] O O O O O O (cg (decide_eq_true w)) (RE.lend 6 O (fun ee ef eg hk => RE.lend 7 O (fun ei ek el hl => RE.lend 4 O (fun em en er hm => oC (vs := [Pt z, .agg #[Iv g.1, Iv g.2.1, Iv g.2.2.1, Iv g.2.2.2.1, Iv g.2.2.2.2.1, Iv g.2.2.2.2.2.1, Iv g.2.2.2.2.2.2.1, Iv g.2.2.2.2.2.2.2.1, Iv g.2.2.2.2.2.2.2.2.1, Iv g.2.2.2.2.2.2.2.2.2.1, .slice u.1 g.2.2.2.2.2.2.2.2.2.2.1.length u.2], .bool (decide (x1 = (j.2.2.1.getD (0 : Int).toNat (0 : Int))))]) (cap := []) (A := [W1 x q.1 o.2, ax (au q.1 aB ar q.2) ak q.2 o.1, W12 z x j.2 n.1 n.2.1 n.2.2.2.1 n.q4]) O call77 (.b (.e (.b (.a (.a (.a (.a (.a (.a (.a (.a .n))))))))))) (jc.calls _ _ z x q.1 q.2 o.1 o.2.1 o.2.2.1 o.2.2.2 j.2.1 n.1 n.2.1 j.2.2.1 j.2.2.2.1 j.2.2.2.2.1 j.2.2.2.2.2.1 j.2.2.2.2.2.2.1 j.2.2.2.2.2.2.2.1 j.2.2.2.2.2.2.2.2.1 n.2.2.2.1 n.2.2.2.2 j.2.2.2.2.2.2.2.2.2.1 j.2.2.2.2.2.2.2.2.2.2 g.1 g.2.1 g.2.2.1 g.2.2.2.1 g.2.2.2.2.1 g.2.2.2.2.2.1 g.2.2.2.2.2.2.1 g.2.2.2.2.2.2.2.1 g.2.2.2.2.2.2.2.2.1 g.2.2.2.2.2.2.2.2.2.1 u.1 u.2 g.2.2.2.2.2.2.2.2.2.2.1 (decide (x1 = (j.2.2.1.getD (0 : Int).toNat (0 : Int)))) ((Rd.asV b5 ee).up (Up.lend 3 O) (fun _ _ h => h)) ef eg ((Rd.asV b8 ei).up (Up.lend 4 O) (ba.up (Up.lend 6 O))) ek el (em.lend 2 O) en er) ed)))) (fun g5 => zA) (fun g5 => (dq 16 O O O (bZ O O O O (oZ (decide_eq_true w) _ _)) (dq 17 O O O (dx O O) (.fin [(0, Pt z), (1, Iv x1), (7, Iv t.2.2), (13, .bool a4.1), (81, .slice p.1 t.1.length p.2.1), (82, Iv (t.1.length : Int)), (83, Iv j.1), (111, Pt z), (112, .agg #[Iv g.1, Iv g.2.1, Iv g.2.2.1, Iv g.2.2.2.1, Iv g.2.2.2.2.1, Iv g.2.2.2.2.2.1, Iv g.2.2.2.2.2.2.1, Iv g.2.2.2.2.2.2.2.1, Iv g.2.2.2.2.2.2.2.2.1, Iv g.2.2.2.2.2.2.2.2.2.1, .slice u.1 g.2.2.2.2.2.2.2.2.2.2.1.length u.2]), (113, Iv x1), (114, Pt z), (115, Pt z), (116, .pointer (some ⟨z, 2, none⟩)), (117, .slice n.1 j.2.2.1.length n.2.1), (118, .pointer (some ⟨g4, ea + (0 : Int).toNat * 1, none⟩)), (119, Iv (j.2.2.1.getD (0 : Int).toNat (0 : Int))), (120, .bool (decide (x1 = (j.2.2.1.getD (0 : Int).toNat (0 : Int))))), (121, .bool a4.1)] O ⟨O, O, O, O, O, O, O, O, O, O, O, O, O, O, O, O, O, O, trivial⟩ ?_))))))))))))))))))))))
 exact aF (s := (a4.1, a4.2.1, j.2.2.1, a4.2.2.1, a4.2.2.2.1, a4.2.2.2.2.1, a4.2.2.2.2.2.1, a4.2.2.2.2.2.2.1, a4.2.2.2.2.2.2.2.1, j.2.2.2.2.2.2.2.2.2.1, a4.2.2.2.2.2.2.2.2)) n ⟨O, O, O, O, O, O, O, trivial⟩ (.a (.b (.sel' 2 O (ah.mk cs) (.a (.sel' 2 O (ah.mk b5) (.sel' 2 O (ah.mk b8) (.c (.c (.c .n)))))))))
 refine bK [[], [0], [], [0, 1, 2], rL 4, rL 5, rL 5, rL 5, rL 5, [0, 1, 2, 3, 4, 8], [0, 1, 2, 3, 4, 8, 9], [0, 1, 2, 3, 4, 8, 9, 10], [0, 1, 2, 3, 4, 8, 9, 10, 11], [0, 1, 2, 3, 4, 8, 9, 10, 11, 12], [0, 1, 2, 3, 4, 7, 8, 9, 10, 11, 12, 13], rL 15, rL 16, rL 17] 135 O mixed (by decide) (dqo 0 [12] O O O (oF O aT O aa O) (dl 1 [] O O O (oL O ae 0 O) (dqo 2 [1] O O O (am O O) (dq 3 O O O (cr O O O) (dq 4 O O O (am O O) (dqn 5 [0] O O O O O (ci (decide_eq_false w)) (dqn 6 [12] O O O O O (ci (decide_eq_false w)) (dqn 7 [1] O O O O O (ci (decide_eq_false w)) (dqn 8 [0] O O O O O (ci (decide_eq_false w)) (dqn 9 [] O O O O O (ci (decide_eq_false w)) (dqn 10 [] O O O O O (ci (decide_eq_false w)) (dqn 11 [] O O O O O (ci (decide_eq_false w)) (dqn 12 [] O O O O O (ci (decide_eq_false w)) (dqn 13 [] O O O O O (ci (decide_eq_false w)) (dqn 14 [] O O O O O (ci (decide_eq_false w)) (dqn 15 [] O O O O O (ci (decide_eq_false w)) (dq 16 O O O (bZ O O O O (qf (decide_eq_false w) _ _)) (dq 17 O O O (dx O O) (.fin [(0, Pt z), (1, Iv x1), (7, Iv t.2.2), (13, .bool false), (81, .slice p.1 t.1.length p.2.1), (82, Iv (t.1.length : Int)), (83, Iv j.1), (111, undef), (112, undef), (113, undef), (114, undef), (115, undef), (116, undef), (117, undef), (118, undef), (119, undef), (120, undef), (121, undef)] O ⟨O, O, O, O, O, O, O, O, O, O, O, O, O, O, O, O, O, O, trivial⟩ ?_)))))))))))))))))))
 exact aF (s := (false, j.2)) n ⟨O, O, O, O, O, O, O, trivial⟩ (.b (.b (.sel' 1 O (ah.mk cs) (.c (.sel' 2 O (ah.mk b5) (.sel' 2 O (ah.mk b8) (.c (.c (.c .n)))))))))
 refine bq 3 O (fun c1 es => (bq 6 O (fun c2 et => (bq 7 O (fun c3 ex => (bC (fun a0 eA => (bK [[], [0], [0, 1], [], [], rL 5, rL 6] 135 O mixed (by decide) (dqo 0 [0] O O O (am O O) (dq 1 O O O (bi O O) (dq 2 O O O (oF O av O fb O) (dl 3 [12] O O O (cF 0 O O dH bV O O) (dqo 4 [1] O O O (am O O) (de 5 [] O O O O (RE.lend 4 O (fun eB eD eF hn => RE.ent (H1 := [bl [Row 5 1 u.1 g.2.2.2.2.2.2.2.2.2.2.1.length u.2 (aL g.2.2.2.2.2.2.2.2.2.2.1), n.2.2.1], W22 b1 g u.1 u.2, W1 x q.1 o.2, W12 z x j.2 n.1 n.2.1 n.2.2.2.1 n.2.2.2.2, Row 33 1 p.1 t.1.length p.2.1 c1.flatten, ax (au q.1 aB ar q.2) ak q.2 o.1, Row 3 1 n.1 j.2.2.1.length n.2.1 c2.flatten, Row 144 5 n.2.2.2.1 j.2.2.2.2.2.2.2.2.2.1.length n.2.2.2.2 c3.flatten, p.2.2, F]) (Ent.trans (m := [Row 5 1 u.1 g.2.2.2.2.2.2.2.2.2.2.1.length u.2 (aL g.2.2.2.2.2.2.2.2.2.2.1), n.2.2.1, W22 b1 g u.1 u.2, W1 x q.1 o.2, W12 z x j.2 n.1 n.2.1 n.2.2.2.1 n.2.2.2.2, Row 33 1 p.1 t.1.length p.2.1 c1.flatten, ax (au q.1 aB ar q.2) ak q.2 o.1, Row 3 1 n.1 j.2.2.1.length n.2.1 c2.flatten, Row 144 5 n.2.2.2.1 j.2.2.2.2.2.2.2.2.2.1.length n.2.2.2.2 c3.flatten, p.2.2, F]) (.e (.i (.a (.a (.a (.a (.a (.a (.a (.a (.a .n))))))))))) (jv [Row 5 1 u.1 g.2.2.2.2.2.2.2.2.2.2.1.length u.2 (aL g.2.2.2.2.2.2.2.2.2.2.1), n.2.2.1] _)) (oC (vs := [.pointer (some ⟨z, 4, none⟩), .agg #[Iv g.1, Iv g.2.1, Iv g.2.2.1, Iv g.2.2.2.1, Iv g.2.2.2.2.1, Iv g.2.2.2.2.2.1, Iv g.2.2.2.2.2.2.1, Iv g.2.2.2.2.2.2.2.1, Iv g.2.2.2.2.2.2.2.2.1, Iv g.2.2.2.2.2.2.2.2.2.1, .slice u.1 g.2.2.2.2.2.2.2.2.2.2.1.length u.2], Iv x1]) (cap := []) (A := [W1 x q.1 o.2, ax (au q.1 aB ar q.2) ak q.2 o.1, W12 z x j.2 n.1 n.2.1 n.2.2.2.1 n.q4, ah 3 1 (V3 tt) n.1 j.2.2.1 n.2.1, ah 144 5 (ba (bl [Row 5 1 u.1 g.q8.2.2.1.length u.2 (aL g.q8.2.2.1), n.2.2.1])) n.2.2.2.1 j.q8.2.1 n.q4, bl [Row 5 1 u.1 g.q8.2.2.1.length u.2 (aL g.q8.2.2.1), n.2.2.1]]) O call53 (.c (.e (.c (.sel' 3 O (ah.mk et) (.sel' 3 O (ah.mk (ex.mono (ba.up (Up.lend (l := [Row 5 1 u.1 g.2.2.2.2.2.2.2.2.2.2.1.length u.2 (aL g.2.2.2.2.2.2.2.2.2.2.1), n.2.2.1]) 1 O)))) (.a (.a (.a (.a (.a .n)))))))))) (eQ.calls _ _ z x q.1 q.2 o.1 o.2.1 o.2.2.1 o.2.2.2 j.2.1 n.1 n.2.1 j.2.2.1 j.2.2.2.1 j.2.2.2.2.1 j.2.2.2.2.2.1 j.2.2.2.2.2.2.1 j.2.2.2.2.2.2.2.1 j.2.2.2.2.2.2.2.2.1 n.2.2.2.1 n.2.2.2.2 j.2.2.2.2.2.2.2.2.2.1 (bl [Row 5 1 u.1 g.2.2.2.2.2.2.2.2.2.2.1.length u.2 (aL g.2.2.2.2.2.2.2.2.2.2.1), n.2.2.1]) j.2.2.2.2.2.2.2.2.2.2 g.1 g.2.1 g.2.2.1 g.2.2.2.1 g.2.2.2.2.1 g.2.2.2.2.2.1 g.2.2.2.2.2.2.1 g.2.2.2.2.2.2.2.1 g.2.2.2.2.2.2.2.2.1 g.2.2.2.2.2.2.2.2.2.1 u.1 u.2 g.2.2.2.2.2.2.2.2.2.2.1 x1 (eB.up (Up.lend (l := [Row 5 1 u.1 g.2.2.2.2.2.2.2.2.2.2.1.length u.2 (aL g.2.2.2.2.2.2.2.2.2.2.1), n.2.2.1]) 0 O)) eD eF) eA))) (fun b2 => zA) (fun b2 => (.prk 0 O (fun ho => (dq 6 O O O (dx O O) (.fin [(0, Pt z), (1, Iv x1), (7, Iv t.2.2), (13, .bool a0.1), (81, .slice p.1 t.1.length p.2.1), (82, Iv (t.1.length : Int)), (83, Iv j.1)] O ⟨O, O, O, O, O, O, O, trivial⟩ ?_)))))))))))))))))))
 exact aF (s := a0) (b2.1, b2.2.1, b2.2.2.2.2, b2.2.2.1, b2.2.2.2.1) ⟨O, O, O, O, O, O, O, trivial⟩ (.b (.c (.sel' 6 O (ah.mk es) (.b (.b (.b (.d (.b (.c .n)))))))))
 intro ab a5
 refine sr (oM O (vq (iB O O) O (oT ?_)))
 refine bm O (fun hH => ?_) (fun hI => ?_)
 refine aG (aj (fun hK e0 => (oE (oC (vs := [Iv 12]) (cap := []) (A := []) O dN (.a (.a (.a (.a (.a (.a (.a (.a (.a .n))))))))) (cm.calls _ _ (12 : Int) ) e0) O ?_)))
 intro hL
 refine aw (bz (ai (aG (vq (cn O O O) O (oM O (aw ?_))))))
 exact bT (s := (IntKind.i64.wrap (j.1 + 1), ab.2)) a5 ⟨O, O, O, O, O, O, trivial⟩ (.a (.a (.a (.a (.a (.a (.a (.a (.a .n)))))))))
 refine aA (bz (ai (aG (vq (cn O O O) O (oM O (aw ?_))))))
 exact bT (s := (IntKind.i64.wrap (j.1 + 1), ab.2)) a5 ⟨O, O, O, O, O, O, trivial⟩ (.a (.a (.a (.a (.a (.a (.a (.a (.a .n)))))))))
 refine dt (cK (cU (cN ?_)))
 exact aF (s := j.2) n ⟨O, trivial⟩ (.a (.a (.b (.b (.b (.c (.c .n)))))))
 intro j3 b9
 refine sr (oM O (vq (ej O O O) O (oA O (oT (ay ?_)))))
 exact aJ (q.1, q.2, b9.1, b9.2.1, b9.2.2.2.1, b9.2.2.2.2, b9.2.2.1) O O O (.a (.b (.a (.a (.a (.a (.a .n)))))))
end Go.Proofs.YtndjkejhacfpdaaGreatDoor

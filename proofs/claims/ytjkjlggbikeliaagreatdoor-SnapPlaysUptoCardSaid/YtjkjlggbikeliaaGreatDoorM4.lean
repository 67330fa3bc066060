/- Texts that lead to the law SnapPlays: G2. Conditions: as each says. -/
import Derived.Test.YtjkjlggbikeliaaGreatDoorM3
namespace Go.Proofs.YtjkjlggbikeliaaGreatDoor
open Go.RowKit Tryz
set_option linter.unusedVariables false
set_option linter.unusedSimpArgs false
set_option maxRecDepth 20000
set_option maxHeartbeats 20000000
def eC.f (k : Nat) (b : List UInt8) (c : Int) (x1 : List UInt8) (x2 : Int) : Option (List UInt8 × Int) := (if ((decide (c = (0 : Int))) && (decide (max x2 (0 : Int) < (x1.length : Int)))) = true then (some 3) else (some c)).bind fun d => (if d = (0 : Int) then ((dx.f k b d (x1.length : Int)).bind fun a => (if (a.1.length + x1.length) * 1 ≤ 140737488355328 then (some (a.1 ++ x1, a.2)) else none)) else (some (b, d)))
theorem eC.calls (W : World) (F : HA) (k : Nat) (b0 : Nat) (c : Option Addr) (d : Nat) (a : List UInt8) (e : Int) (a1 : Option Addr) (c1 : Nat) (x1 : List UInt8) (x2 : Int) (h1 : Rd F a1 (ao x1)) (w : x1.length ≤ c1) (x : c1 ≤ maxLen) :
    Fn Tryz.prog W 75 [.pointer (some ⟨b0, 0, none⟩), .slice a1 x1.length c1, .int .i64 x2] [obj b0 164 [.slice c a.length d, .int .i64 e], Row 5 1 c a.length d (ao a)] F (eC.f k a e x1 x2) (fun (r : List UInt8 × Int) (y : Option Addr × Nat) => .tuple #[]) (fun r y => [obj b0 164 [.slice y.1 r.1.length y.2, .int .i64 r.2], Row 5 1 y.1 r.1.length y.2 (ao r.1)]) := by
 unfold eC.f
 refine aJ 39 Tryz.func75 O Tryz.ntmps75 O ?_
 refine bO (S := Int) (Unit) (fun s y => [(0, .pointer (some ⟨b0, 0, none⟩)), (1, .slice a1 x1.length c1)]) (fun s y => [obj b0 164 [.slice c a.length d, .int .i64 s], Row 5 1 c a.length d (ao a), F]) ?_ ?_
 refine sr ?_
 refine vm O O ?_
 refine vn O O ?_
 refine vq (aw O O underlying164 O O sizeOf30 O) O ?_
 refine vq (ai O O isAgg30 (.obj 0 O O)) O ?_
 refine vq (bD O O O) O ?_
 refine vm O O ?_
 refine az (b := decide (e = (0 : Int))) (fun o => RQ.sub (E' := [(1, .slice a1 x1.length c1)]) ⟨O, trivial⟩ (aS O O)) O O O O O ?_
 refine az (b := decide (e = (0 : Int))) (fun m => RQ.sub (E' := [(12, .slice a1 x1.length c1)]) ⟨aZ O m, trivial⟩ (bi O O O underlying25)) O O O O O ?_
 refine az (b := decide (e = (0 : Int))) (fun p => RQ.sub (E' := [(2, .int .i64 x2)]) ⟨O, trivial⟩ (aS O O)) O O O O O ?_
 refine az (b := decide (e = (0 : Int))) (fun n => RQ.sub (E' := [(14, .int .i64 x2)]) ⟨aZ O n, trivial⟩ (kM O O O)) O O O O O ?_
 refine az (b := decide (e = (0 : Int))) (fun g => RQ.sub (E' := [(13, .int .i64 (x1.length : Int)), (15, .int .i64 (max x2 (0 : Int)))]) ⟨aZ O g, aZ O g, trivial⟩ (dw O O O)) O O O O O ?_
 refine vq (dQ O O O) O (ag (ae ?_))
 refine aT O (fun z => ?_) (fun aa => ?_)
 refine aE ?_
 refine vm O O ?_
 refine vn O O ?_
 refine vq (aw O O underlying164 O O sizeOf30 O) O ?_
 refine aX (aV 0 O O O sizeOf30 O O (aY (by rfl)) O O) O O ?_
 intro _
 refine ag ?_
 exact aM (s := 3) () ⟨O, O, trivial⟩ (.sel 0 O (.sel 0 O (.sel 0 O (.nil _))))
 refine au ?_
 exact aM (s := e) () ⟨O, O, trivial⟩ (.sel 0 O (.sel 0 O (.sel 0 O (.nil _))))
 intro l ab
 refine ap (sr ?_)
 refine vm O O ?_
 refine vn O O ?_
 refine vq (aw O O underlying164 O O sizeOf30 O) O ?_
 refine vq (ai O O isAgg30 (.obj 0 O O)) O ?_
 refine vq (cz O O O) O (ag (ae ?_))
 refine br O (fun q => ?_) (fun t => ?_)
 refine au ?_
 refine ae (sr ?_)
 refine vm O O ?_
 refine vm O O ?_
 refine vq (bi O O O underlying25) O ?_
 refine am (fun u i => ?_)
 refine ah (ar (vs := [.pointer (some ⟨b0, 0, none⟩), .int .i64 (x1.length : Int)]) (cap := []) (A := [obj b0 164 [.slice c a.length d, .int .i64 l], Row 5 1 c a.length d (ao a)]) (rst := [F]) O O O O O O call74 (.sel 0 O (.sel 0 O (.sel 0 O (.nil _)))) (dx.calls _ _ k b0 c d a l (x1.length : Int) ) i) O O O ?_
 intro v
 refine ny ?_
 refine vm O O ?_
 refine vm O O ?_
 refine vn O O ?_
 refine vq (aw O O underlying164 O O sizeOf25 O) O ?_
 refine vq (ai O O isAgg25 (.obj 0 O O)) O ?_
 refine vm O O ?_
 refine aQ (fun j => ?_)
 refine ah (dd 1 O O O underlying25 eP O (h1.rds 1 O) j) O O O ?_
 intro h
 refine vn O O ?_
 refine vq (aw O O underlying164 O O sizeOf25 O) O ?_
 refine aX (aV 0 O O O sizeOf25 O O (aY (by rfl)) O O) O O ?_
 intro _
 refine ag ?_
 exact jL (h.1, h.2) O O O (.sel 0 O (.sel 0 O (.sel 0 O (.nil _))))
 refine ak ?_
 refine ax ?_
 exact av (c, d) O O O (.sel 0 O (.sel 0 O (.sel 0 O (.nil _))))

def fU.f (k : Nat) (d : List UInt8) (e : Int) (g : Int) (h : Int) (i : List UInt8) : Option (List UInt8 × Int) := (dx.f k d e g).bind fun a => ((dx.f k a.1 a.2 h).bind fun b => ((eC.f k b.1 b.2 i (524288 : Int)).bind fun c => (some (c.1, c.2))))
theorem fU.calls (W : World) (F : HA) (k : Nat) (b0 : Nat) (h : Option Addr) (i : Nat) (c : List UInt8) (o : Int) (b1 : Nat) (d : Int) (e : Int) (g : Option Addr) (b : Nat) (a : List UInt8) (t : Rd F g (ao a)) (p : a.length ≤ b) (q : b ≤ maxLen) :
    Fn Tryz.prog W 73 [.pointer (some ⟨b0, 0, none⟩), .pointer (some ⟨b1, 0, none⟩)] [obj b0 164 [.slice h c.length i, .int .i64 o], Row 5 1 h c.length i (ao c), obj b1 27 [.int .i64 d, .int .i64 e, .slice g a.length b]] F (fU.f k c o d e a) (fun (r : List UInt8 × Int) (y : Option Addr × Nat) => .tuple #[]) (fun r y => [obj b0 164 [.slice y.1 r.1.length y.2, .int .i64 r.2], Row 5 1 y.1 r.1.length y.2 (ao r.1), obj b1 27 [.int .i64 d, .int .i64 e, .slice g a.length b]]) := by
 unfold fU.f
 refine aJ 15 Tryz.func73 O Tryz.ntmps73 O ?_
 refine sr ?_
 refine vm O O ?_
 refine vq (aw O O underlying27 O O sizeOf3 O) O ?_
 refine vq (ai O O isAgg3 (.obj 2 O O)) O ?_
 refine am (fun j u => ?_)
 refine ah (ar (vs := [.pointer (some ⟨b0, 0, none⟩), .int .i64 d]) (cap := []) (A := [obj b0 164 [.slice h c.length i, .int .i64 o], Row 5 1 h c.length i (ao c)]) (rst := [obj b1 27 [.int .i64 d, .int .i64 e, .slice g a.length b], F]) O O O O O O call74 (.sel 0 O (.sel 0 O (.sel 0 O (.sel 0 O (.nil _))))) (dx.calls _ _ k b0 h i c o d ) u) O O O ?_
 intro l
 refine nx ?_
 refine vm O O ?_
 refine vq (aw O O underlying27 O O sizeOf3 O) O ?_
 refine vq (ai O O isAgg3 (.obj 2 O O)) O ?_
 refine am (fun m v => ?_)
 refine ah (ar (vs := [.pointer (some ⟨b0, 0, none⟩), .int .i64 e]) (cap := []) (A := [obj b0 164 [.slice l.1 j.1.length l.2, .int .i64 j.2], Row 5 1 l.1 j.1.length l.2 (ao j.1)]) (rst := [obj b1 27 [.int .i64 d, .int .i64 e, .slice g a.length b], F]) O O O O O O call74 (.sel 0 O (.sel 0 O (.sel 0 O (.sel 0 O (.nil _))))) (dx.calls _ _ k b0 l.1 l.2 j.1 j.2 e ) v) O O O ?_
 intro n
 refine ny ?_
 refine vm O O ?_
 refine vq (aw O O underlying27 O O sizeOf25 O) O ?_
 refine vq (ai O O isAgg25 (.obj 2 O O)) O ?_
 refine am (fun x w => ?_)
 refine ah (ar (vs := [.pointer (some ⟨b0, 0, none⟩), .slice g a.length b, .int .i64 524288]) (cap := []) (A := [obj b0 164 [.slice n.1 m.1.length n.2, .int .i64 m.2], Row 5 1 n.1 m.1.length n.2 (ao m.1)]) (rst := [obj b1 27 [.int .i64 d, .int .i64 e, .slice g a.length b], F]) O O O O O O call75 (.sel 0 O (.sel 0 O (.sel 0 O (.sel 0 O (.nil _))))) (eC.calls _ _ k b0 n.1 n.2 m.1 m.2 g b a (524288 : Int) (t.lend 1 O) p q) w) O O O ?_
 intro s
 refine ag ?_
 exact jL (s.1, s.2) O O O (.sel 0 O (.sel 0 O (.sel 0 O (.sel 0 O (.nil _)))))

def gU.f  : Option (List UInt8 × Int) := some (([] : List UInt8), 0)
theorem gU.calls (W : World) (F : HA)   :
    Fn Tryz.prog W 115 [] [] F (gU.f ) (fun (r : List UInt8 × Int) (y : Nat × Option Addr × Nat) => .pointer (some ⟨y.1, 0, none⟩)) (fun r y => [obj y.1 164 [.slice y.2.1 r.1.length y.2.2, .int .i64 r.2], Row 5 1 y.2.1 r.1.length y.2.2 (ao r.1)]) := by
 unfold gU.f
 refine aJ 3 Tryz.func115 O Tryz.ntmps115 O ?_
 refine sr ?_
 refine va O O (nx ?_)
 refine vq (eb (v := .agg #[.slice none 0 0, .int .i64 0]) O O (fun _ => by kernel_rfl)) O ?_
 refine ah (dL O O O) O O O ?_
 intro a
 refine va O O (ag (ae (ak ?_)))
 exact av (a, none, 0) O O O (.sel 0 O (.row_nil (.sel 0 O (.nil _))))

def eW.f (b : List UInt8) (a : Int) : Option (List UInt8 × Int) := if a = (0 : Int) then ((fL.f b).bind fun c => (some (c, 0))) else (some (([] : List UInt8), a))
theorem eW.calls (W : World) (F : HA) (b0 : Nat) (d : Option Addr) (b : Nat) (a : List UInt8) (c : Int) (k : Rd F d (ao a)) (e : a.length ≤ b) (g : b ≤ maxLen) :
    Fn Tryz.prog W 116 [.pointer (some ⟨b0, 0, none⟩)] [obj b0 164 [.slice d a.length b, .int .i64 c]] F (eW.f a c) (fun (r : List UInt8 × Int) (y : Option Addr × Nat) => .tuple #[.slice y.1 r.1.length y.2, .int .i64 r.2]) (fun r y => [Row 5 1 y.1 r.1.length y.2 (ao r.1), obj b0 164 [.slice d a.length b, .int .i64 c]]) := by
 unfold eW.f
 refine aJ 18 Tryz.func116 O Tryz.ntmps116 O ?_
 refine sr ?_
 refine va O O ?_
 refine va O O (ag (ae (ap (sr ?_))))
 refine vm O O ?_
 refine vn O O ?_
 refine vq (aw O O underlying164 O O sizeOf30 O) O ?_
 refine vq (ai O O isAgg30 (.obj 0 O O)) O ?_
 refine vq (cz O O O) O (ag (ae ?_))
 refine br O (fun m => ?_) (fun n => ?_)
 refine au ?_
 refine ae (sr ?_)
 refine vm O O ?_
 refine vn O O ?_
 refine vq (aw O O underlying164 O O sizeOf25 O) O ?_
 refine vq (ai O O isAgg25 (.obj 0 O O)) O ?_
 refine am (fun p l => ?_)
 refine ah (ar (vs := [.slice d a.length b]) (cap := []) (A := []) (rst := [obj b0 164 [.slice d a.length b, .int .i64 c], F]) O O O O O O call160 (.sel 0 O (.sel 0 O (.nil _))) (fL.calls _ _ d b a (k.lend 1 O) e g) l) O O O ?_
 intro h
 refine va O O ?_
 refine va O O (ag (ae (ak ?_)))
 exact av (h.1, h.2) O O O (.sel 0 O (.sel 0 O (.sel 0 O (.nil _))))
 refine ap ?_
 refine bp (Γ := Unit) () [[], [0], [0, 1], [0, 1, 2], [], rL 5] [] [0, 1, 2, 3, 4, 5] (fun i => [[0], [0], [0], [0], [0], [0]].getD i []) (fun i => [[], [], [], [], [], []].getD i []) (fun γ i => [.pointer (some ⟨b0, 0, none⟩), .pointer (some ⟨b0, 0, none⟩), .pointer (some ⟨b0, 1, none⟩), .int .i64 c, .slice none 0 0, .int .i64 c].getD i undef) (fun j γ => [[obj b0 164 [.slice d a.length b, .int .i64 c], F]].getD j []) (fun γ => [(2, .slice none 0 0), (3, .int .i64 c)]) mixed (by decide) (by decide) (by decide) (by decide) (by decide) (by decide) (by decide) 18 O (by decide) (by decide) (by decide) (Ent.refl _) ?_ ?_ (fun _ => ⟨O, O, trivial⟩) ?_
 exact (aq O (fun γ => qm O (.o (s := 0) O (by decide) .nil) O) (aq O (fun γ => qp O O (.v 0 O O .nil) (cj O O) O) (aq O (fun γ => qp O O (.v 1 O O .nil) (aw O O underlying164 O O sizeOf30 O) O) (aq O (fun γ => qp O O (.v 2 O O .nil) (ai O O isAgg30 (.obj 0 O O)) O) (aq O (fun γ => qp O O .nil (dA O O) O) (aq O (fun γ => qp O O (.v 3 O O .nil) (dA O O) O) zA))))))
 exact zA
 intro q
 refine ae (ak ?_)
 refine ax ?_
 exact av (none, 0) O O O (.row_nil (.sel 0 O (.sel 0 O (.nil _))))

def dv.f (k : Nat) (x0 : Int) (b : Int) (c : Int) (d : List UInt8) : Option (List UInt8 × Int) := if x0 = (0 : Int) then ((gU.f).bind fun e => ((fU.f k e.1 e.2 b c d).bind fun g => ((eW.f g.1 g.2).bind fun a => (some (a.1, a.2))))) else (some (([] : List UInt8), x0))
theorem dv.calls (W : World) (F : HA) (k : Nat) (x0 : Int) (h : Nat) (c : Int) (d : Int) (e : Option Addr) (b : Nat) (a : List UInt8) (p : Rd F e (ao a)) (m : a.length ≤ b) (n : b ≤ maxLen) :
    Fn Tryz.prog W 71 [.int .i64 x0, .func (.func 73) #[] #[.pointer (some ⟨h, 0, none⟩)]] [obj h 27 [.int .i64 c, .int .i64 d, .slice e a.length b]] F (dv.f k x0 c d a) (fun (r : List UInt8 × Int) (y : Option Addr × Nat) => .tuple #[.slice y.1 r.1.length y.2, .int .i64 r.2]) (fun r y => [Row 5 1 y.1 r.1.length y.2 (ao r.1), obj h 27 [.int .i64 c, .int .i64 d, .slice e a.length b]]) := by
 unfold dv.f
 refine aJ 18 Tryz.func71 O Tryz.ntmps71 O ?_
 refine sr ?_
 refine va O O ?_
 refine va O O (ag (ae (ap (sr ?_))))
 refine vm O O ?_
 refine vq (cz O O O) O (ag (ae ?_))
 refine br O (fun aa => ?_) (fun ab => ?_)
 refine au ?_
 refine ae (sr ?_)
 refine am (fun i u => ?_)
 refine ah (ar (vs := []) (cap := []) (A := []) (rst := [obj h 27 [.int .i64 c, .int .i64 d, .slice e a.length b], F]) O O O O O O call115 (.sel 0 O (.sel 0 O (.nil _))) (gU.calls _ _  ) u) O O O ?_
 intro g
 refine va O O (nx ?_)
 refine vm O O ?_
 refine vm O O ?_
 refine am (fun j v => ?_)
 refine ah (ar (vs := [.pointer (some ⟨g.1, 0, none⟩)]) (cap := [.pointer (some ⟨h, 0, none⟩)]) (A := [obj g.1 164 [.slice g.2.1 i.1.length g.2.2, .int .i64 i.2], Row 5 1 g.2.1 i.1.length g.2.2 (ao i.1), obj h 27 [.int .i64 c, .int .i64 d, .slice e a.length b]]) (rst := [F]) O O O O O O call73 (.sel 0 O (.sel 0 O (.sel 0 O (.sel 0 O (.nil _))))) (fU.calls _ _ k g.1 g.2.1 g.2.2 i.1 i.2 h c d e b a (p.lend 0 O) m n) v) O O O ?_
 intro l
 refine nx ?_
 refine vm O O ?_
 refine am (fun z q => ?_)
 refine bf 1 O (fun w s t x => ?_)
 refine ah (ar (vs := [.pointer (some ⟨g.1, 0, none⟩)]) (cap := []) (A := [obj g.1 164 [.slice l.1 j.1.length l.2, .int .i64 j.2]]) (rst := [Row 5 1 l.1 j.1.length l.2 (ao j.1), obj h 27 [.int .i64 c, .int .i64 d, .slice e a.length b], F]) O O O O O O call116 (.sel 0 O (.sel 0 O (.sel 0 O (.sel 0 O (.nil _))))) (eW.calls _ _ g.1 l.1 l.2 j.1 j.2 (w.lend 0 O) s t) q) O O O ?_
 intro o
 refine vq (bh O O O) O ?_
 refine vq (bh O O O) O ?_
 refine va O O ?_
 refine va O O (ag (ae (ak ?_)))
 exact av (o.1, o.2) O O O (.sel 0 O (.sel 2 O (.sel 2 O (.nil _))))
 refine sr ?_
 refine vm O O ?_
 refine va O O ?_
 refine va O O (ag (ae (ak ?_)))
 refine ax ?_
 exact av (none, 0) O O O (.row_nil (.sel 0 O (.sel 0 O (.nil _))))

def eH.f (k : Nat) (a : Int) (b : Int) (c : List UInt8) : Option (List UInt8 × Int) := (bK.f a b c).bind fun e => ((dv.f k e a b c).bind fun d => (some (d.1, d.2)))
theorem eH.calls (W : World) (F : HA) (k : Nat) (c : Int) (d : Int) (e : Option Addr) (b : Nat) (a : List UInt8) (j : Rd F e (ao a)) (g : a.length ≤ b) (h : b ≤ maxLen) :
    Fn Tryz.prog W 34 [.agg #[], .agg #[.int .i64 c, .int .i64 d, .slice e a.length b]] [] F (eH.f k c d a) (fun (r : List UInt8 × Int) (y : Option Addr × Nat) => .tuple #[.slice y.1 r.1.length y.2, .int .i64 r.2]) (fun r y => [Row 5 1 y.1 r.1.length y.2 (ao r.1)]) := by
 unfold eH.f
 refine aJ 13 Tryz.func34 O Tryz.ntmps34 O ?_
 refine sr ?_
 refine ah (dL O O O) O O O ?_
 intro l
 refine ah (dL O O O) O O O ?_
 intro i
 refine va O O ?_
 refine va O O (nx ?_)
 refine vq (du 1 O O isAgg79 sizeOf79 O O) O ?_
 refine vq (du 0 O O isAgg27 sizeOf27 O O) O ?_
 refine am (fun m o => ?_)
 refine ah (ar (vs := [.agg #[], .agg #[.int .i64 c, .int .i64 d, .slice e a.length b]]) (cap := []) (A := []) (rst := [obj i 27 [.int .i64 c, .int .i64 d, .slice e a.length b], obj l 79 [], F]) O O O O O O call72 (.sel 0 O (.sel 0 O (.sel 0 O (.nil _)))) (bK.calls _ _ c d e b a (j.lend 2 O) g h) o) O O O ?_
 intro q
 refine vq (ky O O O) O ?_
 refine am (fun s p => ?_)
 refine ah (ar (vs := [.int .i64 m, .func (.func 73) #[] #[.pointer (some ⟨i, 0, none⟩)]]) (cap := []) (A := [obj i 27 [.int .i64 c, .int .i64 d, .slice e a.length b]]) (rst := [obj l 79 [], F]) O O O O O O call71 (.sel 0 O (.sel 0 O (.sel 0 O (.nil _)))) (dv.calls _ _ k m i c d e b a (j.lend 1 O) g h) p) O O O ?_
 intro n
 refine vq (bh O O O) O ?_
 refine vq (bh O O O) O ?_
 refine va O O ?_
 refine va O O (ag (ae (ak ?_)))
 exact av (n.1, n.2) O O O (.sel 0 O (.sel 2 O (.nil _)))

def gI.f (x0 : Int) : Option (List UInt8) := if 0 ≤ IntKind.u8.wrap x0 ∧ IntKind.u8.wrap x0 < 256 then (if 0 ≤ IntKind.u8.wrap (Int.fdiv x0 (2 ^ (min (8 : Int).toNat IntKind.u32.bits))) ∧ IntKind.u8.wrap (Int.fdiv x0 (2 ^ (min (8 : Int).toNat IntKind.u32.bits))) < 256 then (if 0 ≤ IntKind.u8.wrap (Int.fdiv x0 (2 ^ (min (16 : Int).toNat IntKind.u32.bits))) ∧ IntKind.u8.wrap (Int.fdiv x0 (2 ^ (min (16 : Int).toNat IntKind.u32.bits))) < 256 then (if 0 ≤ IntKind.u8.wrap (Int.fdiv x0 (2 ^ (min (24 : Int).toNat IntKind.u32.bits))) ∧ IntKind.u8.wrap (Int.fdiv x0 (2 ^ (min (24 : Int).toNat IntKind.u32.bits))) < 256 then (some ([(cS (IntKind.u8.wrap x0)), (cS (IntKind.u8.wrap (Int.fdiv x0 (2 ^ (min (8 : Int).toNat IntKind.u32.bits))))), (cS (IntKind.u8.wrap (Int.fdiv x0 (2 ^ (min (16 : Int).toNat IntKind.u32.bits))))), (cS (IntKind.u8.wrap (Int.fdiv x0 (2 ^ (min (24 : Int).toNat IntKind.u32.bits)))))] : List UInt8)) else none) else none) else none) else none
theorem gI.calls (W : World) (F : HA) (x0 : Int)  :
    Fn Tryz.prog W 121 [.int .u32 x0] [] F (gI.f x0) (fun (r : List UInt8) (y : Option Addr × Nat) => .slice y.1 r.length y.2) (fun r y => [Row 5 1 y.1 r.length y.2 (ao r)]) := by
 unfold gI.f
 refine aJ 15 Tryz.func121 O Tryz.ntmps121 O ?_
 refine sr ?_
 refine va O O (nx ?_)
 refine vm O O ?_
 refine vq (dy O O underlying170 underlying5) O ?_
 refine vm O O ?_
 refine vq (kL O O O (by decide)) O ?_
 refine vq (dy O O underlying170 underlying5) O ?_
 refine vm O O ?_
 refine vq (kL O O O (by decide)) O ?_
 refine vq (dy O O underlying170 underlying5) O ?_
 refine vm O O ?_
 refine vq (kL O O O (by decide)) O ?_
 refine vq (dy O O underlying170 underlying5) O ?_
 refine aQ (fun a => ?_)
 refine aQ (fun b => ?_)
 refine aQ (fun c => ?_)
 refine aQ (fun d => ?_)
 refine ah (jD (cs := [.int .u8 (IntKind.u8.wrap x0), .int .u8 (IntKind.u8.wrap (Int.fdiv x0 (2 ^ (min (8 : Int).toNat IntKind.u32.bits)))), .int .u8 (IntKind.u8.wrap (Int.fdiv x0 (2 ^ (min (16 : Int).toNat IntKind.u32.bits)))), .int .u8 (IntKind.u8.wrap (Int.fdiv x0 (2 ^ (min (24 : Int).toNat IntKind.u32.bits))))]) ([(cS (IntKind.u8.wrap x0)), (cS (IntKind.u8.wrap (Int.fdiv x0 (2 ^ (min (8 : Int).toNat IntKind.u32.bits))))), (cS (IntKind.u8.wrap (Int.fdiv x0 (2 ^ (min (16 : Int).toNat IntKind.u32.bits))))), (cS (IntKind.u8.wrap (Int.fdiv x0 (2 ^ (min (24 : Int).toNat IntKind.u32.bits)))))] : List UInt8) O O underlying25 eP O (by kernel_rfl) O O (iV (gl a.1 a.2) (iV (gl b.1 b.2) (iV (gl c.1 c.2) (iV (gl d.1 d.2) tW))))) O O O ?_
 intro e
 refine va O O (ag (ae (ak ?_)))
 exact av ((some ⟨e, 0, none⟩), 4) O O O (.sel 0 O (.sel 0 O (.nil _)))

def iQ.f (k : Nat) (x0 : List UInt8) (x1 : List UInt8) : Option (List UInt8) := (gI.f (IntKind.u32.wrap (x1.length : Int))).bind fun a => ((ca.f k (4294967295 : Int) a).bind fun d => ((ca.f k d x1).bind fun c => (if (x0.length + a.length) * 1 ≤ 140737488355328 then ((gI.f (bC .xor .u32 (if IntKind.u32.signed then -1 else IntKind.u32.max) c)).bind fun b => (if ((x0 ++ a).length + b.length) * 1 ≤ 140737488355328 then (if (((x0 ++ a) ++ b).length + x1.length) * 1 ≤ 140737488355328 then (some (((x0 ++ a) ++ b) ++ x1)) else none) else none)) else none)))
theorem iQ.calls (W : World) (F : HA) (k : Nat) (a0 : Option Addr) (c0 : Nat) (x0 : List UInt8) (a1 : Option Addr) (c1 : Nat) (x1 : List UInt8) (h1 : Rd F a1 (ao x1)) (t : x1.length ≤ c1) (u : c1 ≤ maxLen) :
    Fn Tryz.prog W 76 [.slice a0 x0.length c0, .slice a1 x1.length c1] [Row 5 1 a0 x0.length c0 (ao x0)] F (iQ.f k x0 x1) (fun (r : List UInt8) (y : Option Addr × Nat) => .slice y.1 r.length y.2) (fun r y => [Row 5 1 y.1 r.length y.2 (ao r)]) := by
 unfold iQ.f
 refine aJ 26 Tryz.func76 O Tryz.ntmps76 O ?_
 refine sr ?_
 refine va O O (nx ?_)
 refine vm O O ?_
 refine vq (bi O O O underlying25) O ?_
 refine vq (dy O O underlying3 underlying170) O ?_
 refine am (fun a n => ?_)
 refine ah (ar (vs := [.int .u32 (IntKind.u32.wrap (x1.length : Int))]) (cap := []) (A := []) (rst := [Row 5 1 a0 x0.length c0 (ao x0), F]) O O O O O O call121 (.sel 0 O (.sel 0 O (.nil _))) (gI.calls _ _ (IntKind.u32.wrap (x1.length : Int)) ) n) O O O ?_
 intro b
 refine va O O (nx ?_)
 refine vm O O ?_
 refine am (fun m o => ?_)
 refine bf 0 O (fun p q s v => ?_)
 refine ah (ar (vs := [.int .u32 4294967295, .slice b.1 a.length b.2]) (cap := []) (A := []) (rst := [Row 5 1 b.1 a.length b.2 (ao a), Row 5 1 a0 x0.length c0 (ao x0), F]) O O O O O O call122 (.sel 0 O (.sel 0 O (.sel 0 O (.nil _)))) (ca.calls _ _ k (4294967295 : Int) b.1 b.2 a (p.lend 0 O) q s) o) O O O ?_
 intro w
 refine vm O O ?_
 refine am (fun c g => ?_)
 refine ah (ar (vs := [.int .u32 m, .slice a1 x1.length c1]) (cap := []) (A := []) (rst := [Row 5 1 b.1 a.length b.2 (ao a), Row 5 1 a0 x0.length c0 (ao x0), F]) O O O O O O call122 (.sel 0 O (.sel 0 O (.sel 0 O (.nil _)))) (ca.calls _ _ k m a1 c1 x1 (h1.lend 2 O) t u) g) O O O ?_
 intro x
 refine vq (rb O O) O ?_
 refine va O O (nx ?_)
 refine vm O O ?_
 refine vm O O ?_
 refine aQ (fun h => ?_)
 refine ah (dd 1 O O O underlying25 eP O (Rds.row 0 O) h) O O O ?_
 intro d
 refine va O O (nx ?_)
 refine vm O O ?_
 refine vm O O ?_
 refine am (fun z i => ?_)
 refine ah (ar (vs := [.int .u32 (bC .xor .u32 (if IntKind.u32.signed then -1 else IntKind.u32.max) c)]) (cap := []) (A := []) (rst := [Row 5 1 b.1 a.length b.2 (ao a), Row 5 1 d.1 (x0 ++ a).length d.2 (ao (x0 ++ a)), F]) O O O O O O call121 (.sel 0 O (.sel 0 O (.sel 0 O (.nil _)))) (gI.calls _ _ (bC .xor .u32 (if IntKind.u32.signed then -1 else IntKind.u32.max) c) ) i) O O O ?_
 intro aa
 refine aQ (fun j => ?_)
 refine ah (dd 2 O O O underlying25 eP O (Rds.row 0 O) j) O O O ?_
 intro ab
 refine va O O (nx ?_)
 refine vm O O ?_
 refine vm O O ?_
 refine aQ (fun l => ?_)
 refine ah (dd 2 O O O underlying25 eP O (h1.rds 2 O) l) O O O ?_
 intro e
 refine va O O (ag (ae (ak ?_)))
 exact av (e.1, e.2) O O O (.sel 2 O (.sel 2 O (.nil _)))

def iv.f (k : Nat) (x0 : List UInt8) : Option (List UInt8 × Int) := if (1048576 : Int) < (x0.length : Int) then (some (([] : List UInt8), 3)) else (if 0 ≤ (0 : Int) ∧ (0 : Int) ≤ IntKind.i64.wrap (8 + (x0.length : Int)) ∧ IntKind.i64.wrap (8 + (x0.length : Int)) * 1 ≤ 140737488355328 then ((iQ.f k (List.replicate (0 : Int).toNat (0 : UInt8)) x0).bind fun a => (some (a, 0))) else none)
theorem iv.calls (W : World) (F : HA) (k : Nat) (a0 : Option Addr) (c0 : Nat) (x0 : List UInt8) (h0 : Rd F a0 (ao x0)) (e : x0.length ≤ c0) (g : c0 ≤ maxLen) :
    Fn Tryz.prog W 35 [.slice a0 x0.length c0] [] F (iv.f k x0) (fun (r : List UInt8 × Int) (y : Option Addr × Nat) => .tuple #[.slice y.1 r.1.length y.2, .int .i64 r.2]) (fun r y => [Row 5 1 y.1 r.1.length y.2 (ao r.1)]) := by
 unfold iv.f
 refine aJ 13 Tryz.func35 O Tryz.ntmps35 O ?_
 refine sr ?_
 refine va O O ?_
 refine va O O (ag (ae (ap (sr ?_))))
 refine vm O O ?_
 refine vq (bi O O O underlying25) O ?_
 refine vq (dw O O O) O (ag (ae ?_))
 refine aL O (fun h => ?_) (fun i => ?_)
 refine sr ?_
 refine va O O ?_
 refine va O O (ag (ae (ak ?_)))
 refine ax ?_
 exact av (none, 0) O O O (.row_nil (.sel 0 O (.nil _)))
 refine au ?_
 refine ae (sr ?_)
 refine vm O O ?_
 refine vq (bi O O O underlying25) O ?_
 refine vq (bj O O O) O ?_
 refine aQ (fun a => ?_)
 refine ah (me O O O underlying25 eP a.1 a.2.1 a.2.2) O O O ?_
 intro b
 refine vm O O ?_
 refine am (fun j d => ?_)
 refine ah (ar (vs := [.slice (some ⟨b, 0, none⟩) ((List.replicate (0 : Int).toNat (0 : UInt8)).length) ((IntKind.i64.wrap (8 + (x0.length : Int))).toNat), .slice a0 x0.length c0]) (cap := []) (A := [Row 5 1 (some ⟨b, 0, none⟩) (List.replicate (0 : Int).toNat (0 : UInt8)).length ((IntKind.i64.wrap (8 + (x0.length : Int))).toNat) (ao (List.replicate (0 : Int).toNat (0 : UInt8)))]) (rst := [F]) O O O O O O call76 (.sel 0 O (.sel 0 O (.nil _))) (iQ.calls _ _ k (some ⟨b, 0, none⟩) ((IntKind.i64.wrap (8 + (x0.length : Int))).toNat) (List.replicate (0 : Int).toNat (0 : UInt8)) a0 c0 x0 (h0.lend 0 O) e g) d) O O O ?_
 intro c
 refine va O O ?_
 refine va O O (ag (ae (ak ?_)))
 exact av (c.1, c.2) O O O (.sel 0 O (.sel 0 O (.nil _)))

def bZ.f (a : List ((List UInt8) × (List UInt8 × Int))) (b : List UInt8) (c : Int) (d : Bool) (x1 : List UInt8) : Option (Bool) := if (ay a x1).isSome = true then (some true) else (some false)
theorem bZ.calls (W : World) (F : HA) (b0 : Nat) (b : Nat) (a : Kps) (c : List ((List UInt8) × (List UInt8 × Int))) (d : List UInt8) (e : Int) (g : Bool) (x1 : List UInt8)  :
    Fn Tryz.prog W 69 [.pointer (some ⟨b0, 0, none⟩), str x1] [obj b0 76 [.map (some b), str d, .int .i64 e, .bool g], aF (aB b aD aA a) aG a c] F (bZ.f c d e g x1) (fun (r : Bool) (y : Unit) => .bool r) (fun r y => [obj b0 76 [.map (some b), str d, .int .i64 e, .bool g], aF (aB b aD aA a) aG a c]) := by
 unfold bZ.f
 refine aJ 12 Tryz.func69 O Tryz.ntmps69 O ?_
 refine sr ?_
 refine va O O (ag (ae (ap ?_)))
 refine iq (fun h => ?_) (fun h => ?_)
 refine aE ?_
 refine vm O O ?_
 refine vn O O ?_
 refine vq (aw O O underlying76 O O sizeOf74 O) O ?_
 refine vq (ai O O isAgg74 (.obj 0 O O)) O ?_
 refine vm O O ?_
 refine vq ((ju (ek := aD) x1 (gX 1 O) h O O O underlying74 iN : RQ _ _ _ _ (.pointer (some ⟨(bt a x1), 0, none⟩)))) O ?_
 refine vq (zS O O O underlying87) O ?_
 refine va O O (ag (ae (ak ?_)))
 exact av () O O O (.sel 0 O (.sel 0 O (.sel 0 O (.nil _))))
 refine aE ?_
 refine vm O O ?_
 refine vn O O ?_
 refine vq (aw O O underlying76 O O sizeOf74 O) O ?_
 refine vq (ai O O isAgg74 (.obj 0 O O)) O ?_
 refine vm O O ?_
 refine vq (jv (ek := aD) x1 (gX 1 O) (iz h) O O O underlying74 iN zeroValue87) O ?_
 refine vq (zh O O O underlying87) O ?_
 refine va O O (ag (ae (ak ?_)))
 exact av () O O O (.sel 0 O (.sel 0 O (.sel 0 O (.nil _))))
def bZ.v (a : List ((List UInt8) × (List UInt8 × Int))) (b : List UInt8) (c : Int) (d : Bool) (x1 : List UInt8) : Bool := (bZ.f a b c d x1).getD false
theorem bZ.tot (a : List ((List UInt8) × (List UInt8 × Int))) (b : List UInt8) (c : Int) (d : Bool) (x1 : List UInt8) : bZ.f a b c d x1 = some (bZ.v a b c d x1) := by
  have h : ∃ r, bZ.f a b c d x1 = some r := by
    unfold bZ.f
    repeat' (first | exact ⟨_, rfl⟩ | split | simp only [Option.bind_some])
  obtain ⟨r, h⟩ := h
  unfold bZ.v
  rw [h]; rfl

def bm.f (d : List ((List UInt8) × (List UInt8 × Int))) (b : List UInt8) (a : Int) (c : Bool) : Option (Bool × List UInt8 × Int × Bool) := if a = (0 : Int) then (some (false, b, a, c)) else (some (decide (IntKind.i64.wrap (a - 1) = (0 : Int)), b, IntKind.i64.wrap (a - 1), decide (IntKind.i64.wrap (a - 1) = (0 : Int))))
theorem bm.calls (W : World) (F : HA) (b0 : Nat) (a : Nat) (b : Kps) (c : List ((List UInt8) × (List UInt8 × Int))) (d : List UInt8) (e : Int) (g : Bool)  :
    Fn Tryz.prog W 45 [.pointer (some ⟨b0, 0, none⟩)] [obj b0 76 [.map (some a), str d, .int .i64 e, .bool g], aF (aB a aD aA b) aG b c] F (bm.f c d e g) (fun (r : Bool × List UInt8 × Int × Bool) (y : Unit) => .bool r.1) (fun r y => [obj b0 76 [.map (some a), str r.2.1, .int .i64 r.2.2.1, .bool r.2.2.2], aF (aB a aD aA b) aG b c]) := by
 unfold bm.f
 refine aJ 27 Tryz.func45 O Tryz.ntmps45 O ?_
 refine sr ?_
 refine va O O (ag (ae (ap (sr ?_))))
 refine vm O O ?_
 refine vn O O ?_
 refine vq (aw O O underlying76 O O sizeOf3 O) O ?_
 refine vq (ai O O isAgg3 (.obj 0 O O)) O ?_
 refine vq (bD O O O) O (ag (ae ?_))
 refine aL O (fun h => ?_) (fun i => ?_)
 refine sr ?_
 refine va O O (ag (ae (ak ?_)))
 refine ax ?_
 exact av () O O O (.sel 0 O (.sel 0 O (.sel 0 O (.nil _))))
 refine au ?_
 refine ae (sr ?_)
 refine vm O O ?_
 refine vn O O ?_
 refine vq (aw O O underlying76 O O sizeOf3 O) O ?_
 refine vq (ai O O isAgg3 (.obj 0 O O)) O ?_
 refine vq (ft O O O) O ?_
 refine vn O O ?_
 refine vq (aw O O underlying76 O O sizeOf3 O) O ?_
 refine aX (aV 0 O O O sizeOf3 O O (aY (by rfl)) O O) O O ?_
 intro _
 refine nx ?_
 refine vm O O ?_
 refine vm O O ?_
 refine vn O O ?_
 refine vq (aw O O underlying76 O O sizeOf3 O) O ?_
 refine vq (ai O O isAgg3 (.obj 0 O O)) O ?_
 refine vq (bD O O O) O ?_
 refine vn O O ?_
 refine vq (aw O O underlying76 O O sizeOf4 O) O ?_
 refine aX (aV 0 O O O sizeOf4 O O (aY (by rfl)) O O) O O ?_
 intro _
 refine nx ?_
 refine vm O O ?_
 refine vn O O ?_
 refine vq (aw O O underlying76 O O sizeOf4 O) O ?_
 refine vq (ai O O isAgg4 (.obj 0 O O)) O ?_
 refine va O O (ag (ae (ak ?_)))
 exact av () O O O (.sel 0 O (.sel 0 O (.sel 0 O (.nil _))))
def bm.v (a : List ((List UInt8) × (List UInt8 × Int))) (b : List UInt8) (c : Int) (d : Bool) : Bool × List UInt8 × Int × Bool := (bm.f a b c d).getD (false, [], 0, false)
theorem bm.tot (a : List ((List UInt8) × (List UInt8 × Int))) (b : List UInt8) (c : Int) (d : Bool) : bm.f a b c d = some (bm.v a b c d) := by
  have h : ∃ r, bm.f a b c d = some r := by
    unfold bm.f
    repeat' (first | exact ⟨_, rfl⟩ | split | simp only [Option.bind_some])
  obtain ⟨r, h⟩ := h
  unfold bm.v
  rw [h]; rfl

def bS.f (a : List ((List UInt8) × (List UInt8 × Int))) (d : List UInt8) (e : Int) (c : Bool) (x1 : List UInt8) : Option (Int × (List ((List UInt8) × (List UInt8 × Int))) × List UInt8 × Int × Bool) := if c = true then (some (11, a, d, e, c)) else ((bZ.f a d e c x1).bind fun h => (if (!h) = true then (some (8, a, d, e, c)) else ((bm.f a d e c).bind fun b => (if b.1 = true then (some (11, a, b.2.1, b.2.2.1, b.2.2.2)) else ((if b.2.1 = x1 then (some ([] : List UInt8)) else (some b.2.1)).bind fun g => (some (0, bU a x1, g, b.2.2.1, b.2.2.2)))))))
theorem bS.calls (W : World) (F : HA) (b0 : Nat) (a : Nat) (b : Kps) (c : List ((List UInt8) × (List UInt8 × Int))) (d : List UInt8) (e : Int) (g : Bool) (x1 : List UInt8)  :
    Fn Tryz.prog W 49 [.pointer (some ⟨b0, 0, none⟩), str x1] [obj b0 76 [.map (some a), str d, .int .i64 e, .bool g], aF (aB a aD aA b) aG b c] F (bS.f c d e g x1) (fun (r : Int × (List ((List UInt8) × (List UInt8 × Int))) × List UInt8 × Int × Bool) (y : Nat × Kps) => .int .i64 r.1) (fun r y => [obj b0 76 [.map (some y.1), str r.2.2.1, .int .i64 r.2.2.2.1, .bool r.2.2.2.2], aF (aB y.1 aD aA y.2) aG y.2 r.2.1]) := by
 unfold bS.f
 refine aJ 32 Tryz.func49 O Tryz.ntmps49 O ?_
 refine sr ?_
 refine va O O (ag (ae (ap ?_)))
 refine aK ?_
 refine sr ?_
 refine vm O O ?_
 refine vn O O ?_
 refine vq (aw O O underlying76 O O sizeOf4 O) O ?_
 refine vq (ai O O isAgg4 (.obj 0 O O)) O ?_
 refine va O O (ag (ae ?_))
 refine aT O (fun t => ?_) (fun u => ?_)
 refine sr ?_
 refine va O O (ag (ae (ak ?_)))
 refine aP ?_
 refine ax ?_
 exact av (a, b) O O O (.sel 0 O (.sel 0 O (.sel 0 O (.nil _))))
 refine sr ?_
 refine vm O O ?_
 refine vm O O ?_
 refine am (fun v i => ?_)
 refine ah (ar (vs := [.pointer (some ⟨b0, 0, none⟩), str x1]) (cap := []) (A := [obj b0 76 [.map (some a), str d, .int .i64 e, .bool g], aF (aB a aD aA b) aG b c]) (rst := [F]) O O O O O O call69 (.sel 0 O (.sel 0 O (.sel 0 O (.nil _)))) (bZ.calls _ _ b0 a b c d e g x1 ) i) O O O ?_
 intro w
 refine vq (fE O O) O ?_
 refine va O O (ag (ae ?_))
 refine aT O (fun x => ?_) (fun z => ?_)
 refine sr ?_
 refine va O O (ag (ae (ak ?_)))
 refine aP ?_
 refine ax ?_
 exact av (a, b) O O O (.sel 0 O (.sel 0 O (.sel 0 O (.nil _))))
 refine sr ?_
 refine vm O O ?_
 refine am (fun h j => ?_)
 refine ah (ar (vs := [.pointer (some ⟨b0, 0, none⟩)]) (cap := []) (A := [obj b0 76 [.map (some a), str d, .int .i64 e, .bool g], aF (aB a aD aA b) aG b c]) (rst := [F]) O O O O O O call45 (.sel 0 O (.sel 0 O (.sel 0 O (.nil _)))) (bm.calls _ _ b0 a b c d e g ) j) O O O ?_
 intro k
 refine va O O (ag (ae ?_))
 refine aT O (fun l => ?_) (fun m => ?_)
 refine sr ?_
 refine va O O (ag (ae (ak ?_)))
 refine aP ?_
 refine ax ?_
 exact av (a, b) O O O (.sel 0 O (.sel 0 O (.sel 0 O (.nil _))))
 refine au ?_
 refine bb (ae (sr ?_))
 refine vm O O ?_
 refine vn O O ?_
 refine vq (aw O O underlying76 O O sizeOf74 O) O ?_
 refine vq (ai O O isAgg74 (.obj 0 O O)) O ?_
 refine vm O O ?_
 refine aX (xG (ek := aD) 1 x1 O O O O underlying74 iN O) O O ?_
 intro _
 refine ag (ae ?_)
 refine bO (S := List UInt8) (Unit) (fun s y => []) (fun s y => [obj b0 76 [.map (some a), str s, .int .i64 h.2.2.1, .bool h.2.2.2], aF (aB a aD aA (bU b x1)) aG (bU b x1) (bU c x1), F]) ?_ ?_
 refine sr ?_
 refine vm O O ?_
 refine vn O O ?_
 refine vq (aw O O underlying76 O O sizeOf9 O) O ?_
 refine vq (ai O O isAgg9 (.obj 0 O O)) O ?_
 refine vm O O ?_
 refine vq (js O O O) O (ag (ae ?_))
 refine aL O (fun n => ?_) (fun o => ?_)
 refine aE ?_
 refine vm O O ?_
 refine vn O O ?_
 refine vq (aw O O underlying76 O O sizeOf9 O) O ?_
 refine aX (aV 0 O O O sizeOf9 O O (aY (by rfl)) O O) O O ?_
 intro _
 refine ag ?_
 exact aM (s := ([] : List UInt8)) () trivial (.sel 0 O (.sel 0 O (.sel 0 O (.nil _))))
 refine au ?_
 exact aM (s := h.2.1) () trivial (.sel 0 O (.sel 0 O (.sel 0 O (.nil _))))
 intro p q
 refine sr ?_
 refine va O O (ag (ae (ak ?_)))
 exact av (a, bU b x1) O O O (.sel 0 O (.sel 0 O (.sel 0 O (.nil _))))
def bS.v (a : List ((List UInt8) × (List UInt8 × Int))) (b : List UInt8) (c : Int) (d : Bool) (x1 : List UInt8) : Int × (List ((List UInt8) × (List UInt8 × Int))) × List UInt8 × Int × Bool := (bS.f a b c d x1).getD (0, [], [], 0, false)
theorem bS.tot (a : List ((List UInt8) × (List UInt8 × Int))) (b : List UInt8) (c : Int) (d : Bool) (x1 : List UInt8) : bS.f a b c d x1 = some (bS.v a b c d x1) := by
  have h : ∃ r, bS.f a b c d x1 = some r := by
    unfold bS.f
    repeat' (first | exact ⟨_, rfl⟩ | split | simp only [Option.bind_some, bZ.tot, bm.tot])
  obtain ⟨r, h⟩ := h
  unfold bS.v
  rw [h]; rfl

def dK.f (b : List ((List UInt8) × (List UInt8 × Int))) (c : List UInt8) (d : Int) (e : Bool) : Option (Int × Int × (List ((List UInt8) × (List UInt8 × Int))) × List UInt8 × Int × Bool) := (bZ.f b c d e ([115, 110, 97, 112, 46, 116, 109, 112] : List UInt8)).bind fun g => (if (!g) = true then (some (0, 0, b, c, d, e)) else ((bS.f b c d e ([115, 110, 97, 112, 46, 116, 109, 112] : List UInt8)).bind fun a => (some (1, a.1, a.2.1, a.2.2.1, a.2.2.2.1, a.2.2.2.2))))
theorem dK.calls (W : World) (F : HA) (b0 : Nat) (a : Nat) (b : Kps) (c : List ((List UInt8) × (List UInt8 × Int))) (d : List UInt8) (e : Int) (g : Bool)  :
    Fn Tryz.prog W 37 [.pointer (some ⟨b0, 0, none⟩)] [obj b0 76 [.map (some a), str d, .int .i64 e, .bool g], aF (aB a aD aA b) aG b c] F (dK.f c d e g) (fun (r : Int × Int × (List ((List UInt8) × (List UInt8 × Int))) × List UInt8 × Int × Bool) (y : Nat × Kps) => .tuple #[.int .i64 r.1, .int .i64 r.2.1]) (fun r y => [obj b0 76 [.map (some y.1), str r.2.2.2.1, .int .i64 r.2.2.2.2.1, .bool r.2.2.2.2.2], aF (aB y.1 aD aA y.2) aG y.2 r.2.2.1]) := by
 unfold dK.f
 refine aJ 9 Tryz.func37 O Tryz.ntmps37 O ?_
 refine sr ?_
 refine va O O ?_
 refine va O O (ag (ae (ap (sr ?_))))
 refine vm O O ?_
 refine am (fun k i => ?_)
 refine ah (ar (vs := [.pointer (some ⟨b0, 0, none⟩), str ([115, 110, 97, 112, 46, 116, 109, 112] : List UInt8)]) (cap := []) (A := [obj b0 76 [.map (some a), str d, .int .i64 e, .bool g], aF (aB a aD aA b) aG b c]) (rst := [F]) O O O O O O call69 (.sel 0 O (.sel 0 O (.sel 0 O (.nil _)))) (bZ.calls _ _ b0 a b c d e g ([115, 110, 97, 112, 46, 116, 109, 112] : List UInt8) ) i) O O O ?_
 intro l
 refine vq (fE O O) O (ag (ae ?_))
 refine aT O (fun m => ?_) (fun n => ?_)
 refine sr ?_
 refine va O O ?_
 refine va O O (ag (ae (ak ?_)))
 refine ax ?_
 exact av (a, b) O O O (.sel 0 O (.sel 0 O (.sel 0 O (.nil _))))
 refine au ?_
 refine ae (sr ?_)
 refine vm O O ?_
 refine am (fun o j => ?_)
 refine ah (ar (vs := [.pointer (some ⟨b0, 0, none⟩), str ([115, 110, 97, 112, 46, 116, 109, 112] : List UInt8)]) (cap := []) (A := [obj b0 76 [.map (some a), str d, .int .i64 e, .bool g], aF (aB a aD aA b) aG b c]) (rst := [F]) O O O O O O call49 (.sel 0 O (.sel 0 O (.sel 0 O (.nil _)))) (bS.calls _ _ b0 a b c d e g ([115, 110, 97, 112, 46, 116, 109, 112] : List UInt8) ) j) O O O ?_
 intro h
 refine va O O ?_
 refine va O O (ag (ae (ak ?_)))
 exact av (h.1, h.2) O O O (.sel 0 O (.sel 0 O (.sel 0 O (.nil _))))
def dK.v (a : List ((List UInt8) × (List UInt8 × Int))) (b : List UInt8) (c : Int) (d : Bool) : Int × Int × (List ((List UInt8) × (List UInt8 × Int))) × List UInt8 × Int × Bool := (dK.f a b c d).getD (0, 0, [], [], 0, false)
theorem dK.tot (a : List ((List UInt8) × (List UInt8 × Int))) (b : List UInt8) (c : Int) (d : Bool) : dK.f a b c d = some (dK.v a b c d) := by
  have h : ∃ r, dK.f a b c d = some r := by
    unfold dK.f
    repeat' (first | exact ⟨_, rfl⟩ | split | simp only [Option.bind_some, bZ.tot, bS.tot])
  obtain ⟨r, h⟩ := h
  unfold dK.v
  rw [h]; rfl

def dE.l0 (x0 : List UInt8) : Nat → Int → Option ((Unit) ⊕ (Bool))
  | 0, _ => none
  | k + 1, a => if a < (x0.length : Int) then (if 0 ≤ a ∧ a < (x0.length : Int) then ((if ((decide (((x0.getD a.toNat 0).toNat : Int) < (97 : Int))) || (decide ((122 : Int) < ((x0.getD a.toNat 0).toNat : Int)))) = true then (some ((decide (((x0.getD a.toNat 0).toNat : Int) < (48 : Int))) || (decide ((57 : Int) < ((x0.getD a.toNat 0).toNat : Int))))) else (some false)).bind fun b => (if ((b && (!decide (((x0.getD a.toNat 0).toNat : Int) = (45 : Int)))) && (!decide (((x0.getD a.toNat 0).toNat : Int) = (46 : Int)))) = true then (some (.inr false)) else (dE.l0 x0 k (IntKind.i64.wrap (a + 1))))) else none) else (some (.inl ()))
def dE.f (k : Nat) (x0 : List UInt8) : Option (Bool) := orR (dE.l0 x0 k 0) fun a => (some ((decide ((0 : Int) < (x0.length : Int))) && (decide ((x0.length : Int) ≤ (32 : Int)))))
theorem dE.calls (W : World) (F : HA) (k : Nat) (x0 : List UInt8)  :
    Fn Tryz.prog W 68 [str x0] [] F (dE.f k x0) (fun (r : Bool) (y : Unit) => .bool r) (fun r y => []) := by
 unfold dE.f
 refine aJ 44 Tryz.func68 O Tryz.ntmps68 O ?_
 refine sr ?_
 refine va O O (ag (ae ?_))
 refine fx (S := Unit) (Unit) (fun s y => [(0, str x0)]) (fun s y => [F]) ?_ ?_
 refine sr ?_
 refine va O O (ag (ae ?_))
 refine aK ?_
 refine bX (S := Int) (Unit) (fun k s => dE.l0 x0 k s) (fun s y => [(0, str x0), (3, .int .i64 s)]) (fun s y => [F]) (fun _ => by rw [dE.l0]) ?_ k 0 () ⟨O, O, trivial⟩ (.sel 0 O (.nil _))
 intro k a z
 refine cL (by rw [dE.l0]) ?_
 refine ap (sr ?_)
 refine vm O O ?_
 refine vm O O ?_
 refine vq (iK O O O underlying9) O ?_
 refine vq (bN O O O) O (ag (ae ?_))
 refine aL O (fun aa => ?_) (fun ab => ?_)
 refine au ?_
 refine ae (ap ?_)
 refine aK ?_
 refine sr ?_
 refine vm O O ?_
 refine vm O O ?_
 refine aQ (fun d => ?_)
 refine vq (mO O O O underlying9 d.1 d.2) O ?_
 refine va O O (nx ?_)
 refine vm O O ?_
 refine vq (bN O O O) O ?_
 refine vm O O ?_
 refine az (b := decide (((x0.getD a.toNat 0).toNat : Int) < (97 : Int))) (fun o => RQ.sub (E' := [(4, .int .u8 ((x0.getD a.toNat 0).toNat : Int))]) ⟨O, trivial⟩ (aS O O)) O O O O O ?_
 refine az (b := decide (((x0.getD a.toNat 0).toNat : Int) < (97 : Int))) (fun e => RQ.sub (E' := [(17, .int .u8 ((x0.getD a.toNat 0).toNat : Int))]) ⟨aZ O e, trivial⟩ (dw O O O)) O O O O O ?_
 refine vq (hP O O O) O ?_
 refine vm O O ?_
 refine dk 7 (S := Bool) (Unit) (fun s y => [(0, str x0), (3, .int .i64 a), (4, .int .u8 ((x0.getD a.toNat 0).toNat : Int)), (27, .bool s)]) (fun s y => [F]) ?_ ?_
 refine eI (fun g => ?_) (fun h => ?_)
 rw [g]
 refine aO (aS O O) O O O O O O ?_
 refine aO (bN O O O) O O O O O O ?_
 refine aO (aS O O) O O O O O O ?_
 refine az (b := decide (((x0.getD a.toNat 0).toNat : Int) < (48 : Int))) (fun p => RQ.sub (E' := [(4, .int .u8 ((x0.getD a.toNat 0).toNat : Int))]) ⟨O, trivial⟩ (aS O O)) O O O O O ?_
 refine az (b := decide (((x0.getD a.toNat 0).toNat : Int) < (48 : Int))) (fun i => RQ.sub (E' := [(24, .int .u8 ((x0.getD a.toNat 0).toNat : Int))]) ⟨aZ O i, trivial⟩ (dw O O O)) O O O O O ?_
 refine aO (hP O O O) O O O O O O ?_
 refine vq (bL O O O O O) O (ag ?_)
 exact aM (s := (decide (((x0.getD a.toNat 0).toNat : Int) < (48 : Int))) || (decide ((57 : Int) < ((x0.getD a.toNat 0).toNat : Int)))) () ⟨O, O, O, O, trivial⟩ (.sel 0 O (.nil _))
 rw [h]
 refine aI O O O O O O ?_
 refine aI O O O O O O ?_
 refine aI O O O O O O ?_
 refine kT O O O O O ?_
 refine kT O O O O O ?_
 refine aI O O O O O O ?_
 refine vq (bL O O O O O) O (ag ?_)
 exact aM (s := false) () ⟨O, O, O, O, trivial⟩ (.sel 0 O (.nil _))
 intro c v
 refine vm O O ?_
 refine az (b := c) (fun q => RQ.sub (E' := [(4, .int .u8 ((x0.getD a.toNat 0).toNat : Int))]) ⟨O, trivial⟩ (aS O O)) O O O O O ?_
 refine az (b := c) (fun j => RQ.sub (E' := [(29, .int .u8 ((x0.getD a.toNat 0).toNat : Int))]) ⟨aZ O j, trivial⟩ (cz O O O)) O O O O O ?_
 refine vq (dQ O O O) O ?_
 refine vm O O ?_
 refine az (b := c && (!decide (((x0.getD a.toNat 0).toNat : Int) = (45 : Int)))) (fun t => RQ.sub (E' := [(4, .int .u8 ((x0.getD a.toNat 0).toNat : Int))]) ⟨O, trivial⟩ (aS O O)) O O O O O ?_
 refine az (b := c && (!decide (((x0.getD a.toNat 0).toNat : Int) = (45 : Int)))) (fun l => RQ.sub (E' := [(33, .int .u8 ((x0.getD a.toNat 0).toNat : Int))]) ⟨aZ O l, trivial⟩ (cz O O O)) O O O O O ?_
 refine vq (dQ O O O) O (ag (ae ?_))
 refine aT O (fun w => ?_) (fun x => ?_)
 refine sr ?_
 refine va O O (ag (ae (ak ?_)))
 refine aP ?_
 refine ax ?_
 refine eS ?_
 refine aP ?_
 refine eG ?_
 exact av () O O O (.sel 0 O (.nil _))
 refine au ?_
 refine bb (ae (aE ?_))
 refine vm O O ?_
 refine vq (bj O O O) O ?_
 refine va O O (ag ?_)
 exact bu (s := IntKind.i64.wrap (a + 1)) () ⟨O, O, trivial⟩ (.sel 0 O (.nil _))
 refine ck ?_
 refine bQ ?_
 refine bY ?_
 refine bR ?_
 exact fg (s := ()) () ⟨O, trivial⟩ (.sel 0 O (.nil _))
 intro ad af
 refine sr ?_
 refine vm O O ?_
 refine vq (iK O O O underlying9) O ?_
 refine vq (dw O O O) O ?_
 refine vm O O ?_
 refine az (b := decide ((0 : Int) < (x0.length : Int))) (fun u => RQ.sub (E' := [(0, str x0)]) ⟨O, trivial⟩ (aS O O)) O O O O O ?_
 refine az (b := decide ((0 : Int) < (x0.length : Int))) (fun m => RQ.sub (E' := [(40, str x0)]) ⟨aZ O m, trivial⟩ (iK O O O underlying9)) O O O O O ?_
 refine az (b := decide ((0 : Int) < (x0.length : Int))) (fun n => RQ.sub (E' := [(41, .int .i64 (x0.length : Int))]) ⟨aZ O n, trivial⟩ (nu O O O)) O O O O O ?_
 refine vq (dQ O O O) O ?_
 refine va O O (ag (ae (ak ?_)))
 exact av () O O O (.sel 0 O (.nil _))

def eh.f (k : Nat) (a : List ((List UInt8) × (List UInt8 × Int))) (d : List UInt8) (e : Int) (b : Bool) (x1 : List UInt8) : Option (Int × (List ((List UInt8) × (List UInt8 × Int))) × List UInt8 × Int × Bool) := if b = true then (some (11, a, d, e, b)) else ((dE.f k x1).bind fun g => (if (!g) = true then (some (7, a, d, e, b)) else ((bZ.f a d e b x1).bind fun h => (if h = true then (some (9, a, d, e, b)) else (if (256 : Int) ≤ (a.length : Int) then (some (10, a, d, e, b)) else ((bm.f a d e b).bind fun c => (if c.1 = true then (some (11, a, c.2.1, c.2.2.1, c.2.2.2)) else (some (0, bk a x1 (([] : List UInt8), (0 : Int)), c.2.1, c.2.2.1, c.2.2.2)))))))))
theorem eh.calls (W : World) (F : HA) (k : Nat) (b0 : Nat) (a : Nat) (b : Kps) (c : List ((List UInt8) × (List UInt8 × Int))) (d : List UInt8) (e : Int) (g : Bool) (x1 : List UInt8)  :
    Fn Tryz.prog W 29 [.pointer (some ⟨b0, 0, none⟩), str x1] [obj b0 76 [.map (some a), str d, .int .i64 e, .bool g], aF (aB a aD aA b) aG b c] F (eh.f k c d e g x1) (fun (r : Int × (List ((List UInt8) × (List UInt8 × Int))) × List UInt8 × Int × Bool) (y : Nat × Kps) => .int .i64 r.1) (fun r y => [obj b0 76 [.map (some y.1), str r.2.2.1, .int .i64 r.2.2.2.1, .bool r.2.2.2.2], aF (aB y.1 aD aA y.2) aG y.2 r.2.1]) := by
 unfold eh.f
 refine aJ 35 Tryz.func29 O Tryz.ntmps29 O ?_
 refine sr ?_
 refine va O O (ag (ae (ap ?_)))
 refine aK ?_
 refine sr ?_
 refine vm O O ?_
 refine vn O O ?_
 refine vq (aw O O underlying76 O O sizeOf4 O) O ?_
 refine vq (ai O O isAgg4 (.obj 0 O O)) O ?_
 refine va O O (ag (ae ?_))
 refine aT O (fun aa => ?_) (fun ab => ?_)
 refine sr ?_
 refine va O O (ag (ae (ak ?_)))
 refine aP ?_
 refine ax ?_
 exact av (a, b) O O O (.sel 0 O (.sel 0 O (.sel 0 O (.nil _))))
 refine sr ?_
 refine vm O O ?_
 refine am (fun ad l => ?_)
 refine ah (ar (vs := [str x1]) (cap := []) (A := []) (rst := [obj b0 76 [.map (some a), str d, .int .i64 e, .bool g], aF (aB a aD aA b) aG b c, F]) O O O O O O call68 (.sel 0 O (.sel 0 O (.sel 0 O (.nil _)))) (dE.calls _ _ k x1 ) l) O O O ?_
 intro af
 refine vq (fE O O) O ?_
 refine va O O (ag (ae ?_))
 refine aT O (fun al => ?_) (fun an => ?_)
 refine sr ?_
 refine va O O (ag (ae (ak ?_)))
 refine aP ?_
 refine ax ?_
 exact av (a, b) O O O (.sel 0 O (.sel 0 O (.sel 0 O (.nil _))))
 refine sr ?_
 refine vm O O ?_
 refine vm O O ?_
 refine am (fun a0 m => ?_)
 refine ah (ar (vs := [.pointer (some ⟨b0, 0, none⟩), str x1]) (cap := []) (A := [obj b0 76 [.map (some a), str d, .int .i64 e, .bool g], aF (aB a aD aA b) aG b c]) (rst := [F]) O O O O O O call69 (.sel 0 O (.sel 0 O (.sel 0 O (.nil _)))) (bZ.calls _ _ b0 a b c d e g x1 ) m) O O O ?_
 intro n
 refine va O O (ag (ae ?_))
 refine aT O (fun o => ?_) (fun q => ?_)
 refine sr ?_
 refine va O O (ag (ae (ak ?_)))
 refine aP ?_
 refine ax ?_
 exact av (a, b) O O O (.sel 0 O (.sel 0 O (.sel 0 O (.nil _))))
 refine sr ?_
 refine vm O O ?_
 refine vn O O ?_
 refine vq (aw O O underlying76 O O sizeOf74 O) O ?_
 refine vq (ai O O isAgg74 (.obj 0 O O)) O ?_
 refine vq (yL (gX 1 O) O O O underlying74) O ?_
 refine vq (gP O O O) O ?_
 refine va O O (ag (ae ?_))
 refine aL O (fun s => ?_) (fun t => ?_)
 refine sr ?_
 refine va O O (ag (ae (ak ?_)))
 refine aP ?_
 refine ax ?_
 exact av (a, b) O O O (.sel 0 O (.sel 0 O (.sel 0 O (.nil _))))
 refine sr ?_
 refine vm O O ?_
 refine am (fun i j => ?_)
 refine ah (ar (vs := [.pointer (some ⟨b0, 0, none⟩)]) (cap := []) (A := [obj b0 76 [.map (some a), str d, .int .i64 e, .bool g], aF (aB a aD aA b) aG b c]) (rst := [F]) O O O O O O call45 (.sel 0 O (.sel 0 O (.sel 0 O (.nil _)))) (bm.calls _ _ b0 a b c d e g ) j) O O O ?_
 intro u
 refine va O O (ag (ae ?_))
 refine aT O (fun w => ?_) (fun z => ?_)
 refine sr ?_
 refine va O O (ag (ae (ak ?_)))
 refine aP ?_
 refine ax ?_
 exact av (a, b) O O O (.sel 0 O (.sel 0 O (.sel 0 O (.nil _))))
 refine au ?_
 refine bb (ae (sr ?_))
 refine vm O O ?_
 refine vn O O ?_
 refine vq (aw O O underlying76 O O sizeOf74 O) O ?_
 refine vq (ai O O isAgg74 (.obj 0 O O)) O ?_
 refine vm O O ?_
 refine vq (eb (v := .agg #[.slice none 0 0, .int .i64 0]) O O (fun _ => by kernel_rfl)) O ?_
 refine ah (dL O O O) O O O ?_
 intro h
 refine aX (sU (ek := aD) 2 x1 h O O O O underlying74 iN O) O O ?_
 intro _
 refine gZ (H' := [obj b0 76 [.map (some a), str i.2.1, .int .i64 i.2.2.1, .bool i.2.2.2], aF (aB a aD aA (bk b x1 h)) aG (bk b x1 h) (bk c x1 (([] : List UInt8), (0 : Int))), F]) ((.sel 1 O (.foldU (x := x1) (p := h) (v := (([] : List UInt8), (0 : Int))) (none, 0) (.sel 1 O (.sel 0 O (.row_nil (.sel 0 O (.nil _)))))))) ?_
 refine nx ?_
 refine va O O (ag (ae (ak ?_)))
 exact av (a, bk b x1 h) O O O (.sel 0 O (.sel 0 O (.sel 0 O (.nil _))))

def fd.f (b : List ((List UInt8) × (List UInt8 × Int))) (e : List UInt8) (g : Int) (h : Bool) : Option (Int) := ((nc (fun (a : Int) (i : List UInt8) (c : List UInt8 × Int) => some (IntKind.i64.wrap (a + (c.1.length : Int)))) 0 b).bind fun a => (some a)).bind fun d => (some d)
theorem fd.calls (W : World) (F : HA) (b0 : Nat) (b : Nat) (a : Kps) (k : List ((List UInt8) × (List UInt8 × Int))) (c : List UInt8) (d : Int) (g : Bool)  :
    Fn Tryz.prog W 62 [.pointer (some ⟨b0, 0, none⟩)] [obj b0 76 [.map (some b), str c, .int .i64 d, .bool g], aF (aB b aD aA a) aG a k] F (fd.f k c d g) (fun (r : Int) (y : Unit) => .int .i64 r) (fun r y => [obj b0 76 [.map (some b), str c, .int .i64 d, .bool g], aF (aB b aD aA a) aG a k]) := by
 unfold fd.f
 refine aJ 23 Tryz.func62 O Tryz.ntmps62 O ?_
 refine sr ?_
 refine va O O (nx ?_)
 refine va O O (ag (ae ?_))
 refine bO (S := Int) (Unit) (fun s y => [(3, .int .i64 s)]) (fun s y => [obj b0 76 [.map (some b), str c, .int .i64 d, .bool g], aF (aB b aD aA a) aG a k, F]) ?_ ?_
 refine sr ?_
 refine vm O O ?_
 refine vn O O ?_
 refine vq (aw O O underlying76 O O sizeOf74 O) O ?_
 refine vq (ai O O isAgg74 (.obj 0 O O)) O ?_
 refine ah (qv 1 O O underlying74 O) O O O ?_
 intro m
 refine ag (ae ?_)
 refine aK ?_
 refine vz (S := Int) (Y := Unit) (o2 := fun i => some i) (fun (i : Int) (l : List UInt8) (h : List UInt8 × Int) => some (IntKind.i64.wrap (i + (h.1.length : Int)))) (fun s y => [(3, .int .i64 s), (10, .pointer (some ⟨m, 0, none⟩))]) (fun s y => [obj b0 76 [.map (some b), str c, .int .i64 d, .bool g], F]) 0 () (fun x y e => by simpa [str] using e) (fun _ _ => O) O O (fun _ _ _ _ => ⟨O, O, trivial⟩) ⟨O, O, trivial⟩ ((.sel 1 O (.sel 0 O (.sel 0 O (.nil _))))) ?_ ?_
 intro n o i t l h q
 refine cL (o' := some (IntKind.i64.wrap (i + (h.1.length : Int)))) O ?_
 refine fT (H' := [aF (itJ b m aD a o l) aG a n, obj b0 76 [.map (some b), str c, .int .i64 d, .bool g], F]) (Ent.refl _) ?_
 refine aK ?_
 refine sr ?_
 refine vq (uc O O (xP 0 O)) O ?_
 refine vq (bh O O O) O ?_
 refine va O O (ag (ae ?_))
 refine ia (v := h) 0 O q (fun j => ?_)
 refine fT (H' := [obj (bt a l) 89 [.slice j.1 h.1.length j.2, .int .i64 h.2], Row 5 1 j.1 h.1.length j.2 (ao h.1), fK (itJ b m aD a o l) aG a n l, obj b0 76 [.map (some b), str c, .int .i64 d, .bool g], F]) (Ent.refl _) ?_
 refine aE ?_
 refine vm O O ?_
 refine vm O O ?_
 refine vn O O ?_
 refine vq (aw O O underlying89 O O sizeOf25 O) O ?_
 refine vq (ai O O isAgg25 (.obj 0 O O)) O ?_
 refine vq (bi O O O underlying25) O ?_
 refine vq (bj O O O) O ?_
 refine va O O (ag (bb ?_))
 exact aM (s := IntKind.i64.wrap (i + (h.1.length : Int))) () ⟨O, O, trivial⟩ ((.foldF0 (x := l) (p := (bt a l)) (v := h) (j.1, j.2) O q (.sel 2 O (.sel 0 O (.sel 0 O (.sel 0 O (.sel 0 O (.nil _))))))))
 intro i t
 refine wj (o' := some i) O ?_
 refine pU (H' := [aF (aB b aD aA a) aG a k, obj b0 76 [.map (some b), str c, .int .i64 d, .bool g], F]) (Ent.refl _) ?_
 exact aM (s := i) () ⟨O, trivial⟩ (.sel 1 O (.sel 0 O (.sel 0 O (.nil _))))
 intro u w
 refine sr ?_
 refine vm O O ?_
 refine va O O (ag (ae (ak ?_)))
 exact av () O O O (.sel 0 O (.sel 0 O (.sel 0 O (.nil _))))

def ei.f (a : List ((List UInt8) × (List UInt8 × Int))) (d : List UInt8) (e : Int) (b : Bool) (x1 : List UInt8) (x2 : List UInt8) : Option (Int × (List ((List UInt8) × (List UInt8 × Int))) × List UInt8 × Int × Bool) := if (ay a x1).isSome = true then (if b = true then (some (11, a, d, e, b)) else ((fd.f a d e b).bind fun h => (if IntKind.i64.wrap (16777216 - h) < (x2.length : Int) then (some (10, a, d, e, b)) else (((bm.f a d e b).bind fun c => (if c.1 = true then (if 0 ≤ (0 : Int) ∧ (0 : Int) ≤ IntKind.i64.wrap (Int.tdiv (x2.length : Int) 2) ∧ IntKind.i64.wrap (Int.tdiv (x2.length : Int) 2) ≤ (x2.length : Int) then (some (cut x2 (0 : Int) (IntKind.i64.wrap (Int.tdiv (x2.length : Int) 2)), 11, c.2.1, c.2.2.1, c.2.2.2)) else none) else (some (x2, 0, c.2.1, c.2.2.1, c.2.2.2)))).bind fun g => (if ((((ay a x1).getD (([] : List UInt8), (0 : Int))).1).length + g.1.length) * 1 ≤ 140737488355328 then (some (g.2.1, bk a x1 ((((ay a x1).getD (([] : List UInt8), (0 : Int))).1) ++ g.1, ((ay a x1).getD (([] : List UInt8), (0 : Int))).2), x1, g.2.2.2.1, g.2.2.2.2)) else none))))) else (if b = true then (some (11, a, d, e, b)) else (some (8, a, d, e, b)))
theorem ei.calls (W : World) (F : HA) (b0 : Nat) (b : Nat) (a : Kps) (c : List ((List UInt8) × (List UInt8 × Int))) (d : List UInt8) (e : Int) (g : Bool) (x1 : List UInt8) (a2 : Option Addr) (c2 : Nat) (x2 : List UInt8) (h2 : Rd F a2 (ao x2)) (n : x2.length ≤ c2) (ad : c2 ≤ maxLen) :
    Fn Tryz.prog W 30 [.pointer (some ⟨b0, 0, none⟩), str x1, .slice a2 x2.length c2] [obj b0 76 [.map (some b), str d, .int .i64 e, .bool g], aF (aB b aD aA a) aG a c] F (ei.f c d e g x1 x2) (fun (r : Int × (List ((List UInt8) × (List UInt8 × Int))) × List UInt8 × Int × Bool) (y : Nat × Kps) => .int .i64 r.1) (fun r y => [obj b0 76 [.map (some y.1), str r.2.2.1, .int .i64 r.2.2.2.1, .bool r.2.2.2.2], aF (aB y.1 aD aA y.2) aG y.2 r.2.1]) := by
 unfold ei.f
 refine aJ 51 Tryz.func30 O Tryz.ntmps30 O ?_
 refine sr ?_
 refine va O O (ag (ae (ap ?_)))
 refine iq (fun i => ?_) (fun i => ?_)
 refine aE ?_
 refine vm O O ?_
 refine vn O O ?_
 refine vq (aw O O underlying76 O O sizeOf74 O) O ?_
 refine vq (ai O O isAgg74 (.obj 0 O O)) O ?_
 refine vm O O ?_
 refine vq ((ju (ek := aD) x1 (gX 1 O) i O O O underlying74 iN : RQ _ _ _ _ (.pointer (some ⟨(bt a x1), 0, none⟩)))) O ?_
 refine va O O (ag (ae (ap ?_)))
 refine aK ?_
 refine sr ?_
 refine vm O O ?_
 refine vn O O ?_
 refine vq (aw O O underlying76 O O sizeOf4 O) O ?_
 refine vq (ai O O isAgg4 (.obj 0 O O)) O ?_
 refine va O O (ag (ae ?_))
 refine aT O (fun a7 => ?_) (fun a8 => ?_)
 refine sr ?_
 refine va O O (ag (ae (ak ?_)))
 refine aP ?_
 refine ax ?_
 exact av (b, a) O O O (.sel 0 O (.sel 0 O (.sel 0 O (.nil _))))
 refine sr ?_
 refine vm O O ?_
 refine vq (pb O O O underlying87) O ?_
 refine va O O (ag (ae ?_))
 refine iy O ?_
 refine sr ?_
 refine vm O O ?_
 refine vq (bi O O O underlying25) O ?_
 refine vm O O ?_
 refine am (fun a9 af => ?_)
 refine ah (ar (vs := [.pointer (some ⟨b0, 0, none⟩)]) (cap := []) (A := [obj b0 76 [.map (some b), str d, .int .i64 e, .bool g], aF (aB b aD aA a) aG a c]) (rst := [F]) O O O O O O call62 (.sel 0 O (.sel 0 O (.sel 0 O (.nil _)))) (fd.calls _ _ b0 b a c d e g ) af) O O O ?_
 intro bc
 refine vq (ft O O O) O ?_
 refine vq (dw O O O) O ?_
 refine va O O (ag (ae ?_))
 refine aL O (fun be => ?_) (fun bs => ?_)
 refine sr ?_
 refine va O O (ag (ae (ak ?_)))
 refine aP ?_
 refine ax ?_
 exact av (b, a) O O O (.sel 0 O (.sel 0 O (.sel 0 O (.nil _))))
 refine au ?_
 refine bb (ae (sr ?_))
 refine va O O (ag (ae ?_))
 refine bO (S := List UInt8 × Int × List UInt8 × Int × Bool) (Option Addr × Nat) (fun s y => [(0, .pointer (some ⟨b0, 0, none⟩)), (1, str x1), (2, .slice y.1 s.1.length y.2), (7, .pointer (some ⟨(bt a x1), 0, none⟩)), (8, .int .i64 s.2.1)]) (fun s y => [pr (Rd F y.1 (ao s.1) ∧ s.1.length ≤ y.2 ∧ y.2 ≤ maxLen), obj b0 76 [.map (some b), str s.2.2.1, .int .i64 s.2.2.2.1, .bool s.2.2.2.2], aF (aB b aD aA a) aG a c, F]) ?_ ?_
 refine sr ?_
 refine vm O O ?_
 refine am (fun h q => ?_)
 refine ah (ar (vs := [.pointer (some ⟨b0, 0, none⟩)]) (cap := []) (A := [obj b0 76 [.map (some b), str d, .int .i64 e, .bool g], aF (aB b aD aA a) aG a c]) (rst := [F]) O O O O O O call45 (.sel 0 O (.sel 0 O (.sel 0 O (.nil _)))) (bm.calls _ _ b0 b a c d e g ) q) O O O ?_
 intro a0
 refine ag (ae ?_)
 refine aT O (fun a1 => ?_) (fun a3 => ?_)
 refine aE ?_
 refine vm O O ?_
 refine vm O O ?_
 refine vq (bi O O O underlying25) O ?_
 refine vq (mp O O O (by decide)) O ?_
 refine aQ (fun k => ?_)
 obtain ⟨al, an, t, u, w, z⟩ := ex (lo := (0 : Int)) (hi := IntKind.i64.wrap (Int.tdiv (x2.length : Int) 2)) h2 n k
 refine vq (dU (l := x2) (lo' := (0 : Int)) (hi' := IntKind.i64.wrap (Int.tdiv (x2.length : Int) 2)) O O O O underlying25 sizeOf5 (.inr ⟨_, O⟩) (.inl ⟨O, O⟩) k n t) O ?_
 refine va O O ?_
 refine va O O (ag ?_)
 exact aM (s := (cut x2 (0 : Int) (IntKind.i64.wrap (Int.tdiv (x2.length : Int) 2)), 11, h.2.1, h.2.2.1, h.2.2.2)) (al, an) ⟨O, O, O, O, O, trivial⟩ (.pr_in ⟨u, w, (Nat.le_trans z ad)⟩ (.sel 0 O (.sel 0 O (.sel 0 O (.nil _)))))
 refine au ?_
 exact aM (s := (x2, 0, h.2.1, h.2.2.1, h.2.2.2)) (a2, c2) ⟨O, O, O, O, O, trivial⟩ (.pr_in ⟨h2, n, ad⟩ (.sel 0 O (.sel 0 O (.sel 0 O (.nil _)))))
 intro m a4
 refine wi (fun aa => ?_)
 refine ap ?_
 refine ia (v := ((ay c x1).getD (([] : List UInt8), (0 : Int)))) 1 O (ew i) (fun j => ?_)
 refine fT (H' := [obj (bt a x1) 89 [.slice j.1 ((((ay c x1).getD (([] : List UInt8), (0 : Int))).1).length) j.2, .int .i64 (((ay c x1).getD (([] : List UInt8), (0 : Int))).2)], Row 5 1 j.1 (((ay c x1).getD (([] : List UInt8), (0 : Int))).1).length j.2 (ao (((ay c x1).getD (([] : List UInt8), (0 : Int))).1)), fK (aB b aD aA a) aG a c x1, obj b0 76 [.map (some b), str m.2.2.1, .int .i64 m.2.2.2.1, .bool m.2.2.2.2], F]) (Ent.refl _) ?_
 refine aE ?_
 refine vm O O ?_
 refine vm O O ?_
 refine vn O O ?_
 refine vq (aw O O underlying89 O O sizeOf25 O) O ?_
 refine vq (ai O O isAgg25 (.obj 0 O O)) O ?_
 refine vm O O ?_
 refine aQ (fun ab => ?_)
 refine ah (dd 1 O O O underlying25 eP O (aa.1.rds 3 O) ab) O O O ?_
 intro o
 refine vn O O ?_
 refine vq (aw O O underlying89 O O sizeOf25 O) O ?_
 refine aX (aV 0 O O O sizeOf25 O O (aY (by rfl)) O O) O O ?_
 intro _
 refine nx ?_
 refine vm O O ?_
 refine vm O O ?_
 refine vn O O ?_
 refine vq (aw O O underlying76 O O sizeOf9 O) O ?_
 refine aX (aV 3 O O O sizeOf9 O O (aY (by rfl)) O O) O O ?_
 intro _
 refine nx ?_
 refine vm O O ?_
 refine va O O (ag (ae (ak ?_)))
 exact av (b, a) O O O (.sel 3 O (.foldF (x := x1) (p := (bt a x1)) (v := ((((ay c x1).getD (([] : List UInt8), (0 : Int))).1) ++ m.1, ((ay c x1).getD (([] : List UInt8), (0 : Int))).2)) (o.1, o.2) O (.sel 2 O (.sel 0 O (.sel 0 O (.sel 0 O (.nil _)))))))
 refine aE ?_
 refine vm O O ?_
 refine vn O O ?_
 refine vq (aw O O underlying76 O O sizeOf74 O) O ?_
 refine vq (ai O O isAgg74 (.obj 0 O O)) O ?_
 refine vm O O ?_
 refine vq (jv (ek := aD) x1 (gX 1 O) (iz i) O O O underlying74 iN zeroValue87) O ?_
 refine va O O (ag (ae (ap ?_)))
 refine aK ?_
 refine sr ?_
 refine vm O O ?_
 refine vn O O ?_
 refine vq (aw O O underlying76 O O sizeOf4 O) O ?_
 refine vq (ai O O isAgg4 (.obj 0 O O)) O ?_
 refine va O O (ag (ae ?_))
 refine aT O (fun a5 => ?_) (fun a6 => ?_)
 refine sr ?_
 refine va O O (ag (ae (ak ?_)))
 refine aP ?_
 refine ax ?_
 exact av (b, a) O O O (.sel 0 O (.sel 0 O (.sel 0 O (.nil _))))
 refine sr ?_
 refine vm O O ?_
 refine vq (mK O O O underlying87) O ?_
 refine va O O (ag (ae ?_))
 refine gY O ?_
 refine sr ?_
 refine va O O (ag (ae (ak ?_)))
 refine aP ?_
 refine ax ?_
 exact av (b, a) O O O (.sel 0 O (.sel 0 O (.sel 0 O (.nil _))))

def cF.f (a : List ((List UInt8) × (List UInt8 × Int))) (d : List UInt8) (e : Int) (b : Bool) (x1 : List UInt8) : Option (Int × (List ((List UInt8) × (List UInt8 × Int))) × List UInt8 × Int × Bool) := if (ay a x1).isSome = true then (if b = true then (some (11, a, d, e, b)) else ((bm.f a d e b).bind fun c => (if c.1 = true then (some (11, a, c.2.1, c.2.2.1, c.2.2.2)) else (some (0, bk a x1 (((ay a x1).getD (([] : List UInt8), (0 : Int))).1, ((((ay a x1).getD (([] : List UInt8), (0 : Int))).1).length : Int)), c.2.1, c.2.2.1, c.2.2.2))))) else (if b = true then (some (11, a, d, e, b)) else (some (8, a, d, e, b)))
theorem cF.calls (W : World) (F : HA) (b0 : Nat) (b : Nat) (a : Kps) (c : List ((List UInt8) × (List UInt8 × Int))) (e : List UInt8) (g : Int) (h : Bool) (x1 : List UInt8)  :
    Fn Tryz.prog W 31 [.pointer (some ⟨b0, 0, none⟩), str x1] [obj b0 76 [.map (some b), str e, .int .i64 g, .bool h], aF (aB b aD aA a) aG a c] F (cF.f c e g h x1) (fun (r : Int × (List ((List UInt8) × (List UInt8 × Int))) × List UInt8 × Int × Bool) (y : Nat × Kps) => .int .i64 r.1) (fun r y => [obj b0 76 [.map (some y.1), str r.2.2.1, .int .i64 r.2.2.2.1, .bool r.2.2.2.2], aF (aB y.1 aD aA y.2) aG y.2 r.2.1]) := by
 unfold cF.f
 refine aJ 31 Tryz.func31 O Tryz.ntmps31 O ?_
 refine sr ?_
 refine va O O (ag (ae (ap ?_)))
 refine iq (fun i => ?_) (fun i => ?_)
 refine aE ?_
 refine vm O O ?_
 refine vn O O ?_
 refine vq (aw O O underlying76 O O sizeOf74 O) O ?_
 refine vq (ai O O isAgg74 (.obj 0 O O)) O ?_
 refine vm O O ?_
 refine vq ((ju (ek := aD) x1 (gX 1 O) i O O O underlying74 iN : RQ _ _ _ _ (.pointer (some ⟨(bt a x1), 0, none⟩)))) O ?_
 refine va O O (ag (ae (ap ?_)))
 refine aK ?_
 refine sr ?_
 refine vm O O ?_
 refine vn O O ?_
 refine vq (aw O O underlying76 O O sizeOf4 O) O ?_
 refine vq (ai O O isAgg4 (.obj 0 O O)) O ?_
 refine va O O (ag (ae ?_))
 refine aT O (fun n => ?_) (fun o => ?_)
 refine sr ?_
 refine va O O (ag (ae (ak ?_)))
 refine aP ?_
 refine ax ?_
 exact av (b, a) O O O (.sel 0 O (.sel 0 O (.sel 0 O (.nil _))))
 refine sr ?_
 refine vm O O ?_
 refine vq (pb O O O underlying87) O ?_
 refine va O O (ag (ae ?_))
 refine iy O ?_
 refine sr ?_
 refine vm O O ?_
 refine am (fun j k => ?_)
 refine ah (ar (vs := [.pointer (some ⟨b0, 0, none⟩)]) (cap := []) (A := [obj b0 76 [.map (some b), str e, .int .i64 g, .bool h], aF (aB b aD aA a) aG a c]) (rst := [F]) O O O O O O call45 (.sel 0 O (.sel 0 O (.sel 0 O (.nil _)))) (bm.calls _ _ b0 b a c e g h ) k) O O O ?_
 intro q
 refine va O O (ag (ae ?_))
 refine aT O (fun s => ?_) (fun t => ?_)
 refine sr ?_
 refine va O O (ag (ae (ak ?_)))
 refine aP ?_
 refine ax ?_
 exact av (b, a) O O O (.sel 0 O (.sel 0 O (.sel 0 O (.nil _))))
 refine au ?_
 refine bb (ae (ap ?_))
 refine ia (v := ((ay c x1).getD (([] : List UInt8), (0 : Int)))) 1 O (ew i) (fun d => ?_)
 refine fT (H' := [obj (bt a x1) 89 [.slice d.1 ((((ay c x1).getD (([] : List UInt8), (0 : Int))).1).length) d.2, .int .i64 (((ay c x1).getD (([] : List UInt8), (0 : Int))).2)], Row 5 1 d.1 (((ay c x1).getD (([] : List UInt8), (0 : Int))).1).length d.2 (ao (((ay c x1).getD (([] : List UInt8), (0 : Int))).1)), fK (aB b aD aA a) aG a c x1, obj b0 76 [.map (some b), str j.2.1, .int .i64 j.2.2.1, .bool j.2.2.2], F]) (Ent.refl _) ?_
 refine aE ?_
 refine vm O O ?_
 refine vm O O ?_
 refine vn O O ?_
 refine vq (aw O O underlying89 O O sizeOf25 O) O ?_
 refine vq (ai O O isAgg25 (.obj 0 O O)) O ?_
 refine vq (bi O O O underlying25) O ?_
 refine vn O O ?_
 refine vq (aw O O underlying89 O O sizeOf3 O) O ?_
 refine aX (aV 0 O O O sizeOf3 O O (aY (by rfl)) O O) O O ?_
 intro _
 refine nx ?_
 refine va O O (ag (ae (ak ?_)))
 exact av (b, a) O O O (.sel 3 O (.foldF (x := x1) (p := (bt a x1)) (v := (((ay c x1).getD (([] : List UInt8), (0 : Int))).1, ((((ay c x1).getD (([] : List UInt8), (0 : Int))).1).length : Int))) (d.1, d.2) O (.sel 2 O (.sel 0 O (.sel 0 O (.sel 0 O (.nil _)))))))
 refine aE ?_
 refine vm O O ?_
 refine vn O O ?_
 refine vq (aw O O underlying76 O O sizeOf74 O) O ?_
 refine vq (ai O O isAgg74 (.obj 0 O O)) O ?_
 refine vm O O ?_
 refine vq (jv (ek := aD) x1 (gX 1 O) (iz i) O O O underlying74 iN zeroValue87) O ?_
 refine va O O (ag (ae (ap ?_)))
 refine aK ?_
 refine sr ?_
 refine vm O O ?_
 refine vn O O ?_
 refine vq (aw O O underlying76 O O sizeOf4 O) O ?_
 refine vq (ai O O isAgg4 (.obj 0 O O)) O ?_
 refine va O O (ag (ae ?_))
 refine aT O (fun l => ?_) (fun m => ?_)
 refine sr ?_
 refine va O O (ag (ae (ak ?_)))
 refine aP ?_
 refine ax ?_
 exact av (b, a) O O O (.sel 0 O (.sel 0 O (.sel 0 O (.nil _))))
 refine sr ?_
 refine vm O O ?_
 refine vq (mK O O O underlying87) O ?_
 refine va O O (ag (ae ?_))
 refine gY O ?_
 refine sr ?_
 refine va O O (ag (ae (ak ?_)))
 refine aP ?_
 refine ax ?_
 exact av (b, a) O O O (.sel 0 O (.sel 0 O (.sel 0 O (.nil _))))
def cF.v (a : List ((List UInt8) × (List UInt8 × Int))) (b : List UInt8) (c : Int) (d : Bool) (x1 : List UInt8) : Int × (List ((List UInt8) × (List UInt8 × Int))) × List UInt8 × Int × Bool := (cF.f a b c d x1).getD (0, [], [], 0, false)
theorem cF.tot (a : List ((List UInt8) × (List UInt8 × Int))) (b : List UInt8) (c : Int) (d : Bool) (x1 : List UInt8) : cF.f a b c d x1 = some (cF.v a b c d x1) := by
  have h : ∃ r, cF.f a b c d x1 = some r := by
    unfold cF.f
    repeat' (first | exact ⟨_, rfl⟩ | split | simp only [Option.bind_some, bm.tot])
  obtain ⟨r, h⟩ := h
  unfold cF.v
  rw [h]; rfl

def ej.f (k : Nat) (a : List ((List UInt8) × (List UInt8 × Int))) (d : List UInt8) (e : Int) (c : Bool) (x1 : List UInt8) (x2 : List UInt8) : Option (Int × (List ((List UInt8) × (List UInt8 × Int))) × List UInt8 × Int × Bool) := if (ay a x1).isSome = true then (if c = true then (some (11, a, d, e, c)) else ((dE.f k x2).bind fun h => (if (!h) = true then (some (7, a, d, e, c)) else ((bm.f a d e c).bind fun b => (if b.1 = true then (some (11, a, b.2.1, b.2.2.1, b.2.2.2)) else (if x1 = x2 then (some (0, a, b.2.1, b.2.2.1, b.2.2.2)) else ((if b.2.1 = x1 then (some x2) else (if b.2.1 = x2 then (some ([] : List UInt8)) else (some b.2.1))).bind fun g => (some (0, bk (bU a x1) x2 (((ay a x1).getD (([] : List UInt8), (0 : Int))).1, ((ay a x1).getD (([] : List UInt8), (0 : Int))).2), g, b.2.2.1, b.2.2.2))))))))) else (if c = true then (some (11, a, d, e, c)) else (some (8, a, d, e, c)))
theorem ej.calls (W : World) (F : HA) (k : Nat) (b0 : Nat) (b : Nat) (a : Kps) (c : List ((List UInt8) × (List UInt8 × Int))) (e : List UInt8) (g : Int) (h : Bool) (x1 : List UInt8) (x2 : List UInt8)  :
    Fn Tryz.prog W 42 [.pointer (some ⟨b0, 0, none⟩), str x1, str x2] [obj b0 76 [.map (some b), str e, .int .i64 g, .bool h], aF (aB b aD aA a) aG a c] F (ej.f k c e g h x1 x2) (fun (r : Int × (List ((List UInt8) × (List UInt8 × Int))) × List UInt8 × Int × Bool) (y : Nat × Kps) => .int .i64 r.1) (fun r y => [obj b0 76 [.map (some y.1), str r.2.2.1, .int .i64 r.2.2.2.1, .bool r.2.2.2.2], aF (aB y.1 aD aA y.2) aG y.2 r.2.1]) := by
 unfold ej.f
 refine aJ 61 Tryz.func42 O Tryz.ntmps42 O ?_
 refine sr ?_
 refine va O O (ag (ae (ap ?_)))
 refine iq (fun j => ?_) (fun j => ?_)
 refine aE ?_
 refine vm O O ?_
 refine vn O O ?_
 refine vq (aw O O underlying76 O O sizeOf74 O) O ?_
 refine vq (ai O O isAgg74 (.obj 0 O O)) O ?_
 refine vm O O ?_
 refine vq ((ju (ek := aD) x1 (gX 1 O) j O O O underlying74 iN : RQ _ _ _ _ (.pointer (some ⟨(bt a x1), 0, none⟩)))) O ?_
 refine va O O (ag (ae (ap ?_)))
 refine aK ?_
 refine sr ?_
 refine vm O O ?_
 refine vn O O ?_
 refine vq (aw O O underlying76 O O sizeOf4 O) O ?_
 refine vq (ai O O isAgg4 (.obj 0 O O)) O ?_
 refine va O O (ag (ae ?_))
 refine aT O (fun a0 => ?_) (fun a1 => ?_)
 refine sr ?_
 refine va O O (ag (ae (ak ?_)))
 refine aP ?_
 refine ax ?_
 exact av (b, a) O O O (.sel 0 O (.sel 0 O (.sel 0 O (.nil _))))
 refine sr ?_
 refine vm O O ?_
 refine vq (pb O O O underlying87) O ?_
 refine va O O (ag (ae ?_))
 refine iy O ?_
 refine sr ?_
 refine vm O O ?_
 refine am (fun a2 n => ?_)
 refine ah (ar (vs := [str x2]) (cap := []) (A := []) (rst := [obj b0 76 [.map (some b), str e, .int .i64 g, .bool h], aF (aB b aD aA a) aG a c, F]) O O O O O O call68 (.sel 0 O (.sel 0 O (.sel 0 O (.nil _)))) (dE.calls _ _ k x2 ) n) O O O ?_
 intro a3
 refine vq (fE O O) O ?_
 refine va O O (ag (ae ?_))
 refine aT O (fun a4 => ?_) (fun a5 => ?_)
 refine sr ?_
 refine va O O (ag (ae (ak ?_)))
 refine aP ?_
 refine ax ?_
 exact av (b, a) O O O (.sel 0 O (.sel 0 O (.sel 0 O (.nil _))))
 refine sr ?_
 refine vm O O ?_
 refine am (fun i m => ?_)
 refine ah (ar (vs := [.pointer (some ⟨b0, 0, none⟩)]) (cap := []) (A := [obj b0 76 [.map (some b), str e, .int .i64 g, .bool h], aF (aB b aD aA a) aG a c]) (rst := [F]) O O O O O O call45 (.sel 0 O (.sel 0 O (.sel 0 O (.nil _)))) (bm.calls _ _ b0 b a c e g h ) m) O O O ?_
 intro o
 refine va O O (ag (ae ?_))
 refine aT O (fun q => ?_) (fun t => ?_)
 refine sr ?_
 refine va O O (ag (ae (ak ?_)))
 refine aP ?_
 refine ax ?_
 exact av (b, a) O O O (.sel 0 O (.sel 0 O (.sel 0 O (.nil _))))
 refine sr ?_
 refine vm O O ?_
 refine vm O O ?_
 refine vq (js O O O) O ?_
 refine va O O (ag (ae ?_))
 refine aL O (fun u => ?_) (fun w => ?_)
 refine sr ?_
 refine va O O (ag (ae (ak ?_)))
 refine aP ?_
 refine ax ?_
 exact av (b, a) O O O (.sel 0 O (.sel 0 O (.sel 0 O (.nil _))))
 refine au ?_
 refine bb (ae ?_)
 refine bO (S := List UInt8) (Unit) (fun s y => [(0, .pointer (some ⟨b0, 0, none⟩)), (1, str x1), (2, str x2), (7, .pointer (some ⟨(bt a x1), 0, none⟩))]) (fun s y => [obj b0 76 [.map (some b), str s, .int .i64 i.2.2.1, .bool i.2.2.2], aF (aB b aD aA a) aG a c, F]) ?_ ?_
 refine sr ?_
 refine vm O O ?_
 refine vn O O ?_
 refine vq (aw O O underlying76 O O sizeOf9 O) O ?_
 refine vq (ai O O isAgg9 (.obj 0 O O)) O (ag (ae ?_))
 refine aK ?_
 refine sr ?_
 refine vm O O ?_
 refine vq (js O O O) O ?_
 refine va O O (ag (ae ?_))
 refine aL O (fun z => ?_) (fun aa => ?_)
 refine aE ?_
 refine vm O O ?_
 refine vm O O ?_
 refine vn O O ?_
 refine vq (aw O O underlying76 O O sizeOf9 O) O ?_
 refine aX (aV 0 O O O sizeOf9 O O (aY (by rfl)) O O) O O ?_
 intro _
 refine ag (bb ?_)
 exact aM (s := x2) () ⟨O, O, O, O, trivial⟩ (.sel 0 O (.sel 0 O (.sel 0 O (.nil _))))
 refine sr ?_
 refine vm O O ?_
 refine vq (js O O O) O ?_
 refine va O O (ag (ae ?_))
 refine aL O (fun ab => ?_) (fun ad => ?_)
 refine aE ?_
 refine vm O O ?_
 refine vn O O ?_
 refine vq (aw O O underlying76 O O sizeOf9 O) O ?_
 refine aX (aV 0 O O O sizeOf9 O O (aY (by rfl)) O O) O O ?_
 intro _
 refine ag (bb ?_)
 exact aM (s := ([] : List UInt8)) () ⟨O, O, O, O, trivial⟩ (.sel 0 O (.sel 0 O (.sel 0 O (.nil _))))
 refine au ?_
 refine bb ?_
 exact aM (s := i.2.1) () ⟨O, O, O, O, trivial⟩ (.sel 0 O (.sel 0 O (.sel 0 O (.nil _))))
 intro l af
 refine sr ?_
 refine vm O O ?_
 refine vn O O ?_
 refine vq (aw O O underlying76 O O sizeOf74 O) O ?_
 refine vq (ai O O isAgg74 (.obj 0 O O)) O ?_
 refine vm O O ?_
 refine vK (v := ((ay c x1).getD (([] : List UInt8), (0 : Int)))) 1 O (ew j) (fun d => ?_)
 refine gZ (H' := [obj (bt a x1) 89 [.slice d.1 ((((ay c x1).getD (([] : List UInt8), (0 : Int))).1).length) d.2, .int .i64 (((ay c x1).getD (([] : List UInt8), (0 : Int))).2)], Row 5 1 d.1 (((ay c x1).getD (([] : List UInt8), (0 : Int))).1).length d.2 (ao (((ay c x1).getD (([] : List UInt8), (0 : Int))).1)), fK (aB b aD aA a) aG a c x1, obj b0 76 [.map (some b), str l, .int .i64 i.2.2.1, .bool i.2.2.2], F]) (Ent.refl _) ?_
 refine aX (xH (ek := aD) 2 x1 O O O O underlying74 iN O) O O ?_
 intro _
 refine nx ?_
 refine vm O O ?_
 refine vn O O ?_
 refine vq (aw O O underlying76 O O sizeOf74 O) O ?_
 refine vq (ai O O isAgg74 (.obj 3 O O)) O ?_
 refine vm O O ?_
 refine vm O O ?_
 refine aX (sU (ek := aD) 2 x2 (bt a x1) O O O O underlying74 iN O) O O ?_
 intro _
 refine gZ (H' := [aF (aB b aD aA (bk (bU a x1) x2 (bt a x1))) aG (bk (bU a x1) x2 (bt a x1)) (bk (bU c x1) x2 (((ay c x1).getD (([] : List UInt8), (0 : Int))).1, ((ay c x1).getD (([] : List UInt8), (0 : Int))).2)), obj b0 76 [.map (some b), str l, .int .i64 i.2.2.1, .bool i.2.2.2], F]) ((.foldU (x := x2) (p := (bt a x1)) (v := (((ay c x1).getD (([] : List UInt8), (0 : Int))).1, ((ay c x1).getD (([] : List UInt8), (0 : Int))).2)) (d.1, d.2) (.sel 2 O (.sel 0 O (.sel 0 O (.sel 0 O (.sel 0 O (.nil _)))))))) ?_
 refine nx ?_
 refine va O O (ag (ae (ak ?_)))
 exact av (b, bk (bU a x1) x2 (bt a x1)) O O O (.sel 1 O (.sel 0 O (.sel 0 O (.nil _))))
 refine aE ?_
 refine vm O O ?_
 refine vn O O ?_
 refine vq (aw O O underlying76 O O sizeOf74 O) O ?_
 refine vq (ai O O isAgg74 (.obj 0 O O)) O ?_
 refine vm O O ?_
 refine vq (jv (ek := aD) x1 (gX 1 O) (iz j) O O O underlying74 iN zeroValue87) O ?_
 refine va O O (ag (ae (ap ?_)))
 refine aK ?_
 refine sr ?_
 refine vm O O ?_
 refine vn O O ?_
 refine vq (aw O O underlying76 O O sizeOf4 O) O ?_
 refine vq (ai O O isAgg4 (.obj 0 O O)) O ?_
 refine va O O (ag (ae ?_))
 refine aT O (fun al => ?_) (fun an => ?_)
 refine sr ?_
 refine va O O (ag (ae (ak ?_)))
 refine aP ?_
 refine ax ?_
 exact av (b, a) O O O (.sel 0 O (.sel 0 O (.sel 0 O (.nil _))))
 refine sr ?_
 refine vm O O ?_
 refine vq (mK O O O underlying87) O ?_
 refine va O O (ag (ae ?_))
 refine gY O ?_
 refine sr ?_
 refine va O O (ag (ae (ak ?_)))
 refine aP ?_
 refine ax ?_
 exact av (b, a) O O O (.sel 0 O (.sel 0 O (.sel 0 O (.nil _))))

def gr.f (b : List ((List UInt8) × (List UInt8 × Int))) (c : List UInt8) (d : Int) (e : Bool) : Option (Int × (List ((List UInt8) × (List UInt8 × Int))) × List UInt8 × Int × Bool) := (dK.f b c d e).bind fun a => (some (a.2.1, a.2.2.1, a.2.2.2.1, a.2.2.2.2.1, a.2.2.2.2.2))
theorem gr.calls (W : World) (F : HA) (i : Nat) (c : Nat) (a : Nat) (b : Kps) (d : List ((List UInt8) × (List UInt8 × Int))) (e : List UInt8) (g : Int) (h : Bool)  :
    Fn Tryz.prog W 36 [.pointer (some ⟨i, 0, none⟩)] [obj c 76 [.map (some a), str e, .int .i64 g, .bool h], aF (aB a aD aA b) aG b d, obj i 28 [.pointer (some ⟨c, 0, none⟩)]] F (gr.f d e g h) (fun (r : Int × (List ((List UInt8) × (List UInt8 × Int))) × List UInt8 × Int × Bool) (y : Nat × Kps) => .int .i64 r.1) (fun r y => [obj c 76 [.map (some y.1), str r.2.2.1, .int .i64 r.2.2.2.1, .bool r.2.2.2.2], aF (aB y.1 aD aA y.2) aG y.2 r.2.1, obj i 28 [.pointer (some ⟨c, 0, none⟩)]]) := by
 unfold gr.f
 refine aJ 10 Tryz.func36 O Tryz.ntmps36 O ?_
 refine sr ?_
 refine va O O (nx ?_)
 refine vq (ai O O isAgg28 (.obj 2 O O)) O ?_
 refine am (fun l k => ?_)
 refine ah (ar (vs := [.pointer (some ⟨c, 0, none⟩)]) (cap := []) (A := [obj c 76 [.map (some a), str e, .int .i64 g, .bool h], aF (aB a aD aA b) aG b d]) (rst := [obj i 28 [.pointer (some ⟨c, 0, none⟩)], F]) O O O O O O call37 (.sel 0 O (.sel 0 O (.sel 0 O (.sel 0 O (.nil _))))) (dK.calls _ _ c a b d e g h ) k) O O O ?_
 intro j
 refine vm O O ?_
 refine vq (bh O O O) O ?_
 refine vq (bh O O O) O ?_
 refine va O O ?_
 refine va O O (nx ?_)
 refine vm O O ?_
 refine va O O (ag (ae (ak ?_)))
 exact av (j.1, j.2) O O O (.sel 0 O (.sel 0 O (.sel 0 O (.sel 0 O (.nil _)))))

def gu.f (k : Nat) (b : List ((List UInt8) × (List UInt8 × Int))) (c : List UInt8) (d : Int) (e : Bool) : Option (Int × (List ((List UInt8) × (List UInt8 × Int))) × List UInt8 × Int × Bool) := (eh.f k b c d e ([115, 110, 97, 112, 46, 116, 109, 112] : List UInt8)).bind fun a => (some (a.1, a.2.1, a.2.2.1, a.2.2.2.1, a.2.2.2.2))
theorem gu.calls (W : World) (F : HA) (k : Nat) (i : Nat) (c : Nat) (a : Nat) (b : Kps) (d : List ((List UInt8) × (List UInt8 × Int))) (e : List UInt8) (g : Int) (h : Bool)  :
    Fn Tryz.prog W 38 [.pointer (some ⟨i, 0, none⟩)] [obj c 76 [.map (some a), str e, .int .i64 g, .bool h], aF (aB a aD aA b) aG b d, obj i 28 [.pointer (some ⟨c, 0, none⟩)]] F (gu.f k d e g h) (fun (r : Int × (List ((List UInt8) × (List UInt8 × Int))) × List UInt8 × Int × Bool) (y : Nat × Kps) => .int .i64 r.1) (fun r y => [obj c 76 [.map (some y.1), str r.2.2.1, .int .i64 r.2.2.2.1, .bool r.2.2.2.2], aF (aB y.1 aD aA y.2) aG y.2 r.2.1, obj i 28 [.pointer (some ⟨c, 0, none⟩)]]) := by
 unfold gu.f
 refine aJ 4 Tryz.func38 O Tryz.ntmps38 O ?_
 refine sr ?_
 refine va O O (nx ?_)
 refine vq (ai O O isAgg28 (.obj 2 O O)) O ?_
 refine am (fun m l => ?_)
 refine ah (ar (vs := [.pointer (some ⟨c, 0, none⟩), str ([115, 110, 97, 112, 46, 116, 109, 112] : List UInt8)]) (cap := []) (A := [obj c 76 [.map (some a), str e, .int .i64 g, .bool h], aF (aB a aD aA b) aG b d]) (rst := [obj i 28 [.pointer (some ⟨c, 0, none⟩)], F]) O O O O O O call29 (.sel 0 O (.sel 0 O (.sel 0 O (.sel 0 O (.nil _))))) (eh.calls _ _ k c a b d e g h ([115, 110, 97, 112, 46, 116, 109, 112] : List UInt8) ) l) O O O ?_
 intro j
 refine va O O (ag (ae (ak ?_)))
 exact av (j.1, j.2) O O O (.sel 0 O (.sel 0 O (.sel 0 O (.sel 0 O (.nil _)))))

def gv.f (b : List ((List UInt8) × (List UInt8 × Int))) (c : List UInt8) (d : Int) (e : Bool) (g : List UInt8) : Option (Int × (List ((List UInt8) × (List UInt8 × Int))) × List UInt8 × Int × Bool) := (ei.f b c d e ([115, 110, 97, 112, 46, 116, 109, 112] : List UInt8) g).bind fun a => (some (a.1, a.2.1, a.2.2.1, a.2.2.2.1, a.2.2.2.2))
theorem gv.calls (W : World) (F : HA) (l : Nat) (g : Nat) (d : Nat) (e : Kps) (h : List ((List UInt8) × (List UInt8 × Int))) (i : List UInt8) (j : Int) (k : Bool) (m : Nat) (c : Option Addr) (b : Nat) (a : List UInt8) (p : Rd F c (ao a)) (n : a.length ≤ b) (o : b ≤ maxLen) :
    Fn Tryz.prog W 39 [.pointer (some ⟨l, 0, none⟩), .pointer (some ⟨m, 0, none⟩)] [obj g 76 [.map (some d), str i, .int .i64 j, .bool k], aF (aB d aD aA e) aG e h, obj l 28 [.pointer (some ⟨g, 0, none⟩)], obj m 25 [.slice c a.length b]] F (gv.f h i j k a) (fun (r : Int × (List ((List UInt8) × (List UInt8 × Int))) × List UInt8 × Int × Bool) (y : Nat × Kps) => .int .i64 r.1) (fun r y => [obj g 76 [.map (some y.1), str r.2.2.1, .int .i64 r.2.2.2.1, .bool r.2.2.2.2], aF (aB y.1 aD aA y.2) aG y.2 r.2.1, obj l 28 [.pointer (some ⟨g, 0, none⟩)], obj m 25 [.slice c a.length b]]) := by
 unfold gv.f
 refine aJ 6 Tryz.func39 O Tryz.ntmps39 O ?_
 refine sr ?_
 refine va O O (nx ?_)
 refine vq (ai O O isAgg28 (.obj 2 O O)) O ?_
 refine vq (ai O O isAgg25 (.obj 3 O O)) O ?_
 refine am (fun t s => ?_)
 refine ah (ar (vs := [.pointer (some ⟨g, 0, none⟩), str ([115, 110, 97, 112, 46, 116, 109, 112] : List UInt8), .slice c a.length b]) (cap := []) (A := [obj g 76 [.map (some d), str i, .int .i64 j, .bool k], aF (aB d aD aA e) aG e h]) (rst := [obj l 28 [.pointer (some ⟨g, 0, none⟩)], obj m 25 [.slice c a.length b], F]) O O O O O O call30 (.sel 0 O (.sel 0 O (.sel 0 O (.sel 0 O (.sel 0 O (.nil _)))))) (ei.calls _ _ g d e h i j k ([115, 110, 97, 112, 46, 116, 109, 112] : List UInt8) c b a (p.lend 2 O) n o) s) O O O ?_
 intro q
 refine va O O (ag (ae (ak ?_)))
 exact av (q.1, q.2) O O O (.sel 0 O (.sel 0 O (.sel 0 O (.sel 0 O (.sel 0 O (.nil _))))))

def gw.f (b : List ((List UInt8) × (List UInt8 × Int))) (c : List UInt8) (d : Int) (e : Bool) : Option (Int × (List ((List UInt8) × (List UInt8 × Int))) × List UInt8 × Int × Bool) := (cF.f b c d e ([115, 110, 97, 112, 46, 116, 109, 112] : List UInt8)).bind fun a => (some (a.1, a.2.1, a.2.2.1, a.2.2.2.1, a.2.2.2.2))
theorem gw.calls (W : World) (F : HA) (i : Nat) (c : Nat) (a : Nat) (b : Kps) (d : List ((List UInt8) × (List UInt8 × Int))) (e : List UInt8) (g : Int) (h : Bool)  :
    Fn Tryz.prog W 40 [.pointer (some ⟨i, 0, none⟩)] [obj c 76 [.map (some a), str e, .int .i64 g, .bool h], aF (aB a aD aA b) aG b d, obj i 28 [.pointer (some ⟨c, 0, none⟩)]] F (gw.f d e g h) (fun (r : Int × (List ((List UInt8) × (List UInt8 × Int))) × List UInt8 × Int × Bool) (y : Nat × Kps) => .int .i64 r.1) (fun r y => [obj c 76 [.map (some y.1), str r.2.2.1, .int .i64 r.2.2.2.1, .bool r.2.2.2.2], aF (aB y.1 aD aA y.2) aG y.2 r.2.1, obj i 28 [.pointer (some ⟨c, 0, none⟩)]]) := by
 unfold gw.f
 refine aJ 4 Tryz.func40 O Tryz.ntmps40 O ?_
 refine sr ?_
 refine va O O (nx ?_)
 refine vq (ai O O isAgg28 (.obj 2 O O)) O ?_
 refine am (fun l k => ?_)
 refine ah (ar (vs := [.pointer (some ⟨c, 0, none⟩), str ([115, 110, 97, 112, 46, 116, 109, 112] : List UInt8)]) (cap := []) (A := [obj c 76 [.map (some a), str e, .int .i64 g, .bool h], aF (aB a aD aA b) aG b d]) (rst := [obj i 28 [.pointer (some ⟨c, 0, none⟩)], F]) O O O O O O call31 (.sel 0 O (.sel 0 O (.sel 0 O (.sel 0 O (.nil _))))) (cF.calls _ _ c a b d e g h ([115, 110, 97, 112, 46, 116, 109, 112] : List UInt8) ) k) O O O ?_
 intro j
 refine va O O (ag (ae (ak ?_)))
 exact av (j.1, j.2) O O O (.sel 0 O (.sel 0 O (.sel 0 O (.sel 0 O (.nil _)))))

def gx.f (k : Nat) (b : List ((List UInt8) × (List UInt8 × Int))) (c : List UInt8) (d : Int) (e : Bool) (g : List UInt8) : Option (Int × (List ((List UInt8) × (List UInt8 × Int))) × List UInt8 × Int × Bool) := (ej.f k b c d e ([115, 110, 97, 112, 46, 116, 109, 112] : List UInt8) g).bind fun a => (some (a.1, a.2.1, a.2.2.1, a.2.2.2.1, a.2.2.2.2))
theorem gx.calls (W : World) (F : HA) (k : Nat) (j : Nat) (d : Nat) (b : Nat) (c : Kps) (e : List ((List UInt8) × (List UInt8 × Int))) (g : List UInt8) (h : Int) (i : Bool) (l : Nat) (a : List UInt8)  :
    Fn Tryz.prog W 41 [.pointer (some ⟨j, 0, none⟩), .pointer (some ⟨l, 0, none⟩)] [obj d 76 [.map (some b), str g, .int .i64 h, .bool i], aF (aB b aD aA c) aG c e, obj j 28 [.pointer (some ⟨d, 0, none⟩)], obj l 9 [str a]] F (gx.f k e g h i a) (fun (r : Int × (List ((List UInt8) × (List UInt8 × Int))) × List UInt8 × Int × Bool) (y : Nat × Kps) => .int .i64 r.1) (fun r y => [obj d 76 [.map (some y.1), str r.2.2.1, .int .i64 r.2.2.2.1, .bool r.2.2.2.2], aF (aB y.1 aD aA y.2) aG y.2 r.2.1, obj j 28 [.pointer (some ⟨d, 0, none⟩)], obj l 9 [str a]]) := by
 unfold gx.f
 refine aJ 6 Tryz.func41 O Tryz.ntmps41 O ?_
 refine sr ?_
 refine va O O (nx ?_)
 refine vq (ai O O isAgg28 (.obj 2 O O)) O ?_
 refine vq (ai O O isAgg9 (.obj 3 O O)) O ?_
 refine am (fun o n => ?_)
 refine ah (ar (vs := [.pointer (some ⟨d, 0, none⟩), str ([115, 110, 97, 112, 46, 116, 109, 112] : List UInt8), str a]) (cap := []) (A := [obj d 76 [.map (some b), str g, .int .i64 h, .bool i], aF (aB b aD aA c) aG c e]) (rst := [obj j 28 [.pointer (some ⟨d, 0, none⟩)], obj l 9 [str a], F]) O O O O O O call42 (.sel 0 O (.sel 0 O (.sel 0 O (.sel 0 O (.sel 0 O (.nil _)))))) (ej.calls _ _ k d b c e g h i ([115, 110, 97, 112, 46, 116, 109, 112] : List UInt8) a ) n) O O O ?_
 intro m
 refine va O O (ag (ae (ak ?_)))
 exact av (m.1, m.2) O O O (.sel 0 O (.sel 0 O (.sel 0 O (.sel 0 O (.sel 0 O (.nil _))))))

def fX.f (k : Nat) (g : List ((List UInt8) × (List UInt8 × Int))) (h : List UInt8) (i : Int) (j : Bool) (l : Int) (p : Int) (q : List UInt8) : Option (Int × (List ((List UInt8) × (List UInt8 × Int))) × List UInt8 × Int × Bool) := (eH.f k l p q).bind fun o => (if o.2 = (0 : Int) then (if l = (0 : Int) then (some (4, g, h, i, j)) else ((iv.f k o.1).bind fun m => (if m.2 = (0 : Int) then ((fY.f l).bind fun n => (if n.2 = (0 : Int) then ((gr.f g h i j).bind fun a => (if a.1 = (0 : Int) then ((gu.f k a.2.1 a.2.2.1 a.2.2.2.1 a.2.2.2.2).bind fun b => (if b.1 = (0 : Int) then ((gv.f b.2.1 b.2.2.1 b.2.2.2.1 b.2.2.2.2 m.1).bind fun c => (if c.1 = (0 : Int) then ((gw.f c.2.1 c.2.2.1 c.2.2.2.1 c.2.2.2.2).bind fun d => (if d.1 = (0 : Int) then ((gx.f k d.2.1 d.2.2.1 d.2.2.2.1 d.2.2.2.2 n.1).bind fun e => (if e.1 = (0 : Int) then (some (0, e.2.1, e.2.2.1, e.2.2.2.1, e.2.2.2.2)) else (some (e.1, e.2.1, e.2.2.1, e.2.2.2.1, e.2.2.2.2)))) else (some (d.1, d.2.1, d.2.2.1, d.2.2.2.1, d.2.2.2.2)))) else (some (c.1, c.2.1, c.2.2.1, c.2.2.2.1, c.2.2.2.2)))) else (some (b.1, b.2.1, b.2.2.1, b.2.2.2.1, b.2.2.2.2)))) else (some (a.1, a.2.1, a.2.2.1, a.2.2.2.1, a.2.2.2.2)))) else (some (n.2, g, h, i, j)))) else (some (m.2, g, h, i, j))))) else (some (o.2, g, h, i, j)))
theorem fX.calls (W : World) (F : HA) (k : Nat) (b0 : Nat) (d : Nat) (e : Kps) (ad : List ((List UInt8) × (List UInt8 × Int))) (af : List UInt8) (al : Int) (an : Bool) (g : Int) (n : Int) (o : Option Addr) (l : Nat) (h : List UInt8) (b6 : Rd F o (ao h)) (a3 : h.length ≤ l) (a4 : l ≤ maxLen) (hgl : Glb Tryz.prog F) :
    Fn Tryz.prog W 10 [.pointer (some ⟨b0, 0, none⟩), .agg #[.int .i64 g, .int .i64 n, .slice o h.length l]] [obj b0 76 [.map (some d), str af, .int .i64 al, .bool an], aF (aB d aD aA e) aG e ad] F (fX.f k ad af al an g n h) (fun (r : Int × (List ((List UInt8) × (List UInt8 × Int))) × List UInt8 × Int × Bool) (y : Nat × Kps) => .int .i64 r.1) (fun r y => [obj b0 76 [.map (some y.1), str r.2.2.1, .int .i64 r.2.2.2.1, .bool r.2.2.2.2], aF (aB y.1 aD aA y.2) aG y.2 r.2.1]) := by
 unfold fX.f
 refine aJ 60 Tryz.func10 O Tryz.ntmps10 O ?_
 refine sr ?_
 refine ah (dL O O O) O O O ?_
 intro a
 refine ah (dL O O O) O O O ?_
 intro a1
 refine va O O (nx ?_)
 refine vq (eb (v := .agg #[]) O O (fun _ => by kernel_rfl)) O ?_
 refine vq (du 0 O O isAgg27 sizeOf27 O O) O ?_
 refine am (fun p b7 => ?_)
 refine ah (ar (vs := [.agg #[], .agg #[.int .i64 g, .int .i64 n, .slice o h.length l]]) (cap := []) (A := []) (rst := [obj a1 27 [.int .i64 g, .int .i64 n, .slice o h.length l], obj a 28 [.pointer (some ⟨b0, 0, none⟩)], obj b0 76 [.map (some d), str af, .int .i64 al, .bool an], aF (aB d aD aA e) aG e ad, F]) O O O O O O call34 (.sel 0 O (.sel 0 O (.sel 0 O (.sel 0 O (.sel 0 O (.nil _)))))) (eH.calls _ _ k g n o l h (b6.lend 4 O) a3 a4) b7) O O O ?_
 intro j
 refine vm O O ?_
 refine vq (bh O O O) O ?_
 refine vq (bh O O O) O ?_
 refine va O O ?_
 refine va O O (ag (ae (ap (sr ?_))))
 refine vm O O ?_
 refine vq (cz O O O) O (ag (ae ?_))
 refine br O (fun d3 => ?_) (fun d4 => ?_)
 refine au ?_
 refine ae (ap (sr ?_))
 refine vq (aw O O underlying27 O O sizeOf3 O) O ?_
 refine vq (ai O O isAgg3 (.obj 1 O O)) O ?_
 refine vq (bD O O O) O (ag (ae ?_))
 refine aL O (fun d5 => ?_) (fun d6 => ?_)
 refine sr ?_
 refine va O O (ag (ae (ak ?_)))
 refine ax ?_
 exact av (d, e) O O O (.sel 3 O (.sel 3 O (.sel 3 O (.nil _))))
 refine au ?_
 refine ae (sr ?_)
 refine vm O O ?_
 refine am (fun c a5 => ?_)
 refine bf 0 O (fun a6 a7 a8 b8 => ?_)
 refine ah (ar (vs := [.slice j.1 p.1.length j.2]) (cap := []) (A := []) (rst := [Row 5 1 j.1 p.1.length j.2 (ao p.1), obj a1 27 [.int .i64 g, .int .i64 n, .slice o h.length l], obj a 28 [.pointer (some ⟨b0, 0, none⟩)], obj b0 76 [.map (some d), str af, .int .i64 al, .bool an], aF (aB d aD aA e) aG e ad, F]) O O O O O O call35 (.sel 0 O (.sel 0 O (.sel 0 O (.sel 0 O (.sel 0 O (.sel 0 O (.nil _))))))) (iv.calls _ _ k j.1 j.2 p.1 (a6.lend 0 O) a7 a8) a5) O O O ?_
 intro b
 refine vm O O ?_
 refine vq (bh O O O) O ?_
 refine vq (bh O O O) O ?_
 refine ah (df O zeroValue25 O) O O O ?_
 intro i
 refine aX (aV 0 O O O sizeOf25 O O (aY (by rfl)) O O) O O ?_
 intro _
 refine va O O (ag (ae (ap (sr ?_))))
 refine vm O O ?_
 refine vq (cz O O O) O (ag (ae ?_))
 refine br O (fun cd => ?_) (fun ch => ?_)
 refine au ?_
 refine ae (sr ?_)
 refine vq (aw O O underlying27 O O sizeOf3 O) O ?_
 refine vq (ai O O isAgg3 (.obj 3 O O)) O ?_
 refine am (fun a0 a9 => ?_)
 refine ah (ar (vs := [.int .i64 g]) (cap := []) (A := []) (rst := [obj i 25 [.slice b.1 c.1.length b.2], Row 5 1 b.1 c.1.length b.2 (ao c.1), Row 5 1 j.1 p.1.length j.2 (ao p.1), obj a1 27 [.int .i64 g, .int .i64 n, .slice o h.length l], obj a 28 [.pointer (some ⟨b0, 0, none⟩)], obj b0 76 [.map (some d), str af, .int .i64 al, .bool an], aF (aB d aD aA e) aG e ad, F]) O O O O O O call11 (.sel 0 O (.sel 0 O (.sel 0 O (.sel 0 O (.sel 0 O (.sel 0 O (.sel 0 O (.sel 0 O (.nil _))))))))) (fY.calls _ _ g (hgl.lend 7 O)) a9) O O O ?_
 intro c0
 refine vm O O ?_
 refine vq (bh O O O) O ?_
 refine vq (bh O O O) O ?_
 refine ah (df O zeroValue9 O) O O O ?_
 intro m
 refine aX (aV 0 O O O sizeOf9 O O (aY (by rfl)) O O) O O ?_
 intro _
 refine va O O (ag (ae (ap (sr ?_))))
 refine vm O O ?_
 refine vq (cz O O O) O (ag (ae ?_))
 refine br O (fun c1 => ?_) (fun c2 => ?_)
 refine au ?_
 refine ae (sr ?_)
 refine vq (ky O O O) O ?_
 refine vq (ky O O O) O ?_
 refine vq (ky O O O) O ?_
 refine vq (ky O O O) O ?_
 refine vq (ky O O O) O ?_
 refine ah (xX (cs := [.func (.func 36) #[] #[.pointer (some ⟨a, 0, none⟩)], .func (.func 38) #[] #[.pointer (some ⟨a, 0, none⟩)], .func (.func 39) #[] #[.pointer (some ⟨a, 0, none⟩), .pointer (some ⟨i, 0, none⟩)], .func (.func 40) #[] #[.pointer (some ⟨a, 0, none⟩)], .func (.func 41) #[] #[.pointer (some ⟨a, 0, none⟩), .pointer (some ⟨m, 0, none⟩)]]) O O underlying85 zK O (by kernel_rfl) O) O O O ?_
 intro q
 refine va O O (ag (ae (ap (sr ?_))))
 refine vm O O ?_
 refine vq (kV (v' := .int .i64 5) O (bi O O O underlying85)) O ?_
 refine vm O O (ag (ae ?_))
 refine aK ?_
 refine uL 7 (jR ?_)
 refine sr ?_
 refine vq (bN O O O) O (ag (ae (ap ?_)))
 refine gY O ?_
 refine au ?_
 refine ae (ap ?_)
 refine aK ?_
 refine sr ?_
 refine vq (kV (v' := .pointer (some ⟨q, 0 + (0 : Int).toNat, none⟩)) O (el O O O O underlying85 sizeOf83 (by decide) (by decide))) O ?_
 refine vq (ai O O isAgg83 (.obj 0 O O)) O ?_
 refine va O O (nx ?_)
 refine vm O O ?_
 refine am (fun s bc => ?_)
 refine ah (ar (vs := []) (cap := [.pointer (some ⟨a, 0, none⟩)]) (A := [obj b0 76 [.map (some d), str af, .int .i64 al, .bool an], aF (aB d aD aA e) aG e ad, obj a 28 [.pointer (some ⟨b0, 0, none⟩)]]) (rst := [obj q 83 [.func (.func 36) #[] #[.pointer (some ⟨a, 0, none⟩)], .func (.func 38) #[] #[.pointer (some ⟨a, 0, none⟩)], .func (.func 39) #[] #[.pointer (some ⟨a, 0, none⟩), .pointer (some ⟨i, 0, none⟩)], .func (.func 40) #[] #[.pointer (some ⟨a, 0, none⟩)], .func (.func 41) #[] #[.pointer (some ⟨a, 0, none⟩), .pointer (some ⟨m, 0, none⟩)]], obj m 9 [str a0.1], obj i 25 [.slice b.1 c.1.length b.2], Row 5 1 b.1 c.1.length b.2 (ao c.1), Row 5 1 j.1 p.1.length j.2 (ao p.1), obj a1 27 [.int .i64 g, .int .i64 n, .slice o h.length l], F]) O O O O O O call36 (.sel 7 O (.sel 7 O (.sel 6 O (.sel 0 O (.sel 0 O (.sel 0 O (.sel 0 O (.sel 0 O (.sel 0 O (.sel 0 O (.nil _))))))))))) (gr.calls _ _ a b0 d e ad af al an ) bc) O O O ?_
 intro t
 refine va O O (nx ?_)
 refine vm O O ?_
 refine vq (cz O O O) O (ag (ae ?_))
 refine br O (fun c3 => ?_) (fun c4 => ?_)
 refine au ?_
 refine bb (ae (aE ?_))
 refine vq (bj O O O) O ?_
 refine vm O O (ag ?_)
 refine lF (jR ?_)
 refine sr ?_
 refine vq (bN O O O) O (ag (ae (ap ?_)))
 refine gY O ?_
 refine au ?_
 refine ae (ap ?_)
 refine aK ?_
 refine sr ?_
 refine vq (kV (v' := .pointer (some ⟨q, 0 + (1 : Int).toNat, none⟩)) O (el O O O O underlying85 sizeOf83 (by decide) (by decide))) O ?_
 refine vq (ai O O isAgg83 (.obj 3 O O)) O ?_
 refine va O O (nx ?_)
 refine vm O O ?_
 refine am (fun u be => ?_)
 refine ah (ar (vs := []) (cap := [.pointer (some ⟨a, 0, none⟩)]) (A := [obj b0 76 [.map (some t.1), str s.2.2.1, .int .i64 s.2.2.2.1, .bool s.2.2.2.2], aF (aB t.1 aD aA t.2) aG t.2 s.2.1, obj a 28 [.pointer (some ⟨b0, 0, none⟩)]]) (rst := [obj q 83 [.func (.func 36) #[] #[.pointer (some ⟨a, 0, none⟩)], .func (.func 38) #[] #[.pointer (some ⟨a, 0, none⟩)], .func (.func 39) #[] #[.pointer (some ⟨a, 0, none⟩), .pointer (some ⟨i, 0, none⟩)], .func (.func 40) #[] #[.pointer (some ⟨a, 0, none⟩)], .func (.func 41) #[] #[.pointer (some ⟨a, 0, none⟩), .pointer (some ⟨m, 0, none⟩)]], obj m 9 [str a0.1], obj i 25 [.slice b.1 c.1.length b.2], Row 5 1 b.1 c.1.length b.2 (ao c.1), Row 5 1 j.1 p.1.length j.2 (ao p.1), obj a1 27 [.int .i64 g, .int .i64 n, .slice o h.length l], F]) O O O O O O call38 (.sel 0 O (.sel 0 O (.sel 0 O (.sel 0 O (.sel 0 O (.sel 0 O (.sel 0 O (.sel 0 O (.sel 0 O (.sel 0 O (.nil _))))))))))) (gu.calls _ _ k a b0 t.1 t.2 s.2.1 s.2.2.1 s.2.2.2.1 s.2.2.2.2 ) be) O O O ?_
 intro w
 refine va O O (nx ?_)
 refine vm O O ?_
 refine vq (cz O O O) O (ag (ae ?_))
 refine br O (fun c5 => ?_) (fun c6 => ?_)
 refine au ?_
 refine bb (ae (aE ?_))
 refine vq (bj O O O) O ?_
 refine vm O O (ag ?_)
 refine lF (jR ?_)
 refine sr ?_
 refine vq (bN O O O) O (ag (ae (ap ?_)))
 refine gY O ?_
 refine au ?_
 refine ae (ap ?_)
 refine aK ?_
 refine sr ?_
 refine vq (kV (v' := .pointer (some ⟨q, 0 + (2 : Int).toNat, none⟩)) O (el O O O O underlying85 sizeOf83 (by decide) (by decide))) O ?_
 refine vq (ai O O isAgg83 (.obj 3 O O)) O ?_
 refine va O O (nx ?_)
 refine vm O O ?_
 refine am (fun x bs => ?_)
 refine bf 6 O (fun b1 b2 b3 b9 => ?_)
 refine ah (ar (vs := []) (cap := [.pointer (some ⟨a, 0, none⟩), .pointer (some ⟨i, 0, none⟩)]) (A := [obj b0 76 [.map (some w.1), str u.2.2.1, .int .i64 u.2.2.2.1, .bool u.2.2.2.2], aF (aB w.1 aD aA w.2) aG w.2 u.2.1, obj a 28 [.pointer (some ⟨b0, 0, none⟩)], obj i 25 [.slice b.1 c.1.length b.2]]) (rst := [obj q 83 [.func (.func 36) #[] #[.pointer (some ⟨a, 0, none⟩)], .func (.func 38) #[] #[.pointer (some ⟨a, 0, none⟩)], .func (.func 39) #[] #[.pointer (some ⟨a, 0, none⟩), .pointer (some ⟨i, 0, none⟩)], .func (.func 40) #[] #[.pointer (some ⟨a, 0, none⟩)], .func (.func 41) #[] #[.pointer (some ⟨a, 0, none⟩), .pointer (some ⟨m, 0, none⟩)]], obj m 9 [str a0.1], Row 5 1 b.1 c.1.length b.2 (ao c.1), Row 5 1 j.1 p.1.length j.2 (ao p.1), obj a1 27 [.int .i64 g, .int .i64 n, .slice o h.length l], F]) O O O O O O call39 (.sel 0 O (.sel 0 O (.sel 0 O (.sel 2 O (.sel 0 O (.sel 0 O (.sel 0 O (.sel 0 O (.sel 0 O (.sel 0 O (.nil _))))))))))) (gv.calls _ _ a b0 w.1 w.2 u.2.1 u.2.2.1 u.2.2.2.1 u.2.2.2.2 i b.1 b.2 c.1 (b1.lend 2 O) b2 b3) bs) O O O ?_
 intro z
 refine va O O (nx ?_)
 refine vm O O ?_
 refine vq (cz O O O) O (ag (ae ?_))
 refine br O (fun c7 => ?_) (fun c8 => ?_)
 refine au ?_
 refine bb (ae (aE ?_))
 refine vq (bj O O O) O ?_
 refine vm O O (ag ?_)
 refine lF (jR ?_)
 refine sr ?_
 refine vq (bN O O O) O (ag (ae (ap ?_)))
 refine gY O ?_
 refine au ?_
 refine ae (ap ?_)
 refine aK ?_
 refine sr ?_
 refine vq (kV (v' := .pointer (some ⟨q, 0 + (3 : Int).toNat, none⟩)) O (el O O O O underlying85 sizeOf83 (by decide) (by decide))) O ?_
 refine vq (ai O O isAgg83 (.obj 4 O O)) O ?_
 refine va O O (nx ?_)
 refine vm O O ?_
 refine am (fun aa b4 => ?_)
 refine ah (ar (vs := []) (cap := [.pointer (some ⟨a, 0, none⟩)]) (A := [obj b0 76 [.map (some z.1), str x.2.2.1, .int .i64 x.2.2.2.1, .bool x.2.2.2.2], aF (aB z.1 aD aA z.2) aG z.2 x.2.1, obj a 28 [.pointer (some ⟨b0, 0, none⟩)]]) (rst := [obj i 25 [.slice b.1 c.1.length b.2], obj q 83 [.func (.func 36) #[] #[.pointer (some ⟨a, 0, none⟩)], .func (.func 38) #[] #[.pointer (some ⟨a, 0, none⟩)], .func (.func 39) #[] #[.pointer (some ⟨a, 0, none⟩), .pointer (some ⟨i, 0, none⟩)], .func (.func 40) #[] #[.pointer (some ⟨a, 0, none⟩)], .func (.func 41) #[] #[.pointer (some ⟨a, 0, none⟩), .pointer (some ⟨m, 0, none⟩)]], obj m 9 [str a0.1], Row 5 1 b.1 c.1.length b.2 (ao c.1), Row 5 1 j.1 p.1.length j.2 (ao p.1), obj a1 27 [.int .i64 g, .int .i64 n, .slice o h.length l], F]) O O O O O O call40 (.sel 0 O (.sel 0 O (.sel 0 O (.sel 0 O (.sel 0 O (.sel 0 O (.sel 0 O (.sel 0 O (.sel 0 O (.sel 0 O (.nil _))))))))))) (gw.calls _ _ a b0 z.1 z.2 x.2.1 x.2.2.1 x.2.2.2.1 x.2.2.2.2 ) b4) O O O ?_
 intro ab
 refine va O O (nx ?_)
 refine vm O O ?_
 refine vq (cz O O O) O (ag (ae ?_))
 refine br O (fun c9 => ?_) (fun dl => ?_)
 refine au ?_
 refine bb (ae (aE ?_))
 refine vq (bj O O O) O ?_
 refine vm O O (ag ?_)
 refine lF (jR ?_)
 refine sr ?_
 refine vq (bN O O O) O (ag (ae (ap ?_)))
 refine gY O ?_
 refine au ?_
 refine ae (ap ?_)
 refine aK ?_
 refine sr ?_
 refine vq (kV (v' := .pointer (some ⟨q, 0 + (4 : Int).toNat, none⟩)) O (el O O O O underlying85 sizeOf83 (by decide) (by decide))) O ?_
 refine vq (ai O O isAgg83 (.obj 4 O O)) O ?_
 refine va O O (nx ?_)
 refine vm O O ?_
 refine am (fun ds b5 => ?_)
 refine ah (ar (vs := []) (cap := [.pointer (some ⟨a, 0, none⟩), .pointer (some ⟨m, 0, none⟩)]) (A := [obj b0 76 [.map (some ab.1), str aa.2.2.1, .int .i64 aa.2.2.2.1, .bool aa.2.2.2.2], aF (aB ab.1 aD aA ab.2) aG ab.2 aa.2.1, obj a 28 [.pointer (some ⟨b0, 0, none⟩)], obj m 9 [str a0.1]]) (rst := [obj i 25 [.slice b.1 c.1.length b.2], obj q 83 [.func (.func 36) #[] #[.pointer (some ⟨a, 0, none⟩)], .func (.func 38) #[] #[.pointer (some ⟨a, 0, none⟩)], .func (.func 39) #[] #[.pointer (some ⟨a, 0, none⟩), .pointer (some ⟨i, 0, none⟩)], .func (.func 40) #[] #[.pointer (some ⟨a, 0, none⟩)], .func (.func 41) #[] #[.pointer (some ⟨a, 0, none⟩), .pointer (some ⟨m, 0, none⟩)]], Row 5 1 b.1 c.1.length b.2 (ao c.1), Row 5 1 j.1 p.1.length j.2 (ao p.1), obj a1 27 [.int .i64 g, .int .i64 n, .slice o h.length l], F]) O O O O O O call41 (.sel 0 O (.sel 0 O (.sel 0 O (.sel 2 O (.sel 0 O (.sel 0 O (.sel 0 O (.sel 0 O (.sel 0 O (.sel 0 O (.nil _))))))))))) (gx.calls _ _ k a b0 ab.1 ab.2 aa.2.1 aa.2.2.1 aa.2.2.2.1 aa.2.2.2.2 m a0.1 ) b5) O O O ?_
 intro a2
 refine va O O (nx ?_)
 refine vm O O ?_
 refine vq (cz O O O) O (ag (ae ?_))
 refine br O (fun d1 => ?_) (fun d2 => ?_)
 refine au ?_
 refine bb (ae (aE ?_))
 refine vq (bj O O O) O ?_
 refine vm O O (ag ?_)
 refine lF (jR ?_)
 refine sr ?_
 refine vq (bN O O O) O (ag (ae (ap ?_)))
 refine iy O ?_
 refine ck ?_
 refine bQ ?_
 refine xV ?_
 refine bR ?_
 refine ae (sr ?_)
 refine va O O (ag (ae (ak ?_)))
 exact av (a2.1, a2.2) O O O (.sel 0 O (.sel 0 O (.sel 7 O (.nil _))))
 refine sr ?_
 refine vm O O ?_
 refine va O O (ag (ae (ak ?_)))
 refine aP ?_
 refine ax ?_
 refine lG ?_
 refine aP ?_
 refine ax ?_
 exact av (a2.1, a2.2) O O O (.sel 0 O (.sel 0 O (.sel 7 O (.nil _))))
 refine sr ?_
 refine vm O O ?_
 refine va O O (ag (ae (ak ?_)))
 refine aP ?_
 refine ax ?_
 refine lG ?_
 refine aP ?_
 refine ax ?_
 exact av (ab.1, ab.2) O O O (.sel 0 O (.sel 0 O (.sel 7 O (.nil _))))
 refine sr ?_
 refine vm O O ?_
 refine va O O (ag (ae (ak ?_)))
 refine aP ?_
 refine ax ?_
 refine lG ?_
 refine aP ?_
 refine ax ?_
 exact av (z.1, z.2) O O O (.sel 0 O (.sel 0 O (.sel 7 O (.nil _))))
 refine sr ?_
 refine vm O O ?_
 refine va O O (ag (ae (ak ?_)))
 refine aP ?_
 refine ax ?_
 refine lG ?_
 refine aP ?_
 refine ax ?_
 exact av (w.1, w.2) O O O (.sel 0 O (.sel 0 O (.sel 7 O (.nil _))))
 refine sr ?_
 refine vm O O ?_
 refine va O O (ag (ae (ak ?_)))
 refine aP ?_
 refine ax ?_
 refine lG ?_
 refine aP ?_
 refine ax ?_
 exact av (t.1, t.2) O O O (.sel 0 O (.sel 0 O (.sel 7 O (.nil _))))
 refine sr ?_
 refine vm O O ?_
 refine va O O (ag (ae (ak ?_)))
 refine ax ?_
 exact av (d, e) O O O (.sel 6 O (.sel 6 O (.sel 6 O (.nil _))))
 refine sr ?_
 refine vm O O ?_
 refine va O O (ag (ae (ak ?_)))
 refine ax ?_
 exact av (d, e) O O O (.sel 5 O (.sel 5 O (.sel 5 O (.nil _))))
 refine sr ?_
 refine vm O O ?_
 refine va O O (ag (ae (ak ?_)))
 refine ax ?_
 exact av (d, e) O O O (.sel 3 O (.sel 3 O (.sel 3 O (.nil _))))

def aH.f (x0 : Int) : Option (Int) := some x0
theorem aH.calls (W : World) (F : HA) (x0 : Int)  :
    Fn Tryz.prog W 12 [.int .i64 x0] [] F (aH.f x0) (fun (r : Int) (y : Unit) => .int .i64 r) (fun r y => []) := by
 unfold aH.f
 refine aJ 4 Tryz.func12 O Tryz.ntmps12 O ?_
 refine sr ?_
 refine va O O (nx ?_)
 refine vm O O ?_
 refine va O O (ag (ae (ak ?_)))
 exact av () O O O (.sel 0 O (.nil _))
def aH.v (x0 : Int) : Int := (aH.f x0).getD 0
theorem aH.tot (x0 : Int) : aH.f x0 = some (aH.v x0) := by
  have h : ∃ r, aH.f x0 = some r := by
    unfold aH.f
    repeat' (first | exact ⟨_, rfl⟩ | split | simp only [Option.bind_some])
  obtain ⟨r, h⟩ := h
  unfold aH.v
  rw [h]; rfl

def fP.f (k : Nat)  : Option (Bool) := (iW.f).bind fun b => ((dJ.f k b.1 b.2.1 b.2.2.1 b.2.2.2).bind fun e => ((fX.f k b.1 b.2.1 b.2.2.1 b.2.2.2 (5 : Int) (2 : Int) ([97, 98] : List UInt8)).bind fun a => ((dJ.f k a.2.1 a.2.2.1 a.2.2.2.1 a.2.2.2.2).bind fun c => ((fX.f k a.2.1 a.2.2.1 a.2.2.2.1 a.2.2.2.2 (0 : Int) (0 : Int) ([] : List UInt8)).bind fun d => ((di.f k d.2.1 d.2.2.1 d.2.2.2.1 d.2.2.2.2).bind fun g => ((if e.2.2.2.1 = (0 : Int) then ((aH.f e.2.2.2.2).bind fun h => (some (decide (h = (8 : Int))))) else (some false)).bind fun i => ((if i = true then ((aH.f a.1).bind fun j => (some (decide (j = (0 : Int))))) else (some false)).bind fun l => ((if ((((l && (decide (c.1 = (5 : Int)))) && (decide (c.2.1 = (2 : Int)))) && (decide (c.2.2.1 = ([97, 98] : List UInt8)))) && (decide (c.2.2.2.1 = (0 : Int)))) = true then ((aH.f c.2.2.2.2).bind fun m => (some (decide (m = (0 : Int))))) else (some false)).bind fun n => ((if n = true then ((aH.f d.1).bind fun o => (some (decide (o = (4 : Int))))) else (some false)).bind fun p => (some (p && (decide ((g.length : Int) = (1 : Int))))))))))))))
theorem fP.calls (W : World) (F : HA) (k : Nat)  (hgl : Glb Tryz.prog F) :
    Fn Tryz.prog W 8 [] [] F (fP.f k ) (fun (r : Bool) (y : Unit) => .bool r) (fun r y => []) := by
 unfold fP.f
 refine aJ 81 Tryz.func8 O Tryz.ntmps8 O ?_
 refine sr ?_
 refine va O O (nx ?_)
 refine am (fun p b8 => ?_)
 refine ah (ar (vs := []) (cap := []) (A := []) (rst := [F]) O O O O O O call9 (.sel 0 O (.nil _)) (iW.calls _ _  ) b8) O O O ?_
 intro e
 refine va O O (nx ?_)
 refine vm O O ?_
 refine am (fun g b9 => ?_)
 refine ah (ar (vs := [.pointer (some ⟨e.1, 0, none⟩)]) (cap := []) (A := [obj e.1 76 [.map (some e.2.1), str p.2.1, .int .i64 p.2.2.1, .bool p.2.2.2], aF (aB e.2.1 aD aA e.2.2) aG e.2.2 p.1]) (rst := [F]) O O O O O O call15 (.sel 0 O (.sel 0 O (.sel 0 O (.nil _)))) (dJ.calls _ _ k e.1 e.2.1 e.2.2 p.1 p.2.1 p.2.2.1 p.2.2.2 (hgl.lend 0 O)) b9) O O O ?_
 intro m
 refine vm O O ?_
 refine vq (bh O O O) O ?_
 refine vq (bh O O O) O ?_
 refine vq (bh O O O) O ?_
 refine ah (df O zeroValue27 O) O O O ?_
 intro u
 refine aX (aV 0 O O O sizeOf27 O O (aY (by rfl)) O O) O O ?_
 intro _
 refine va O O ?_
 refine va O O (nx ?_)
 refine vm O O ?_
 refine ah (jD (cs := [.int .u8 97, .int .u8 98]) ([97, 98] : List UInt8) O O underlying25 eP O (by kernel_rfl) O O O) O O O ?_
 intro t
 refine ah (yJ 0 O O underlying25 underlying5 O O) O O O ?_
 intro _
 refine vq (eb (v := .agg #[.int .i64 5, .int .i64 2, .slice (some ⟨t, 0, none⟩) (([97, 98] : List UInt8).length) 2]) O O (fun _ => by kernel_rfl)) O ?_
 refine am (fun h x => ?_)
 refine bf 0 O (fun z aa ab c2 => ?_)
 refine ah (ar (vs := [.pointer (some ⟨e.1, 0, none⟩), .agg #[.int .i64 5, .int .i64 2, .slice (some ⟨t, 0, none⟩) (([97, 98] : List UInt8).length) 2]]) (cap := []) (A := [obj e.1 76 [.map (some e.2.1), str p.2.1, .int .i64 p.2.2.1, .bool p.2.2.2], aF (aB e.2.1 aD aA e.2.2) aG e.2.2 p.1]) (rst := [Row 5 1 (some ⟨t, 0, none⟩) ([97, 98] : List UInt8).length 2 (ao ([97, 98] : List UInt8)), obj u 27 [.int .i64 g.1, .int .i64 g.2.1, .slice m.1 g.2.2.1.length m.2], Row 5 1 m.1 g.2.2.1.length m.2 (ao g.2.2.1), F]) O O O O O O call10 (.sel 3 O (.sel 3 O (.sel 0 O (.sel 0 O (.sel 0 O (.sel 0 O (.nil _))))))) (fX.calls _ _ k e.1 e.2.1 e.2.2 p.1 p.2.1 p.2.2.1 p.2.2.2 (5 : Int) (2 : Int) (some ⟨t, 0, none⟩) 2 ([97, 98] : List UInt8) (z.lend 0 O) aa ab (hgl.lend 3 O)) x) O O O ?_
 intro n
 refine va O O (nx ?_)
 refine vm O O ?_
 refine am (fun a ad => ?_)
 refine ah (ar (vs := [.pointer (some ⟨e.1, 0, none⟩)]) (cap := []) (A := [obj e.1 76 [.map (some n.1), str h.2.2.1, .int .i64 h.2.2.2.1, .bool h.2.2.2.2], aF (aB n.1 aD aA n.2) aG n.2 h.2.1]) (rst := [Row 5 1 (some ⟨t, 0, none⟩) ([97, 98] : List UInt8).length 2 (ao ([97, 98] : List UInt8)), obj u 27 [.int .i64 g.1, .int .i64 g.2.1, .slice m.1 g.2.2.1.length m.2], Row 5 1 m.1 g.2.2.1.length m.2 (ao g.2.2.1), F]) O O O O O O call15 (.sel 0 O (.sel 0 O (.sel 0 O (.sel 0 O (.sel 0 O (.sel 0 O (.nil _))))))) (dJ.calls _ _ k e.1 n.1 n.2 h.2.1 h.2.2.1 h.2.2.2.1 h.2.2.2.2 (hgl.lend 3 O)) ad) O O O ?_
 intro c
 refine vm O O ?_
 refine vq (bh O O O) O ?_
 refine vq (bh O O O) O ?_
 refine vq (bh O O O) O ?_
 refine ah (df O zeroValue27 O) O O O ?_
 intro j
 refine aX (aV 0 O O O sizeOf27 O O (aY (by rfl)) O O) O O ?_
 intro _
 refine va O O ?_
 refine va O O (nx ?_)
 refine vm O O ?_
 refine vq (eb (v := .agg #[.int .i64 0, .int .i64 0, .slice none 0 0]) O O (fun _ => by kernel_rfl)) O ?_
 refine am (fun i af => ?_)
 refine ah (ar (vs := [.pointer (some ⟨e.1, 0, none⟩), .agg #[.int .i64 0, .int .i64 0, .slice none 0 0]]) (cap := []) (A := [obj e.1 76 [.map (some n.1), str h.2.2.1, .int .i64 h.2.2.2.1, .bool h.2.2.2.2], aF (aB n.1 aD aA n.2) aG n.2 h.2.1]) (rst := [obj j 27 [.int .i64 a.1, .int .i64 a.2.1, .slice c.1 a.2.2.1.length c.2], Row 5 1 c.1 a.2.2.1.length c.2 (ao a.2.2.1), Row 5 1 (some ⟨t, 0, none⟩) ([97, 98] : List UInt8).length 2 (ao ([97, 98] : List UInt8)), obj u 27 [.int .i64 g.1, .int .i64 g.2.1, .slice m.1 g.2.2.1.length m.2], Row 5 1 m.1 g.2.2.1.length m.2 (ao g.2.2.1), F]) O O O O O O call10 (.sel 2 O (.sel 2 O (.sel 0 O (.sel 0 O (.sel 0 O (.sel 0 O (.sel 0 O (.sel 0 O (.nil _))))))))) (fX.calls _ _ k e.1 n.1 n.2 h.2.1 h.2.2.1 h.2.2.2.1 h.2.2.2.2 (0 : Int) (0 : Int) none 0 ([] : List UInt8) (Rd.nil _ _) (Nat.le_refl _) (Nat.zero_le _) (hgl.lend 5 O)) af) O O O ?_
 intro q
 refine va O O (nx ?_)
 refine vm O O ?_
 refine am (fun l al => ?_)
 refine ah (ar (vs := [.pointer (some ⟨e.1, 0, none⟩)]) (cap := []) (A := [obj e.1 76 [.map (some q.1), str i.2.2.1, .int .i64 i.2.2.2.1, .bool i.2.2.2.2], aF (aB q.1 aD aA q.2) aG q.2 i.2.1]) (rst := [obj j 27 [.int .i64 a.1, .int .i64 a.2.1, .slice c.1 a.2.2.1.length c.2], Row 5 1 c.1 a.2.2.1.length c.2 (ao a.2.2.1), Row 5 1 (some ⟨t, 0, none⟩) ([97, 98] : List UInt8).length 2 (ao ([97, 98] : List UInt8)), obj u 27 [.int .i64 g.1, .int .i64 g.2.1, .slice m.1 g.2.2.1.length m.2], Row 5 1 m.1 g.2.2.1.length m.2 (ao g.2.2.1), F]) O O O O O O call14 (.sel 0 O (.sel 0 O (.sel 0 O (.sel 0 O (.sel 0 O (.sel 0 O (.sel 0 O (.sel 0 O (.nil _))))))))) (di.calls _ _ k e.1 q.1 q.2 i.2.1 i.2.2.1 i.2.2.2.1 i.2.2.2.2 (hgl.lend 5 O)) al) O O O ?_
 intro d
 refine va O O (nx ?_)
 refine vm O O ?_
 refine vq (bD O O O) O ?_
 refine vm O O ?_
 refine dk 4 (S := Bool) (Unit) (fun s y => [(5, .int .i64 h.1), (6, .pointer (some ⟨j, 0, none⟩)), (7, .int .i64 a.2.2.2.1), (8, .int .i64 a.2.2.2.2), (9, .int .i64 i.1), (10, .slice d.1 l.length d.2), (40, .bool s)]) (fun s y => [obj j 27 [.int .i64 a.1, .int .i64 a.2.1, .slice c.1 a.2.2.1.length c.2], aC 3 1 (V3 tt) d.1 l d.2, Row 5 1 c.1 a.2.2.1.length c.2 (ao a.2.2.1), F]) ?_ ?_
 refine iH (fun an => ?_) (fun a0 => ?_)
 rw [an]
 refine aO (aS O O) O O O O O O ?_
 refine am (fun cd a1 => ?_)
 refine fk (ar (vs := [.int .i64 g.2.2.2.2]) (cap := []) (A := []) (rst := [aC 3 1 (V3 tt) d.1 l d.2, obj e.1 76 [.map (some q.1), str i.2.2.1, .int .i64 i.2.2.2.1, .bool i.2.2.2.2], aF (aB q.1 aD aA q.2) aG q.2 i.2.1, obj j 27 [.int .i64 a.1, .int .i64 a.2.1, .slice c.1 a.2.2.1.length c.2], Row 5 1 c.1 a.2.2.1.length c.2 (ao a.2.2.1), Row 5 1 (some ⟨t, 0, none⟩) ([97, 98] : List UInt8).length 2 (ao ([97, 98] : List UInt8)), obj u 27 [.int .i64 g.1, .int .i64 g.2.1, .slice m.1 g.2.2.1.length m.2], Row 5 1 m.1 g.2.2.1.length m.2 (ao g.2.2.1), F]) O O O O O O call12 (.sel 0 O (.sel 0 O (.sel 0 O (.sel 0 O (.sel 0 O (.sel 0 O (.sel 0 O (.sel 0 O (.sel 0 O (.nil _)))))))))) (aH.calls _ _ g.2.2.2.2 ) a1) O O O O O O ?_
 intro c8
 refine aO (bD O O O) O O O O O O ?_
 refine vq (bL O O O O O) O (ag ?_)
 exact aM (s := decide (cd = (8 : Int))) () ⟨O, O, O, O, O, O, O, trivial⟩ (.sel 3 O (.sel 0 O (.sel 2 O (.sel 5 O (.nil _)))))
 rw [a0]
 refine aI O O O O O O ?_
 refine aI O O O O O O ?_
 refine aI O O O O O O ?_
 refine vq (bL O O O O O) O (ag ?_)
 exact aM (s := false) () ⟨O, O, O, O, O, O, O, trivial⟩ (.sel 3 O (.sel 0 O (.sel 2 O (.sel 5 O (.nil _)))))
 intro c9 dl
 refine vm O O ?_
 refine dk 4 (S := Bool) (Unit) (fun s y => [(6, .pointer (some ⟨j, 0, none⟩)), (7, .int .i64 a.2.2.2.1), (8, .int .i64 a.2.2.2.2), (9, .int .i64 i.1), (10, .slice d.1 l.length d.2), (45, .bool s)]) (fun s y => [obj j 27 [.int .i64 a.1, .int .i64 a.2.1, .slice c.1 a.2.2.1.length c.2], aC 3 1 (V3 tt) d.1 l d.2, Row 5 1 c.1 a.2.2.1.length c.2 (ao a.2.2.1), F]) ?_ ?_
 refine eI (fun a2 => ?_) (fun a3 => ?_)
 rw [a2]
 refine aO (aS O O) O O O O O O ?_
 refine am (fun ch a4 => ?_)
 refine fk (ar (vs := [.int .i64 h.1]) (cap := []) (A := []) (rst := [obj j 27 [.int .i64 a.1, .int .i64 a.2.1, .slice c.1 a.2.2.1.length c.2], aC 3 1 (V3 tt) d.1 l d.2, Row 5 1 c.1 a.2.2.1.length c.2 (ao a.2.2.1), F]) O O O O O O call12 (.sel 0 O (.sel 0 O (.sel 0 O (.sel 0 O (.nil _))))) (aH.calls _ _ h.1 ) a4) O O O O O O ?_
 intro ds
 refine aO (bD O O O) O O O O O O ?_
 refine vq (bL O O O O O) O (ag ?_)
 exact aM (s := decide (ch = (0 : Int))) () ⟨O, O, O, O, O, O, trivial⟩ (.sel 0 O (.sel 0 O (.sel 0 O (.sel 0 O (.nil _)))))
 rw [a3]
 refine aI O O O O O O ?_
 refine aI O O O O O O ?_
 refine aI O O O O O O ?_
 refine vq (bL O O O O O) O (ag ?_)
 exact aM (s := false) () ⟨O, O, O, O, O, O, trivial⟩ (.sel 0 O (.sel 0 O (.sel 0 O (.sel 0 O (.nil _)))))
 intro o d1
 refine vm O O ?_
 refine az (b := o) (fun c3 => RQ.sub (E' := [(6, .pointer (some ⟨j, 0, none⟩))]) ⟨O, trivial⟩ (aw O O underlying27 O O sizeOf3 O)) O O O O O ?_
 refine az (b := o) (fun a5 => RQ.sub (E' := [(47, .pointer (some ⟨j, 0, none⟩))]) ⟨aZ O a5, trivial⟩ (ai O O isAgg3 (.obj 0 O O))) O O O O O ?_
 refine az (b := o) (fun a6 => RQ.sub (E' := [(48, .int .i64 a.1)]) ⟨aZ O a6, trivial⟩ (bD O O O)) O O O O O ?_
 refine vq (dQ O O O) O ?_
 refine vm O O ?_
 refine az (b := o && (decide (a.1 = (5 : Int)))) (fun c4 => RQ.sub (E' := [(6, .pointer (some ⟨j, 0, none⟩))]) ⟨O, trivial⟩ (aw O O underlying27 O O sizeOf3 O)) O O O O O ?_
 refine az (b := o && (decide (a.1 = (5 : Int)))) (fun a7 => RQ.sub (E' := [(52, .pointer (some ⟨j, 1, none⟩))]) ⟨aZ O a7, trivial⟩ (ai O O isAgg3 (.obj 0 O O))) O O O O O ?_
 refine az (b := o && (decide (a.1 = (5 : Int)))) (fun a8 => RQ.sub (E' := [(53, .int .i64 a.2.1)]) ⟨aZ O a8, trivial⟩ (bD O O O)) O O O O O ?_
 refine vq (dQ O O O) O ?_
 refine vm O O ?_
 refine az (b := (o && (decide (a.1 = (5 : Int)))) && (decide (a.2.1 = (2 : Int)))) (fun c5 => RQ.sub (E' := [(6, .pointer (some ⟨j, 0, none⟩))]) ⟨O, trivial⟩ (aw O O underlying27 O O sizeOf25 O)) O O O O O ?_
 refine az (b := (o && (decide (a.1 = (5 : Int)))) && (decide (a.2.1 = (2 : Int)))) (fun a9 => RQ.sub (E' := [(57, .pointer (some ⟨j, 2, none⟩))]) ⟨aZ O a9, trivial⟩ (ai O O isAgg25 (.obj 0 O O))) O O O O O ?_
 refine az (b := (o && (decide (a.1 = (5 : Int)))) && (decide (a.2.1 = (2 : Int)))) (fun bc => RQ.sub (E' := [(58, .slice c.1 a.2.2.1.length c.2)]) ⟨aZ O bc, trivial⟩ (yD O O underlying25 underlying5 underlying9 (Rds.row 2 O) O)) O O O O O ?_
 refine az (b := (o && (decide (a.1 = (5 : Int)))) && (decide (a.2.1 = (2 : Int)))) (fun be => RQ.sub (E' := [(59, str a.2.2.1)]) ⟨aZ O be, trivial⟩ (js O O O)) O O O O O ?_
 refine vq (dQ O O O) O ?_
 refine vm O O ?_
 refine az (b := ((o && (decide (a.1 = (5 : Int)))) && (decide (a.2.1 = (2 : Int)))) && (decide (a.2.2.1 = ([97, 98] : List UInt8)))) (fun c6 => RQ.sub (E' := [(7, .int .i64 a.2.2.2.1)]) ⟨O, trivial⟩ (aS O O)) O O O O O ?_
 refine az (b := ((o && (decide (a.1 = (5 : Int)))) && (decide (a.2.1 = (2 : Int)))) && (decide (a.2.2.1 = ([97, 98] : List UInt8)))) (fun bs => RQ.sub (E' := [(63, .int .i64 a.2.2.2.1)]) ⟨aZ O bs, trivial⟩ (bD O O O)) O O O O O ?_
 refine vq (dQ O O O) O ?_
 refine vm O O ?_
 refine dk 4 (S := Bool) (Unit) (fun s y => [(9, .int .i64 i.1), (10, .slice d.1 l.length d.2), (70, .bool s)]) (fun s y => [aC 3 1 (V3 tt) d.1 l d.2, F]) ?_ ?_
 refine eI (fun b0 => ?_) (fun b1 => ?_)
 rw [b0]
 refine aO (aS O O) O O O O O O ?_
 refine am (fun c0 b2 => ?_)
 refine fk (ar (vs := [.int .i64 a.2.2.2.2]) (cap := []) (A := []) (rst := [obj j 27 [.int .i64 a.1, .int .i64 a.2.1, .slice c.1 a.2.2.1.length c.2], aC 3 1 (V3 tt) d.1 l d.2, Row 5 1 c.1 a.2.2.1.length c.2 (ao a.2.2.1), F]) O O O O O O call12 (.sel 0 O (.sel 0 O (.sel 0 O (.sel 0 O (.nil _))))) (aH.calls _ _ a.2.2.2.2 ) b2) O O O O O O ?_
 intro d2
 refine aO (bD O O O) O O O O O O ?_
 refine vq (bL O O O O O) O (ag ?_)
 exact aM (s := decide (c0 = (0 : Int))) () ⟨O, O, O, trivial⟩ (.sel 1 O (.sel 2 O (.nil _)))
 rw [b1]
 refine aI O O O O O O ?_
 refine aI O O O O O O ?_
 refine aI O O O O O O ?_
 refine vq (bL O O O O O) O (ag ?_)
 exact aM (s := false) () ⟨O, O, O, trivial⟩ (.sel 1 O (.sel 2 O (.nil _)))
 intro d3 d4
 refine vm O O ?_
 refine dk 4 (S := Bool) (Unit) (fun s y => [(10, .slice d.1 l.length d.2), (75, .bool s)]) (fun s y => [aC 3 1 (V3 tt) d.1 l d.2, F]) ?_ ?_
 refine eI (fun b3 => ?_) (fun b4 => ?_)
 rw [b3]
 refine aO (aS O O) O O O O O O ?_
 refine am (fun c1 b5 => ?_)
 refine fk (ar (vs := [.int .i64 i.1]) (cap := []) (A := []) (rst := [aC 3 1 (V3 tt) d.1 l d.2, F]) O O O O O O call12 (.sel 0 O (.sel 0 O (.nil _))) (aH.calls _ _ i.1 ) b5) O O O O O O ?_
 intro d5
 refine aO (bD O O O) O O O O O O ?_
 refine vq (bL O O O O O) O (ag ?_)
 exact aM (s := decide (c1 = (4 : Int))) () ⟨O, O, trivial⟩ (.sel 0 O (.sel 0 O (.nil _)))
 rw [b4]
 refine aI O O O O O O ?_
 refine aI O O O O O O ?_
 refine aI O O O O O O ?_
 refine vq (bL O O O O O) O (ag ?_)
 exact aM (s := false) () ⟨O, O, trivial⟩ (.sel 0 O (.sel 0 O (.nil _)))
 intro w d6
 refine vm O O ?_
 refine az (b := w) (fun c7 => RQ.sub (E' := [(10, .slice d.1 l.length d.2)]) ⟨O, trivial⟩ (aS O O)) O O O O O ?_
 refine az (b := w) (fun b6 => RQ.sub (E' := [(77, .slice d.1 l.length d.2)]) ⟨aZ O b6, trivial⟩ (bi O O O underlying23)) O O O O O ?_
 refine az (b := w) (fun b7 => RQ.sub (E' := [(78, .int .i64 (l.length : Int))]) ⟨aZ O b7, trivial⟩ (bD O O O)) O O O O O ?_
 refine vq (dQ O O O) O ?_
 refine va O O (ag (ae (ak ?_)))
 exact av () O O O (.sel 1 O (.nil _))

def dh.l0 (x0 : List (oj)) : Nat → Int → Int → Option (Int)
  | 0, _, _ => none
  | k + 1, b, a => if ((decide (a < (x0.length : Int))) && (decide (a < (100 : Int)))) = true then (if 0 ≤ a ∧ a < (x0.length : Int) then (if 0 ≤ a ∧ a < (x0.length : Int) then (if 0 ≤ a ∧ a < (x0.length : Int) then (if 0 ≤ a ∧ a < (x0.length : Int) then (dh.l0 x0 k (IntKind.i64.wrap ((IntKind.i64.wrap ((IntKind.i64.wrap ((IntKind.i64.wrap (b + (min (((x0.getD a.toNat cg).2.2.2.2.1).length : Int) (20000 : Int)))) + (min (((x0.getD a.toNat cg).2.2.2.2.2.2.2.2.2).length : Int) (20000 : Int)))) + (min (((x0.getD a.toNat cg).2.2.2.2.2.2.2.1).length : Int) (20000 : Int)))) + (min (((x0.getD a.toNat cg).2.2.2.2.2.2.2.2.1).length : Int) (20000 : Int)))) (IntKind.i64.wrap (a + 1))) else none) else none) else none) else none) else (some b)
def dh.f (k : Nat) (x0 : List (oj)) : Option (Bool) := (dh.l0 x0 k 0 0).bind fun a => (some ((decide ((x0.length : Int) ≤ (100 : Int))) && (decide (a ≤ (20000 : Int)))))
theorem dh.calls (W : World) (F : HA) (k : Nat) (a0 : Option Addr) (c0 : Nat) (x0 : List (oj)) (h0 : RdV F 10 (V54 F) a0 x0) (er : x0.length ≤ c0) (es : c0 ≤ maxLen) :
    Fn Tryz.prog W 19 [.slice a0 x0.length c0] [] F (dh.f k x0) (fun (r : Bool) (y : Unit) => .bool r) (fun r y => []) := by
 unfold dh.f
 refine aJ 59 Tryz.func19 O Tryz.ntmps19 O ?_
 refine sr ?_
 refine va O O (nx ?_)
 refine va O O (ag (ae ?_))
 refine bO (S := Int) (Unit) (fun s y => [(0, .slice a0 x0.length c0), (3, .int .i64 s)]) (fun s y => [F]) ?_ ?_
 refine sr ?_
 refine va O O (ag (ae ?_))
 refine aK ?_
 refine bX (S := Int × Int) (Unit) (fun k s => dh.l0 x0 k s.1 s.2) (fun s y => [(0, .slice a0 x0.length c0), (3, .int .i64 s.1), (4, .int .i64 s.2)]) (fun s y => [F]) (fun _ => by rw [dh.l0]) ?_ k (0, 0) () ⟨O, O, O, trivial⟩ (.sel 0 O (.nil _))
 intro k a et
 refine cL (by rw [dh.l0]) ?_
 refine ap (sr ?_)
 refine vm O O ?_
 refine vm O O ?_
 refine vq (bi O O O underlying44) O ?_
 refine vq (bN O O O) O ?_
 refine vm O O ?_
 refine az (b := decide (a.2 < (x0.length : Int))) (fun be => RQ.sub (E' := [(4, .int .i64 a.2)]) ⟨O, trivial⟩ (aS O O)) O O O O O ?_
 refine az (b := decide (a.2 < (x0.length : Int))) (fun w => RQ.sub (E' := [(10, .int .i64 a.2)]) ⟨aZ O w, trivial⟩ (bN O O O)) O O O O O ?_
 refine vq (dQ O O O) O (ag (ae ?_))
 refine aT O (fun ez => ?_) (fun eA => ?_)
 refine au ?_
 refine ae (ap ?_)
 refine aK ?_
 refine bv (fun u => ?_)
 obtain ⟨h, c, d1, x, z, a7, hcell16v⟩ := RdV.pos h0 (Up.refl _) rfl (i := a.2.toNat) (by omega) cg
 obtain ⟨a3, a4, d2, d3, rfl, ⟨bs, b0, b1⟩, ⟨b2, b3, b4⟩⟩ := z
 refine bv (fun p => ?_)
 obtain ⟨l, d, d4, aa, ab, a8, hcell34v⟩ := RdV.pos h0 (Up.refl _) rfl (i := a.2.toNat) (by omega) cg
 obtain ⟨d5, d6, a5, a6, rfl, ⟨b5, b6, b7⟩, ⟨b8, b9, cd⟩⟩ := ab
 refine bv (fun q => ?_)
 obtain ⟨m, e, d7, ad, af, a9, hcell52v⟩ := RdV.pos h0 (Up.refl _) rfl (i := a.2.toNat) (by omega) cg
 obtain ⟨d8, d9, ec, ed, rfl, ⟨ch, cs, c1⟩, ⟨c2, c3, c4⟩⟩ := af
 refine bv (fun t => ?_)
 obtain ⟨n, g, ef, al, an, bc, hcell70v⟩ := RdV.pos h0 (Up.refl _) rfl (i := a.2.toNat) (by omega) cg
 obtain ⟨eg, ek, em, en, rfl, ⟨c5, c6, c7⟩, ⟨c8, c9, dl⟩⟩ := an
 refine bp (Γ := Unit) () [[], [], [], [1, 2], [1, 2, 3], [1, 2, 3, 4], [1, 2, 3, 4, 5], [1, 2, 3, 4, 5, 6], [1, 2, 3, 4, 5, 6, 7], rL 9, [], [], [10, 11], [10, 11, 12], [10, 11, 12, 13], [10, 11, 12, 13, 14], [10, 11, 12, 13, 14, 15], [10, 11, 12, 13, 14, 15, 16], rL 18, [], [], [19, 20], [19, 20, 21], [19, 20, 21, 22], [19, 20, 21, 22, 23], [19, 20, 21, 22, 23, 24], [19, 20, 21, 22, 23, 24, 25], rL 27, [], [], [28, 29], [28, 29, 30], [28, 29, 30, 31], [28, 29, 30, 31, 32], [28, 29, 30, 31, 32, 33], [28, 29, 30, 31, 32, 33, 34], rL 36, rL 37] [] [0, 1, 2, 3, 4, 5, 6, 7, 8, 9, 10, 11, 12, 13, 14, 15, 16, 17, 18, 19, 20, 21, 22, 23, 24, 25, 26, 27, 28, 29, 30, 31, 32, 33, 34, 35, 36, 37] (fun i => [[0], [0], [0], [0], [0], [0], [0], [0], [0], [0], [0], [0], [0], [0], [0], [0], [0], [0], [0], [0], [0], [0], [0], [0], [0], [0], [0], [0], [0], [0], [0], [0], [0], [0], [0], [0], [0], [0]].getD i []) (fun i => [[], [], [], [], [], [], [], [], [], [], [], [], [], [], [], [], [], [], [], [], [], [], [], [], [], [], [], [], [], [], [], [], [], [], [], [], [], []].getD i []) (fun γ i => [.int .i64 a.1, .slice a0 x0.length c0, .int .i64 a.2, .pointer (some ⟨h, c + a.2.toNat * 10, none⟩), .pointer (some ⟨h, c + a.2.toNat * 10 + 2, none⟩), .pointer (some ⟨h, c + a.2.toNat * 10 + 2 + 2, none⟩), .slice a3 (((x0.getD a.2.toNat cg).2.2.2.2.1).length) a4, .int .i64 (((x0.getD a.2.toNat cg).2.2.2.2.1).length : Int), .int .i64 (min (((x0.getD a.2.toNat cg).2.2.2.2.1).length : Int) (20000 : Int)), .int .i64 (IntKind.i64.wrap (a.1 + (min (((x0.getD a.2.toNat cg).2.2.2.2.1).length : Int) (20000 : Int)))), .slice a0 x0.length c0, .int .i64 a.2, .pointer (some ⟨l, d + a.2.toNat * 10, none⟩), .pointer (some ⟨l, d + a.2.toNat * 10 + 5, none⟩), .pointer (some ⟨l, d + a.2.toNat * 10 + 5 + 4, none⟩), .slice a5 (((x0.getD a.2.toNat cg).2.2.2.2.2.2.2.2.2).length) a6, .int .i64 (((x0.getD a.2.toNat cg).2.2.2.2.2.2.2.2.2).length : Int), .int .i64 (min (((x0.getD a.2.toNat cg).2.2.2.2.2.2.2.2.2).length : Int) (20000 : Int)), .int .i64 (IntKind.i64.wrap ((IntKind.i64.wrap (a.1 + (min (((x0.getD a.2.toNat cg).2.2.2.2.1).length : Int) (20000 : Int)))) + (min (((x0.getD a.2.toNat cg).2.2.2.2.2.2.2.2.2).length : Int) (20000 : Int)))), .slice a0 x0.length c0, .int .i64 a.2, .pointer (some ⟨m, e + a.2.toNat * 10, none⟩), .pointer (some ⟨m, e + a.2.toNat * 10 + 5, none⟩), .pointer (some ⟨m, e + a.2.toNat * 10 + 5 + 2, none⟩), str ((x0.getD a.2.toNat cg).2.2.2.2.2.2.2.1), .int .i64 (((x0.getD a.2.toNat cg).2.2.2.2.2.2.2.1).length : Int), .int .i64 (min (((x0.getD a.2.toNat cg).2.2.2.2.2.2.2.1).length : Int) (20000 : Int)), .int .i64 (IntKind.i64.wrap ((IntKind.i64.wrap ((IntKind.i64.wrap (a.1 + (min (((x0.getD a.2.toNat cg).2.2.2.2.1).length : Int) (20000 : Int)))) + (min (((x0.getD a.2.toNat cg).2.2.2.2.2.2.2.2.2).length : Int) (20000 : Int)))) + (min (((x0.getD a.2.toNat cg).2.2.2.2.2.2.2.1).length : Int) (20000 : Int)))), .slice a0 x0.length c0, .int .i64 a.2, .pointer (some ⟨n, g + a.2.toNat * 10, none⟩), .pointer (some ⟨n, g + a.2.toNat * 10 + 5, none⟩), .pointer (some ⟨n, g + a.2.toNat * 10 + 5 + 3, none⟩), str ((x0.getD a.2.toNat cg).2.2.2.2.2.2.2.2.1), .int .i64 (((x0.getD a.2.toNat cg).2.2.2.2.2.2.2.2.1).length : Int), .int .i64 (min (((x0.getD a.2.toNat cg).2.2.2.2.2.2.2.2.1).length : Int) (20000 : Int)), .int .i64 (IntKind.i64.wrap ((IntKind.i64.wrap ((IntKind.i64.wrap ((IntKind.i64.wrap (a.1 + (min (((x0.getD a.2.toNat cg).2.2.2.2.1).length : Int) (20000 : Int)))) + (min (((x0.getD a.2.toNat cg).2.2.2.2.2.2.2.2.2).length : Int) (20000 : Int)))) + (min (((x0.getD a.2.toNat cg).2.2.2.2.2.2.2.1).length : Int) (20000 : Int)))) + (min (((x0.getD a.2.toNat cg).2.2.2.2.2.2.2.2.1).length : Int) (20000 : Int)))), .int .i64 (IntKind.i64.wrap ((IntKind.i64.wrap ((IntKind.i64.wrap ((IntKind.i64.wrap (a.1 + (min (((x0.getD a.2.toNat cg).2.2.2.2.1).length : Int) (20000 : Int)))) + (min (((x0.getD a.2.toNat cg).2.2.2.2.2.2.2.2.2).length : Int) (20000 : Int)))) + (min (((x0.getD a.2.toNat cg).2.2.2.2.2.2.2.1).length : Int) (20000 : Int)))) + (min (((x0.getD a.2.toNat cg).2.2.2.2.2.2.2.2.1).length : Int) (20000 : Int))))].getD i undef) (fun j γ => [[F]].getD j []) (fun γ => [(0, .slice a0 x0.length c0), (3, .int .i64 (IntKind.i64.wrap ((IntKind.i64.wrap ((IntKind.i64.wrap ((IntKind.i64.wrap (a.1 + (min (((x0.getD a.2.toNat cg).2.2.2.2.1).length : Int) (20000 : Int)))) + (min (((x0.getD a.2.toNat cg).2.2.2.2.2.2.2.2.2).length : Int) (20000 : Int)))) + (min (((x0.getD a.2.toNat cg).2.2.2.2.2.2.2.1).length : Int) (20000 : Int)))) + (min (((x0.getD a.2.toNat cg).2.2.2.2.2.2.2.2.1).length : Int) (20000 : Int))))), (4, .int .i64 a.2), (10, cv ((decide (a.2 < (x0.length : Int))) == true) (.int .i64 a.2)), (11, cv ((decide (a.2 < (x0.length : Int))) == true) (.bool (decide (a.2 < (100 : Int)))))]) mixed (by decide) (by decide) (by decide) (by decide) (by decide) (by decide) (by decide) 59 O (by decide) (by decide) (by decide) (Ent.refl _) ?_ ?_ (fun _ => ⟨O, O, O, O, O, trivial⟩) ?_
 exact (aq O (fun γ => qm O (.o (s := 3) O (by decide) .nil) O) (aq O (fun γ => qm O (.o (s := 0) O (by decide) .nil) O) (aq O (fun γ => qm O (.o (s := 4) O (by decide) .nil) O) (aq O (fun γ => qp O O (.v 1 O O (.v 2 O O .nil)) (ct O O O x underlying44 sizeOf54 u.1 u.2) O) (aq O (fun γ => qp O O (.v 3 O O .nil) (aw O O underlying54 O O sizeOf27 O) O) (aq O (fun γ => qp O O (.v 4 O O .nil) (aw O O underlying27 O O sizeOf25 O) O) (aq O (fun γ => qp O O (.v 5 O O .nil) (ai O O isAgg25 (hcell16v 0 O 4 _ O)) O) (aq O (fun γ => qp O O (.v 6 O O .nil) (bi O O O underlying25) O) (aq O (fun γ => qp O O (.v 7 O O .nil) (ls O O O) O) (aq O (fun γ => qp O O (.v 0 O O (.v 8 O O .nil)) (bj O O O) O) (aq O (fun γ => qm O (.o (s := 0) O (by decide) .nil) O) (aq O (fun γ => qm O (.o (s := 4) O (by decide) .nil) O) (aq O (fun γ => qp O O (.v 10 O O (.v 11 O O .nil)) (ct O O O aa underlying44 sizeOf54 p.1 p.2) O) (aq O (fun γ => qp O O (.v 12 O O .nil) (aw O O underlying54 O O sizeOf52 O) O) (aq O (fun γ => qp O O (.v 13 O O .nil) (aw O O underlying52 O O sizeOf25 O) O) (aq O (fun γ => qp O O (.v 14 O O .nil) (ai O O isAgg25 (hcell34v 0 O 9 _ O)) O) (aq O (fun γ => qp O O (.v 15 O O .nil) (bi O O O underlying25) O) (aq O (fun γ => qp O O (.v 16 O O .nil) (ls O O O) O) (aq O (fun γ => qp O O (.v 9 O O (.v 17 O O .nil)) (bj O O O) O) (aq O (fun γ => qm O (.o (s := 0) O (by decide) .nil) O) (aq O (fun γ => qm O (.o (s := 4) O (by decide) .nil) O) (aq O (fun γ => qp O O (.v 19 O O (.v 20 O O .nil)) (ct O O O ad underlying44 sizeOf54 q.1 q.2) O) (aq O (fun γ => qp O O (.v 21 O O .nil) (aw O O underlying54 O O sizeOf52 O) O) (aq O (fun γ => qp O O (.v 22 O O .nil) (aw O O underlying52 O O sizeOf9 O) O) (aq O (fun γ => qp O O (.v 23 O O .nil) (ai O O isAgg9 (hcell52v 0 O 7 _ O)) O) (aq O (fun γ => qp O O (.v 24 O O .nil) (iK O O O underlying9) O) (aq O (fun γ => qp O O (.v 25 O O .nil) (ls O O O) O) (aq O (fun γ => qp O O (.v 18 O O (.v 26 O O .nil)) (bj O O O) O) (aq O (fun γ => qm O (.o (s := 0) O (by decide) .nil) O) (aq O (fun γ => qm O (.o (s := 4) O (by decide) .nil) O) (aq O (fun γ => qp O O (.v 28 O O (.v 29 O O .nil)) (ct O O O al underlying44 sizeOf54 t.1 t.2) O) (aq O (fun γ => qp O O (.v 30 O O .nil) (aw O O underlying54 O O sizeOf52 O) O) (aq O (fun γ => qp O O (.v 31 O O .nil) (aw O O underlying52 O O sizeOf9 O) O) (aq O (fun γ => qp O O (.v 32 O O .nil) (ai O O isAgg9 (hcell70v 0 O 8 _ O)) O) (aq O (fun γ => qp O O (.v 33 O O .nil) (iK O O O underlying9) O) (aq O (fun γ => qp O O (.v 34 O O .nil) (ls O O O) O) (aq O (fun γ => qp O O (.v 27 O O (.v 35 O O .nil)) (bj O O O) O) (aq O (fun γ => qp O O (.v 36 O O .nil) (dA O O) O) zA))))))))))))))))))))))))))))))))))))))
 exact zA
 intro ep
 refine bb (ae (aE ?_))
 refine vm O O ?_
 refine vq (bj O O O) O ?_
 refine va O O (ag ?_)
 exact bu (s := (IntKind.i64.wrap ((IntKind.i64.wrap ((IntKind.i64.wrap ((IntKind.i64.wrap (a.1 + (min (((x0.getD a.2.toNat cg).2.2.2.2.1).length : Int) (20000 : Int)))) + (min (((x0.getD a.2.toNat cg).2.2.2.2.2.2.2.2.2).length : Int) (20000 : Int)))) + (min (((x0.getD a.2.toNat cg).2.2.2.2.2.2.2.1).length : Int) (20000 : Int)))) + (min (((x0.getD a.2.toNat cg).2.2.2.2.2.2.2.2.1).length : Int) (20000 : Int))), IntKind.i64.wrap (a.2 + 1))) () ⟨O, O, O, trivial⟩ (.sel 0 O (.nil _))
 refine ck ?_
 refine bQ ?_
 refine bY ?_
 refine bR ?_
 exact aM (s := a.1) () ⟨O, O, trivial⟩ (.sel 0 O (.nil _))
 intro a2 eF
 refine sr ?_
 refine vm O O ?_
 refine vq (bi O O O underlying44) O ?_
 refine vq (nu O O O) O ?_
 refine vm O O ?_
 refine az (b := decide ((x0.length : Int) ≤ (100 : Int))) (fun ds => RQ.sub (E' := [(3, .int .i64 a2)]) ⟨O, trivial⟩ (aS O O)) O O O O O ?_
 refine az (b := decide ((x0.length : Int) ≤ (100 : Int))) (fun a1 => RQ.sub (E' := [(56, .int .i64 a2)]) ⟨aZ O a1, trivial⟩ (nu O O O)) O O O O O ?_
 refine vq (dQ O O O) O ?_
 refine va O O (ag (ae (ak ?_)))
 exact av () O O O (.sel 0 O (.nil _))

def bl.f (x0 : List UInt8) : Option (List UInt8) := if (([] : List UInt8).length + x0.length) * 1 ≤ 140737488355328 then (some (([] : List UInt8) ++ x0)) else none
theorem bl.calls (W : World) (F : HA) (a0 : Option Addr) (c0 : Nat) (x0 : List UInt8) (h0 : Rd F a0 (ao x0)) (c : x0.length ≤ c0) (d : c0 ≤ maxLen) :
    Fn Tryz.prog W 89 [.slice a0 x0.length c0] [] F (bl.f x0) (fun (r : List UInt8) (y : Option Addr × Nat) => .slice y.1 r.length y.2) (fun r y => [Row 5 1 y.1 r.length y.2 (ao r)]) := by
 unfold bl.f
 refine aJ 6 Tryz.func89 O Tryz.ntmps89 O ?_
 refine sr ?_
 refine va O O (nx ?_)
 refine ah (yH O underlying25 eP) O O O ?_
 intro e
 refine vm O O ?_
 refine aQ (fun b => ?_)
 refine ah (dd 0 O O O underlying25 eP O (h0.rds 0 O) b) O O O ?_
 intro a
 refine va O O (ag (ae (ak ?_)))
 exact av (a.1, a.2) O O O (.sel 0 O (.sel 0 O (.nil _)))

def eX.f (x0 : List UInt8) : Option (List UInt8 × List UInt8) := (bl.f x0).bind fun a => (if (a.length + ([201] : List UInt8).length) * 1 ≤ 140737488355328 then (if 0 ≤ (x0.length : Int) ∧ (x0.length : Int) ≤ ((a ++ ([201] : List UInt8)).length : Int) then (some (List.take (x0.length : Int).toNat (a ++ ([201] : List UInt8)), List.drop (x0.length : Int).toNat (a ++ ([201] : List UInt8)))) else none) else none)
theorem eX.calls (W : World) (F : HA) (a0 : Option Addr) (c0 : Nat) (x0 : List UInt8) (h0 : Rd F a0 (ao x0)) (e : x0.length ≤ c0) (g : c0 ≤ maxLen) :
    Fn Tryz.prog W 50 [.slice a0 x0.length c0] [] F (eX.f x0) (fun (r : List UInt8 × List UInt8) (y : Option Addr × Nat) => .slice y.1 r.1.length y.2) (fun r y => [Row 5 1 y.1 r.1.length y.2 (ao (r.1 ++ r.2))]) := by
 unfold eX.f
 refine aJ 12 Tryz.func50 O Tryz.ntmps50 O ?_
 refine sr ?_
 refine va O O (nx ?_)
 refine vm O O ?_
 refine am (fun h b => ?_)
 refine ah (ar (vs := [.slice a0 x0.length c0]) (cap := []) (A := []) (rst := [F]) O O O O O O call89 (.sel 0 O (.nil _)) (bl.calls _ _ a0 c0 x0 (h0.lend 0 O) e g) b) O O O ?_
 intro i
 refine ah (jD (cs := [.int .u8 201]) ([201] : List UInt8) O O underlying25 eP O (by kernel_rfl) O O O) O O O ?_
 intro j
 refine aQ (fun c => ?_)
 refine ah (dd 1 O O O underlying25 eP O (Rds.row 0 O) c) O O O ?_
 intro a
 refine va O O (nx ?_)
 refine vm O O ?_
 refine vm O O ?_
 refine vq (bi O O O underlying25) O ?_
 refine aQ (fun d => ?_)
 refine ah (yI 1 O O O underlying25 sizeOf5 O d) O O O ?_
 intro _
 refine va O O (ag (ae (ak ?_)))
 exact av (a.1, a.2) O O O (.sel 1 O (.sel 1 O (.nil _)))

def bn.l0 (x0 : List UInt8) (x1 : List UInt8) : Nat → Int → Option ((Unit) ⊕ (Bool))
  | 0, _ => none
  | k + 1, a => if a < (x0.length : Int) then (if 0 ≤ a ∧ a < (x0.length : Int) then (if 0 ≤ a ∧ a < (x1.length : Int) then (if ((x0.getD a.toNat 0).toNat : Int) = ((x1.getD a.toNat 0).toNat : Int) then (bn.l0 x0 x1 k (IntKind.i64.wrap (a + 1))) else (some (.inr false))) else none) else none) else (some (.inl ()))
def bn.f (k : Nat) (x0 : List UInt8) (x1 : List UInt8) : Option (Bool) := if (x0.length : Int) = (x1.length : Int) then (orR (bn.l0 x0 x1 k 0) fun a => (some true)) else (some false)
theorem bn.calls (W : World) (F : HA) (k : Nat) (a0 : Option Addr) (c0 : Nat) (x0 : List UInt8) (a1 : Option Addr) (c1 : Nat) (x1 : List UInt8) (h0 : Rd F a0 (ao x0)) (t : x0.length ≤ c0) (u : c0 ≤ maxLen) (h1 : Rd F a1 (ao x1)) (w : x1.length ≤ c1) (x : c1 ≤ maxLen) :
    Fn Tryz.prog W 33 [.slice a0 x0.length c0, .slice a1 x1.length c1] [] F (bn.f k x0 x1) (fun (r : Bool) (y : Unit) => .bool r) (fun r y => []) := by
 unfold bn.f
 refine aJ 26 Tryz.func33 O Tryz.ntmps33 O ?_
 refine sr ?_
 refine va O O (ag (ae (ap (sr ?_))))
 refine vm O O ?_
 refine vq (bi O O O underlying25) O ?_
 refine vm O O ?_
 refine vq (bi O O O underlying25) O ?_
 refine vq (cz O O O) O (ag (ae ?_))
 refine br O (fun z => ?_) (fun aa => ?_)
 refine au ?_
 refine ae ?_
 refine fx (S := Unit) (Unit) (fun s y => []) (fun s y => [F]) ?_ ?_
 refine sr ?_
 refine va O O (ag (ae ?_))
 refine aK ?_
 refine bX (S := Int) (Unit) (fun k s => bn.l0 x0 x1 k s) (fun s y => [(0, .slice a0 x0.length c0), (1, .slice a1 x1.length c1), (5, .int .i64 s)]) (fun s y => [F]) (fun _ => by rw [bn.l0]) ?_ k 0 () ⟨O, O, O, trivial⟩ (.sel 0 O (.nil _))
 intro k a ab
 refine cL (by rw [bn.l0]) ?_
 refine ap (sr ?_)
 refine vm O O ?_
 refine vm O O ?_
 refine vq (bi O O O underlying25) O ?_
 refine vq (bN O O O) O (ag (ae ?_))
 refine aL O (fun ad => ?_) (fun af => ?_)
 refine au ?_
 refine ae (ap ?_)
 refine aK ?_
 refine ap ?_
 refine bv (fun b => ?_)
 obtain ⟨l, g, c⟩ := h0.pos (fc (j := a.toNat) (by omega))
 refine bv (fun d => ?_)
 obtain ⟨m, h, e⟩ := h1.pos (fc (j := a.toNat) (by omega))
 refine bp (Γ := Unit) () [[], [], [0, 1], [0, 1, 2], [], [], [4, 5], [4, 5, 6], rL 8] [] [0, 1, 2, 3, 4, 5, 6, 7, 8] (fun i => [[0], [0], [0], [0], [0], [0], [0], [0], [0]].getD i []) (fun i => [[], [], [], [], [], [], [], [], []].getD i []) (fun γ i => [.slice a0 x0.length c0, .int .i64 a, .pointer (some ⟨l, g + a.toNat, none⟩), .int .u8 ((x0.getD a.toNat 0).toNat : Int), .slice a1 x1.length c1, .int .i64 a, .pointer (some ⟨m, h + a.toNat, none⟩), .int .u8 ((x1.getD a.toNat 0).toNat : Int), .bool (!decide (((x0.getD a.toNat 0).toNat : Int) = ((x1.getD a.toNat 0).toNat : Int)))].getD i undef) (fun j γ => [[F]].getD j []) (fun γ => [(0, .slice a0 x0.length c0), (1, .slice a1 x1.length c1), (5, .int .i64 a), (25, .bool (!decide (((x0.getD a.toNat 0).toNat : Int) = ((x1.getD a.toNat 0).toNat : Int))))]) mixed (by decide) (by decide) (by decide) (by decide) (by decide) (by decide) (by decide) 26 O (by decide) (by decide) (by decide) (Ent.refl _) ?_ ?_ (fun _ => ⟨O, O, O, O, trivial⟩) ?_
 exact (aq O (fun γ => qm O (.o (s := 0) O (by decide) .nil) O) (aq O (fun γ => qm O (.o (s := 5) O (by decide) .nil) O) (aq O (fun γ => qp O O (.v 0 O O (.v 1 O O .nil)) (el O O O c underlying25 sizeOf5 b.1 b.2) O) (aq O (fun γ => qp O O (.v 2 O O .nil) (ai O O isAgg5 (h0.cell 0 O c (eQ (by omega)))) O) (aq O (fun γ => qm O (.o (s := 1) O (by decide) .nil) O) (aq O (fun γ => qm O (.o (s := 5) O (by decide) .nil) O) (aq O (fun γ => qp O O (.v 4 O O (.v 5 O O .nil)) (el O O O e underlying25 sizeOf5 d.1 d.2) O) (aq O (fun γ => qp O O (.v 6 O O .nil) (ai O O isAgg5 (h1.cell 0 O e (eQ (by omega)))) O) (aq O (fun γ => qp O O (.v 3 O O (.v 7 O O .nil)) (cz O O O) O) zA)))))))))
 exact zA
 intro n
 refine ae ?_
 refine br O (fun p => ?_) (fun q => ?_)
 refine au ?_
 refine bb (ae (aE ?_))
 refine vm O O ?_
 refine vq (bj O O O) O ?_
 refine va O O (ag ?_)
 exact bu (s := IntKind.i64.wrap (a + 1)) () ⟨O, O, O, trivial⟩ (.sel 0 O (.nil _))
 refine sr ?_
 refine va O O (ag (ae (ak ?_)))
 refine aP ?_
 refine ax ?_
 refine eS ?_
 refine aP ?_
 refine eG ?_
 exact av () O O O (.sel 0 O (.nil _))
 refine ck ?_
 refine bQ ?_
 refine bY ?_
 refine bR ?_
 exact fg (s := ()) () trivial (.sel 0 O (.nil _))
 intro al an
 refine sr ?_
 refine va O O (ag (ae (ak ?_)))
 exact av () O O O (.sel 0 O (.nil _))
 refine sr ?_
 refine va O O (ag (ae (ak ?_)))
 refine ax ?_
 exact av () O O O (.sel 0 O (.nil _))
end Go.Proofs.YtjkjlggbikeliaaGreatDoor

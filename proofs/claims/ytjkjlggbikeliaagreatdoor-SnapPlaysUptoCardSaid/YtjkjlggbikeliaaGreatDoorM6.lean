/- Texts that lead to the law SnapPlays: G4. Conditions: as each says. -/
import Derived.Test.YtjkjlggbikeliaaGreatDoorM5
namespace Go.Proofs.YtjkjlggbikeliaaGreatDoor
open Go.RowKit Tryz
set_option linter.unusedVariables false
set_option linter.unusedSimpArgs false
set_option maxRecDepth 20000
set_option maxHeartbeats 20000000
def de.f (k : Nat) (c : List (ba)) (g : Int) (e : Bool) (h : List UInt8) (x1 : List UInt8) (x2 : List UInt8) : Option (Int × (List (ba)) × Int × Bool × List UInt8) := if e = true then (some (11, c, g, e, h)) else ((aU.f k c g e h x1).bind fun q => (if q < (0 : Int) then (some (8, c, g, e, h)) else ((cy.f k x2).bind fun l => (if (!l) = true then (some (7, c, g, e, h)) else ((bI.f c g e h).bind fun b => (if b.1 = true then (some (11, c, b.2.1, b.2.2.1, b.2.2.2)) else (if x1 = x2 then (some (0, c, b.2.1, b.2.2.1, b.2.2.2)) else ((aU.f k c b.2.1 b.2.2.1 b.2.2.2 x1).bind fun m => ((cV.f c b.2.1 b.2.2.1 b.2.2.2 m).bind fun a => (((aU.f k a.2.2.2.1 a.2.2.2.2.1 a.2.2.2.2.2.1 a.2.2.2.2.2.2 x2).bind fun n => (if (0 : Int) ≤ n then ((aU.f k a.2.2.2.1 a.2.2.2.2.1 a.2.2.2.2.2.1 a.2.2.2.2.2.2 x2).bind fun o => ((cV.f a.2.2.2.1 a.2.2.2.2.1 a.2.2.2.2.2.1 a.2.2.2.2.2.2 o).bind fun d => (if d.2.2.2.2.2.2 = x2 then (some (d.2.2.2.1, d.2.2.2.2.1, d.2.2.2.2.2.1, ([] : List UInt8))) else (some (d.2.2.2.1, d.2.2.2.2.1, d.2.2.2.2.2.1, d.2.2.2.2.2.2))))) else (some (a.2.2.2.1, a.2.2.2.2.1, a.2.2.2.2.2.1, a.2.2.2.2.2.2)))).bind fun i => ((if i.2.2.2 = x1 then (some x2) else (some i.2.2.2)).bind fun p => ((bJ.f k i.1 i.2.1 i.2.2.1 p x2 a.2.1 a.2.2.1).bind fun j => (some (0, j.1, j.2.1, j.2.2.1, j.2.2.2))))))))))))))
theorem de.calls (W : World) (F : HA) (k : Nat) (b0 : Nat) (c : Option Addr) (d : Nat) (e : List (ba)) (h : HA) (o : Int) (p : Bool) (q : List UInt8) (x1 : List UInt8) (x2 : List UInt8)  :
    Fn Tryz.prog W 97 [.pointer (some ⟨b0, 0, none⟩), str x1, str x2] [obj b0 49 [.slice c e.length d, .int .i64 o, .bool p, str q], aC 71 3 (V71 h) c e d, h] F (de.f k e o p q x1 x2) (fun (r : Int × (List (ba)) × Int × Bool × List UInt8) (y : Option Addr × Nat × HA) => .int .i64 r.1) (fun r y => [obj b0 49 [.slice y.1 r.2.1.length y.2.1, .int .i64 r.2.2.1, .bool r.2.2.2.1, str r.2.2.2.2], aC 71 3 (V71 (y.2.2)) y.1 r.2.1 y.2.1, y.2.2]) := by
 unfold de.f
 refine aJ 64 Tryz.func97 O Tryz.ntmps97 O ?_
 refine sr ?_
 refine va O O (ag (ae (ap (sr ?_))))
 refine vm O O ?_
 refine vn O O ?_
 refine vq (aw O O underlying49 O O sizeOf4 O) O ?_
 refine vq (ai O O isAgg4 (.obj 0 O O)) O (ag (ae ?_))
 refine aT O (fun et => ?_) (fun ez => ?_)
 refine sr ?_
 refine va O O (ag (ae (ak ?_)))
 refine ax ?_
 exact av (c, d, h) O O O (.sel 0 O (.sel 0 O (.sel 0 O (.sel 0 O (.nil _)))))
 refine au ?_
 refine ae (ap (sr ?_))
 refine vm O O ?_
 refine vm O O ?_
 refine bd 1 O (fun w m => ?_)
 refine am (fun eA an => ?_)
 refine bf 1 O (fun b9 cd ch c6 => ?_)
 refine ah (ar (vs := [.pointer (some ⟨b0, 0, none⟩), str x1]) (cap := []) (A := [obj b0 49 [.slice c e.length d, .int .i64 o, .bool p, str q]]) (rst := [Row 71 3 c e.length d w.flatten, h, F]) O O O O O O call99 (.sel 0 O (.sel 0 O (.sel 0 O (.sel 0 O (.nil _))))) (aU.calls _ _ k b0 c d e o p q x1 ((Rd.asV m b9).up (Up.lend 0 O) (V71.up (Up.lend 1 O))) cd ch) an) O O O ?_
 intro c7
 refine vq (bN O O O) O (ag (ae ?_))
 refine aL O (fun c8 => ?_) (fun c9 => ?_)
 refine sr ?_
 refine va O O (ag (ae (ak ?_)))
 refine ax ?_
 exact av (c, d, h) O O O (.sel 0 O (.sel' 0 O (aC.mk m) (.sel 0 O (.sel 0 O (.nil _)))))
 refine au ?_
 refine ae (sr ?_)
 refine vm O O ?_
 refine am (fun dl a0 => ?_)
 refine ah (ar (vs := [str x2]) (cap := []) (A := []) (rst := [obj b0 49 [.slice c e.length d, .int .i64 o, .bool p, str q], Row 71 3 c e.length d w.flatten, h, F]) O O O O O O call144 (.sel 0 O (.sel 0 O (.sel 0 O (.sel 0 O (.nil _))))) (cy.calls _ _ k x2 ) a0) O O O ?_
 intro ds
 refine va O O (ag (ae (ap (sr ?_))))
 refine vm O O ?_
 refine vq (fE O O) O (ag (ae ?_))
 refine aT O (fun d1 => ?_) (fun d2 => ?_)
 refine sr ?_
 refine va O O (ag (ae (ak ?_)))
 refine ax ?_
 exact av (c, d, h) O O O (.sel 0 O (.sel' 0 O (aC.mk m) (.sel 0 O (.sel 0 O (.nil _)))))
 refine au ?_
 refine ae (ap (sr ?_))
 refine vm O O ?_
 refine am (fun i a1 => ?_)
 refine bf 1 O (fun a2 a3 a4 cs => ?_)
 refine ah (ar (vs := [.pointer (some ⟨b0, 0, none⟩)]) (cap := []) (A := [obj b0 49 [.slice c e.length d, .int .i64 o, .bool p, str q]]) (rst := [Row 71 3 c e.length d w.flatten, h, F]) O O O O O O call142 (.sel 0 O (.sel 0 O (.sel 0 O (.sel 0 O (.nil _))))) (bI.calls _ _ b0 c d e o p q ((Rd.asV m a2).up (Up.lend 0 O) (V71.up (Up.lend 1 O))) a3 a4) a1) O O O ?_
 intro d3
 refine ag (ae ?_)
 refine aT O (fun d4 => ?_) (fun d5 => ?_)
 refine sr ?_
 refine va O O (ag (ae (ak ?_)))
 refine ax ?_
 exact av (c, d, h) O O O (.sel 0 O (.sel' 0 O (aC.mk m) (.sel 0 O (.sel 0 O (.nil _)))))
 refine au ?_
 refine ae (ap (sr ?_))
 refine vm O O ?_
 refine vm O O ?_
 refine vq (js O O O) O (ag (ae ?_))
 refine aL O (fun d6 => ?_) (fun d7 => ?_)
 refine sr ?_
 refine va O O (ag (ae (ak ?_)))
 refine ax ?_
 exact av (c, d, h) O O O (.sel 0 O (.sel' 0 O (aC.mk m) (.sel 0 O (.sel 0 O (.nil _)))))
 refine au ?_
 refine ae (sr ?_)
 refine vm O O ?_
 refine vm O O ?_
 refine vm O O ?_
 refine am (fun ad a5 => ?_)
 refine bf 1 O (fun a6 a7 a8 c0 => ?_)
 refine ah (ar (vs := [.pointer (some ⟨b0, 0, none⟩), str x1]) (cap := []) (A := [obj b0 49 [.slice c e.length d, .int .i64 i.2.1, .bool i.2.2.1, str i.2.2.2]]) (rst := [Row 71 3 c e.length d w.flatten, h, F]) O O O O O O call99 (.sel 0 O (.sel 0 O (.sel 0 O (.sel 0 O (.nil _))))) (aU.calls _ _ k b0 c d e i.2.1 i.2.2.1 i.2.2.2 x1 ((Rd.asV m a6).up (Up.lend 0 O) (V71.up (Up.lend 1 O))) a7 a8) a5) O O O ?_
 intro d8
 refine am (fun a a9 => ?_)
 refine ah (ar (vs := [.pointer (some ⟨b0, 0, none⟩), .int .i64 ad]) (cap := []) (A := [obj b0 49 [.slice c e.length d, .int .i64 i.2.1, .bool i.2.2.1, str i.2.2.2], aC 71 3 (V71 h) c e d, h]) (rst := [F]) O O O O O O call143 (.sel 0 O (.sel' 0 O (aC.mk m) (.sel 0 O (.sel 0 O (.nil _))))) (cV.calls _ _ b0 c d e h i.2.1 i.2.2.1 i.2.2.2 ad ) a9) O O O ?_
 intro b
 refine jF (fun l => ?_)
 refine jF (fun c1 => ?_)
 refine ah (df O zeroValue71 O) O O O ?_
 intro n
 refine aX (aV 0 O O O sizeOf71 O O (aY (by rfl)) O O) O O ?_
 intro _
 refine ag (ae ?_)
 refine bO (S := (List (ba)) × Int × Bool × List UInt8) (HA × Option Addr × Nat) (fun s y => [(0, .pointer (some ⟨b0, 0, none⟩)), (1, str x1), (2, str x2), (8, .pointer (some ⟨n, 0, none⟩))]) (fun s y => [pr (Rd (y.1) b.1 (ao a.2.1) ∧ a.2.1.length ≤ b.2.1 ∧ b.2.1 ≤ maxLen), obj b0 49 [.slice y.2.1 s.1.length y.2.2, .int .i64 s.2.1, .bool s.2.2.1, str s.2.2.2], obj n 71 [str a.1, .slice b.1 a.2.1.length b.2.1, .int .i64 a.2.2.1], aC 71 3 (V71 (y.1)) y.2.1 s.1 y.2.2, y.1, F]) ?_ ?_
 refine sr ?_
 refine vm O O ?_
 refine vm O O ?_
 refine bd 2 O (fun aa v => ?_)
 refine am (fun d9 bc => ?_)
 refine bf 2 O (fun be bs b1 c2 => ?_)
 refine ah (ar (vs := [.pointer (some ⟨b0, 0, none⟩), str x2]) (cap := []) (A := [obj b0 49 [.slice b.2.2.1 a.2.2.2.1.length b.2.2.2.1, .int .i64 a.2.2.2.2.1, .bool a.2.2.2.2.2.1, str a.2.2.2.2.2.2]]) (rst := [obj n 71 [str a.1, .slice b.1 a.2.1.length b.2.1, .int .i64 a.2.2.1], Row 71 3 b.2.2.1 a.2.2.2.1.length b.2.2.2.1 aa.flatten, b.2.2.2.2, F]) O O O O O O call99 (.sel 1 O (.sel 0 O (.sel 0 O (.sel 0 O (.sel 0 O (.nil _)))))) (aU.calls _ _ k b0 b.2.2.1 b.2.2.2.1 a.2.2.2.1 a.2.2.2.2.1 a.2.2.2.2.2.1 a.2.2.2.2.2.2 x2 ((Rd.asV v be).up (Up.lend 1 O) (V71.up (Up.lend 2 O))) bs b1) bc) O O O ?_
 intro ec
 refine vq (gP O O O) O (ag (ae ?_))
 refine aL O (fun ed => ?_) (fun ef => ?_)
 refine sr ?_
 refine vm O O ?_
 refine vm O O ?_
 refine vm O O ?_
 refine am (fun af b2 => ?_)
 refine bf 2 O (fun b3 b4 b5 c3 => ?_)
 refine ah (ar (vs := [.pointer (some ⟨b0, 0, none⟩), str x2]) (cap := []) (A := [obj b0 49 [.slice b.2.2.1 a.2.2.2.1.length b.2.2.2.1, .int .i64 a.2.2.2.2.1, .bool a.2.2.2.2.2.1, str a.2.2.2.2.2.2]]) (rst := [obj n 71 [str a.1, .slice b.1 a.2.1.length b.2.1, .int .i64 a.2.2.1], Row 71 3 b.2.2.1 a.2.2.2.1.length b.2.2.2.1 aa.flatten, b.2.2.2.2, F]) O O O O O O call99 (.sel 0 O (.sel 0 O (.sel 0 O (.sel 0 O (.sel 0 O (.nil _)))))) (aU.calls _ _ k b0 b.2.2.1 b.2.2.2.1 a.2.2.2.1 a.2.2.2.2.1 a.2.2.2.2.2.1 a.2.2.2.2.2.2 x2 ((Rd.asV v b3).up (Up.lend 1 O) (V71.up (Up.lend 2 O))) b4 b5) b2) O O O ?_
 intro eg
 refine am (fun t b6 => ?_)
 refine ah (ar (vs := [.pointer (some ⟨b0, 0, none⟩), .int .i64 af]) (cap := []) (A := [obj b0 49 [.slice b.2.2.1 a.2.2.2.1.length b.2.2.2.1, .int .i64 a.2.2.2.2.1, .bool a.2.2.2.2.2.1, str a.2.2.2.2.2.2], aC 71 3 (V71 (b.2.2.2.2)) b.2.2.1 a.2.2.2.1 b.2.2.2.1, b.2.2.2.2]) (rst := [obj n 71 [str a.1, .slice b.1 a.2.1.length b.2.1, .int .i64 a.2.2.1], F]) O O O O O O call143 (.sel 0 O (.sel' 1 O (aC.mk v) (.sel 1 O (.sel 0 O (.sel 0 O (.nil _)))))) (cV.calls _ _ b0 b.2.2.1 b.2.2.2.1 a.2.2.2.1 b.2.2.2.2 a.2.2.2.2.1 a.2.2.2.2.2.1 a.2.2.2.2.2.2 af ) b6) O O O ?_
 intro u
 refine jF (fun c4 => ?_)
 refine jF (fun ab => ?_)
 refine nx ?_
 refine vm O O ?_
 refine vn O O ?_
 refine vq (aw O O underlying49 O O sizeOf9 O) O ?_
 refine vq (ai O O isAgg9 (.obj 0 O O)) O ?_
 refine vm O O ?_
 refine vq (js O O O) O (ag (ae ?_))
 refine aL O (fun ek => ?_) (fun em => ?_)
 refine aE ?_
 refine vm O O ?_
 refine vn O O ?_
 refine vq (aw O O underlying49 O O sizeOf9 O) O ?_
 refine aX (aV 0 O O O sizeOf9 O O (aY (by rfl)) O O) O O ?_
 intro _
 refine ag ?_
 exact aM (s := (t.2.2.2.1, t.2.2.2.2.1, t.2.2.2.2.2.1, ([] : List UInt8))) (u.2.2.2.2, u.2.2.1, u.2.2.2.1) ⟨O, O, O, O, trivial⟩ (.pr_in ⟨(l.1.up ab), l.2.1, l.2.2⟩ (.sel 0 O (.sel 2 O (.sel 0 O (.sel 0 O (.sel 0 O (.nil _)))))))
 refine au ?_
 exact aM (s := (t.2.2.2.1, t.2.2.2.2.1, t.2.2.2.2.2.1, t.2.2.2.2.2.2)) (u.2.2.2.2, u.2.2.1, u.2.2.2.1) ⟨O, O, O, O, trivial⟩ (.pr_in ⟨(l.1.up ab), l.2.1, l.2.2⟩ (.sel 0 O (.sel 2 O (.sel 0 O (.sel 0 O (.sel 0 O (.nil _)))))))
 refine au ?_
 exact aM (s := (a.2.2.2.1, a.2.2.2.2.1, a.2.2.2.2.2.1, a.2.2.2.2.2.2)) (b.2.2.2.2, b.2.2.1, b.2.2.2.1) ⟨O, O, O, O, trivial⟩ (.pr_in ⟨l.1, l.2.1, l.2.2⟩ (.sel 0 O (.sel 0 O (.sel' 0 O (aC.mk v) (.sel 0 O (.sel 0 O (.nil _)))))))
 intro j g
 refine wi (fun x => ?_)
 refine bO (S := List UInt8) (Unit) (fun s y => [(0, .pointer (some ⟨b0, 0, none⟩)), (2, str x2), (8, .pointer (some ⟨n, 0, none⟩))]) (fun s y => [obj b0 49 [.slice g.2.1 j.1.length g.2.2, .int .i64 j.2.1, .bool j.2.2.1, str s], obj n 71 [str a.1, .slice b.1 a.2.1.length b.2.1, .int .i64 a.2.2.1], aC 71 3 (V71 (g.1)) g.2.1 j.1 g.2.2, g.1, F]) ?_ ?_
 refine sr ?_
 refine vm O O ?_
 refine vn O O ?_
 refine vq (aw O O underlying49 O O sizeOf9 O) O ?_
 refine vq (ai O O isAgg9 (.obj 0 O O)) O ?_
 refine vm O O ?_
 refine vq (js O O O) O (ag (ae ?_))
 refine aL O (fun en => ?_) (fun ep => ?_)
 refine aE ?_
 refine vm O O ?_
 refine vm O O ?_
 refine vn O O ?_
 refine vq (aw O O underlying49 O O sizeOf9 O) O ?_
 refine aX (aV 0 O O O sizeOf9 O O (aY (by rfl)) O O) O O ?_
 intro _
 refine ag ?_
 exact aM (s := x2) () ⟨O, O, O, trivial⟩ (.sel 0 O (.sel 0 O (.sel 0 O (.sel 0 O (.sel 0 O (.nil _))))))
 refine au ?_
 exact aM (s := j.2.2.2) () ⟨O, O, O, trivial⟩ (.sel 0 O (.sel 0 O (.sel 0 O (.sel 0 O (.sel 0 O (.nil _))))))
 intro al er
 refine sr ?_
 refine vm O O ?_
 refine vq (aw O O underlying71 O O sizeOf9 O) O ?_
 refine aX (aV 1 O O O sizeOf9 O O (aY (by rfl)) O O) O O ?_
 intro _
 refine nx ?_
 refine vm O O ?_
 refine vq (du 1 O O isAgg71 sizeOf71 O O) O ?_
 refine bd 2 O (fun c5 b7 => ?_)
 refine am (fun es b8 => ?_)
 refine ah (ar (vs := [.pointer (some ⟨b0, 0, none⟩), .agg #[str x2, .slice b.1 a.2.1.length b.2.1, .int .i64 a.2.2.1]]) (cap := []) (A := [obj b0 49 [.slice g.2.1 j.1.length g.2.2, .int .i64 j.2.1, .bool j.2.2.1, str al], aC 71 3 (V71 (g.1)) g.2.1 j.1 g.2.2, g.1]) (rst := [obj n 71 [str x2, .slice b.1 a.2.1.length b.2.1, .int .i64 a.2.2.1], F]) O O O O O O call145 (.sel 0 O (.sel' 1 O (aC.mk b7) (.sel 1 O (.sel 0 O (.sel 0 O (.nil _)))))) (bJ.calls _ _ k b0 g.2.1 g.2.2 j.1 g.1 j.2.1 j.2.2.1 al x2 b.1 b.2.1 a.2.1 a.2.2.1 x.1 x.2.1 x.2.2) b8) O O O ?_
 intro z
 refine nx ?_
 refine va O O (ag (ae (ak ?_)))
 exact av (z.1, z.2.1, z.2.2) O O O (.sel 0 O (.sel 0 O (.sel 0 O (.sel 1 O (.nil _)))))

def fC.f (k : Nat) (e : List (ba)) (g : Int) (h : Bool) (i : List UInt8) (q : Int) (s : Int) (t : List UInt8) : Option (Int × (List (ba)) × Int × Bool × List UInt8) := (dS.f k q s t).bind fun r => (if r.2 = (0 : Int) then ((cG.f q s t).bind fun x => (if x = true then (some (4, e, g, h, i)) else ((fV.f k r.1).bind fun u => ((co.f k e g h i ([115, 110, 97, 112, 46, 116, 109, 112] : List UInt8)).bind fun v => ((if v.2 = (0 : Int) then ((bV.f k e g h i ([115, 110, 97, 112, 46, 116, 109, 112] : List UInt8)).bind fun j => (some (j.1, j.2.1, j.2.2.1, j.2.2.2.1, j.2.2.2.2))) else (some (r.2, e, g, h, i))).bind fun a => ((if a.1 = (0 : Int) then ((db.f k a.2.1 a.2.2.1 a.2.2.2.1 a.2.2.2.2 ([115, 110, 97, 112, 46, 116, 109, 112] : List UInt8)).bind fun l => (some (l.1, l.2.1, l.2.2.1, l.2.2.2.1, l.2.2.2.2))) else (some (a.1, a.2.1, a.2.2.1, a.2.2.2.1, a.2.2.2.2))).bind fun b => ((if b.1 = (0 : Int) then ((dc.f k b.2.1 b.2.2.1 b.2.2.2.1 b.2.2.2.2 ([115, 110, 97, 112, 46, 116, 109, 112] : List UInt8) u.1).bind fun m => (some (m.1, m.2.1, m.2.2.1, m.2.2.2.1, m.2.2.2.2))) else (some (b.1, b.2.1, b.2.2.1, b.2.2.2.1, b.2.2.2.2))).bind fun c => ((if c.1 = (0 : Int) then ((dB.f k c.2.1 c.2.2.1 c.2.2.2.1 c.2.2.2.2 ([115, 110, 97, 112, 46, 116, 109, 112] : List UInt8)).bind fun n => (some (n.1, n.2.1, n.2.2.1, n.2.2.2.1, n.2.2.2.2))) else (some (c.1, c.2.1, c.2.2.1, c.2.2.2.1, c.2.2.2.2))).bind fun d => ((if d.1 = (0 : Int) then ((cq.f k q).bind fun w => ((de.f k d.2.1 d.2.2.1 d.2.2.2.1 d.2.2.2.2 ([115, 110, 97, 112, 46, 116, 109, 112] : List UInt8) w).bind fun o => (some (o.1, o.2.1, o.2.2.1, o.2.2.2.1, o.2.2.2.2)))) else (some (d.1, d.2.1, d.2.2.1, d.2.2.2.1, d.2.2.2.2))).bind fun p => (some (p.1, p.2.1, p.2.2.1, p.2.2.2.1, p.2.2.2.2))))))))))) else (some (r.2, e, g, h, i)))
theorem fC.calls (W : World) (F : HA) (k : Nat) (b0 : Nat) (j : Option Addr) (l : Nat) (m : List (ba)) (o : HA) (z : Int) (aa : Bool) (ab : List UInt8) (a : Int) (d : Int) (e : Option Addr) (c : Nat) (b : List UInt8) (bs : Rd F e (ao b)) (bc : b.length ≤ c) (be : c ≤ maxLen) :
    Fn Tryz.prog W 52 [.pointer (some ⟨b0, 0, none⟩), .agg #[.int .i64 a, .int .i64 d, .slice e b.length c]] [obj b0 49 [.slice j m.length l, .int .i64 z, .bool aa, str ab], aC 71 3 (V71 o) j m l, o] F (fC.f k m z aa ab a d b) (fun (r : Int × (List (ba)) × Int × Bool × List UInt8) (y : Option Addr × Nat × HA) => .int .i64 r.1) (fun r y => [obj b0 49 [.slice y.1 r.2.1.length y.2.1, .int .i64 r.2.2.1, .bool r.2.2.2.1, str r.2.2.2.2], aC 71 3 (V71 (y.2.2)) y.1 r.2.1 y.2.1, y.2.2]) := by
 unfold fC.f
 refine aJ 56 Tryz.func52 O Tryz.ntmps52 O ?_
 refine sr ?_
 refine ah (dL O O O) O O O ?_
 intro u
 refine va O O (nx ?_)
 refine vq (du 0 O O isAgg27 sizeOf27 O O) O ?_
 refine am (fun af d2 => ?_)
 refine ah (ar (vs := [.agg #[.int .i64 a, .int .i64 d, .slice e b.length c]]) (cap := []) (A := []) (rst := [obj u 27 [.int .i64 a, .int .i64 d, .slice e b.length c], obj b0 49 [.slice j m.length l, .int .i64 z, .bool aa, str ab], aC 71 3 (V71 o) j m l, o, F]) O O O O O O call90 (.sel 0 O (.sel 0 O (.sel 0 O (.sel 0 O (.sel 0 O (.nil _)))))) (dS.calls _ _ k a d e c b (bs.lend 4 O) bc be) d2) O O O ?_
 intro ad
 refine vm O O ?_
 refine vq (bh O O O) O ?_
 refine vq (bh O O O) O ?_
 refine va O O ?_
 refine va O O (ag (ae (ap (sr ?_))))
 refine vm O O ?_
 refine vq (cz O O O) O (ag (ae ?_))
 refine br O (fun e1 => ?_) (fun e2 => ?_)
 refine au ?_
 refine ae (ap (sr ?_))
 refine vq (du 1 O O isAgg27 sizeOf27 O O) O ?_
 refine am (fun e3 d3 => ?_)
 refine ah (ar (vs := [.agg #[.int .i64 a, .int .i64 d, .slice e b.length c]]) (cap := []) (A := []) (rst := [Row 5 1 ad.1 af.1.length ad.2 (ao af.1), obj u 27 [.int .i64 a, .int .i64 d, .slice e b.length c], obj b0 49 [.slice j m.length l, .int .i64 z, .bool aa, str ab], aC 71 3 (V71 o) j m l, o, F]) O O O O O O call91 (.sel 0 O (.sel 0 O (.sel 0 O (.sel 0 O (.sel 0 O (.sel 0 O (.nil _))))))) (cG.calls _ _ a d e c b (bs.lend 5 O) bc be) d3) O O O ?_
 intro e4
 refine ag (ae ?_)
 refine aT O (fun ed => ?_) (fun ef => ?_)
 refine sr ?_
 refine va O O (ag (ae (ak ?_)))
 refine ax ?_
 exact av (j, l, o) O O O (.sel 2 O (.sel 2 O (.sel 2 O (.sel 2 O (.nil _)))))
 refine au ?_
 refine ae (sr ?_)
 refine vm O O ?_
 refine am (fun n b4 => ?_)
 refine bf 0 O (fun b5 b6 b7 d4 => ?_)
 refine ah (ar (vs := [.slice ad.1 af.1.length ad.2]) (cap := []) (A := []) (rst := [Row 5 1 ad.1 af.1.length ad.2 (ao af.1), obj u 27 [.int .i64 a, .int .i64 d, .slice e b.length c], obj b0 49 [.slice j m.length l, .int .i64 z, .bool aa, str ab], aC 71 3 (V71 o) j m l, o, F]) O O O O O O call92 (.sel 0 O (.sel 0 O (.sel 0 O (.sel 0 O (.sel 0 O (.sel 0 O (.nil _))))))) (fV.calls _ _ k ad.1 ad.2 af.1 (b5.lend 0 O) b6 b7) b4) O O O ?_
 intro g
 refine vm O O ?_
 refine vq (bh O O O) O ?_
 refine vq (bh O O O) O ?_
 refine va O O ?_
 refine va O O (nx ?_)
 refine vm O O ?_
 refine bd 4 O (fun b8 a3 => ?_)
 refine am (fun b1 b9 => ?_)
 refine bf 4 O (fun cd ch cs d5 => ?_)
 refine ah (ar (vs := [.pointer (some ⟨b0, 0, none⟩), str ([115, 110, 97, 112, 46, 116, 109, 112] : List UInt8)]) (cap := []) (A := [obj b0 49 [.slice j m.length l, .int .i64 z, .bool aa, str ab]]) (rst := [Row 5 1 g.1 n.1.length g.2 (ao n.1), Row 5 1 ad.1 af.1.length ad.2 (ao af.1), obj u 27 [.int .i64 a, .int .i64 d, .slice e b.length c], Row 71 3 j m.length l b8.flatten, o, F]) O O O O O O call56 (.sel 3 O (.sel 0 O (.sel 0 O (.sel 0 O (.sel 0 O (.sel 0 O (.sel 0 O (.nil _)))))))) (co.calls _ _ k b0 j l m z aa ab ([115, 110, 97, 112, 46, 116, 109, 112] : List UInt8) ((Rd.asV a3 cd).up (Up.lend 3 O) (V71.up (Up.lend 4 O))) ch cs) b9) O O O ?_
 intro b2
 refine vm O O ?_
 refine vq (bh O O O) O ?_
 refine vq (bh O O O) O ?_
 refine va O O ?_
 refine va O O (ag (ae ?_))
 refine bO (S := Int × (List (ba)) × Int × Bool × List UInt8) (HA × Option Addr × Nat) (fun s y => [(0, .pointer (some ⟨b0, 0, none⟩)), (3, .pointer (some ⟨u, 0, none⟩)), (6, .int .i64 s.1), (7, .slice g.1 n.1.length g.2)]) (fun s y => [obj b0 49 [.slice y.2.1 s.2.1.length y.2.2, .int .i64 s.2.2.1, .bool s.2.2.2.1, str s.2.2.2.2], obj u 27 [.int .i64 a, .int .i64 d, .slice e b.length c], Row 5 1 g.1 n.1.length g.2 (ao n.1), aC 71 3 (V71 (y.1)) y.2.1 s.2.1 y.2.2, y.1, F]) ?_ ?_
 refine sr ?_
 refine vm O O ?_
 refine vq (bD O O O) O (ag (ae ?_))
 refine aL O (fun eg => ?_) (fun ek => ?_)
 refine aE ?_
 refine vm O O ?_
 refine am (fun al c0 => ?_)
 refine ah (ar (vs := [.pointer (some ⟨b0, 0, none⟩), str ([115, 110, 97, 112, 46, 116, 109, 112] : List UInt8)]) (cap := []) (A := [obj b0 49 [.slice j m.length l, .int .i64 z, .bool aa, str ab], aC 71 3 (V71 o) j m l, o]) (rst := [Row 5 1 b2.1 b1.1.length b2.2 (ao b1.1), Row 5 1 g.1 n.1.length g.2 (ao n.1), Row 5 1 ad.1 af.1.length ad.2 (ao af.1), obj u 27 [.int .i64 a, .int .i64 d, .slice e b.length c], F]) O O O O O O call93 (.sel 1 O (.sel' 4 O (aC.mk a3) (.sel 4 O (.sel 0 O (.sel 0 O (.sel 0 O (.sel 0 O (.sel 0 O (.nil _))))))))) (bV.calls _ _ k b0 j l m o z aa ab ([115, 110, 97, 112, 46, 116, 109, 112] : List UInt8) ) c0) O O O ?_
 intro a4
 refine va O O (ag ?_)
 exact aM (s := (al.1, al.2.1, al.2.2.1, al.2.2.2.1, al.2.2.2.2)) (a4.2.2, a4.1, a4.2.1) ⟨O, O, O, O, trivial⟩ (.sel 0 O (.sel 5 O (.sel 3 O (.sel 0 O (.sel 0 O (.sel 2 O (.nil _)))))))
 refine au ?_
 exact aM (s := (af.2, m, z, aa, ab)) (o, j, l) ⟨O, O, O, O, trivial⟩ (.sel 1 O (.sel 3 O (.sel 1 O (.sel' 2 O (aC.mk a3) (.sel 2 O (.sel 2 O (.nil _)))))))
 intro p v
 refine bO (S := Int × (List (ba)) × Int × Bool × List UInt8) (HA × Option Addr × Nat) (fun s y => [(0, .pointer (some ⟨b0, 0, none⟩)), (3, .pointer (some ⟨u, 0, none⟩)), (6, .int .i64 s.1), (7, .slice g.1 n.1.length g.2)]) (fun s y => [obj b0 49 [.slice y.2.1 s.2.1.length y.2.2, .int .i64 s.2.2.1, .bool s.2.2.2.1, str s.2.2.2.2], obj u 27 [.int .i64 a, .int .i64 d, .slice e b.length c], Row 5 1 g.1 n.1.length g.2 (ao n.1), aC 71 3 (V71 (y.1)) y.2.1 s.2.1 y.2.2, y.1, F]) ?_ ?_
 refine sr ?_
 refine vm O O ?_
 refine vq (bD O O O) O (ag (ae ?_))
 refine aL O (fun em => ?_) (fun en => ?_)
 refine aE ?_
 refine vm O O ?_
 refine bd 3 O (fun d6 c1 => ?_)
 refine am (fun an c2 => ?_)
 refine ah (ar (vs := [.pointer (some ⟨b0, 0, none⟩), str ([115, 110, 97, 112, 46, 116, 109, 112] : List UInt8)]) (cap := []) (A := [obj b0 49 [.slice v.2.1 p.2.1.length v.2.2, .int .i64 p.2.2.1, .bool p.2.2.2.1, str p.2.2.2.2], aC 71 3 (V71 (v.1)) v.2.1 p.2.1 v.2.2, v.1]) (rst := [obj u 27 [.int .i64 a, .int .i64 d, .slice e b.length c], Row 5 1 g.1 n.1.length g.2 (ao n.1), F]) O O O O O O call94 (.sel 0 O (.sel' 2 O (aC.mk c1) (.sel 2 O (.sel 0 O (.sel 0 O (.sel 0 O (.nil _))))))) (db.calls _ _ k b0 v.2.1 v.2.2 p.2.1 v.1 p.2.2.1 p.2.2.2.1 p.2.2.2.2 ([115, 110, 97, 112, 46, 116, 109, 112] : List UInt8) ) c2) O O O ?_
 intro a5
 refine va O O (ag ?_)
 exact aM (s := (an.1, an.2.1, an.2.2.1, an.2.2.2.1, an.2.2.2.2)) (a5.2.2, a5.1, a5.2.1) ⟨O, O, O, O, trivial⟩ (.sel 0 O (.sel 2 O (.sel 2 O (.sel 0 O (.sel 0 O (.sel 0 O (.nil _)))))))
 refine au ?_
 exact aM (s := (p.1, p.2.1, p.2.2.1, p.2.2.2.1, p.2.2.2.2)) (v.1, v.2.1, v.2.2) ⟨O, O, O, O, trivial⟩ (.sel 0 O (.sel 0 O (.sel 0 O (.sel 0 O (.sel 0 O (.sel 0 O (.nil _)))))))
 intro q w
 refine bO (S := Int × (List (ba)) × Int × Bool × List UInt8) (HA × Option Addr × Nat) (fun s y => [(0, .pointer (some ⟨b0, 0, none⟩)), (3, .pointer (some ⟨u, 0, none⟩)), (6, .int .i64 s.1)]) (fun s y => [obj b0 49 [.slice y.2.1 s.2.1.length y.2.2, .int .i64 s.2.2.1, .bool s.2.2.2.1, str s.2.2.2.2], obj u 27 [.int .i64 a, .int .i64 d, .slice e b.length c], aC 71 3 (V71 (y.1)) y.2.1 s.2.1 y.2.2, y.1, F]) ?_ ?_
 refine sr ?_
 refine vm O O ?_
 refine vq (bD O O O) O (ag (ae ?_))
 refine aL O (fun ep => ?_) (fun er => ?_)
 refine aE ?_
 refine vm O O ?_
 refine vm O O ?_
 refine bd 3 O (fun d7 c3 => ?_)
 refine am (fun a0 c4 => ?_)
 refine bf 2 O (fun c5 c6 c7 d8 => ?_)
 refine ah (ar (vs := [.pointer (some ⟨b0, 0, none⟩), str ([115, 110, 97, 112, 46, 116, 109, 112] : List UInt8), .slice g.1 n.1.length g.2]) (cap := []) (A := [obj b0 49 [.slice w.2.1 q.2.1.length w.2.2, .int .i64 q.2.2.1, .bool q.2.2.2.1, str q.2.2.2.2], aC 71 3 (V71 (w.1)) w.2.1 q.2.1 w.2.2, w.1]) (rst := [obj u 27 [.int .i64 a, .int .i64 d, .slice e b.length c], Row 5 1 g.1 n.1.length g.2 (ao n.1), F]) O O O O O O call95 (.sel 0 O (.sel' 2 O (aC.mk c3) (.sel 2 O (.sel 0 O (.sel 0 O (.sel 0 O (.nil _))))))) (dc.calls _ _ k b0 w.2.1 w.2.2 q.2.1 w.1 q.2.2.1 q.2.2.2.1 q.2.2.2.2 ([115, 110, 97, 112, 46, 116, 109, 112] : List UInt8) g.1 g.2 n.1 (c5.lend 1 O) c6 c7) c4) O O O ?_
 intro a6
 refine va O O (ag ?_)
 exact aM (s := (a0.1, a0.2.1, a0.2.2.1, a0.2.2.2.1, a0.2.2.2.2)) (a6.2.2, a6.1, a6.2.1) ⟨O, O, O, trivial⟩ (.sel 0 O (.sel 2 O (.sel 0 O (.sel 0 O (.sel 1 O (.nil _))))))
 refine au ?_
 exact aM (s := (q.1, q.2.1, q.2.2.1, q.2.2.2.1, q.2.2.2.2)) (w.1, w.2.1, w.2.2) ⟨O, O, O, trivial⟩ (.sel 0 O (.sel 0 O (.sel 1 O (.sel 1 O (.sel 1 O (.nil _))))))
 intro t x
 refine bO (S := Int × (List (ba)) × Int × Bool × List UInt8) (HA × Option Addr × Nat) (fun s y => [(0, .pointer (some ⟨b0, 0, none⟩)), (3, .pointer (some ⟨u, 0, none⟩)), (6, .int .i64 s.1)]) (fun s y => [obj b0 49 [.slice y.2.1 s.2.1.length y.2.2, .int .i64 s.2.2.1, .bool s.2.2.2.1, str s.2.2.2.2], obj u 27 [.int .i64 a, .int .i64 d, .slice e b.length c], aC 71 3 (V71 (y.1)) y.2.1 s.2.1 y.2.2, y.1, F]) ?_ ?_
 refine sr ?_
 refine vm O O ?_
 refine vq (bD O O O) O (ag (ae ?_))
 refine aL O (fun es => ?_) (fun et => ?_)
 refine aE ?_
 refine vm O O ?_
 refine bd 2 O (fun d9 c8 => ?_)
 refine am (fun a1 c9 => ?_)
 refine ah (ar (vs := [.pointer (some ⟨b0, 0, none⟩), str ([115, 110, 97, 112, 46, 116, 109, 112] : List UInt8)]) (cap := []) (A := [obj b0 49 [.slice x.2.1 t.2.1.length x.2.2, .int .i64 t.2.2.1, .bool t.2.2.2.1, str t.2.2.2.2], aC 71 3 (V71 (x.1)) x.2.1 t.2.1 x.2.2, x.1]) (rst := [obj u 27 [.int .i64 a, .int .i64 d, .slice e b.length c], F]) O O O O O O call96 (.sel 0 O (.sel' 1 O (aC.mk c8) (.sel 1 O (.sel 0 O (.sel 0 O (.nil _)))))) (dB.calls _ _ k b0 x.2.1 x.2.2 t.2.1 x.1 t.2.2.1 t.2.2.2.1 t.2.2.2.2 ([115, 110, 97, 112, 46, 116, 109, 112] : List UInt8) ) c9) O O O ?_
 intro a7
 refine va O O (ag ?_)
 exact aM (s := (a1.1, a1.2.1, a1.2.2.1, a1.2.2.2.1, a1.2.2.2.2)) (a7.2.2, a7.1, a7.2.1) ⟨O, O, O, trivial⟩ (.sel 0 O (.sel 2 O (.sel 0 O (.sel 0 O (.sel 0 O (.nil _))))))
 refine au ?_
 exact aM (s := (t.1, t.2.1, t.2.2.1, t.2.2.2.1, t.2.2.2.2)) (x.1, x.2.1, x.2.2) ⟨O, O, O, trivial⟩ (.sel 0 O (.sel 0 O (.sel 0 O (.sel 0 O (.sel 0 O (.nil _))))))
 intro h i
 refine bO (S := Int × (List (ba)) × Int × Bool × List UInt8) (HA × Option Addr × Nat) (fun s y => [(6, .int .i64 s.1)]) (fun s y => [obj b0 49 [.slice y.2.1 s.2.1.length y.2.2, .int .i64 s.2.2.1, .bool s.2.2.2.1, str s.2.2.2.2], aC 71 3 (V71 (y.1)) y.2.1 s.2.1 y.2.2, y.1, F]) ?_ ?_
 refine sr ?_
 refine vm O O ?_
 refine vq (bD O O O) O (ag (ae ?_))
 refine aL O (fun ez => ?_) (fun eA => ?_)
 refine aE ?_
 refine vm O O ?_
 refine vq (aw O O underlying27 O O sizeOf3 O) O ?_
 refine vq (ai O O isAgg3 (.obj 1 O O)) O ?_
 refine am (fun b3 dl => ?_)
 refine ah (ar (vs := [.int .i64 a]) (cap := []) (A := []) (rst := [obj b0 49 [.slice i.2.1 h.2.1.length i.2.2, .int .i64 h.2.2.1, .bool h.2.2.2.1, str h.2.2.2.2], obj u 27 [.int .i64 a, .int .i64 d, .slice e b.length c], aC 71 3 (V71 (i.1)) i.2.1 h.2.1 i.2.2, i.1, F]) O O O O O O call26 (.sel 0 O (.sel 0 O (.sel 0 O (.sel 0 O (.sel 0 O (.nil _)))))) (cq.calls _ _ k a ) dl) O O O ?_
 intro eF
 refine bd 2 O (fun ec ds => ?_)
 refine am (fun a2 d1 => ?_)
 refine ah (ar (vs := [.pointer (some ⟨b0, 0, none⟩), str ([115, 110, 97, 112, 46, 116, 109, 112] : List UInt8), str b3]) (cap := []) (A := [obj b0 49 [.slice i.2.1 h.2.1.length i.2.2, .int .i64 h.2.2.1, .bool h.2.2.2.1, str h.2.2.2.2], aC 71 3 (V71 (i.1)) i.2.1 h.2.1 i.2.2, i.1]) (rst := [obj u 27 [.int .i64 a, .int .i64 d, .slice e b.length c], F]) O O O O O O call97 (.sel 0 O (.sel' 1 O (aC.mk ds) (.sel 1 O (.sel 0 O (.sel 0 O (.nil _)))))) (de.calls _ _ k b0 i.2.1 i.2.2 h.2.1 i.1 h.2.2.1 h.2.2.2.1 h.2.2.2.2 ([115, 110, 97, 112, 46, 116, 109, 112] : List UInt8) b3 ) d1) O O O ?_
 intro a8
 refine va O O (ag ?_)
 exact aM (s := (a2.1, a2.2.1, a2.2.2.1, a2.2.2.2.1, a2.2.2.2.2)) (a8.2.2, a8.1, a8.2.1) ⟨O, trivial⟩ (.sel 0 O (.sel 0 O (.sel 0 O (.sel 1 O (.nil _)))))
 refine au ?_
 exact aM (s := (h.1, h.2.1, h.2.2.1, h.2.2.2.1, h.2.2.2.2)) (i.1, i.2.1, i.2.2) ⟨O, trivial⟩ (.sel 0 O (.sel 1 O (.sel 1 O (.sel 1 O (.nil _)))))
 intro e0 a9
 refine sr ?_
 refine vm O O ?_
 refine va O O (ag (ae (ak ?_)))
 exact av (a9.2.1, a9.2.2, a9.1) O O O (.sel 0 O (.sel 0 O (.sel 0 O (.sel 0 O (.nil _)))))
 refine sr ?_
 refine vm O O ?_
 refine va O O (ag (ae (ak ?_)))
 refine ax ?_
 exact av (j, l, o) O O O (.sel 2 O (.sel 2 O (.sel 2 O (.sel 2 O (.nil _)))))

def eV.l0 (x1 : Int) : Nat → Int → List Int → List ((List UInt8) × (List UInt8 × Int)) → List UInt8 → Int → Bool → Option ((Int × (List ((List UInt8) × (List UInt8 × Int))) × List UInt8 × Int × Bool) ⊕ (Int × Int × (List ((List UInt8) × (List UInt8 × Int))) × List UInt8 × Int × Bool))
  | 0, _, _, _, _, _, _ => none
  | k + 1, c, b, d, e, g, h => if x1 < (b.length : Int) then (if 0 ≤ (0 : Int) ∧ (0 : Int) < (b.length : Int) then ((fY.f (b.getD (0 : Int).toNat (0 : Int))).bind fun i => ((bS.f d e g h i.1).bind fun a => (if a.1 = (0 : Int) then (if 0 ≤ (1 : Int) ∧ (1 : Int) ≤ (b.length : Int) ∧ (b.length : Int) ≤ (b.length : Int) then (eV.l0 x1 k (IntKind.i64.wrap (c + 1)) (cut b (1 : Int) (b.length : Int)) a.2.1 a.2.2.1 a.2.2.2.1 a.2.2.2.2) else none) else (some (.inr (0, a.1, a.2.1, a.2.2.1, a.2.2.2.1, a.2.2.2.2)))))) else none) else (some (.inl (c, d, e, g, h)))
def eV.f (k : Nat) (c : List ((List UInt8) × (List UInt8 × Int))) (d : List UInt8) (e : Int) (g : Bool) (x1 : Int) : Option (Int × Int × (List ((List UInt8) × (List UInt8 × Int))) × List UInt8 × Int × Bool) := if x1 < (1 : Int) then (some (0, 1, c, d, e, g)) else ((dK.f c d e g).bind fun a => (if a.2.1 = (0 : Int) then (orR ((di.f k a.2.2.1 a.2.2.2.1 a.2.2.2.2.1 a.2.2.2.2.2).bind fun h => (eV.l0 x1 k a.1 h a.2.2.1 a.2.2.2.1 a.2.2.2.2.1 a.2.2.2.2.2)) fun b => (some (b.1, 0, b.2.1, b.2.2.1, b.2.2.2.1, b.2.2.2.2))) else (some (0, a.2.1, a.2.2.1, a.2.2.2.1, a.2.2.2.2.1, a.2.2.2.2.2))))
theorem eV.calls (W : World) (F : HA) (k : Nat) (b0 : Nat) (e : Nat) (g : Kps) (h : List ((List UInt8) × (List UInt8 × Int))) (j : List UInt8) (m : Int) (n : Bool) (x1 : Int) (hgl : Glb Tryz.prog F) :
    Fn Tryz.prog W 16 [.pointer (some ⟨b0, 0, none⟩), .int .i64 x1] [obj b0 76 [.map (some e), str j, .int .i64 m, .bool n], aF (aB e aD aA g) aG g h] F (eV.f k h j m n x1) (fun (r : Int × Int × (List ((List UInt8) × (List UInt8 × Int))) × List UInt8 × Int × Bool) (y : Nat × Kps) => .tuple #[.int .i64 r.1, .int .i64 r.2.1]) (fun r y => [obj b0 76 [.map (some y.1), str r.2.2.2.1, .int .i64 r.2.2.2.2.1, .bool r.2.2.2.2.2], aF (aB y.1 aD aA y.2) aG y.2 r.2.2.1]) := by
 unfold eV.f
 refine aJ 46 Tryz.func16 O Tryz.ntmps16 O ?_
 refine sr ?_
 refine va O O ?_
 refine va O O (ag (ae (ap (sr ?_))))
 refine vm O O ?_
 refine vq (bN O O O) O (ag (ae ?_))
 refine aL O (fun b8 => ?_) (fun b9 => ?_)
 refine sr ?_
 refine va O O ?_
 refine va O O (ag (ae (ak ?_)))
 refine ax ?_
 exact av (e, g) O O O (.sel 0 O (.sel 0 O (.sel 0 O (.nil _))))
 refine au ?_
 refine ae (sr ?_)
 refine vm O O ?_
 refine am (fun c a2 => ?_)
 refine ah (ar (vs := [.pointer (some ⟨b0, 0, none⟩)]) (cap := []) (A := [obj b0 76 [.map (some e), str j, .int .i64 m, .bool n], aF (aB e aD aA g) aG g h]) (rst := [F]) O O O O O O call37 (.sel 0 O (.sel 0 O (.sel 0 O (.nil _)))) (dK.calls _ _ b0 e g h j m n ) a2) O O O ?_
 intro d
 refine vm O O ?_
 refine vq (bh O O O) O ?_
 refine vq (bh O O O) O ?_
 refine va O O ?_
 refine va O O (ag (ae (ap (sr ?_))))
 refine vm O O ?_
 refine vq (cz O O O) O (ag (ae ?_))
 refine br O (fun cd => ?_) (fun ch => ?_)
 refine au ?_
 refine ae ?_
 refine fx (S := Int × (List ((List UInt8) × (List UInt8 × Int))) × List UInt8 × Int × Bool) (Nat × Kps) (fun s y => [(6, .int .i64 s.1)]) (fun s y => [obj b0 76 [.map (some y.1), str s.2.2.1, .int .i64 s.2.2.2.1, .bool s.2.2.2.2], aF (aB y.1 aD aA y.2) aG y.2 s.2.1, F]) ?_ ?_
 refine sr ?_
 refine vm O O ?_
 refine am (fun a3 ab => ?_)
 refine ah (ar (vs := [.pointer (some ⟨b0, 0, none⟩)]) (cap := []) (A := [obj b0 76 [.map (some d.1), str c.2.2.2.1, .int .i64 c.2.2.2.2.1, .bool c.2.2.2.2.2], aF (aB d.1 aD aA d.2) aG d.2 c.2.2.1]) (rst := [F]) O O O O O O call14 (.sel 0 O (.sel 0 O (.sel 0 O (.nil _)))) (di.calls _ _ k b0 d.1 d.2 c.2.2.1 c.2.2.2.1 c.2.2.2.2.1 c.2.2.2.2.2 (hgl.lend 0 O)) ab) O O O ?_
 intro z
 refine va O O (ag (ae ?_))
 refine aK ?_
 refine bX (S := Int × List Int × (List ((List UInt8) × (List UInt8 × Int))) × List UInt8 × Int × Bool) (Option Addr × Nat × Nat × Kps) (fun k s => eV.l0 x1 k s.1 s.2.1 s.2.2.1 s.2.2.2.1 s.2.2.2.2.1 s.2.2.2.2.2) (fun s y => [(0, .pointer (some ⟨b0, 0, none⟩)), (1, .int .i64 x1), (6, .int .i64 s.1), (8, .slice y.1 s.2.1.length y.2.1)]) (fun s y => [obj b0 76 [.map (some y.2.2.1), str s.2.2.2.1, .int .i64 s.2.2.2.2.1, .bool s.2.2.2.2.2], aC 3 1 (V3 tt) y.1 s.2.1 y.2.1, aF (aB y.2.2.1 aD aA y.2.2.2) aG y.2.2.2 s.2.2.1, F]) (fun _ => by rw [eV.l0]) ?_ k (c.1, a3, c.2.2.1, c.2.2.2.1, c.2.2.2.2.1, c.2.2.2.2.2) (z.1, z.2, d.1, d.2) ⟨O, O, O, O, trivial⟩ (.sel 1 O (.sel 0 O (.sel 0 O (.sel 0 O (.nil _)))))
 intro k a b
 refine cL (by rw [eV.l0]) ?_
 refine ap (sr ?_)
 refine vm O O ?_
 refine vq (bi O O O underlying23) O ?_
 refine vm O O ?_
 refine vq (dw O O O) O (ag (ae ?_))
 refine aL O (fun b1 => ?_) (fun b2 => ?_)
 refine au ?_
 refine ae (ap ?_)
 refine aK ?_
 refine sr ?_
 refine vm O O ?_
 refine bd 1 O (fun v o => ?_)
 refine aQ (fun w => ?_)
 refine dP 1 O o O (i := (0 : Int).toNat) (by omega) (0 : Int) (fun b3 a7 b4 ad af a6 hcell30v => ?_)
 obtain rfl := af
 refine vq (ct O O O ad underlying23 sizeOf3 w.1 w.2) O ?_
 refine vq (ai O O isAgg3 (hcell30v 1 O 0 _ O)) O ?_
 refine am (fun aa al => ?_)
 refine ah (ar (vs := [.int .i64 (a.2.1.getD (0 : Int).toNat (0 : Int))]) (cap := []) (A := []) (rst := [obj b0 76 [.map (some b.2.2.1), str a.2.2.2.1, .int .i64 a.2.2.2.2.1, .bool a.2.2.2.2.2], Row 3 1 b.1 a.2.1.length b.2.1 v.flatten, aF (aB b.2.2.1 aD aA b.2.2.2) aG b.2.2.2 a.2.2.1, F]) O O O O O O call11 (.sel 0 O (.sel 0 O (.sel 0 O (.sel 0 O (.nil _))))) (fY.calls _ _ (a.2.1.getD (0 : Int).toNat (0 : Int)) (hgl.lend 3 O)) al) O O O ?_
 intro b5
 refine vm O O ?_
 refine vq (bh O O O) O ?_
 refine vq (bh O O O) O ?_
 refine va O O ?_
 refine va O O (ag (ae (ap (sr ?_))))
 refine vm O O ?_
 refine vm O O ?_
 refine am (fun p an => ?_)
 refine ah (ar (vs := [.pointer (some ⟨b0, 0, none⟩), str aa.1]) (cap := []) (A := [obj b0 76 [.map (some b.2.2.1), str a.2.2.2.1, .int .i64 a.2.2.2.2.1, .bool a.2.2.2.2.2], aF (aB b.2.2.1 aD aA b.2.2.2) aG b.2.2.2 a.2.2.1]) (rst := [Row 3 1 b.1 a.2.1.length b.2.1 v.flatten, F]) O O O O O O call49 (.sel 0 O (.sel 1 O (.sel 0 O (.sel 0 O (.nil _))))) (bS.calls _ _ b0 b.2.2.1 b.2.2.2 a.2.2.1 a.2.2.2.1 a.2.2.2.2.1 a.2.2.2.2.2 aa.1 ) an) O O O ?_
 intro q
 refine va O O (nx ?_)
 refine vm O O ?_
 refine vq (cz O O O) O (ag (ae ?_))
 refine br O (fun b6 => ?_) (fun b7 => ?_)
 refine au ?_
 refine ae (aE ?_)
 refine vm O O ?_
 refine vq (bj O O O) O ?_
 refine va O O (ag (bb (ae (aE ?_))))
 refine vm O O ?_
 refine bf 2 O (fun a0 t a8 a9 => ?_)
 refine aQ (fun u => ?_)
 obtain ⟨a4, a5, x, bc, be, bs⟩ := jJ (lo := (1 : Int)) (hi := (a.2.1.length : Int)) (Rd.asV o a0) t u
 refine vq (kv (l := a.2.1) (lo' := (1 : Int)) (hi' := (a.2.1.length : Int)) O O O O underlying23 sizeOf3 (.inl ⟨O, O⟩) (.inr ⟨_, O⟩) u t x) O ?_
 refine vT 2 O o x u t ?_
 refine va O O (ag ?_)
 exact bu (s := (IntKind.i64.wrap (a.1 + 1), cut a.2.1 (1 : Int) (a.2.1.length : Int), p.2.1, p.2.2.1, p.2.2.2.1, p.2.2.2.2)) (a4, a5, q.1, q.2) ⟨O, O, O, O, trivial⟩ (.sel 0 O (.sel 1 O (.sel 0 O (.sel 0 O (.nil _)))))
 refine sr ?_
 refine vm O O ?_
 refine va O O ?_
 refine va O O (ag (ae (ak ?_)))
 refine ax ?_
 refine aP ?_
 refine ax ?_
 refine eS ?_
 refine aP ?_
 refine eG ?_
 exact av (q.1, q.2) O O O (.sel 0 O (.sel 0 O (.sel 1 O (.nil _))))
 refine ck ?_
 refine bQ ?_
 refine bY ?_
 refine bR ?_
 exact fg (s := (a.1, a.2.2.1, a.2.2.2.1, a.2.2.2.2.1, a.2.2.2.2.2)) (b.2.2.1, b.2.2.2) ⟨O, trivial⟩ (.sel 0 O (.sel 1 O (.sel 1 O (.nil _))))
 intro cs a1
 refine sr ?_
 refine vm O O ?_
 refine va O O ?_
 refine va O O (ag (ae (ak ?_)))
 exact av (a1.1, a1.2) O O O (.sel 0 O (.sel 0 O (.sel 0 O (.nil _))))
 refine sr ?_
 refine vm O O ?_
 refine va O O ?_
 refine va O O (ag (ae (ak ?_)))
 refine ax ?_
 exact av (d.1, d.2) O O O (.sel 0 O (.sel 0 O (.sel 0 O (.nil _))))

def bH.l0 (a : List (ba)) : Nat → List (List UInt8) → Int → Option (List (List UInt8))
  | 0, _, _ => none
  | k + 1, c, b => if b < (a.length : Int) then (if 0 ≤ b ∧ b < (a.length : Int) then (if (c.length + ([(a.getD b.toNat aj).1] : List (List UInt8)).length) * 16 ≤ 140737488355328 then (bH.l0 a k (c ++ ([(a.getD b.toNat aj).1] : List (List UInt8))) (IntKind.i64.wrap (b + 1))) else none) else none) else (some c)
def bH.f (k : Nat) (a : List (ba)) (c : Int) (d : Bool) (e : List UInt8) : Option (List (List UInt8)) := (bH.l0 a k ([] : List (List UInt8)) 0).bind fun b => (some b)
theorem bH.calls (W : World) (F : HA) (k : Nat) (b0 : Nat) (d : Option Addr) (c : Nat) (a : List (ba)) (e : Int) (g : Bool) (h : List UInt8) (v : RdV F 3 (V71 F) d a) (x : a.length ≤ c) (z : c ≤ maxLen) :
    Fn Tryz.prog W 59 [.pointer (some ⟨b0, 0, none⟩)] [obj b0 49 [.slice d a.length c, .int .i64 e, .bool g, str h]] F (bH.f k a e g h) (fun (r : List (List UInt8)) (y : Option Addr × Nat) => .slice y.1 r.length y.2) (fun r y => [aC 9 1 (V9 tt) y.1 r y.2, obj b0 49 [.slice d a.length c, .int .i64 e, .bool g, str h]]) := by
 unfold bH.f
 refine aJ 26 Tryz.func59 O Tryz.ntmps59 O ?_
 refine sr ?_
 refine va O O (nx ?_)
 refine va O O (ag (ae ?_))
 refine bO (S := List (List UInt8)) (Option Addr × Nat) (fun s y => [(3, .slice y.1 s.length y.2)]) (fun s y => [obj b0 49 [.slice d a.length c, .int .i64 e, .bool g, str h], aC 9 1 (V9 tt) y.1 s y.2, F]) ?_ ?_
 refine sr ?_
 refine va O O (ag (ae ?_))
 refine aK ?_
 refine bX (S := List (List UInt8) × Int) (Option Addr × Nat) (fun k s => bH.l0 a k s.1 s.2) (fun s y => [(0, .pointer (some ⟨b0, 0, none⟩)), (3, .slice y.1 s.1.length y.2), (4, .int .i64 s.2)]) (fun s y => [obj b0 49 [.slice d a.length c, .int .i64 e, .bool g, str h], aC 9 1 (V9 tt) y.1 s.1 y.2, F]) (fun _ => by rw [bH.l0]) ?_ k (([] : List (List UInt8)), 0) (none, 0) ⟨O, O, O, trivial⟩ (.sel 0 O (.rowV_nil (.sel 0 O (.nil _))))
 intro k b t
 refine cL (by rw [bH.l0]) ?_
 refine ap (sr ?_)
 refine vm O O ?_
 refine vm O O ?_
 refine vn O O ?_
 refine vq (aw O O underlying49 O O sizeOf47 O) O ?_
 refine vq (ai O O isAgg47 (.obj 0 O O)) O ?_
 refine vq (bi O O O underlying47) O ?_
 refine vq (bN O O O) O (ag (ae ?_))
 refine aL O (fun a4 => ?_) (fun a5 => ?_)
 refine au ?_
 refine ae (ap ?_)
 refine aK ?_
 refine aE ?_
 refine vm O O ?_
 refine vm O O ?_
 refine vn O O ?_
 refine vq (aw O O underlying49 O O sizeOf47 O) O ?_
 refine vq (ai O O isAgg47 (.obj 0 O O)) O ?_
 refine vm O O ?_
 refine aQ (fun l => ?_)
 obtain ⟨an, aa, a0, n, o, w, hcell16v⟩ := RdV.pos v (Up.refl _) rfl (i := b.2.toNat) (by omega) aj
 obtain ⟨a1, a2, rfl, ⟨ab, ad, af⟩⟩ := o
 refine vq (ct O O O n underlying47 sizeOf71 l.1 l.2) O ?_
 refine vq (aw O O underlying71 O O sizeOf9 O) O ?_
 refine vq (ai O O isAgg9 (hcell16v 2 O 0 _ O)) O ?_
 have j : bE 1 (V9 tt) ([(a.getD b.2.toNat aj).1] : List (List UInt8)) [[str ((a.getD b.2.toNat aj).1)]] := ⟨⟨rfl, aY (by rfl), rfl⟩, trivial⟩
 refine ah (lK (V := (V9 tt)) (xs := ([(a.getD b.2.toNat aj).1] : List (List UInt8))) [[str ((a.getD b.2.toNat aj).1)]] O O underlying90 yY O (by kernel_rfl) O j O O) O O O ?_
 intro a3
 refine bd 2 O (fun al p => ?_)
 refine aQ (fun q => ?_)
 refine ah (gM 2 O O O underlying90 yY O p (lb.row j 0 O) q) O O O ?_
 intro m
 refine va O O (ag (bb (ae (aE ?_))))
 refine vm O O ?_
 refine vq (bj O O O) O ?_
 refine va O O (ag ?_)
 exact bu (s := (b.1 ++ ([(a.getD b.2.toNat aj).1] : List (List UInt8)), IntKind.i64.wrap (b.2 + 1))) (m.1, m.2) ⟨O, O, O, trivial⟩ (.sel 1 O (.sel 1 O (.sel 1 O (.nil _))))
 refine ck ?_
 refine bQ ?_
 refine bY ?_
 refine bR ?_
 exact aM (s := b.1) (t.1, t.2) ⟨O, trivial⟩ (.sel 0 O (.sel 0 O (.sel 0 O (.nil _))))
 intro a6 u
 refine sr ?_
 refine vm O O ?_
 refine va O O (ag (ae (ak ?_)))
 exact av (u.1, u.2) O O O (.sel 1 O (.sel 0 O (.sel 0 O (.nil _))))

def cK.l0 (x0 : List UInt8) : Nat → Int → Int → Option ((Int) ⊕ (Int))
  | 0, _, _ => none
  | k + 1, b, a => if a < (24 : Int) then (if 0 ≤ a ∧ a < (x0.length : Int) then ((if ((x0.getD a.toNat 0).toNat : Int) < (48 : Int) then (some true) else (if 0 ≤ a ∧ a < (x0.length : Int) then (some (decide ((57 : Int) < ((x0.getD a.toNat 0).toNat : Int)))) else none)).bind fun c => (if (c || (decide ((461168601842738790 : Int) < b))) = true then (some (.inr 0)) else (if 0 ≤ a ∧ a < (x0.length : Int) then (cK.l0 x0 k (IntKind.i64.wrap ((IntKind.i64.wrap (10 * b)) + (IntKind.i64.wrap (IntKind.u8.wrap (((x0.getD a.toNat 0).toNat : Int) - 48))))) (IntKind.i64.wrap (a + 1))) else none))) else none) else (some (.inl b))
def cK.f (k : Nat) (x0 : List UInt8) : Option (Int) := (if (x0.length : Int) = (24 : Int) then (if 0 ≤ (0 : Int) ∧ (0 : Int) ≤ (5 : Int) ∧ (5 : Int) ≤ (x0.length : Int) then (some (!decide ((cut x0 (0 : Int) (5 : Int)) = ([115, 110, 97, 112, 45] : List UInt8)))) else none) else (some true)).bind fun b => (if b = true then (some 0) else (orR (cK.l0 x0 k 0 5) fun a => (if (4611686018427387904 : Int) < a then (some 0) else (some a))))
theorem cK.calls (W : World) (F : HA) (k : Nat) (x0 : List UInt8)  :
    Fn Tryz.prog W 25 [str x0] [] F (cK.f k x0) (fun (r : Int) (y : Unit) => .int .i64 r) (fun r y => []) := by
 unfold cK.f
 refine aJ 42 Tryz.func25 O Tryz.ntmps25 O ?_
 refine sr ?_
 refine va O O (ag (ae (ap (sr ?_))))
 refine vm O O ?_
 refine vq (iK O O O underlying9) O ?_
 refine vq (cz O O O) O ?_
 refine vm O O ?_
 refine dk 4 (S := Bool) (Unit) (fun s y => [(0, str x0), (12, .bool s)]) (fun s y => [F]) ?_ ?_
 refine uY (fun l => ?_) (fun m => ?_)
 rw [l]
 refine aI O O O O O O ?_
 refine aI O O O O O O ?_
 refine aI O O O O O O ?_
 refine vq (bL O O O O O) O (ag ?_)
 exact aM (s := true) () ⟨O, O, trivial⟩ (.sel 0 O (.nil _))
 rw [m]
 refine aO (aS O O) O O O O O O ?_
 refine aQ (fun n => ?_)
 refine aO (vV (lo' := (0 : Int)) (hi' := (5 : Int)) O O O O underlying9 (.inr ⟨_, O⟩) (.inl ⟨O, O⟩) n) O O O O O O ?_
 refine aO (pa O O O) O O O O O O ?_
 refine vq (bL O O O O O) O (ag ?_)
 exact aM (s := !decide ((cut x0 (0 : Int) (5 : Int)) = ([115, 110, 97, 112, 45] : List UInt8))) () ⟨O, O, trivial⟩ (.sel 0 O (.nil _))
 intro aa ab
 refine ag (ae ?_)
 refine aT O (fun ad => ?_) (fun af => ?_)
 refine sr ?_
 refine va O O (ag (ae (ak ?_)))
 refine ax ?_
 exact av () O O O (.sel 0 O (.nil _))
 refine au ?_
 refine ae (sr ?_)
 refine va O O (ag (ae ?_))
 refine fx (S := Int) (Unit) (fun s y => [(3, .int .i64 s)]) (fun s y => [F]) ?_ ?_
 refine sr ?_
 refine va O O (ag (ae ?_))
 refine aK ?_
 refine bX (S := Int × Int) (Unit) (fun k s => cK.l0 x0 k s.1 s.2) (fun s y => [(0, str x0), (3, .int .i64 s.1), (4, .int .i64 s.2)]) (fun s y => [F]) (fun _ => by rw [cK.l0]) ?_ k (0, 5) () ⟨O, O, O, trivial⟩ (.sel 0 O (.nil _))
 intro k a p
 refine cL (by rw [cK.l0]) ?_
 refine ap (sr ?_)
 refine vm O O ?_
 refine vq (bN O O O) O (ag (ae ?_))
 refine aL O (fun q => ?_) (fun t => ?_)
 refine au ?_
 refine ae (ap ?_)
 refine aK ?_
 refine ap (sr ?_)
 refine vm O O ?_
 refine vm O O ?_
 refine aQ (fun c => ?_)
 refine vq (mO O O O underlying9 c.1 c.2) O ?_
 refine vq (bN O O O) O ?_
 refine vm O O ?_
 refine dk 5 (S := Bool) (Unit) (fun s y => [(0, str x0), (3, .int .i64 a.1), (4, .int .i64 a.2), (26, .bool s)]) (fun s y => [F]) ?_ ?_
 refine iH (fun h => ?_) (fun i => ?_)
 rw [h]
 refine aI O O O O O O ?_
 refine aI O O O O O O ?_
 refine aI O O O O O O ?_
 refine aI O O O O O O ?_
 refine vq (bL O O O O O) O (ag ?_)
 exact aM (s := true) () ⟨O, O, O, O, trivial⟩ (.sel 0 O (.nil _))
 rw [i]
 refine aO (aS O O) O O O O O O ?_
 refine aO (aS O O) O O O O O O ?_
 refine aQ (fun d => ?_)
 refine aO (mO O O O underlying9 d.1 d.2) O O O O O O ?_
 refine aO (dw O O O) O O O O O O ?_
 refine vq (bL O O O O O) O (ag ?_)
 exact aM (s := decide ((57 : Int) < ((x0.getD a.2.toNat 0).toNat : Int))) () ⟨O, O, O, O, trivial⟩ (.sel 0 O (.nil _))
 intro g u
 refine vm O O ?_
 refine az (b := g) (fun o => RQ.sub (E' := [(3, .int .i64 a.1)]) ⟨O, trivial⟩ (aS O O)) O O O O O ?_
 refine az (b := g) (fun j => RQ.sub (E' := [(28, .int .i64 a.1)]) ⟨aZ O j, trivial⟩ (dw O O O)) O O O O O ?_
 refine vq (hP O O O) O (ag (ae ?_))
 refine aT O (fun v => ?_) (fun w => ?_)
 refine sr ?_
 refine va O O (ag (ae (ak ?_)))
 refine ax ?_
 refine aP ?_
 refine ax ?_
 refine eS ?_
 refine aP ?_
 refine eG ?_
 exact av () O O O (.sel 0 O (.nil _))
 refine au ?_
 refine ae (aE ?_)
 refine vm O O ?_
 refine vq (nt O O O) O ?_
 refine vm O O ?_
 refine vm O O ?_
 refine aQ (fun e => ?_)
 refine vq (mO O O O underlying9 e.1 e.2) O ?_
 refine vq (ft O O O) O ?_
 refine vq (dy O O underlying5 underlying3) O ?_
 refine vq (bj O O O) O ?_
 refine va O O (ag (bb (ae (aE ?_))))
 refine vm O O ?_
 refine vq (bj O O O) O ?_
 refine va O O (ag ?_)
 exact bu (s := (IntKind.i64.wrap ((IntKind.i64.wrap (10 * a.1)) + (IntKind.i64.wrap (IntKind.u8.wrap (((x0.getD a.2.toNat 0).toNat : Int) - 48)))), IntKind.i64.wrap (a.2 + 1))) () ⟨O, O, O, trivial⟩ (.sel 0 O (.nil _))
 refine ck ?_
 refine bQ ?_
 refine bY ?_
 refine bR ?_
 exact fg (s := a.1) () ⟨O, trivial⟩ (.sel 0 O (.nil _))
 intro al an
 refine ap (sr ?_)
 refine vm O O ?_
 refine vq (dw O O O) O (ag (ae ?_))
 refine aL O (fun x => ?_) (fun z => ?_)
 refine sr ?_
 refine va O O (ag (ae (ak ?_)))
 refine ax ?_
 exact av () O O O (.sel 0 O (.nil _))
 refine au ?_
 refine ae (sr ?_)
 refine vm O O ?_
 refine va O O (ag (ae (ak ?_)))
 exact av () O O O (.sel 0 O (.nil _))

def cb.l0 (b : List (List UInt8)) : Nat → List Int → Int → Option (List Int)
  | 0, _, _ => none
  | k + 1, d, a => if a < (b.length : Int) then (if 0 ≤ a ∧ a < (b.length : Int) then ((cK.f k (b.getD a.toNat ([] : List UInt8))).bind fun c => (if (0 : Int) < c then (if (d.length + ([c] : List Int).length) * 8 ≤ 140737488355328 then (cb.l0 b k (d ++ ([c] : List Int)) (IntKind.i64.wrap (a + 1))) else none) else (cb.l0 b k d (IntKind.i64.wrap (a + 1))))) else none) else (some d)
def cb.f (k : Nat) (a : List (ba)) (b : Int) (c : Bool) (d : List UInt8) : Option (List Int) := (bH.f k a b c d).bind fun e => ((cb.l0 e k ([] : List Int) 0).bind fun g => (some g))
theorem cb.calls (W : World) (F : HA) (k : Nat) (b0 : Nat) (c : Option Addr) (b : Nat) (a : List (ba)) (d : Int) (e : Bool) (g : List UInt8) (al : RdV F 3 (V71 F) c a) (u : a.length ≤ b) (v : b ≤ maxLen) :
    Fn Tryz.prog W 22 [.pointer (some ⟨b0, 0, none⟩)] [obj b0 49 [.slice c a.length b, .int .i64 d, .bool e, str g]] F (cb.f k a d e g) (fun (r : List Int) (y : Option Addr × Nat) => .slice y.1 r.length y.2) (fun r y => [aC 3 1 (V3 tt) y.1 r y.2, obj b0 49 [.slice c a.length b, .int .i64 d, .bool e, str g]]) := by
 unfold cb.f
 refine aJ 27 Tryz.func22 O Tryz.ntmps22 O ?_
 refine sr ?_
 refine va O O (nx ?_)
 refine va O O (nx ?_)
 refine vm O O ?_
 refine am (fun l an => ?_)
 refine ah (ar (vs := [.pointer (some ⟨b0, 0, none⟩)]) (cap := []) (A := [obj b0 49 [.slice c a.length b, .int .i64 d, .bool e, str g]]) (rst := [F]) O O O O O O call59 (.sel 0 O (.sel 0 O (.nil _))) (bH.calls _ _ k b0 c b a d e g (al.up (Up.lend 0 O) (V71.up (Up.lend 0 O))) u v) an) O O O ?_
 intro m
 refine va O O (ag (ae ?_))
 refine bO (S := List Int) (Option Addr × Nat) (fun s y => [(3, .slice y.1 s.length y.2)]) (fun s y => [obj b0 49 [.slice c a.length b, .int .i64 d, .bool e, str g], aC 3 1 (V3 tt) y.1 s y.2, F]) ?_ ?_
 refine sr ?_
 refine va O O (ag (ae ?_))
 refine aK ?_
 refine bX (S := List Int × Int) (Option Addr × Nat) (fun k s => cb.l0 l k s.1 s.2) (fun s y => [(3, .slice y.1 s.1.length y.2), (4, .slice m.1 l.length m.2), (5, .int .i64 s.2)]) (fun s y => [obj b0 49 [.slice c a.length b, .int .i64 d, .bool e, str g], aC 3 1 (V3 tt) y.1 s.1 y.2, aC 9 1 (V9 tt) m.1 l m.2, F]) (fun _ => by rw [cb.l0]) ?_ k (([] : List Int), 0) (none, 0) ⟨O, O, O, trivial⟩ (.sel 1 O (.rowV_nil (.sel 0 O (.sel 0 O (.nil _)))))
 intro k h n
 refine cL (by rw [cb.l0]) ?_
 refine ap (sr ?_)
 refine vm O O ?_
 refine vm O O ?_
 refine vq (bi O O O underlying90) O ?_
 refine vq (bN O O O) O (ag (ae ?_))
 refine aL O (fun a3 => ?_) (fun a4 => ?_)
 refine au ?_
 refine ae (ap ?_)
 refine aK ?_
 refine sr ?_
 refine vm O O ?_
 refine vm O O ?_
 refine bd 2 O (fun w o => ?_)
 refine aQ (fun q => ?_)
 refine dP 2 O o O (i := h.2.toNat) (by omega) ([] : List UInt8) (fun a5 a1 a6 x z a0 hcell19v => ?_)
 obtain rfl := z
 refine vq (ct O O O x underlying90 sizeOf9 q.1 q.2) O ?_
 refine vq (ai O O isAgg9 (hcell19v 2 O 0 _ O)) O ?_
 refine am (fun j aa => ?_)
 refine ah (ar (vs := [str (l.getD h.2.toNat ([] : List UInt8))]) (cap := []) (A := []) (rst := [obj b0 49 [.slice c a.length b, .int .i64 d, .bool e, str g], aC 3 1 (V3 tt) n.1 h.1 n.2, Row 9 1 m.1 l.length m.2 w.flatten, F]) O O O O O O call25 (.sel 0 O (.sel 0 O (.sel 0 O (.sel 0 O (.nil _))))) (cK.calls _ _ k (l.getD h.2.toNat ([] : List UInt8)) ) aa) O O O ?_
 intro a7
 refine va O O (nx ?_)
 refine vm O O ?_
 refine vq (dw O O O) O (ag (ae ?_))
 refine aL O (fun a8 => ?_) (fun a9 => ?_)
 refine aE ?_
 refine vm O O ?_
 refine vm O O ?_
 have p : bE 1 (V3 tt) ([j] : List Int) [[.int .i64 j]] := ⟨⟨rfl, aY (by rfl), rfl⟩, trivial⟩
 refine ah (lK (V := (V3 tt)) (xs := ([j] : List Int)) [[.int .i64 j]] O O underlying23 uR O (by kernel_rfl) O p O O) O O O ?_
 intro bc
 refine bd 2 O (fun a2 ab => ?_)
 refine aQ (fun ad => ?_)
 refine ah (gM 2 O O O underlying23 uR O ab (lb.row p 0 O) ad) O O O ?_
 intro t
 refine va O O (ag (bb (ae (aE ?_))))
 refine vm O O ?_
 refine vq (bj O O O) O ?_
 refine va O O (ag ?_)
 exact bu (s := (h.1 ++ ([j] : List Int), IntKind.i64.wrap (h.2 + 1))) (t.1, t.2) ⟨O, O, O, trivial⟩ (.sel 1 O (.sel 1 O (.sel' 1 O (aC.mk o) (.sel 1 O (.nil _)))))
 refine au ?_
 refine bb (ae (aE ?_))
 refine vm O O ?_
 refine vq (bj O O O) O ?_
 refine va O O (ag ?_)
 exact bu (s := (h.1, IntKind.i64.wrap (h.2 + 1))) (n.1, n.2) ⟨O, O, O, trivial⟩ (.sel 0 O (.sel 0 O (.sel' 0 O (aC.mk o) (.sel 0 O (.nil _)))))
 refine ck ?_
 refine bQ ?_
 refine bY ?_
 refine bR ?_
 exact aM (s := h.1) (n.1, n.2) ⟨O, trivial⟩ (.sel 0 O (.sel 0 O (.sel 1 O (.nil _))))
 intro be af
 refine sr ?_
 refine vm O O ?_
 refine va O O (ag (ae (ak ?_)))
 exact av (af.1, af.2) O O O (.sel 1 O (.sel 0 O (.sel 0 O (.nil _))))

def cM.l0 (x1 : Int) (c : List Int) : Nat → Int → Int → List (ba) → Int → Bool → List UInt8 → Option ((Int × (List (ba)) × Int × Bool × List UInt8) ⊕ (Int × Int × (List (ba)) × Int × Bool × List UInt8))
  | 0, _, _, _, _, _, _ => none
  | k + 1, d, b, e, g, h, i => if b < IntKind.i64.wrap ((c.length : Int) - x1) then (if 0 ≤ b ∧ b < (c.length : Int) then ((cq.f k (c.getD b.toNat (0 : Int))).bind fun j => ((bV.f k e g h i j).bind fun a => (if a.1 = (0 : Int) then (cM.l0 x1 c k (IntKind.i64.wrap (d + 1)) (IntKind.i64.wrap (b + 1)) a.2.1 a.2.2.1 a.2.2.2.1 a.2.2.2.2) else (some (.inr (0, a.1, a.2.1, a.2.2.1, a.2.2.2.1, a.2.2.2.2)))))) else none) else (some (.inl (d, e, g, h, i)))
def cM.f (k : Nat) (d : List (ba)) (e : Int) (g : Bool) (h : List UInt8) (x1 : Int) : Option (Int × Int × (List (ba)) × Int × Bool × List UInt8) := if x1 < (1 : Int) then (some (0, 1, d, e, g, h)) else ((co.f k d e g h ([115, 110, 97, 112, 46, 116, 109, 112] : List UInt8)).bind fun j => (orR (if j.2 = (0 : Int) then ((bV.f k d e g h ([115, 110, 97, 112, 46, 116, 109, 112] : List UInt8)).bind fun a => (if a.1 = (0 : Int) then (some (.inl (1, a.2.1, a.2.2.1, a.2.2.2.1, a.2.2.2.2))) else (some (.inr (0, a.1, a.2.1, a.2.2.1, a.2.2.2.1, a.2.2.2.2))))) else (some (.inl (0, d, e, g, h)))) fun b => ((cb.f k b.2.1 b.2.2.1 b.2.2.2.1 b.2.2.2.2).bind fun i => (orR (cM.l0 x1 i k b.1 0 b.2.1 b.2.2.1 b.2.2.2.1 b.2.2.2.2) fun c => (some (c.1, 0, c.2.1, c.2.2.1, c.2.2.2.1, c.2.2.2.2))))))
theorem cM.calls (W : World) (F : HA) (k : Nat) (b0 : Nat) (d : Option Addr) (e : Nat) (g : List (ba)) (j : HA) (m : Int) (n : Bool) (o : List UInt8) (x1 : Int)  :
    Fn Tryz.prog W 53 [.pointer (some ⟨b0, 0, none⟩), .int .i64 x1] [obj b0 49 [.slice d g.length e, .int .i64 m, .bool n, str o], aC 71 3 (V71 j) d g e, j] F (cM.f k g m n o x1) (fun (r : Int × Int × (List (ba)) × Int × Bool × List UInt8) (y : Option Addr × Nat × HA) => .tuple #[.int .i64 r.1, .int .i64 r.2.1]) (fun r y => [obj b0 49 [.slice y.1 r.2.2.1.length y.2.1, .int .i64 r.2.2.2.1, .bool r.2.2.2.2.1, str r.2.2.2.2.2], aC 71 3 (V71 (y.2.2)) y.1 r.2.2.1 y.2.1, y.2.2]) := by
 unfold cM.f
 refine aJ 50 Tryz.func53 O Tryz.ntmps53 O ?_
 refine sr ?_
 refine va O O ?_
 refine va O O (ag (ae (ap (sr ?_))))
 refine vm O O ?_
 refine vq (bN O O O) O (ag (ae ?_))
 refine aL O (fun c8 => ?_) (fun c9 => ?_)
 refine sr ?_
 refine va O O ?_
 refine va O O (ag (ae (ak ?_)))
 refine ax ?_
 exact av (d, e, j) O O O (.sel 0 O (.sel 0 O (.sel 0 O (.sel 0 O (.nil _)))))
 refine au ?_
 refine ae (sr ?_)
 refine va O O (nx ?_)
 refine vm O O ?_
 refine bd 1 O (fun bs w => ?_)
 refine am (fun be an => ?_)
 refine bf 1 O (fun b1 b2 b3 b8 => ?_)
 refine ah (ar (vs := [.pointer (some ⟨b0, 0, none⟩), str ([115, 110, 97, 112, 46, 116, 109, 112] : List UInt8)]) (cap := []) (A := [obj b0 49 [.slice d g.length e, .int .i64 m, .bool n, str o]]) (rst := [Row 71 3 d g.length e bs.flatten, j, F]) O O O O O O call56 (.sel 0 O (.sel 0 O (.sel 0 O (.sel 0 O (.nil _))))) (co.calls _ _ k b0 d e g m n o ([115, 110, 97, 112, 46, 116, 109, 112] : List UInt8) ((Rd.asV w b1).up (Up.lend 0 O) (V71.up (Up.lend 1 O))) b2 b3) an) O O O ?_
 intro af
 refine vm O O ?_
 refine vq (bh O O O) O ?_
 refine vq (bh O O O) O ?_
 refine va O O ?_
 refine va O O (ag (ae ?_))
 refine fx (S := Int × (List (ba)) × Int × Bool × List UInt8) (HA × Option Addr × Nat) (fun s y => [(0, .pointer (some ⟨b0, 0, none⟩)), (1, .int .i64 x1), (6, .int .i64 s.1)]) (fun s y => [obj b0 49 [.slice y.2.1 s.2.1.length y.2.2, .int .i64 s.2.2.1, .bool s.2.2.2.1, str s.2.2.2.2], aC 71 3 (V71 (y.1)) y.2.1 s.2.1 y.2.2, y.1, F]) ?_ ?_
 refine sr ?_
 refine vm O O ?_
 refine vq (bD O O O) O (ag (ae ?_))
 refine aL O (fun b9 => ?_) (fun cd => ?_)
 refine sr ?_
 refine vm O O ?_
 refine am (fun u a0 => ?_)
 refine ah (ar (vs := [.pointer (some ⟨b0, 0, none⟩), str ([115, 110, 97, 112, 46, 116, 109, 112] : List UInt8)]) (cap := []) (A := [obj b0 49 [.slice d g.length e, .int .i64 m, .bool n, str o], aC 71 3 (V71 j) d g e, j]) (rst := [Row 5 1 af.1 be.1.length af.2 (ao be.1), F]) O O O O O O call93 (.sel 1 O (.sel' 1 O (aC.mk w) (.sel 1 O (.sel 0 O (.sel 0 O (.nil _)))))) (bV.calls _ _ k b0 d e g j m n o ([115, 110, 97, 112, 46, 116, 109, 112] : List UInt8) ) a0) O O O ?_
 intro q
 refine va O O (ag (ae (ap (sr ?_))))
 refine vm O O ?_
 refine vq (cz O O O) O (ag (ae ?_))
 refine br O (fun ch => ?_) (fun cs => ?_)
 refine au ?_
 refine ae (aE ?_)
 refine va O O (ag ?_)
 exact fg (s := (1, u.2.1, u.2.2.1, u.2.2.2.1, u.2.2.2.2)) (q.2.2, q.1, q.2.1) ⟨O, O, O, trivial⟩ (.sel 0 O (.sel 0 O (.sel 0 O (.sel 1 O (.nil _)))))
 refine sr ?_
 refine vm O O ?_
 refine va O O ?_
 refine va O O (ag (ae (ak ?_)))
 refine ax ?_
 refine eG ?_
 exact av (q.1, q.2.1, q.2.2) O O O (.sel 0 O (.sel 0 O (.sel 0 O (.sel 1 O (.nil _)))))
 refine au ?_
 exact fg (s := (0, g, m, n, o)) (j, d, e) ⟨O, O, O, trivial⟩ (.sel 1 O (.sel' 1 O (aC.mk w) (.sel 1 O (.sel 1 O (.nil _)))))
 intro c h
 refine sr ?_
 refine vm O O ?_
 refine bd 1 O (fun a1 z => ?_)
 refine am (fun p a2 => ?_)
 refine bf 1 O (fun a3 a4 a5 b5 => ?_)
 refine ah (ar (vs := [.pointer (some ⟨b0, 0, none⟩)]) (cap := []) (A := [obj b0 49 [.slice h.2.1 c.2.1.length h.2.2, .int .i64 c.2.2.1, .bool c.2.2.2.1, str c.2.2.2.2]]) (rst := [Row 71 3 h.2.1 c.2.1.length h.2.2 a1.flatten, h.1, F]) O O O O O O call22 (.sel 0 O (.sel 0 O (.sel 0 O (.sel 0 O (.nil _))))) (cb.calls _ _ k b0 h.2.1 h.2.2 c.2.1 c.2.2.1 c.2.2.2.1 c.2.2.2.2 ((Rd.asV z a3).up (Up.lend 0 O) (V71.up (Up.lend 1 O))) a4 a5) a2) O O O ?_
 intro l
 refine va O O (ag (ae ?_))
 refine fx (S := Int × (List (ba)) × Int × Bool × List UInt8) (HA × Option Addr × Nat) (fun s y => [(6, .int .i64 s.1)]) (fun s y => [obj b0 49 [.slice y.2.1 s.2.1.length y.2.2, .int .i64 s.2.2.1, .bool s.2.2.2.1, str s.2.2.2.2], aC 71 3 (V71 (y.1)) y.2.1 s.2.1 y.2.2, y.1, F]) ?_ ?_
 refine sr ?_
 refine va O O (ag (ae ?_))
 refine aK ?_
 refine bX (S := Int × Int × (List (ba)) × Int × Bool × List UInt8) (HA × Option Addr × Nat) (fun k s => cM.l0 x1 p k s.1 s.2.1 s.2.2.1 s.2.2.2.1 s.2.2.2.2.1 s.2.2.2.2.2) (fun s y => [(0, .pointer (some ⟨b0, 0, none⟩)), (1, .int .i64 x1), (6, .int .i64 s.1), (10, .slice l.1 p.length l.2), (11, .int .i64 s.2.1)]) (fun s y => [obj b0 49 [.slice y.2.1 s.2.2.1.length y.2.2, .int .i64 s.2.2.2.1, .bool s.2.2.2.2.1, str s.2.2.2.2.2], aC 3 1 (V3 tt) l.1 p l.2, aC 71 3 (V71 (y.1)) y.2.1 s.2.2.1 y.2.2, y.1, F]) (fun _ => by rw [cM.l0]) ?_ k (c.1, 0, c.2.1, c.2.2.1, c.2.2.2.1, c.2.2.2.2) (h.1, h.2.1, h.2.2) ⟨O, O, O, O, O, trivial⟩ (.sel 1 O (.sel 0 O (.sel' 0 O (aC.mk z) (.sel 0 O (.sel 0 O (.nil _))))))
 intro k a b
 refine cL (by rw [cM.l0]) ?_
 refine ap (sr ?_)
 refine vm O O ?_
 refine vm O O ?_
 refine vq (bi O O O underlying23) O ?_
 refine vm O O ?_
 refine vq (ft O O O) O ?_
 refine vq (bN O O O) O (ag (ae ?_))
 refine aL O (fun c0 => ?_) (fun c1 => ?_)
 refine au ?_
 refine ae (ap ?_)
 refine aK ?_
 refine sr ?_
 refine vm O O ?_
 refine vm O O ?_
 refine vm O O ?_
 refine bd 1 O (fun aa ab => ?_)
 refine aQ (fun ad => ?_)
 refine dP 1 O ab O (i := a.2.1.toNat) (by omega) (0 : Int) (fun c2 b6 c3 a6 a7 b4 hcell49v => ?_)
 obtain rfl := a7
 refine vq (ct O O O a6 underlying23 sizeOf3 ad.1 ad.2) O ?_
 refine vq (ai O O isAgg3 (hcell49v 1 O 0 _ O)) O ?_
 refine am (fun al a8 => ?_)
 refine ah (ar (vs := [.int .i64 (p.getD a.2.1.toNat (0 : Int))]) (cap := []) (A := []) (rst := [obj b0 49 [.slice b.2.1 a.2.2.1.length b.2.2, .int .i64 a.2.2.2.1, .bool a.2.2.2.2.1, str a.2.2.2.2.2], Row 3 1 l.1 p.length l.2 aa.flatten, aC 71 3 (V71 (b.1)) b.2.1 a.2.2.1 b.2.2, b.1, F]) O O O O O O call26 (.sel 0 O (.sel 0 O (.sel 0 O (.sel 0 O (.sel 0 O (.nil _)))))) (cq.calls _ _ k (p.getD a.2.1.toNat (0 : Int)) ) a8) O O O ?_
 intro c4
 refine bd 2 O (fun b7 a9 => ?_)
 refine am (fun v bc => ?_)
 refine ah (ar (vs := [.pointer (some ⟨b0, 0, none⟩), str al]) (cap := []) (A := [obj b0 49 [.slice b.2.1 a.2.2.1.length b.2.2, .int .i64 a.2.2.2.1, .bool a.2.2.2.2.1, str a.2.2.2.2.2], aC 71 3 (V71 (b.1)) b.2.1 a.2.2.1 b.2.2, b.1]) (rst := [Row 3 1 l.1 p.length l.2 aa.flatten, F]) O O O O O O call93 (.sel 0 O (.sel' 1 O (aC.mk a9) (.sel 1 O (.sel 0 O (.sel 0 O (.nil _)))))) (bV.calls _ _ k b0 b.2.1 b.2.2 a.2.2.1 b.1 a.2.2.2.1 a.2.2.2.2.1 a.2.2.2.2.2 al ) bc) O O O ?_
 intro t
 refine va O O (ag (ae (ap (sr ?_))))
 refine vm O O ?_
 refine vq (cz O O O) O (ag (ae ?_))
 refine br O (fun c5 => ?_) (fun c6 => ?_)
 refine au ?_
 refine ae (aE ?_)
 refine vm O O ?_
 refine vq (bj O O O) O ?_
 refine va O O (ag (bb (ae (aE ?_))))
 refine vm O O ?_
 refine vq (bj O O O) O ?_
 refine va O O (ag ?_)
 exact bu (s := (IntKind.i64.wrap (a.1 + 1), IntKind.i64.wrap (a.2.1 + 1), v.2.1, v.2.2.1, v.2.2.2.1, v.2.2.2.2)) (t.2.2, t.1, t.2.1) ⟨O, O, O, O, O, trivial⟩ (.sel 0 O (.sel' 2 O (aC.mk ab) (.sel 0 O (.sel 0 O (.sel 0 O (.nil _))))))
 refine sr ?_
 refine vm O O ?_
 refine va O O ?_
 refine va O O (ag (ae (ak ?_)))
 refine ax ?_
 refine aP ?_
 refine ax ?_
 refine eS ?_
 refine aP ?_
 refine eG ?_
 exact av (t.1, t.2.1, t.2.2) O O O (.sel 0 O (.sel 0 O (.sel 0 O (.sel 1 O (.nil _)))))
 refine ck ?_
 refine bQ ?_
 refine bY ?_
 refine bR ?_
 exact fg (s := (a.1, a.2.2.1, a.2.2.2.1, a.2.2.2.2.1, a.2.2.2.2.2)) (b.1, b.2.1, b.2.2) ⟨O, trivial⟩ (.sel 0 O (.sel 1 O (.sel 1 O (.sel 1 O (.nil _)))))
 intro c7 x
 refine sr ?_
 refine vm O O ?_
 refine va O O ?_
 refine va O O (ag (ae (ak ?_)))
 exact av (x.2.1, x.2.2, x.1) O O O (.sel 0 O (.sel 0 O (.sel 0 O (.sel 0 O (.nil _)))))

def gA.f (c : List ((List UInt8) × (List UInt8 × Int))) (a : List UInt8) (d : Int) (b : Bool) (x1 : Int) : Option (List UInt8 × Int × Bool) := some (a, max x1 (0 : Int), b)
theorem gA.calls (W : World) (F : HA) (b0 : Nat) (a : Nat) (b : Kps) (c : List ((List UInt8) × (List UInt8 × Int))) (d : List UInt8) (e : Int) (g : Bool) (x1 : Int)  :
    Fn Tryz.prog W 27 [.pointer (some ⟨b0, 0, none⟩), .int .i64 x1] [obj b0 76 [.map (some a), str d, .int .i64 e, .bool g], aF (aB a aD aA b) aG b c] F (gA.f c d e g x1) (fun (r : List UInt8 × Int × Bool) (y : Unit) => .tuple #[]) (fun r y => [obj b0 76 [.map (some a), str r.1, .int .i64 r.2.1, .bool r.2.2], aF (aB a aD aA b) aG b c]) := by
 unfold gA.f
 refine aJ 9 Tryz.func27 O Tryz.ntmps27 O ?_
 refine aE ?_
 refine vm O O ?_
 refine vm O O ?_
 refine vq (kM O O O) O ?_
 refine vn O O ?_
 refine vq (aw O O underlying76 O O sizeOf3 O) O ?_
 refine aX (aV 0 O O O sizeOf3 O O (aY (by rfl)) O O) O O ?_
 intro _
 refine ag ?_
 exact jL () O O O (.sel 0 O (.sel 0 O (.sel 0 O (.nil _))))

def eJ.f (c : List ((List UInt8) × (List UInt8 × Int))) (d : List UInt8) (i : Int) (j : Bool) (x1 : Int) : Option ((List ((List UInt8) × (List UInt8 × Int))) × List UInt8 × Int × Bool) := ((iZ (fun (k : Unit) (g : List UInt8) (a : List UInt8 × Int) => (if g = d then (some (IntKind.i64.wrap (a.2 + (min (max x1 (0 : Int)) (IntKind.i64.wrap ((a.1.length : Int) - a.2)))))) else (some a.2)).bind fun b => (if 0 ≤ b ∧ b ≤ (a.1.length : Int) then (some ((), (List.take b.toNat a.1, b))) else none)) () c).bind fun e => (some e.2)).bind fun h => (some (h, ([] : List UInt8), 0, false))
theorem eJ.calls (W : World) (F : HA) (b0 : Nat) (d : Nat) (b : Kps) (aa : List ((List UInt8) × (List UInt8 × Int))) (k : List UInt8) (l : Int) (m : Bool) (x1 : Int)  :
    Fn Tryz.prog W 28 [.pointer (some ⟨b0, 0, none⟩), .int .i64 x1] [obj b0 76 [.map (some d), str k, .int .i64 l, .bool m], aF (aB d aD aA b) aG b aa] F (eJ.f aa k l m x1) (fun (r : (List ((List UInt8) × (List UInt8 × Int))) × List UInt8 × Int × Bool) (y : Nat × Kps) => .tuple #[]) (fun r y => [obj b0 76 [.map (some y.1), str r.2.1, .int .i64 r.2.2.1, .bool r.2.2.2], aF (aB y.1 aD aA y.2) aG y.2 r.1]) := by
 unfold eJ.f
 refine aJ 65 Tryz.func28 O Tryz.ntmps28 O ?_
 refine bO (S := (List ((List UInt8) × (List UInt8 × Int)))) (Unit) (fun s y => [(0, .pointer (some ⟨b0, 0, none⟩))]) (fun s y => [obj b0 76 [.map (some d), str k, .int .i64 l, .bool m], aF (aB d aD aA b) aG b s, F]) ?_ ?_
 refine sr ?_
 refine vm O O ?_
 refine vn O O ?_
 refine vq (aw O O underlying76 O O sizeOf74 O) O ?_
 refine vq (ai O O isAgg74 (.obj 0 O O)) O ?_
 refine ah (qv 1 O O underlying74 O) O O O ?_
 intro n
 refine ag (ae ?_)
 refine aK ?_
 refine pf (S := Unit) (Y := Unit) (o2 := fun af => some af.2) (fun (ad : Unit) (c : List UInt8) (a : List UInt8 × Int) => (if c = k then (some (IntKind.i64.wrap (a.2 + (min (max x1 (0 : Int)) (IntKind.i64.wrap ((a.1.length : Int) - a.2)))))) else (some a.2)).bind fun g => (if 0 ≤ g ∧ g ≤ (a.1.length : Int) then (some ((), (List.take g.toNat a.1, g))) else none)) (fun s y => [(0, .pointer (some ⟨b0, 0, none⟩)), (1, .int .i64 x1), (11, .pointer (some ⟨n, 0, none⟩))]) (fun s y => [obj b0 76 [.map (some d), str k, .int .i64 l, .bool m], F]) () () (fun x y e => by simpa [str] using e) (fun _ _ => O) O O (fun _ _ _ _ => ⟨O, O, O, trivial⟩) ⟨O, O, O, trivial⟩ ((.sel 1 O (.sel 0 O (.sel 0 O (.nil _))))) ?_ ?_
 intro q t ad al c a w
 refine cL (o' := (if c = k then (some (IntKind.i64.wrap (a.2 + (min (max x1 (0 : Int)) (IntKind.i64.wrap ((a.1.length : Int) - a.2)))))) else (some a.2)).bind fun g => (if 0 ≤ g ∧ g ≤ (a.1.length : Int) then (some ((), (List.take g.toNat a.1, g))) else none)) O ?_
 refine fT (H' := [aF (itJ d n aD b t c) aG b q, obj b0 76 [.map (some d), str k, .int .i64 l, .bool m], F]) (Ent.refl _) ?_
 refine aK ?_
 refine sr ?_
 refine vq (uc O O (xP 0 O)) O ?_
 refine vq (bh O O O) O ?_
 refine vq (bh O O O) O ?_
 refine va O O ?_
 refine va O O (ag (ae (ap ?_)))
 refine ia (v := a) 0 O w (fun h => ?_)
 refine fT (H' := [obj (bt b c) 89 [.slice h.1 a.1.length h.2, .int .i64 a.2], Row 5 1 h.1 a.1.length h.2 (ao a.1), fK (itJ d n aD b t c) aG b q c, obj b0 76 [.map (some d), str k, .int .i64 l, .bool m], F]) (Ent.refl _) ?_
 refine aE ?_
 refine vm O O ?_
 refine vn O O ?_
 refine vq (aw O O underlying89 O O sizeOf3 O) O ?_
 refine vq (ai O O isAgg3 (.obj 0 O O)) O ?_
 refine va O O (ag (ae ?_))
 refine bO (S := Int) (Unit) (fun s y => [(0, .pointer (some ⟨b0, 0, none⟩)), (1, .int .i64 x1), (5, .pointer (some ⟨(bt b c), 0, none⟩)), (6, .int .i64 s), (11, .pointer (some ⟨n, 0, none⟩))]) (fun s y => [obj b0 76 [.map (some d), str k, .int .i64 l, .bool m], aF (itJ d n aD b t c) aG b q, F]) ?_ ?_
 refine sr ?_
 refine vm O O ?_
 refine vm O O ?_
 refine vn O O ?_
 refine vq (aw O O underlying76 O O sizeOf9 O) O ?_
 refine vq (ai O O isAgg9 (.obj 3 O O)) O ?_
 refine vq (js O O O) O (ag (ae ?_))
 refine aL O (fun an => ?_) (fun a0 => ?_)
 refine bp (Γ := Unit) () [[], [], [1], [], [3], [3, 4], [3, 4, 5], [3, 4, 5, 6], [], [8], [8, 9], [8, 9, 10], [3, 4, 5, 6, 7, 8, 9, 10, 11], [1, 2, 3, 4, 5, 6, 7, 8, 9, 10, 11, 12], rL 14, rL 15] [] [0, 1, 2, 3, 4, 5, 6, 7, 8, 9, 10, 11, 12, 13, 14, 15] (fun i => [[0], [0], [0], [0], [0], [0], [0], [0], [0], [0], [0], [0], [0], [0], [0], [0]].getD i []) (fun i => [[], [], [], [], [], [], [], [], [], [], [], [], [], [], [], []].getD i []) (fun γ i => [.int .i64 a.2, .int .i64 x1, .int .i64 (max x1 (0 : Int)), .pointer (some ⟨(bt b c), 0, none⟩), .pointer (some ⟨(bt b c), 0, none⟩), .pointer (some ⟨(bt b c), 0, none⟩), .slice h.1 a.1.length h.2, .int .i64 (a.1.length : Int), .pointer (some ⟨(bt b c), 0, none⟩), .pointer (some ⟨(bt b c), 0, none⟩), .pointer (some ⟨(bt b c), 1, none⟩), .int .i64 a.2, .int .i64 (IntKind.i64.wrap ((a.1.length : Int) - a.2)), .int .i64 (min (max x1 (0 : Int)) (IntKind.i64.wrap ((a.1.length : Int) - a.2))), .int .i64 (IntKind.i64.wrap (a.2 + (min (max x1 (0 : Int)) (IntKind.i64.wrap ((a.1.length : Int) - a.2))))), .int .i64 (IntKind.i64.wrap (a.2 + (min (max x1 (0 : Int)) (IntKind.i64.wrap ((a.1.length : Int) - a.2)))))].getD i undef) (fun j γ => [[obj (bt b c) 89 [.slice h.1 a.1.length h.2, .int .i64 a.2], Row 5 1 h.1 a.1.length h.2 (ao a.1), fK (itJ d n aD b t c) aG b q c, obj b0 76 [.map (some d), str k, .int .i64 l, .bool m], F]].getD j []) (fun γ => [(0, .pointer (some ⟨b0, 0, none⟩)), (1, .int .i64 x1), (5, .pointer (some ⟨(bt b c), 0, none⟩)), (6, .int .i64 (IntKind.i64.wrap (a.2 + (min (max x1 (0 : Int)) (IntKind.i64.wrap ((a.1.length : Int) - a.2)))))), (11, .pointer (some ⟨n, 0, none⟩))]) mixed (by decide) (by decide) (by decide) (by decide) (by decide) (by decide) (by decide) 65 O (by decide) (by decide) (by decide) (Ent.refl _) ?_ ?_ (fun _ => ⟨O, O, O, O, O, trivial⟩) ?_
 exact (aq O (fun γ => qm O (.o (s := 6) O (by decide) .nil) O) (aq O (fun γ => qm O (.o (s := 1) O (by decide) .nil) O) (aq O (fun γ => qp O O (.v 1 O O .nil) (kM O O O) O) (aq O (fun γ => qm O (.o (s := 5) O (by decide) .nil) O) (aq O (fun γ => qp O O (.v 3 O O .nil) (cj O O) O) (aq O (fun γ => qp O O (.v 4 O O .nil) (aw O O underlying89 O O sizeOf25 O) O) (aq O (fun γ => qp O O (.v 5 O O .nil) (ai O O isAgg25 (.obj 0 O O)) O) (aq O (fun γ => qp O O (.v 6 O O .nil) (bi O O O underlying25) O) (aq O (fun γ => qm O (.o (s := 5) O (by decide) .nil) O) (aq O (fun γ => qp O O (.v 8 O O .nil) (cj O O) O) (aq O (fun γ => qp O O (.v 9 O O .nil) (aw O O underlying89 O O sizeOf3 O) O) (aq O (fun γ => qp O O (.v 10 O O .nil) (ai O O isAgg3 (.obj 0 O O)) O) (aq O (fun γ => qp O O (.v 7 O O (.v 11 O O .nil)) (ft O O O) O) (aq O (fun γ => qp O O (.v 2 O O (.v 12 O O .nil)) (ls O O O) O) (aq O (fun γ => qp O O (.v 0 O O (.v 13 O O .nil)) (bj O O O) O) (aq O (fun γ => qp O O (.v 14 O O .nil) (dA O O) O) zA))))))))))))))))
 exact zA
 intro a1
 exact aM (s := IntKind.i64.wrap (a.2 + (min (max x1 (0 : Int)) (IntKind.i64.wrap ((a.1.length : Int) - a.2))))) () ⟨O, O, O, O, O, trivial⟩ (.sel 3 O (.foldF0 (x := c) (p := (bt b c)) (v := a) (h.1, h.2) O w (.sel 2 O (.sel 0 O (.sel 0 O (.sel 0 O (.nil _)))))))
 refine au ?_
 exact aM (s := a.2) () ⟨O, O, O, O, O, trivial⟩ (.sel 3 O (.foldF0 (x := c) (p := (bt b c)) (v := a) (h.1, h.2) O w (.sel 2 O (.sel 0 O (.sel 0 O (.sel 0 O (.nil _)))))))
 intro g a2
 refine ap ?_
 refine ia (v := a) 1 O w (fun u => ?_)
 refine fT (H' := [obj (bt b c) 89 [.slice u.1 a.1.length u.2, .int .i64 a.2], Row 5 1 u.1 a.1.length u.2 (ao a.1), fK (itJ d n aD b t c) aG b q c, obj b0 76 [.map (some d), str k, .int .i64 l, .bool m], F]) (Ent.refl _) ?_
 refine aE ?_
 refine vm O O ?_
 refine vm O O ?_
 refine vn O O ?_
 refine vq (aw O O underlying89 O O sizeOf25 O) O ?_
 refine vq (ai O O isAgg25 (.obj 0 O O)) O ?_
 refine vm O O ?_
 refine vm O O ?_
 refine aQ (fun ab => ?_)
 refine ah (yk 1 O O O O underlying25 sizeOf5 O ab) O O O ?_
 intro _
 refine vn O O ?_
 refine vq (aw O O underlying89 O O sizeOf25 O) O ?_
 refine aX (aV 0 O O O sizeOf25 O O (aY (by rfl)) O O) O O ?_
 intro _
 refine ny ?_
 refine vm O O ?_
 refine vm O O ?_
 refine vn O O ?_
 refine vq (aw O O underlying89 O O sizeOf3 O) O ?_
 refine aX (aV 0 O O O sizeOf3 O O (aY (by rfl)) O O) O O ?_
 intro _
 refine ag (bb ?_)
 exact aM (s := ((), (List.take g.toNat a.1, g))) () ⟨O, O, O, trivial⟩ ((.foldF (x := c) (p := (bt b c)) (v := (List.take g.toNat a.1, g)) (u.1, g.toNat) O (.sel 2 O (.sel 0 O (.sel 0 O (.sel 0 O (.sel 0 O (.nil _))))))))
 intro z ad al
 refine wj (o' := some z) O ?_
 refine pU (H' := [aF (aB d aD aA b) aG b z, obj b0 76 [.map (some d), str k, .int .i64 l, .bool m], F]) (Ent.refl _) ?_
 exact aM (s := z) () ⟨O, trivial⟩ (.sel 1 O (.sel 0 O (.sel 0 O (.nil _))))
 intro a3 a4
 refine aE ?_
 refine vm O O ?_
 refine vm O O ?_
 refine vm O O ?_
 refine vn O O ?_
 refine vq (aw O O underlying76 O O sizeOf9 O) O ?_
 refine aX (aV 0 O O O sizeOf9 O O (aY (by rfl)) O O) O O ?_
 intro _
 refine vn O O ?_
 refine vq (aw O O underlying76 O O sizeOf3 O) O ?_
 refine aX (aV 0 O O O sizeOf3 O O (aY (by rfl)) O O) O O ?_
 intro _
 refine vn O O ?_
 refine vq (aw O O underlying76 O O sizeOf4 O) O ?_
 refine aX (aV 0 O O O sizeOf4 O O (aY (by rfl)) O O) O O ?_
 intro _
 refine ag ?_
 exact jL (d, b) O O O (.sel 0 O (.sel 0 O (.sel 0 O (.nil _))))

def bz.l0 (e : List UInt8) (x1 : Int) : Nat → Int → List (ba) → Option ((List (ba)))
  | 0, _, _ => none
  | k + 1, a, b => if a < (b.length : Int) then (if 0 ≤ a ∧ a < (b.length : Int) then ((if 0 ≤ a ∧ a < (b.length : Int) then (if ((b.getD a.toNat aj).1) = e then (if 0 ≤ a ∧ a < (b.length : Int) then (some (IntKind.i64.wrap (((b.getD a.toNat aj).2.2) + (min (max x1 (0 : Int)) (IntKind.i64.wrap ((((b.getD a.toNat aj).2.1).length : Int) - ((b.getD a.toNat aj).2.2))))))) else none) else (some ((b.getD a.toNat aj).2.2))) else none).bind fun c => (if 0 ≤ a ∧ a < (b.length : Int) then (if 0 ≤ (0 : Int) ∧ (0 : Int) ≤ c ∧ c ≤ (((b.getD a.toNat aj).2.1).length : Int) then ((bl.f (cut ((b.getD a.toNat aj).2.1) (0 : Int) c)).bind fun d => (if 0 ≤ a ∧ a < (b.length : Int) then (if 0 ≤ a ∧ a < ((b.set a.toNat ((b.getD a.toNat aj).1, d, (b.getD a.toNat aj).2.2)).length : Int) then (bz.l0 e x1 k (IntKind.i64.wrap (a + 1)) ((b.set a.toNat ((b.getD a.toNat aj).1, d, (b.getD a.toNat aj).2.2)).set a.toNat (((b.set a.toNat ((b.getD a.toNat aj).1, d, (b.getD a.toNat aj).2.2)).getD a.toNat aj).1, ((b.set a.toNat ((b.getD a.toNat aj).1, d, (b.getD a.toNat aj).2.2)).getD a.toNat aj).2.1, c))) else none) else none)) else none) else none)) else none) else (some b)
def bz.f (k : Nat) (a : List (ba)) (d : Int) (e : Bool) (b : List UInt8) (x1 : Int) : Option ((List (ba)) × Int × Bool × List UInt8) := (bz.l0 b x1 k 0 a).bind fun c => (some (c, 0, false, ([] : List UInt8)))
theorem bz.calls (W : World) (F : HA) (k : Nat) (b0 : Nat) (c : Option Addr) (e : Nat) (x : List (ba)) (af : HA) (p : Int) (q : Bool) (g : List UInt8) (x1 : Int)  :
    Fn Tryz.prog W 54 [.pointer (some ⟨b0, 0, none⟩), .int .i64 x1] [obj b0 49 [.slice c x.length e, .int .i64 p, .bool q, str g], aC 71 3 (V71 af) c x e, af] F (bz.f k x p q g x1) (fun (r : (List (ba)) × Int × Bool × List UInt8) (y : Option Addr × Nat × HA) => .tuple #[]) (fun r y => [obj b0 49 [.slice y.1 r.1.length y.2.1, .int .i64 r.2.1, .bool r.2.2.1, str r.2.2.2], aC 71 3 (V71 (y.2.2)) y.1 r.1 y.2.1, y.2.2]) := by
 unfold bz.f
 refine aJ 87 Tryz.func54 O Tryz.ntmps54 O ?_
 refine bO (S := (List (ba))) (HA) (fun s y => [(0, .pointer (some ⟨b0, 0, none⟩))]) (fun s y => [obj b0 49 [.slice c s.length e, .int .i64 p, .bool q, str g], aC 71 3 (V71 (y)) c s e, y, F]) ?_ ?_
 refine sr ?_
 refine va O O (ag (ae ?_))
 refine aK ?_
 refine bX (S := Int × (List (ba))) (HA) (fun k s => bz.l0 g x1 k s.1 s.2) (fun s y => [(0, .pointer (some ⟨b0, 0, none⟩)), (1, .int .i64 x1), (4, .int .i64 s.1)]) (fun s y => [obj b0 49 [.slice c s.2.length e, .int .i64 p, .bool q, str g], aC 71 3 (V71 (y)) c s.2 e, y, F]) (fun _ => by rw [bz.l0]) ?_ k (0, x) af ⟨O, O, O, trivial⟩ (.sel 0 O (.sel 0 O (.sel 0 O (.sel 0 O (.nil _)))))
 intro k a h
 refine cL (by rw [bz.l0]) ?_
 refine ap (sr ?_)
 refine vm O O ?_
 refine vm O O ?_
 refine vn O O ?_
 refine vq (aw O O underlying49 O O sizeOf47 O) O ?_
 refine vq (ai O O isAgg47 (.obj 0 O O)) O ?_
 refine vq (bi O O O underlying47) O ?_
 refine vq (bN O O O) O (ag (ae ?_))
 refine aL O (fun ha => ?_) (fun hb => ?_)
 refine au ?_
 refine ae (ap ?_)
 refine aK ?_
 refine sr ?_
 refine vm O O ?_
 refine vn O O ?_
 refine vq (aw O O underlying49 O O sizeOf47 O) O ?_
 refine vq (ai O O isAgg47 (.obj 0 O O)) O ?_
 refine vm O O ?_
 refine bd 1 O (fun b4 u => ?_)
 refine aQ (fun be => ?_)
 refine dP 1 O u O (i := a.1.toNat) (by omega) aj (fun e8 eg e9 b5 b6 d3 hcell16v => ?_)
 obtain ⟨fn, fp, rfl, ⟨ek, em, en⟩⟩ := b6
 refine vq (ct O O O b5 underlying47 sizeOf71 be.1 be.2) O ?_
 refine vq (aw O O underlying71 O O sizeOf3 O) O ?_
 refine vq (ai O O isAgg3 (hcell16v 1 O 2 _ O)) O ?_
 refine va O O (ag (ae ?_))
 refine bO (S := Int) (Unit) (fun s y => [(0, .pointer (some ⟨b0, 0, none⟩)), (1, .int .i64 x1), (4, .int .i64 a.1), (5, .int .i64 s)]) (fun s y => [obj b0 49 [.slice c a.2.length e, .int .i64 p, .bool q, str g], aC 71 3 (V71 (h)) c a.2 e, h, F]) ?_ ?_
 refine ap ?_
 refine bv (fun a0 => ?_)
 refine fA 1 O u O (i := a.1.toNat) (by omega) aj (fun bs a1 fs b7 b8 d4 hcell33v => ?_)
 obtain ⟨fw, fz, rfl, ⟨ep, er, es⟩⟩ := b8
 refine bp (Γ := Unit) () [[], [0], [0, 1], [0, 1, 2], [], rL 5, rL 6, rL 7, [], [8], [8, 9], [8, 9, 10], rL 12] [] [0, 1, 2, 3, 4, 5, 6, 7, 8, 9, 10, 11, 12] (fun i => [[0], [0], [0], [0], [0], [0], [0], [0], [0], [0], [0], [0], [0]].getD i []) (fun i => [[], [], [], [], [], [], [], [], [], [], [], [], []].getD i []) (fun γ i => [.pointer (some ⟨b0, 0, none⟩), .pointer (some ⟨b0, 0, none⟩), .pointer (some ⟨b0, 0, none⟩), .slice c a.2.length e, .int .i64 a.1, .pointer (some ⟨bs, a1 + a.1.toNat * 3, none⟩), .pointer (some ⟨bs, a1 + a.1.toNat * 3 + 0, none⟩), str ((a.2.getD a.1.toNat aj).1), .pointer (some ⟨b0, 0, none⟩), .pointer (some ⟨b0, 0, none⟩), .pointer (some ⟨b0, 3, none⟩), str g, .bool (decide (((a.2.getD a.1.toNat aj).1) = g))].getD i undef) (fun j γ => [[obj b0 49 [.slice c a.2.length e, .int .i64 p, .bool q, str g], Row 71 3 c a.2.length e b4.flatten, h, F]].getD j []) (fun γ => [(0, .pointer (some ⟨b0, 0, none⟩)), (1, .int .i64 x1), (4, .int .i64 a.1), (5, .int .i64 ((a.2.getD a.1.toNat aj).2.2)), (35, .bool (decide (((a.2.getD a.1.toNat aj).1) = g)))]) mixed (by decide) (by decide) (by decide) (by decide) (by decide) (by decide) (by decide) 87 O (by decide) (by decide) (by decide) (Ent.refl _) ?_ ?_ (fun _ => ⟨O, O, O, O, O, trivial⟩) ?_
 exact (aq O (fun γ => qm O (.o (s := 0) O (by decide) .nil) O) (aq O (fun γ => qp O O (.v 0 O O .nil) (cj O O) O) (aq O (fun γ => qp O O (.v 1 O O .nil) (aw O O underlying49 O O sizeOf47 O) O) (aq O (fun γ => qp O O (.v 2 O O .nil) (ai O O isAgg47 (.obj 0 O O)) O) (aq O (fun γ => qm O (.o (s := 4) O (by decide) .nil) O) (aq O (fun γ => qp O O (.v 3 O O (.v 4 O O .nil)) (ct O O O b7 underlying47 sizeOf71 a0.1 a0.2) O) (aq O (fun γ => qp O O (.v 5 O O .nil) (aw O O underlying71 O O sizeOf9 O) O) (aq O (fun γ => qp O O (.v 6 O O .nil) (ai O O isAgg9 (hcell33v 1 O 0 _ O)) O) (aq O (fun γ => qm O (.o (s := 0) O (by decide) .nil) O) (aq O (fun γ => qp O O (.v 8 O O .nil) (cj O O) O) (aq O (fun γ => qp O O (.v 9 O O .nil) (aw O O underlying49 O O sizeOf9 O) O) (aq O (fun γ => qp O O (.v 10 O O .nil) (ai O O isAgg9 (.obj 0 O O)) O) (aq O (fun γ => qp O O (.v 7 O O (.v 11 O O .nil)) (js O O O) O) zA)))))))))))))
 exact zA
 intro go
 refine ae ?_
 refine aL O (fun gs => ?_) (fun gy => ?_)
 refine aE ?_
 refine vm O O ?_
 refine vm O O ?_
 refine vq (kM O O O) O ?_
 refine vm O O ?_
 refine vn O O ?_
 refine vq (aw O O underlying49 O O sizeOf47 O) O ?_
 refine vq (ai O O isAgg47 (.obj 0 O O)) O ?_
 refine vm O O ?_
 refine aQ (fun a2 => ?_)
 refine dP 1 O u O (i := a.1.toNat) (by omega) aj (fun g0 et g1 b9 cd d5 hcell49v => ?_)
 obtain ⟨g2, g3, rfl, ⟨ez, eA, eF⟩⟩ := cd
 refine vq (ct O O O b9 underlying47 sizeOf71 a2.1 a2.2) O ?_
 refine vq (aw O O underlying71 O O sizeOf25 O) O ?_
 refine vq (ai O O isAgg25 (hcell49v 1 O 1 _ O)) O ?_
 refine vq (bi O O O underlying25) O ?_
 refine vm O O ?_
 refine vq (ft O O O) O ?_
 refine vq (ls O O O) O ?_
 refine vq (bj O O O) O ?_
 refine va O O (ag ?_)
 exact aM (s := IntKind.i64.wrap (((a.2.getD a.1.toNat aj).2.2) + (min (max x1 (0 : Int)) (IntKind.i64.wrap ((((a.2.getD a.1.toNat aj).2.1).length : Int) - ((a.2.getD a.1.toNat aj).2.2)))))) () ⟨O, O, O, O, trivial⟩ (.sel 0 O (.sel' 0 O (aC.mk u) (.sel 0 O (.sel 0 O (.nil _)))))
 refine au ?_
 exact aM (s := (a.2.getD a.1.toNat aj).2.2) () ⟨O, O, O, O, trivial⟩ (.sel 0 O (.sel' 0 O (aC.mk u) (.sel 0 O (.sel 0 O (.nil _)))))
 intro t g4
 refine ap ?_
 refine fB 1 O (fun w aa => ?_)
 refine bv (fun a3 => ?_)
 refine fA 1 O aa O (i := a.1.toNat) (by omega) aj (fun b1 a4 g5 ch cs d6 hcell64v => ?_)
 obtain ⟨ds, d1, rfl, ⟨c0, a5, c1⟩⟩ := cs
 refine bv (fun a6 => ?_)
 obtain ⟨al, an, c2, c3, c4, c5⟩ := ex (lo := (0 : Int)) (hi := t) c0 a5 a6
 refine cu (fun b c6 => ?_)
 refine bv (fun a7 => ?_)
 refine fA 1 O aa O (i := a.1.toNat) (by omega) aj (fun b2 a8 g6 a9 c7 d7 hcell87v => ?_)
 obtain ⟨g7, g8, rfl, ⟨e0, e1, e2⟩⟩ := c7
 refine bp (Γ := (Option Addr × Nat)) (none, 0) [[], [0], [0, 1], [0, 1, 2], [], [], [5], [5, 6], [5, 6, 7], [], [5, 6, 7, 8, 9], [5, 6, 7, 8, 9, 10], [5, 6, 7, 8, 9, 10, 11], [], [5, 6, 7, 8, 9, 10, 11, 12, 13], [5, 6, 7, 8, 9, 10, 11, 12, 13, 14], rL 16, rL 17, rL 18] [15, 18] [0, 1, 2, 3, 4, 5, 6, 7, 8, 9, 10, 11, 12, 13, 14, 16, 17] (fun i => [[0, 1], [0, 1], [0, 1], [0, 1], [0, 1], [0], [0], [0], [0], [0], [0], [0], [0], [0], [0], [], [1], [1], []].getD i []) (fun i => [[], [], [], [], [], [], [], [], [], [], [], [], [], [], [], rL 15, [], [], rL 18].getD i []) (fun γ i => [.pointer (some ⟨b0, 0, none⟩), .pointer (some ⟨b0, 0, none⟩), .pointer (some ⟨b0, 0, none⟩), .slice c a.2.length e, .int .i64 a.1, .pointer (some ⟨b0, 0, none⟩), .pointer (some ⟨b0, 0, none⟩), .pointer (some ⟨b0, 0, none⟩), .slice c a.2.length e, .int .i64 a.1, .pointer (some ⟨b1, a4 + a.1.toNat * 3, none⟩), .pointer (some ⟨b1, a4 + a.1.toNat * 3 + 1, none⟩), .slice ds (((a.2.getD a.1.toNat aj).2.1).length) d1, .int .i64 t, .slice al ((cut ((a.2.getD a.1.toNat aj).2.1) (0 : Int) t).length) an, .slice γ.1 b.length γ.2, .pointer (some ⟨b2, a8 + a.1.toNat * 3, none⟩), .pointer (some ⟨b2, a8 + a.1.toNat * 3 + 1, none⟩), undef].getD i undef) (fun j γ => [[obj b0 49 [.slice c a.2.length e, .int .i64 p, .bool q, str g], Row 71 3 c a.2.length e w.flatten, h, F], [Row 5 1 γ.1 b.length γ.2 (ao b), obj b0 49 [.slice c a.2.length e, .int .i64 p, .bool q, str g], Row 71 3 c a.2.length e w.flatten, h, F], [aN [Row 5 1 γ.1 b.length γ.2 (ao b), h], obj b0 49 [.slice c ((a.2.set a.1.toNat ((a.2.getD a.1.toNat aj).1, b, (a.2.getD a.1.toNat aj).2.2)).length) e, .int .i64 p, .bool q, str g], aC 71 3 (V71 (aN [Row 5 1 γ.1 b.length γ.2 (ao b), h])) c (a.2.set a.1.toNat ((a.2.getD a.1.toNat aj).1, b, (a.2.getD a.1.toNat aj).2.2)) e, F]].getD j []) (fun γ => [(0, .pointer (some ⟨b0, 0, none⟩)), (1, .int .i64 x1), (4, .int .i64 a.1), (5, .int .i64 t)]) mixed (by decide) (by decide) (by decide) (by decide) (by decide) (by decide) (by decide) 87 O (by decide) (by decide) (by decide) (Ent.refl _) ?_ ?_ (fun _ => ⟨O, O, O, O, trivial⟩) ?_
 exact (ac (fun γ => (ac (qm O (.o (s := 0) O (by decide) .nil) O) (ac (qm O (.o (s := 0) O (by decide) .nil) O) zA))) (ac (fun γ => (ac (qp O O (.v 0 O O .nil) (cj O O) O) (ac (qp O O (.v 0 O O .nil) (cj O O) O) zA))) (ac (fun γ => (ac (qp O O (.v 1 O O .nil) (aw O O underlying49 O O sizeOf47 O) O) (ac (qp O O (.v 1 O O .nil) (aw O O underlying49 O O sizeOf47 O) O) zA))) (ac (fun γ => (ac (qp O O (.v 2 O O .nil) (ai O O isAgg47 (.obj 0 O O)) O) (ac (qp O O (.v 2 O O .nil) (ai O O isAgg47 (.obj 1 O O)) O) zA))) (ac (fun γ => (ac (qm O (.o (s := 4) O (by decide) .nil) O) (ac (qm O (.o (s := 4) O (by decide) .nil) O) zA))) (aq O (fun γ => qm O (.o (s := 0) O (by decide) .nil) O) (aq O (fun γ => qp O O (.v 5 O O .nil) (cj O O) O) (aq O (fun γ => qp O O (.v 6 O O .nil) (aw O O underlying49 O O sizeOf47 O) O) (aq O (fun γ => qp O O (.v 7 O O .nil) (ai O O isAgg47 (.obj 0 O O)) O) (aq O (fun γ => qm O (.o (s := 4) O (by decide) .nil) O) (aq O (fun γ => qp O O (.v 8 O O (.v 9 O O .nil)) (ct O O O ch underlying47 sizeOf71 a3.1 a3.2) O) (aq O (fun γ => qp O O (.v 10 O O .nil) (aw O O underlying71 O O sizeOf25 O) O) (aq O (fun γ => qp O O (.v 11 O O .nil) (ai O O isAgg25 (hcell64v 1 O 1 _ O)) O) (aq O (fun γ => qm O (.o (s := 5) O (by decide) .nil) O) (aq O (fun γ => qp O O (.v 12 O O (.v 13 O O .nil)) (dU (l := ((a.2.getD a.1.toNat aj).2.1)) (lo' := (0 : Int)) (hi' := t) O O O O underlying25 sizeOf5 (.inr ⟨_, O⟩) (.inl ⟨O, O⟩) a6 a5 c2) O) (aq O (fun γ => qp O O (.v 3 O O (.v 4 O O .nil)) (ct O O O a9 underlying47 sizeOf71 a7.1 a7.2) O) (aq O (fun γ => qp O O (.v 16 O O .nil) (aw O O underlying71 O O sizeOf25 O) O) zA)))))))))))))))))
 exact (ac (fun γ => eo (Z := Option Addr × Nat) (fun z => z) rfl rfl (.v 14 rfl rfl .nil) (ar (vs := [.slice al ((cut ((a.2.getD a.1.toNat aj).2.1) (0 : Int) t).length) an]) (cap := []) (A := []) (rst := [obj b0 49 [.slice c a.2.length e, .int .i64 p, .bool q, str g], Row 71 3 c a.2.length e w.flatten, h, F]) rfl rfl rfl rfl rfl rfl call89 (.sel 0 rfl (.sel 0 rfl (.sel 0 rfl (.sel 0 rfl (.nil _))))) (bl.calls _ _ al an (cut ((a.2.getD a.1.toNat aj).2.1) (0 : Int) t) (c3.lend 2 rfl) c4 (Nat.le_trans c5 c1)) c6) (fun _ => ⟨rfl, rfl, rfl, rfl, rfl, rfl, rfl, rfl, rfl, rfl, rfl, rfl, rfl, rfl, rfl, trivial⟩) (fun _ => .inr rfl) (fun z => Ent.refl _)) (ac (fun γ => eo (Z := Unit) (fun z => γ) rfl rfl (.v 15 rfl rfl (.v 17 rfl rfl .nil)) (RE.lend 0 rfl (fun c8 c9 dl e3 => RE.ent (H1 := [aN [Row 5 1 γ.1 b.length γ.2 (ao b), h], obj b0 49 [.slice c a.2.length e, .int .i64 p, .bool q, str g], Row 71 3 c a.2.length e w.flatten, F]) (Ent.trans (m := [Row 5 1 γ.1 b.length γ.2 (ao b), h, obj b0 49 [.slice c a.2.length e, .int .i64 p, .bool q, str g], Row 71 3 c a.2.length e w.flatten, F]) (.sel 0 rfl (.sel 2 rfl (.sel 0 rfl (.sel 0 rfl (.sel 0 rfl (.nil _)))))) (jy [Row 5 1 γ.1 b.length γ.2 (ao b), h] _)) (hZ (V := (V71 (aN [Row 5 1 γ.1 b.length γ.2 (ao b), h]))) ((a.2.getD a.1.toNat aj).1, b, (a.2.getD a.1.toNat aj).2.2) 1 aj 2 rfl rfl rfl sizeOf25 rfl rfl (aY (by rfl)) rfl (aa.mono (V71.up (Up.lend (l := [Row 5 1 γ.1 b.length γ.2 (ao b), h]) 1 rfl))) a9 (by omega) rfl (fun r hr _ _ => by obtain ⟨a1', c1', rfl, h1'⟩ := hr; exact ⟨γ.1, γ.2, rfl, ⟨(Rd.lend (l := [Row 5 1 γ.1 b.length γ.2 (ao b), h]) c8 0 rfl), c9, dl⟩⟩)))) (fun _ => ⟨rfl, rfl, rfl, rfl, rfl, rfl, rfl, rfl, rfl, rfl, rfl, rfl, rfl, rfl, rfl, rfl, rfl, rfl, trivial⟩) (fun _ => .inl rfl) (fun z => lc ((rfl : _ = [aN [Row 5 1 γ.1 b.length γ.2 (ao b), h], obj b0 49 [.slice c a.2.length e, .int .i64 p, .bool q, str g], aC 71 3 (V71 (aN [Row 5 1 γ.1 b.length γ.2 (ao b), h])) c (a.2.set a.1.toNat ((a.2.getD a.1.toNat aj).1, b, (a.2.getD a.1.toNat aj).2.2)) e, F]).trans ((by simp only [List.length_set, eR] : [aN [Row 5 1 γ.1 b.length γ.2 (ao b), h], obj b0 49 [.slice c a.2.length e, .int .i64 p, .bool q, str g], aC 71 3 (V71 (aN [Row 5 1 γ.1 b.length γ.2 (ao b), h])) c (a.2.set a.1.toNat ((a.2.getD a.1.toNat aj).1, b, (a.2.getD a.1.toNat aj).2.2)) e, F] = [aN [Row 5 1 γ.1 b.length γ.2 (ao b), h], obj b0 49 [.slice c ((a.2.set a.1.toNat ((a.2.getD a.1.toNat aj).1, b, (a.2.getD a.1.toNat aj).2.2)).length) e, .int .i64 p, .bool q, str g], aC 71 3 (V71 (aN [Row 5 1 γ.1 b.length γ.2 (ao b), h])) c (a.2.set a.1.toNat ((a.2.getD a.1.toNat aj).1, b, (a.2.getD a.1.toNat aj).2.2)) e, F]).trans rfl)))) zA))
 intro n
 refine ae (aE ?_)
 refine vm O O ?_
 refine vn O O ?_
 refine vq (aw O O underlying49 O O sizeOf47 O) O ?_
 refine vq (ai O O isAgg47 (.obj 1 O O)) O ?_
 refine vm O O ?_
 refine vm O O ?_
 refine bd 2 O (fun d8 ab => ?_)
 refine aQ (fun bc => ?_)
 refine dP 2 O ab O (i := a.1.toNat) (by omega) aj (fun g9 e4 e5 ad b3 d2 hcell105v => ?_)
 obtain ⟨e6, e7, rfl, ⟨d9, ec, ed⟩⟩ := b3
 refine vq (ct O O O ad underlying47 sizeOf71 bc.1 bc.2) O ?_
 refine vq (aw O O underlying71 O O sizeOf3 O) O ?_
 refine aX (hZ (V := (V71 (aN [Row 5 1 n.1 b.length n.2 (ao b), h]))) (((a.2.set a.1.toNat ((a.2.getD a.1.toNat aj).1, b, (a.2.getD a.1.toNat aj).2.2)).getD a.1.toNat aj).1, ((a.2.set a.1.toNat ((a.2.getD a.1.toNat aj).1, b, (a.2.getD a.1.toNat aj).2.2)).getD a.1.toNat aj).2.1, t) 2 aj 2 rfl rfl rfl sizeOf3 rfl rfl (aY (by rfl)) rfl ab ad (by omega) rfl (fun r hr _ _ => by obtain ⟨a1', c1', rfl, h1'⟩ := hr; exact ⟨a1', c1', rfl, h1'⟩)) rfl rfl ?_
 intro _
 refine eE (.slice c (((a.2.set a.1.toNat ((a.2.getD a.1.toNat aj).1, b, (a.2.getD a.1.toNat aj).2.2)).set a.1.toNat (((a.2.set a.1.toNat ((a.2.getD a.1.toNat aj).1, b, (a.2.getD a.1.toNat aj).2.2)).getD a.1.toNat aj).1, ((a.2.set a.1.toNat ((a.2.getD a.1.toNat aj).1, b, (a.2.getD a.1.toNat aj).2.2)).getD a.1.toNat aj).2.1, t)).length) e) (d := 73) O (fm (by simp)) ?_
 refine gZ (H' := [aN [Row 5 1 n.1 b.length n.2 (ao b), h], obj b0 49 [.slice c (((a.2.set a.1.toNat ((a.2.getD a.1.toNat aj).1, b, (a.2.getD a.1.toNat aj).2.2)).set a.1.toNat (((a.2.set a.1.toNat ((a.2.getD a.1.toNat aj).1, b, (a.2.getD a.1.toNat aj).2.2)).getD a.1.toNat aj).1, ((a.2.set a.1.toNat ((a.2.getD a.1.toNat aj).1, b, (a.2.getD a.1.toNat aj).2.2)).getD a.1.toNat aj).2.1, t)).length) e, .int .i64 p, .bool q, str g], aC 71 3 (V71 (aN [Row 5 1 n.1 b.length n.2 (ao b), h])) c ((a.2.set a.1.toNat ((a.2.getD a.1.toNat aj).1, b, (a.2.getD a.1.toNat aj).2.2)).set a.1.toNat (((a.2.set a.1.toNat ((a.2.getD a.1.toNat aj).1, b, (a.2.getD a.1.toNat aj).2.2)).getD a.1.toNat aj).1, ((a.2.set a.1.toNat ((a.2.getD a.1.toNat aj).1, b, (a.2.getD a.1.toNat aj).2.2)).getD a.1.toNat aj).2.1, t)) e, F]) (lc ((O : _ = [aN [Row 5 1 n.1 b.length n.2 (ao b), h], obj b0 49 [.slice c ((a.2.set a.1.toNat ((a.2.getD a.1.toNat aj).1, b, (a.2.getD a.1.toNat aj).2.2)).length) e, .int .i64 p, .bool q, str g], aC 71 3 (V71 (aN [Row 5 1 n.1 b.length n.2 (ao b), h])) c ((a.2.set a.1.toNat ((a.2.getD a.1.toNat aj).1, b, (a.2.getD a.1.toNat aj).2.2)).set a.1.toNat (((a.2.set a.1.toNat ((a.2.getD a.1.toNat aj).1, b, (a.2.getD a.1.toNat aj).2.2)).getD a.1.toNat aj).1, ((a.2.set a.1.toNat ((a.2.getD a.1.toNat aj).1, b, (a.2.getD a.1.toNat aj).2.2)).getD a.1.toNat aj).2.1, t)) e, F]).trans ((by simp only [List.length_set, eR] : [aN [Row 5 1 n.1 b.length n.2 (ao b), h], obj b0 49 [.slice c ((a.2.set a.1.toNat ((a.2.getD a.1.toNat aj).1, b, (a.2.getD a.1.toNat aj).2.2)).length) e, .int .i64 p, .bool q, str g], aC 71 3 (V71 (aN [Row 5 1 n.1 b.length n.2 (ao b), h])) c ((a.2.set a.1.toNat ((a.2.getD a.1.toNat aj).1, b, (a.2.getD a.1.toNat aj).2.2)).set a.1.toNat (((a.2.set a.1.toNat ((a.2.getD a.1.toNat aj).1, b, (a.2.getD a.1.toNat aj).2.2)).getD a.1.toNat aj).1, ((a.2.set a.1.toNat ((a.2.getD a.1.toNat aj).1, b, (a.2.getD a.1.toNat aj).2.2)).getD a.1.toNat aj).2.1, t)) e, F] = [aN [Row 5 1 n.1 b.length n.2 (ao b), h], obj b0 49 [.slice c (((a.2.set a.1.toNat ((a.2.getD a.1.toNat aj).1, b, (a.2.getD a.1.toNat aj).2.2)).set a.1.toNat (((a.2.set a.1.toNat ((a.2.getD a.1.toNat aj).1, b, (a.2.getD a.1.toNat aj).2.2)).getD a.1.toNat aj).1, ((a.2.set a.1.toNat ((a.2.getD a.1.toNat aj).1, b, (a.2.getD a.1.toNat aj).2.2)).getD a.1.toNat aj).2.1, t)).length) e, .int .i64 p, .bool q, str g], aC 71 3 (V71 (aN [Row 5 1 n.1 b.length n.2 (ao b), h])) c ((a.2.set a.1.toNat ((a.2.getD a.1.toNat aj).1, b, (a.2.getD a.1.toNat aj).2.2)).set a.1.toNat (((a.2.set a.1.toNat ((a.2.getD a.1.toNat aj).1, b, (a.2.getD a.1.toNat aj).2.2)).getD a.1.toNat aj).1, ((a.2.set a.1.toNat ((a.2.getD a.1.toNat aj).1, b, (a.2.getD a.1.toNat aj).2.2)).getD a.1.toNat aj).2.1, t)) e, F]).trans O))) ?_
 refine ag (bb (ae (aE ?_)))
 refine vm O O ?_
 refine vq (bj O O O) O ?_
 refine va O O (ag ?_)
 exact bu (s := (IntKind.i64.wrap (a.1 + 1), (a.2.set a.1.toNat ((a.2.getD a.1.toNat aj).1, b, (a.2.getD a.1.toNat aj).2.2)).set a.1.toNat (((a.2.set a.1.toNat ((a.2.getD a.1.toNat aj).1, b, (a.2.getD a.1.toNat aj).2.2)).getD a.1.toNat aj).1, ((a.2.set a.1.toNat ((a.2.getD a.1.toNat aj).1, b, (a.2.getD a.1.toNat aj).2.2)).getD a.1.toNat aj).2.1, t))) (aN [Row 5 1 n.1 b.length n.2 (ao b), h]) ⟨O, O, O, trivial⟩ (.sel 1 O (.sel 1 O (.sel 0 O (.sel 0 O (.nil _)))))
 refine ck ?_
 refine bQ ?_
 refine bY ?_
 refine bR ?_
 exact aM (s := a.2) h ⟨O, trivial⟩ (.sel 0 O (.sel 0 O (.sel 0 O (.sel 0 O (.nil _)))))
 intro hc ef
 refine sr ?_
 refine vm O O ?_
 refine vn O O ?_
 refine vq (aw O O underlying49 O O sizeOf3 O) O ?_
 refine aX (aV 0 O O O sizeOf3 O O (aY (by rfl)) O O) O O ?_
 intro _
 refine nx ?_
 refine vm O O ?_
 refine vn O O ?_
 refine vq (aw O O underlying49 O O sizeOf4 O) O ?_
 refine aX (aV 0 O O O sizeOf4 O O (aY (by rfl)) O O) O O ?_
 intro _
 refine ny ?_
 refine vm O O ?_
 refine vn O O ?_
 refine vq (aw O O underlying49 O O sizeOf9 O) O ?_
 refine aX (aV 0 O O O sizeOf9 O O (aY (by rfl)) O O) O O ?_
 intro _
 refine ag ?_
 exact jL (c, e, ef) O O O (.sel 0 O (.sel 0 O (.sel 0 O (.sel 0 O (.nil _)))))

def gz.f (a : List ((List UInt8) × (List UInt8 × Int))) (c : List UInt8) (d : Int) (b : Bool) (x1 : List UInt8) (x2 : Int) : Option (Int × (List ((List UInt8) × (List UInt8 × Int))) × List UInt8 × Int × Bool) := if (ay a x1).isSome = true then (if b = true then (some (11, a, c, d, b)) else (if ((decide (x2 < (0 : Int))) || (decide (((((ay a x1).getD (([] : List UInt8), (0 : Int))).1).length : Int) < x2))) = true then (some (1, a, c, d, b)) else ((bm.f a c d b).bind fun e => (if e.1 = true then (some (11, a, e.2.1, e.2.2.1, e.2.2.2)) else (if 0 ≤ (0 : Int) ∧ (0 : Int) ≤ x2 ∧ x2 ≤ ((((ay a x1).getD (([] : List UInt8), (0 : Int))).1).length : Int) then (some (0, bk a x1 (cut (((ay a x1).getD (([] : List UInt8), (0 : Int))).1) (0 : Int) x2, min (((ay a x1).getD (([] : List UInt8), (0 : Int))).2) x2), e.2.1, e.2.2.1, e.2.2.2)) else none))))) else (if b = true then (some (11, a, c, d, b)) else (some (8, a, c, d, b)))
theorem gz.calls (W : World) (F : HA) (b0 : Nat) (d : Nat) (a : Kps) (c : List ((List UInt8) × (List UInt8 × Int))) (h : List UInt8) (i : Int) (j : Bool) (x1 : List UInt8) (x2 : Int)  :
    Fn Tryz.prog W 13 [.pointer (some ⟨b0, 0, none⟩), str x1, .int .i64 x2] [obj b0 76 [.map (some d), str h, .int .i64 i, .bool j], aF (aB d aD aA a) aG a c] F (gz.f c h i j x1 x2) (fun (r : Int × (List ((List UInt8) × (List UInt8 × Int))) × List UInt8 × Int × Bool) (y : Nat × Kps) => .int .i64 r.1) (fun r y => [obj b0 76 [.map (some y.1), str r.2.2.1, .int .i64 r.2.2.2.1, .bool r.2.2.2.2], aF (aB y.1 aD aA y.2) aG y.2 r.2.1]) := by
 unfold gz.f
 refine aJ 55 Tryz.func13 O Tryz.ntmps13 O ?_
 refine sr ?_
 refine va O O (ag (ae (ap ?_)))
 refine iq (fun g => ?_) (fun g => ?_)
 refine aE ?_
 refine vm O O ?_
 refine vn O O ?_
 refine vq (aw O O underlying76 O O sizeOf74 O) O ?_
 refine vq (ai O O isAgg74 (.obj 0 O O)) O ?_
 refine vm O O ?_
 refine vq ((ju (ek := aD) x1 (gX 1 O) g O O O underlying74 iN : RQ _ _ _ _ (.pointer (some ⟨(bt a x1), 0, none⟩)))) O ?_
 refine va O O (ag (ae (ap ?_)))
 refine aK ?_
 refine sr ?_
 refine vm O O ?_
 refine vn O O ?_
 refine vq (aw O O underlying76 O O sizeOf4 O) O ?_
 refine vq (ai O O isAgg4 (.obj 0 O O)) O ?_
 refine va O O (ag (ae ?_))
 refine aT O (fun a9 => ?_) (fun bc => ?_)
 refine sr ?_
 refine va O O (ag (ae (ak ?_)))
 refine aP ?_
 refine ax ?_
 exact av (d, a) O O O (.sel 0 O (.sel 0 O (.sel 0 O (.nil _))))
 refine sr ?_
 refine vm O O ?_
 refine vq (pb O O O underlying87) O ?_
 refine va O O (ag (ae ?_))
 refine iy O ?_
 refine ap ?_
 refine ia (v := ((ay c x1).getD (([] : List UInt8), (0 : Int)))) 1 O (ew g) (fun e => ?_)
 refine fT (H' := [obj (bt a x1) 89 [.slice e.1 ((((ay c x1).getD (([] : List UInt8), (0 : Int))).1).length) e.2, .int .i64 (((ay c x1).getD (([] : List UInt8), (0 : Int))).2)], Row 5 1 e.1 (((ay c x1).getD (([] : List UInt8), (0 : Int))).1).length e.2 (ao (((ay c x1).getD (([] : List UInt8), (0 : Int))).1)), fK (aB d aD aA a) aG a c x1, obj b0 76 [.map (some d), str h, .int .i64 i, .bool j], F]) (Ent.refl _) ?_
 refine aE ?_
 refine vm O O ?_
 refine vq (bN O O O) O ?_
 refine vm O O ?_
 refine az (b := decide (x2 < (0 : Int))) (fun al => RQ.sub (E' := [(2, .int .i64 x2)]) ⟨O, trivial⟩ (aS O O)) O O O O O ?_
 refine az (b := decide (x2 < (0 : Int))) (fun an => RQ.sub (E' := [(7, .pointer (some ⟨(bt a x1), 0, none⟩))]) ⟨O, trivial⟩ (aS O O)) O O O O O ?_
 refine az (b := decide (x2 < (0 : Int))) (fun t => RQ.sub (E' := [(27, .pointer (some ⟨(bt a x1), 0, none⟩))]) ⟨aZ O t, trivial⟩ (cj O O)) O O O O O ?_
 refine az (b := decide (x2 < (0 : Int))) (fun u => RQ.sub (E' := [(28, .pointer (some ⟨(bt a x1), 0, none⟩))]) ⟨aZ O u, trivial⟩ (aw O O underlying89 O O sizeOf25 O)) O O O O O ?_
 refine az (b := decide (x2 < (0 : Int))) (fun w => RQ.sub (E' := [(29, .pointer (some ⟨(bt a x1), 0, none⟩))]) ⟨aZ O w, trivial⟩ (ai O O isAgg25 (.obj 0 O O))) O O O O O ?_
 refine az (b := decide (x2 < (0 : Int))) (fun z => RQ.sub (E' := [(30, .slice e.1 ((((ay c x1).getD (([] : List UInt8), (0 : Int))).1).length) e.2)]) ⟨aZ O z, trivial⟩ (bi O O O underlying25)) O O O O O ?_
 refine az (b := decide (x2 < (0 : Int))) (fun o => RQ.sub (E' := [(26, .int .i64 x2), (31, .int .i64 ((((ay c x1).getD (([] : List UInt8), (0 : Int))).1).length : Int))]) ⟨aZ O o, aZ O o, trivial⟩ (dw O O O)) O O O O O ?_
 refine vq (hP O O O) O ?_
 refine va O O (ag (ae ?_))
 refine aT O (fun be => ?_) (fun bs => ?_)
 refine sr ?_
 refine va O O (ag (ae (ak ?_)))
 refine aP ?_
 refine ax ?_
 exact av (d, a) O O O (.sel 3 O (.foldF0 (x := x1) (p := (bt a x1)) (v := ((ay c x1).getD (([] : List UInt8), (0 : Int)))) (e.1, e.2) O (ew g) (.sel 2 O (.sel 0 O (.sel 0 O (.sel 0 O (.nil _)))))))
 refine sr ?_
 refine vm O O ?_
 refine gZ (H' := [aF (aB d aD aA a) aG a c, obj b0 76 [.map (some d), str h, .int .i64 i, .bool j], F]) ((.foldF0 (x := x1) (p := (bt a x1)) (v := ((ay c x1).getD (([] : List UInt8), (0 : Int)))) (e.1, e.2) O (ew g) (.sel 2 O (.sel 0 O (.sel 0 O (.sel 0 O (.sel 0 O (.nil _)))))))) ?_
 refine am (fun s ab => ?_)
 refine ah (ar (vs := [.pointer (some ⟨b0, 0, none⟩)]) (cap := []) (A := [obj b0 76 [.map (some d), str h, .int .i64 i, .bool j], aF (aB d aD aA a) aG a c]) (rst := [F]) O O O O O O call45 (.sel 1 O (.sel 0 O (.sel 0 O (.nil _)))) (bm.calls _ _ b0 d a c h i j ) ab) O O O ?_
 intro b1
 refine va O O (ag (ae ?_))
 refine aT O (fun a5 => ?_) (fun a6 => ?_)
 refine sr ?_
 refine va O O (ag (ae (ak ?_)))
 refine aP ?_
 refine ax ?_
 exact av (d, a) O O O (.sel 0 O (.sel 0 O (.sel 0 O (.nil _))))
 refine au ?_
 refine bb (ae (ap ?_))
 refine ia (v := ((ay c x1).getD (([] : List UInt8), (0 : Int)))) 1 O (ew g) (fun k => ?_)
 refine fT (H' := [obj (bt a x1) 89 [.slice k.1 ((((ay c x1).getD (([] : List UInt8), (0 : Int))).1).length) k.2, .int .i64 (((ay c x1).getD (([] : List UInt8), (0 : Int))).2)], Row 5 1 k.1 (((ay c x1).getD (([] : List UInt8), (0 : Int))).1).length k.2 (ao (((ay c x1).getD (([] : List UInt8), (0 : Int))).1)), fK (aB d aD aA a) aG a c x1, obj b0 76 [.map (some d), str s.2.1, .int .i64 s.2.2.1, .bool s.2.2.2], F]) (Ent.refl _) ?_
 refine aE ?_
 refine vm O O ?_
 refine vm O O ?_
 refine vn O O ?_
 refine vq (aw O O underlying89 O O sizeOf25 O) O ?_
 refine vq (ai O O isAgg25 (.obj 0 O O)) O ?_
 refine vm O O ?_
 refine aQ (fun m => ?_)
 refine bf 1 O (fun aa n a0 a1 => ?_)
 obtain ⟨ad, af, q, a2, a3, a4⟩ := ex (lo := (0 : Int)) (hi := x2) aa n m
 refine vq (dU (l := (((ay c x1).getD (([] : List UInt8), (0 : Int))).1)) (lo' := (0 : Int)) (hi' := x2) O O O O underlying25 sizeOf5 (.inr ⟨_, O⟩) (.inl ⟨O, O⟩) m n q) O ?_
 refine vn O O ?_
 refine vq (aw O O underlying89 O O sizeOf25 O) O ?_
 refine aX (RE.ent (Ent.cutB 1 O q m n) (aV 0 O O O sizeOf25 O O (aY (by rfl)) O O)) O O ?_
 intro _
 refine nx ?_
 refine vm O O ?_
 refine vm O O ?_
 refine vn O O ?_
 refine vq (aw O O underlying89 O O sizeOf3 O) O ?_
 refine vq (ai O O isAgg3 (.obj 0 O O)) O ?_
 refine vm O O ?_
 refine vq (ls O O O) O ?_
 refine vn O O ?_
 refine vq (aw O O underlying89 O O sizeOf3 O) O ?_
 refine aX (aV 0 O O O sizeOf3 O O (aY (by rfl)) O O) O O ?_
 intro _
 refine nx ?_
 refine va O O (ag (ae (ak ?_)))
 exact av (d, a) O O O (.sel 3 O (.foldF (x := x1) (p := (bt a x1)) (v := (cut (((ay c x1).getD (([] : List UInt8), (0 : Int))).1) (0 : Int) x2, min (((ay c x1).getD (([] : List UInt8), (0 : Int))).2) x2)) (ad, af) O (.sel 2 O (.sel 0 O (.sel 0 O (.sel 0 O (.nil _)))))))
 refine aE ?_
 refine vm O O ?_
 refine vn O O ?_
 refine vq (aw O O underlying76 O O sizeOf74 O) O ?_
 refine vq (ai O O isAgg74 (.obj 0 O O)) O ?_
 refine vm O O ?_
 refine vq (jv (ek := aD) x1 (gX 1 O) (iz g) O O O underlying74 iN zeroValue87) O ?_
 refine va O O (ag (ae (ap ?_)))
 refine aK ?_
 refine sr ?_
 refine vm O O ?_
 refine vn O O ?_
 refine vq (aw O O underlying76 O O sizeOf4 O) O ?_
 refine vq (ai O O isAgg4 (.obj 0 O O)) O ?_
 refine va O O (ag (ae ?_))
 refine aT O (fun a7 => ?_) (fun a8 => ?_)
 refine sr ?_
 refine va O O (ag (ae (ak ?_)))
 refine aP ?_
 refine ax ?_
 exact av (d, a) O O O (.sel 0 O (.sel 0 O (.sel 0 O (.nil _))))
 refine sr ?_
 refine vm O O ?_
 refine vq (mK O O O underlying87) O ?_
 refine va O O (ag (ae ?_))
 refine gY O ?_
 refine sr ?_
 refine va O O (ag (ae (ak ?_)))
 refine aP ?_
 refine ax ?_
 exact av (d, a) O O O (.sel 0 O (.sel 0 O (.sel 0 O (.nil _))))

def eU.f (k : Nat) (a : List (ba)) (g : Int) (d : Bool) (h : List UInt8) (x1 : List UInt8) (x2 : Int) : Option (Int × (List (ba)) × Int × Bool × List UInt8) := if d = true then (some (11, a, g, d, h)) else ((aU.f k a g d h x1).bind fun b => (if b < (0 : Int) then (some (8, a, g, d, h)) else ((if x2 < (0 : Int) then (some true) else (if 0 ≤ b ∧ b < (a.length : Int) then (some (decide ((((a.getD b.toNat aj).2.1).length : Int) < x2))) else none)).bind fun i => (if i = true then (some (1, a, g, d, h)) else ((bI.f a g d h).bind fun c => (if c.1 = true then (some (11, a, c.2.1, c.2.2.1, c.2.2.2)) else (if 0 ≤ b ∧ b < (a.length : Int) then (if 0 ≤ (0 : Int) ∧ (0 : Int) ≤ x2 ∧ x2 ≤ (((a.getD b.toNat aj).2.1).length : Int) then ((bl.f (cut ((a.getD b.toNat aj).2.1) (0 : Int) x2)).bind fun e => (if 0 ≤ b ∧ b < (a.length : Int) then (if 0 ≤ b ∧ b < ((a.set b.toNat ((a.getD b.toNat aj).1, e, (a.getD b.toNat aj).2.2)).length : Int) then (if 0 ≤ b ∧ b < ((a.set b.toNat ((a.getD b.toNat aj).1, e, (a.getD b.toNat aj).2.2)).length : Int) then (some (0, (a.set b.toNat ((a.getD b.toNat aj).1, e, (a.getD b.toNat aj).2.2)).set b.toNat (((a.set b.toNat ((a.getD b.toNat aj).1, e, (a.getD b.toNat aj).2.2)).getD b.toNat aj).1, ((a.set b.toNat ((a.getD b.toNat aj).1, e, (a.getD b.toNat aj).2.2)).getD b.toNat aj).2.1, min (((a.set b.toNat ((a.getD b.toNat aj).1, e, (a.getD b.toNat aj).2.2)).getD b.toNat aj).2.2) x2), c.2.1, c.2.2.1, c.2.2.2)) else none) else none) else none)) else none) else none)))))))
theorem eU.calls (W : World) (F : HA) (k : Nat) (b0 : Nat) (d : Option Addr) (e : Nat) (a : List (ba)) (h : HA) (q : Int) (t : Bool) (u : List UInt8) (x1 : List UInt8) (x2 : Int)  :
    Fn Tryz.prog W 98 [.pointer (some ⟨b0, 0, none⟩), str x1, .int .i64 x2] [obj b0 49 [.slice d a.length e, .int .i64 q, .bool t, str u], aC 71 3 (V71 h) d a e, h] F (eU.f k a q t u x1 x2) (fun (r : Int × (List (ba)) × Int × Bool × List UInt8) (y : Option Addr × Nat × HA) => .int .i64 r.1) (fun r y => [obj b0 49 [.slice y.1 r.2.1.length y.2.1, .int .i64 r.2.2.1, .bool r.2.2.2.1, str r.2.2.2.2], aC 71 3 (V71 (y.2.2)) y.1 r.2.1 y.2.1, y.2.2]) := by
 unfold eU.f
 refine aJ 69 Tryz.func98 O Tryz.ntmps98 O ?_
 refine sr ?_
 refine va O O (ag (ae (ap (sr ?_))))
 refine vm O O ?_
 refine vn O O ?_
 refine vq (aw O O underlying49 O O sizeOf4 O) O ?_
 refine vq (ai O O isAgg4 (.obj 0 O O)) O (ag (ae ?_))
 refine aT O (fun hf => ?_) (fun hg => ?_)
 refine sr ?_
 refine va O O (ag (ae (ak ?_)))
 refine ax ?_
 exact av (d, e, h) O O O (.sel 0 O (.sel 0 O (.sel 0 O (.sel 0 O (.nil _)))))
 refine au ?_
 refine ae (sr ?_)
 refine vm O O ?_
 refine vm O O ?_
 refine bd 1 O (fun d4 x => ?_)
 refine am (fun b b3 => ?_)
 refine bf 1 O (fun d5 d6 d7 fn => ?_)
 refine ah (ar (vs := [.pointer (some ⟨b0, 0, none⟩), str x1]) (cap := []) (A := [obj b0 49 [.slice d a.length e, .int .i64 q, .bool t, str u]]) (rst := [Row 71 3 d a.length e d4.flatten, h, F]) O O O O O O call99 (.sel 0 O (.sel 0 O (.sel 0 O (.sel 0 O (.nil _))))) (aU.calls _ _ k b0 d e a q t u x1 ((Rd.asV x d5).up (Up.lend 0 O) (V71.up (Up.lend 1 O))) d6 d7) b3) O O O ?_
 intro fp
 refine va O O (ag (ae (ap (sr ?_))))
 refine vm O O ?_
 refine vq (bN O O O) O (ag (ae ?_))
 refine aL O (fun fs => ?_) (fun fw => ?_)
 refine sr ?_
 refine va O O (ag (ae (ak ?_)))
 refine ax ?_
 exact av (d, e, h) O O O (.sel 0 O (.sel' 0 O (aC.mk x) (.sel 0 O (.sel 0 O (.nil _)))))
 refine au ?_
 refine ae (ap (sr ?_))
 refine vm O O ?_
 refine vq (bN O O O) O ?_
 refine vm O O ?_
 refine dk 12 (S := Bool) (Unit) (fun s y => [(0, .pointer (some ⟨b0, 0, none⟩)), (2, .int .i64 x2), (7, .int .i64 b), (31, .bool s)]) (fun s y => [obj b0 49 [.slice d a.length e, .int .i64 q, .bool t, str u], aC 71 3 (V71 (h)) d a e, h, F]) ?_ ?_
 refine iH (fun b4 => ?_) (fun b5 => ?_)
 rw [b4]
 refine aI O O O O O O ?_
 refine aI O O O O O O ?_
 refine aI O O O O O O ?_
 refine aI O O O O O O ?_
 refine aI O O O O O O ?_
 refine aI O O O O O O ?_
 refine aI O O O O O O ?_
 refine aI O O O O O O ?_
 refine aI O O O O O O ?_
 refine aI O O O O O O ?_
 refine aI O O O O O O ?_
 refine vq (bL O O O O O) O (ag ?_)
 exact aM (s := true) () ⟨O, O, O, O, trivial⟩ (.sel 0 O (.sel' 0 O (aC.mk x) (.sel 0 O (.sel 0 O (.nil _)))))
 rw [b5]
 refine aO (aS O O) O O O O O O ?_
 refine aO (aS O O) O O O O O O ?_
 refine aO (cj O O) O O O O O O ?_
 refine aO (aw O O underlying49 O O sizeOf47 O) O O O O O O ?_
 refine aO (ai O O isAgg47 (.obj 0 O O)) O O O O O O ?_
 refine aO (aS O O) O O O O O O ?_
 refine aQ (fun a0 => ?_)
 refine dP 1 O x O (i := b.toNat) (by omega) aj (fun fz er go b6 b7 ed hcell23v => ?_)
 obtain ⟨gs, gy, rfl, ⟨es, et, ez⟩⟩ := b7
 refine aO (ct O O O b6 underlying47 sizeOf71 a0.1 a0.2) O O O O O O ?_
 refine aO (aw O O underlying71 O O sizeOf25 O) O O O O O O ?_
 refine aO (ai O O isAgg25 (hcell23v 1 O 1 _ O)) O O O O O O ?_
 refine aO (bi O O O underlying25) O O O O O O ?_
 refine aO (dw O O O) O O O O O O ?_
 refine vq (bL O O O O O) O (ag ?_)
 exact aM (s := decide ((((a.getD b.toNat aj).2.1).length : Int) < x2)) () ⟨O, O, O, O, trivial⟩ (.sel 0 O (.sel' 0 O (aC.mk x) (.sel 0 O (.sel 0 O (.nil _)))))
 intro g0 g1
 refine ag (ae ?_)
 refine aT O (fun g2 => ?_) (fun g3 => ?_)
 refine sr ?_
 refine va O O (ag (ae (ak ?_)))
 refine ax ?_
 exact av (d, e, h) O O O (.sel 0 O (.sel 0 O (.sel 0 O (.sel 0 O (.nil _)))))
 refine au ?_
 refine ae (ap (sr ?_))
 refine vm O O ?_
 refine bd 1 O (fun p w => ?_)
 refine am (fun g b8 => ?_)
 refine bf 1 O (fun b9 cd ch eA => ?_)
 refine ah (ar (vs := [.pointer (some ⟨b0, 0, none⟩)]) (cap := []) (A := [obj b0 49 [.slice d a.length e, .int .i64 q, .bool t, str u]]) (rst := [Row 71 3 d a.length e p.flatten, h, F]) O O O O O O call142 (.sel 0 O (.sel 0 O (.sel 0 O (.sel 0 O (.nil _))))) (bI.calls _ _ b0 d e a q t u ((Rd.asV w b9).up (Up.lend 0 O) (V71.up (Up.lend 1 O))) cd ch) b8) O O O ?_
 intro g4
 refine ag (ae ?_)
 refine aT O (fun g5 => ?_) (fun g6 => ?_)
 refine sr ?_
 refine va O O (ag (ae (ak ?_)))
 refine ax ?_
 exact av (d, e, h) O O O (.sel 0 O (.sel' 0 O (aC.mk w) (.sel 0 O (.sel 0 O (.nil _)))))
 refine au ?_
 refine ae (ap ?_)
 refine bv (fun a1 => ?_)
 refine fA 1 O w O (i := b.toNat) (by omega) aj (fun be a2 g7 cs c0 ef hcell51v => ?_)
 obtain ⟨d8, d9, rfl, ⟨c1, a3, c2⟩⟩ := c0
 refine bv (fun a4 => ?_)
 obtain ⟨al, an, c3, c4, c5, c6⟩ := ex (lo := (0 : Int)) (hi := x2) c1 a3 a4
 refine cu (fun c c7 => ?_)
 refine bv (fun a5 => ?_)
 refine fA 1 O w O (i := b.toNat) (by omega) aj (fun bs a6 g8 a7 c8 eg hcell74v => ?_)
 obtain ⟨g9, ha, rfl, ⟨eF, e0, e1⟩⟩ := c8
 refine bp (Γ := (Option Addr × Nat)) (none, 0) [[], [0], [0, 1], [0, 1, 2], [], [], [5], [5, 6], [5, 6, 7], [], [5, 6, 7, 8, 9], [5, 6, 7, 8, 9, 10], [5, 6, 7, 8, 9, 10, 11], [], [5, 6, 7, 8, 9, 10, 11, 12, 13], [5, 6, 7, 8, 9, 10, 11, 12, 13, 14], rL 16, rL 17, rL 18] [15, 18] [0, 1, 2, 3, 4, 5, 6, 7, 8, 9, 10, 11, 12, 13, 14, 16, 17] (fun i => [[0, 1], [0, 1], [0, 1], [0, 1], [0, 1], [0], [0], [0], [0], [0], [0], [0], [0], [0], [0], [], [1], [1], []].getD i []) (fun i => [[], [], [], [], [], [], [], [], [], [], [], [], [], [], [], rL 15, [], [], rL 18].getD i []) (fun γ i => [.pointer (some ⟨b0, 0, none⟩), .pointer (some ⟨b0, 0, none⟩), .pointer (some ⟨b0, 0, none⟩), .slice d a.length e, .int .i64 b, .pointer (some ⟨b0, 0, none⟩), .pointer (some ⟨b0, 0, none⟩), .pointer (some ⟨b0, 0, none⟩), .slice d a.length e, .int .i64 b, .pointer (some ⟨be, a2 + b.toNat * 3, none⟩), .pointer (some ⟨be, a2 + b.toNat * 3 + 1, none⟩), .slice d8 (((a.getD b.toNat aj).2.1).length) d9, .int .i64 x2, .slice al ((cut ((a.getD b.toNat aj).2.1) (0 : Int) x2).length) an, .slice γ.1 c.length γ.2, .pointer (some ⟨bs, a6 + b.toNat * 3, none⟩), .pointer (some ⟨bs, a6 + b.toNat * 3 + 1, none⟩), undef].getD i undef) (fun j γ => [[obj b0 49 [.slice d a.length e, .int .i64 g.2.1, .bool g.2.2.1, str g.2.2.2], Row 71 3 d a.length e p.flatten, h, F], [Row 5 1 γ.1 c.length γ.2 (ao c), obj b0 49 [.slice d a.length e, .int .i64 g.2.1, .bool g.2.2.1, str g.2.2.2], Row 71 3 d a.length e p.flatten, h, F], [aN [Row 5 1 γ.1 c.length γ.2 (ao c), h], obj b0 49 [.slice d ((a.set b.toNat ((a.getD b.toNat aj).1, c, (a.getD b.toNat aj).2.2)).length) e, .int .i64 g.2.1, .bool g.2.2.1, str g.2.2.2], aC 71 3 (V71 (aN [Row 5 1 γ.1 c.length γ.2 (ao c), h])) d (a.set b.toNat ((a.getD b.toNat aj).1, c, (a.getD b.toNat aj).2.2)) e, F]].getD j []) (fun γ => [(0, .pointer (some ⟨b0, 0, none⟩)), (2, .int .i64 x2), (7, .int .i64 b)]) mixed (by decide) (by decide) (by decide) (by decide) (by decide) (by decide) (by decide) 69 O (by decide) (by decide) (by decide) (Ent.refl _) ?_ ?_ (fun _ => ⟨O, O, O, trivial⟩) ?_
 exact (ac (fun γ => (ac (qm O (.o (s := 0) O (by decide) .nil) O) (ac (qm O (.o (s := 0) O (by decide) .nil) O) zA))) (ac (fun γ => (ac (qp O O (.v 0 O O .nil) (cj O O) O) (ac (qp O O (.v 0 O O .nil) (cj O O) O) zA))) (ac (fun γ => (ac (qp O O (.v 1 O O .nil) (aw O O underlying49 O O sizeOf47 O) O) (ac (qp O O (.v 1 O O .nil) (aw O O underlying49 O O sizeOf47 O) O) zA))) (ac (fun γ => (ac (qp O O (.v 2 O O .nil) (ai O O isAgg47 (.obj 0 O O)) O) (ac (qp O O (.v 2 O O .nil) (ai O O isAgg47 (.obj 1 O O)) O) zA))) (ac (fun γ => (ac (qm O (.o (s := 7) O (by decide) .nil) O) (ac (qm O (.o (s := 7) O (by decide) .nil) O) zA))) (aq O (fun γ => qm O (.o (s := 0) O (by decide) .nil) O) (aq O (fun γ => qp O O (.v 5 O O .nil) (cj O O) O) (aq O (fun γ => qp O O (.v 6 O O .nil) (aw O O underlying49 O O sizeOf47 O) O) (aq O (fun γ => qp O O (.v 7 O O .nil) (ai O O isAgg47 (.obj 0 O O)) O) (aq O (fun γ => qm O (.o (s := 7) O (by decide) .nil) O) (aq O (fun γ => qp O O (.v 8 O O (.v 9 O O .nil)) (ct O O O cs underlying47 sizeOf71 a1.1 a1.2) O) (aq O (fun γ => qp O O (.v 10 O O .nil) (aw O O underlying71 O O sizeOf25 O) O) (aq O (fun γ => qp O O (.v 11 O O .nil) (ai O O isAgg25 (hcell51v 1 O 1 _ O)) O) (aq O (fun γ => qm O (.o (s := 2) O (by decide) .nil) O) (aq O (fun γ => qp O O (.v 12 O O (.v 13 O O .nil)) (dU (l := ((a.getD b.toNat aj).2.1)) (lo' := (0 : Int)) (hi' := x2) O O O O underlying25 sizeOf5 (.inr ⟨_, O⟩) (.inl ⟨O, O⟩) a4 a3 c3) O) (aq O (fun γ => qp O O (.v 3 O O (.v 4 O O .nil)) (ct O O O a7 underlying47 sizeOf71 a5.1 a5.2) O) (aq O (fun γ => qp O O (.v 16 O O .nil) (aw O O underlying71 O O sizeOf25 O) O) zA)))))))))))))))))
 exact (ac (fun γ => eo (Z := Option Addr × Nat) (fun z => z) rfl rfl (.v 14 rfl rfl .nil) (ar (vs := [.slice al ((cut ((a.getD b.toNat aj).2.1) (0 : Int) x2).length) an]) (cap := []) (A := []) (rst := [obj b0 49 [.slice d a.length e, .int .i64 g.2.1, .bool g.2.2.1, str g.2.2.2], Row 71 3 d a.length e p.flatten, h, F]) rfl rfl rfl rfl rfl rfl call89 (.sel 0 rfl (.sel 0 rfl (.sel 0 rfl (.sel 0 rfl (.nil _))))) (bl.calls _ _ al an (cut ((a.getD b.toNat aj).2.1) (0 : Int) x2) (c4.lend 2 rfl) c5 (Nat.le_trans c6 c2)) c7) (fun _ => ⟨rfl, rfl, rfl, rfl, rfl, rfl, rfl, rfl, rfl, rfl, rfl, rfl, rfl, rfl, rfl, trivial⟩) (fun _ => .inr rfl) (fun z => Ent.refl _)) (ac (fun γ => eo (Z := Unit) (fun z => γ) rfl rfl (.v 15 rfl rfl (.v 17 rfl rfl .nil)) (RE.lend 0 rfl (fun c9 dl ds e2 => RE.ent (H1 := [aN [Row 5 1 γ.1 c.length γ.2 (ao c), h], obj b0 49 [.slice d a.length e, .int .i64 g.2.1, .bool g.2.2.1, str g.2.2.2], Row 71 3 d a.length e p.flatten, F]) (Ent.trans (m := [Row 5 1 γ.1 c.length γ.2 (ao c), h, obj b0 49 [.slice d a.length e, .int .i64 g.2.1, .bool g.2.2.1, str g.2.2.2], Row 71 3 d a.length e p.flatten, F]) (.sel 0 rfl (.sel 2 rfl (.sel 0 rfl (.sel 0 rfl (.sel 0 rfl (.nil _)))))) (jy [Row 5 1 γ.1 c.length γ.2 (ao c), h] _)) (hZ (V := (V71 (aN [Row 5 1 γ.1 c.length γ.2 (ao c), h]))) ((a.getD b.toNat aj).1, c, (a.getD b.toNat aj).2.2) 1 aj 2 rfl rfl rfl sizeOf25 rfl rfl (aY (by rfl)) rfl (w.mono (V71.up (Up.lend (l := [Row 5 1 γ.1 c.length γ.2 (ao c), h]) 1 rfl))) a7 (by omega) rfl (fun r hr _ _ => by obtain ⟨a1', c1', rfl, h1'⟩ := hr; exact ⟨γ.1, γ.2, rfl, ⟨(Rd.lend (l := [Row 5 1 γ.1 c.length γ.2 (ao c), h]) c9 0 rfl), dl, ds⟩⟩)))) (fun _ => ⟨rfl, rfl, rfl, rfl, rfl, rfl, rfl, rfl, rfl, rfl, rfl, rfl, rfl, rfl, rfl, rfl, rfl, rfl, trivial⟩) (fun _ => .inl rfl) (fun z => lc ((rfl : _ = [aN [Row 5 1 γ.1 c.length γ.2 (ao c), h], obj b0 49 [.slice d a.length e, .int .i64 g.2.1, .bool g.2.2.1, str g.2.2.2], aC 71 3 (V71 (aN [Row 5 1 γ.1 c.length γ.2 (ao c), h])) d (a.set b.toNat ((a.getD b.toNat aj).1, c, (a.getD b.toNat aj).2.2)) e, F]).trans ((by simp only [List.length_set, eR] : [aN [Row 5 1 γ.1 c.length γ.2 (ao c), h], obj b0 49 [.slice d a.length e, .int .i64 g.2.1, .bool g.2.2.1, str g.2.2.2], aC 71 3 (V71 (aN [Row 5 1 γ.1 c.length γ.2 (ao c), h])) d (a.set b.toNat ((a.getD b.toNat aj).1, c, (a.getD b.toNat aj).2.2)) e, F] = [aN [Row 5 1 γ.1 c.length γ.2 (ao c), h], obj b0 49 [.slice d ((a.set b.toNat ((a.getD b.toNat aj).1, c, (a.getD b.toNat aj).2.2)).length) e, .int .i64 g.2.1, .bool g.2.2.1, str g.2.2.2], aC 71 3 (V71 (aN [Row 5 1 γ.1 c.length γ.2 (ao c), h])) d (a.set b.toNat ((a.getD b.toNat aj).1, c, (a.getD b.toNat aj).2.2)) e, F]).trans rfl)))) zA))
 intro n
 refine ae (ap ?_)
 refine fB 2 O (fun d1 aa => ?_)
 refine bv (fun a8 => ?_)
 refine fA 2 O aa O (i := b.toNat) (by omega) aj (fun b1 a9 hb d2 d3 ek hcell94v => ?_)
 obtain ⟨hc, he, rfl, ⟨e3, e4, e5⟩⟩ := d3
 refine bv (fun ab => ?_)
 refine fA 2 O aa O (i := b.toNat) (by omega) aj (fun bc ad e6 af b2 ec hcell107v => ?_)
 obtain ⟨e7, e8, rfl, ⟨em, en, ep⟩⟩ := b2
 refine bp (Γ := Unit) () [[], [0], [0, 1], [0, 1, 2], [], [], [5], [5, 6], [5, 6, 7], [], [5, 6, 7, 8, 9], [5, 6, 7, 8, 9, 10], [5, 6, 7, 8, 9, 10, 11], [], [5, 6, 7, 8, 9, 10, 11, 12, 13], rL 15, rL 16, rL 17] [17] [0, 1, 2, 3, 4, 5, 6, 7, 8, 9, 10, 11, 12, 13, 14, 15, 16] (fun i => [[0], [0], [0], [0], [0], [0], [0], [0], [0], [0], [0], [0], [0], [0], [0], [0], [0], []].getD i []) (fun i => [[], [], [], [], [], [], [], [], [], [], [], [], [], [], [], [], [], rL 17].getD i []) (fun γ i => [.pointer (some ⟨b0, 0, none⟩), .pointer (some ⟨b0, 0, none⟩), .pointer (some ⟨b0, 0, none⟩), .slice d ((a.set b.toNat ((a.getD b.toNat aj).1, c, (a.getD b.toNat aj).2.2)).length) e, .int .i64 b, .pointer (some ⟨b0, 0, none⟩), .pointer (some ⟨b0, 0, none⟩), .pointer (some ⟨b0, 0, none⟩), .slice d ((a.set b.toNat ((a.getD b.toNat aj).1, c, (a.getD b.toNat aj).2.2)).length) e, .int .i64 b, .pointer (some ⟨b1, a9 + b.toNat * 3, none⟩), .pointer (some ⟨b1, a9 + b.toNat * 3 + 2, none⟩), .int .i64 (((a.set b.toNat ((a.getD b.toNat aj).1, c, (a.getD b.toNat aj).2.2)).getD b.toNat aj).2.2), .int .i64 x2, .int .i64 (min (((a.set b.toNat ((a.getD b.toNat aj).1, c, (a.getD b.toNat aj).2.2)).getD b.toNat aj).2.2) x2), .pointer (some ⟨bc, ad + b.toNat * 3, none⟩), .pointer (some ⟨bc, ad + b.toNat * 3 + 2, none⟩), undef].getD i undef) (fun j γ => [[aN [Row 5 1 n.1 c.length n.2 (ao c), h], obj b0 49 [.slice d ((a.set b.toNat ((a.getD b.toNat aj).1, c, (a.getD b.toNat aj).2.2)).length) e, .int .i64 g.2.1, .bool g.2.2.1, str g.2.2.2], Row 71 3 d (a.set b.toNat ((a.getD b.toNat aj).1, c, (a.getD b.toNat aj).2.2)).length e d1.flatten, F], [aN [Row 5 1 n.1 c.length n.2 (ao c), h], obj b0 49 [.slice d (((a.set b.toNat ((a.getD b.toNat aj).1, c, (a.getD b.toNat aj).2.2)).set b.toNat (((a.set b.toNat ((a.getD b.toNat aj).1, c, (a.getD b.toNat aj).2.2)).getD b.toNat aj).1, ((a.set b.toNat ((a.getD b.toNat aj).1, c, (a.getD b.toNat aj).2.2)).getD b.toNat aj).2.1, min (((a.set b.toNat ((a.getD b.toNat aj).1, c, (a.getD b.toNat aj).2.2)).getD b.toNat aj).2.2) x2)).length) e, .int .i64 g.2.1, .bool g.2.2.1, str g.2.2.2], aC 71 3 (V71 (aN [Row 5 1 n.1 c.length n.2 (ao c), h])) d ((a.set b.toNat ((a.getD b.toNat aj).1, c, (a.getD b.toNat aj).2.2)).set b.toNat (((a.set b.toNat ((a.getD b.toNat aj).1, c, (a.getD b.toNat aj).2.2)).getD b.toNat aj).1, ((a.set b.toNat ((a.getD b.toNat aj).1, c, (a.getD b.toNat aj).2.2)).getD b.toNat aj).2.1, min (((a.set b.toNat ((a.getD b.toNat aj).1, c, (a.getD b.toNat aj).2.2)).getD b.toNat aj).2.2) x2)) e, F]].getD j []) (fun γ => []) mixed (by decide) (by decide) (by decide) (by decide) (by decide) (by decide) (by decide) 69 O (by decide) (by decide) (by decide) (Ent.refl _) ?_ ?_ (fun _ => trivial) ?_
 exact (aq O (fun γ => qm O (.o (s := 0) O (by decide) .nil) O) (aq O (fun γ => qp O O (.v 0 O O .nil) (cj O O) O) (aq O (fun γ => qp O O (.v 1 O O .nil) (aw O O underlying49 O O sizeOf47 O) O) (aq O (fun γ => qp O O (.v 2 O O .nil) (ai O O isAgg47 (.obj 1 O O)) O) (aq O (fun γ => qm O (.o (s := 7) O (by decide) .nil) O) (aq O (fun γ => qm O (.o (s := 0) O (by decide) .nil) O) (aq O (fun γ => qp O O (.v 5 O O .nil) (cj O O) O) (aq O (fun γ => qp O O (.v 6 O O .nil) (aw O O underlying49 O O sizeOf47 O) O) (aq O (fun γ => qp O O (.v 7 O O .nil) (ai O O isAgg47 (.obj 1 O O)) O) (aq O (fun γ => qm O (.o (s := 7) O (by decide) .nil) O) (aq O (fun γ => qp O O (.v 8 O O (.v 9 O O .nil)) (ct O O O d2 underlying47 sizeOf71 a8.1 a8.2) O) (aq O (fun γ => qp O O (.v 10 O O .nil) (aw O O underlying71 O O sizeOf3 O) O) (aq O (fun γ => qp O O (.v 11 O O .nil) (ai O O isAgg3 (hcell94v 2 O 2 _ O)) O) (aq O (fun γ => qm O (.o (s := 2) O (by decide) .nil) O) (aq O (fun γ => qp O O (.v 12 O O (.v 13 O O .nil)) (ls O O O) O) (aq O (fun γ => qp O O (.v 3 O O (.v 4 O O .nil)) (ct O O O af underlying47 sizeOf71 ab.1 ab.2) O) (aq O (fun γ => qp O O (.v 15 O O .nil) (aw O O underlying71 O O sizeOf3 O) O) zA)))))))))))))))))
 exact (ac (fun γ => eo (Z := Unit) (fun z => ()) rfl rfl (.v 14 rfl rfl (.v 16 rfl rfl .nil)) (hZ (V := (V71 (aN [Row 5 1 n.1 c.length n.2 (ao c), h]))) (((a.set b.toNat ((a.getD b.toNat aj).1, c, (a.getD b.toNat aj).2.2)).getD b.toNat aj).1, ((a.set b.toNat ((a.getD b.toNat aj).1, c, (a.getD b.toNat aj).2.2)).getD b.toNat aj).2.1, min (((a.set b.toNat ((a.getD b.toNat aj).1, c, (a.getD b.toNat aj).2.2)).getD b.toNat aj).2.2) x2) 2 aj 2 rfl rfl rfl sizeOf3 rfl rfl (aY (by rfl)) rfl aa af (by omega) rfl (fun r hr _ _ => by obtain ⟨a1', c1', rfl, h1'⟩ := hr; exact ⟨a1', c1', rfl, h1'⟩)) (fun _ => ⟨rfl, rfl, rfl, rfl, rfl, rfl, rfl, rfl, rfl, rfl, rfl, rfl, rfl, rfl, rfl, rfl, rfl, trivial⟩) (fun _ => .inl rfl) (fun z => lc ((rfl : _ = [aN [Row 5 1 n.1 c.length n.2 (ao c), h], obj b0 49 [.slice d ((a.set b.toNat ((a.getD b.toNat aj).1, c, (a.getD b.toNat aj).2.2)).length) e, .int .i64 g.2.1, .bool g.2.2.1, str g.2.2.2], aC 71 3 (V71 (aN [Row 5 1 n.1 c.length n.2 (ao c), h])) d ((a.set b.toNat ((a.getD b.toNat aj).1, c, (a.getD b.toNat aj).2.2)).set b.toNat (((a.set b.toNat ((a.getD b.toNat aj).1, c, (a.getD b.toNat aj).2.2)).getD b.toNat aj).1, ((a.set b.toNat ((a.getD b.toNat aj).1, c, (a.getD b.toNat aj).2.2)).getD b.toNat aj).2.1, min (((a.set b.toNat ((a.getD b.toNat aj).1, c, (a.getD b.toNat aj).2.2)).getD b.toNat aj).2.2) x2)) e, F]).trans ((by simp only [List.length_set, eR] : [aN [Row 5 1 n.1 c.length n.2 (ao c), h], obj b0 49 [.slice d ((a.set b.toNat ((a.getD b.toNat aj).1, c, (a.getD b.toNat aj).2.2)).length) e, .int .i64 g.2.1, .bool g.2.2.1, str g.2.2.2], aC 71 3 (V71 (aN [Row 5 1 n.1 c.length n.2 (ao c), h])) d ((a.set b.toNat ((a.getD b.toNat aj).1, c, (a.getD b.toNat aj).2.2)).set b.toNat (((a.set b.toNat ((a.getD b.toNat aj).1, c, (a.getD b.toNat aj).2.2)).getD b.toNat aj).1, ((a.set b.toNat ((a.getD b.toNat aj).1, c, (a.getD b.toNat aj).2.2)).getD b.toNat aj).2.1, min (((a.set b.toNat ((a.getD b.toNat aj).1, c, (a.getD b.toNat aj).2.2)).getD b.toNat aj).2.2) x2)) e, F] = [aN [Row 5 1 n.1 c.length n.2 (ao c), h], obj b0 49 [.slice d (((a.set b.toNat ((a.getD b.toNat aj).1, c, (a.getD b.toNat aj).2.2)).set b.toNat (((a.set b.toNat ((a.getD b.toNat aj).1, c, (a.getD b.toNat aj).2.2)).getD b.toNat aj).1, ((a.set b.toNat ((a.getD b.toNat aj).1, c, (a.getD b.toNat aj).2.2)).getD b.toNat aj).2.1, min (((a.set b.toNat ((a.getD b.toNat aj).1, c, (a.getD b.toNat aj).2.2)).getD b.toNat aj).2.2) x2)).length) e, .int .i64 g.2.1, .bool g.2.2.1, str g.2.2.2], aC 71 3 (V71 (aN [Row 5 1 n.1 c.length n.2 (ao c), h])) d ((a.set b.toNat ((a.getD b.toNat aj).1, c, (a.getD b.toNat aj).2.2)).set b.toNat (((a.set b.toNat ((a.getD b.toNat aj).1, c, (a.getD b.toNat aj).2.2)).getD b.toNat aj).1, ((a.set b.toNat ((a.getD b.toNat aj).1, c, (a.getD b.toNat aj).2.2)).getD b.toNat aj).2.1, min (((a.set b.toNat ((a.getD b.toNat aj).1, c, (a.getD b.toNat aj).2.2)).getD b.toNat aj).2.2) x2)) e, F]).trans rfl)))) zA)
 intro e9
 refine ae (sr ?_)
 refine va O O (ag (ae (ak ?_)))
 exact av (d, e, aN [Row 5 1 n.1 c.length n.2 (ao c), h]) O O O (.sel 1 O (.sel 1 O (.sel 0 O (.sel 0 O (.nil _)))))
end Go.Proofs.YtjkjlggbikeliaaGreatDoor
